/-
  Regions that draw their order: every order answers as the text's.
-/
import Derived.Test.YtibbckpgcglbcaaGreatMtCode
import Derived.Orders
namespace Go.MT

theorem appendT_n {get : Nat → Option Obj} {n sz by_ k : Nat} {s : PV} {ys : List PV} {v : PV} (h : appendT get n sz by_ s ys k = some (v, .none)) (n' : Nat) : appendT get n' sz by_ s ys k = some (v, .none) := by
  unfold appendT at h ⊢
  by_cases hk : k = 0
  · rw [if_pos hk] at h ⊢; exact h
  · rw [if_neg hk] at h
    repeat' (first | cases h | split at h)

/-- what leaves the store alone does so at whatever length -/
theorem prim_n {P : Program} {get : Nat → Option Obj} {n : Nat} {op : Op} {tm : Tmps} {v : PV} (h : primOp P get n op tm = some (v, .none)) (n' : Nat) : primOp P get n' op tm = some (v, .none) := by
  cases op with
  | alloc e => simp [primOp] at h
  | box e x =>
    simp only [primOp] at h
    split at h <;> simp at h
  | buildSlice t len parts =>
    simp only [primOp] at h ⊢
    generalize P.underlying t = q at h ⊢
    split at h
    · rename_i e
      generalize sizeT P e = q1 at h ⊢
      generalize zeroT P e = q2 at h ⊢
      split at h
      · rename_i sz z
        split at h
        · rename_i hc
          rw [if_pos hc]
          generalize setParts (fun i => some (i * sz, sz)) (List.replicate len z.cells).flatten (parts.toList.map fun p => (p.1, evalO tm p.2)) = q3 at h ⊢
          split at h
          · split at h
            · rename_i h2
              rw [if_pos h2]
              exact h
            · split at h <;> simp at h
          · cases h
        · cases h
      · cases h
    · cases h
  | convert s d x =>
    simp only [primOp] at h ⊢
    unfold convT at h ⊢
    split at h <;> first
      | exact h
      | (split at h <;> simp at h)
      | cases h
  | makeFunc f _ _ => cases f <;> exact h
  | makeMap t r =>
    cases r with
    | some _ => exact h
    | none =>
      simp only [primOp] at h
      split at h <;> simp at h
  | makeSlice t x y =>
    simp only [primOp] at h
    split at h
    · split at h
      · split at h <;> simp at h
      · cases h
    · cases h
  | call c =>
    obtain ⟨callee, args, ats⟩ := c
    cases callee with
    | value f => exact h
    | invoke r m => exact h
    | builtin b =>
      simp only [primOp] at h ⊢
      generalize args.toList.map (evalO tm) = l at h ⊢
      cases b with
      | append =>
        cases l with
        | nil => exact h
        | cons s l => cases l with
          | nil => exact h
          | cons x l => cases l with
            | cons _ _ => exact h
            | nil =>
              simp only [] at h ⊢
              generalize ats.toList.map P.underlying = q at h ⊢
              split at h
              · rename_i e u
                generalize sizeT P e = q1 at h ⊢
                generalize bytesT P e = q2 at h ⊢
                generalize zeroT P e = q3 at h ⊢
                split at h
                · rename_i sz by_ z
                  split at h
                  · rename_i hc
                    rw [if_pos hc]
                    split at h
                    · split at h
                      · rename_i h2
                        rw [if_pos h2]
                        exact appendT_n h n'
                      · cases h
                    · cases h
                    · generalize sliceCells get sz x = q4 at h ⊢
                      split at h
                      · exact appendT_n h n'
                      · cases h
                  · cases h
                · cases h
              · cases h
      | len => cases l with
        | nil => exact h
        | cons s l => cases l with
          | nil => exact h
          | cons x l => exact h
      | cap => cases l with
        | nil => exact h
        | cons s l => cases l with
          | nil => exact h
          | cons x l => exact h
      | copy => cases l with
        | nil => exact h
        | cons s l => cases l with
          | nil => cases s <;> exact h
          | cons x l => cases l <;> cases s <;> exact h
      | delete => cases l with
        | nil => exact h
        | cons s l => cases l with
          | nil => cases s <;> exact h
          | cons x l => cases l <;> cases s <;> exact h
      | clear => cases l with
        | nil => exact h
        | cons s l => cases l <;> cases s <;> exact h
      | _ => cases l with
        | nil => cases h
        | cons s l => cases l with
          | nil => cases s <;> first | exact h | cases h
          | cons x l => cases l <;> cases s <;> first | exact h | cases h
  | slice t x lo hi mx => cases mx <;> exact h
  | _ => exact h

/-! ### what an operation of the text's order is -/
section
variable {K : Cfg} {C : CallT} {floor : Nat} {o : Oper} {tm : Tmps} {σ σ' : Store} {v : PV}

theorem app_none (σ : Store) : σ.app .none = σ := rfl

theorem call_args {H : Hp} {a : Act} {fo : Operand} {args : Array Operand} {ats : Array TypeId} {f : FuncId} {first cap : List PV} (hop : o.op = .call ⟨.value fo, args, ats⟩) (hv : Opnds H tm a o.op) (hfo : evalO tm fo = .fn f first cap) :
    ∃ as : Array Value, Vs H (first ++ args.toList.map (evalO tm) ++ cap) as.toList ∧ (execOp a.eval o).run K.P H.w = (callFunc f as).run K.P H.w := by
  have mem : ∀ x, x ∈ o.op.operands.toList → V H (evalO tm x) (a.eval x) := hv
  rw [hop] at mem
  have hf := mem fo (by simp [Op.operands, Call.operands])
  rw [hfo] at hf
  simp only [V] at hf
  obtain ⟨us, us', haf, h1, h2⟩ := hf
  refine ⟨us ++ args.map a.eval ++ us', ?_, ?_⟩
  · simp only [Array.toList_append, Array.toList_map]
    exact Vs_append (Vs_append h1 (Vs_map _ _ _ fun x hx => mem x (by simp [Op.operands, Call.operands]; exact .inr (by simpa using hx)))) h2
  · simp only [execOp, hop, resolve, Sem.run_bind, haf, Deferred.ofValue, Sem.run_pure, Result.andThen_ok, invoke]

/-- an operation that leaves the store alone, or makes one new object: what it does where its objects read as they should -/
structure Light (K : Cfg) (o : Oper) (tm : Tmps) (σ σ' : Store) (v : PV) (ids : List Nat) (e : Eff) : Prop where
  eff : σ' = σ.app e
  lt : ∀ id ∈ ids, id < σ.length
  obj : ∀ id ∈ ids, ∃ x ∈ o.op.operands.toList, (evalO tm x).objId = some id
  wp : ∀ {H : Hp} {a : Act} {n : Nat} {next : Act → World → Prop} {Q : Exit → Act → World → Prop}, (∀ id ∈ ids, H.τ id = σ[id]?) → H.τ n = none → (e ≠ .none → n = σ.length) → HR H → Opnds H tm a o.op →
    (∀ u H', V H' v u → HR H' → Ext H H' → H'.τ = appτ H.τ n e → next (a.put o.dst u) H'.w) → o.wp K.P a H.w next Q

theorem light_prim {op : Op} {eff : Eff} (hop : o.op = op) (hp : primOp K.P (fun id => σ[id]?) σ.length op tm = some (v, eff)) (he : eff = .none ∨ ∃ ob, eff = .new ob) :
    Light K o tm σ (σ.app eff) v (touches tm op) eff := by
  subst hop
  refine ⟨rfl, fun id hid => ?_, fun id hid => ?_, ?_⟩
  · obtain ⟨ob, hob⟩ := prim_there hp (by rcases he with rfl | ⟨ob, rfl⟩ <;> rfl) id hid
    exact (List.getElem?_eq_some_iff.1 hob).1
  · simp only [touches, List.mem_filterMap] at hid
    obtain ⟨x, hx, hxo⟩ := hid
    exact ⟨x, lookers_sub x hx, hxo⟩
  intro H a n next Q hget hn hne hr hv hk
  have hp2 : primOp K.P H.τ n o.op tm = some (v, eff) := by
    rw [prim_local (n := n) (get := H.τ) (get' := fun id => σ[id]?) hget]
    rcases he with rfl | ⟨ob, rfl⟩
    · exact prim_n hp n
    · rw [hne (by simp)]; exact hp
  obtain ⟨nx, H', h1, h2, h3, h4, h5⟩ := prim_sound (a := a) hr hn hv hp2
  unfold Oper.wp
  rw [h1]
  rcases h2 with ⟨u, rfl, hu⟩ | ⟨rfl, rfl⟩
  · rw [Oper.upon_value]; exact hk u H' hu h3 h4 h5
  · rw [Oper.upon_skip]; exact hk undef H' (by simp [V]) h3 h4 h5

theorem quiet_spec (hC : CallOK K C) {ids : List Nat} (h : operX K C floor o tm σ = some (v, σ')) (hq : fpX K o tm σ σ' = .quiet ids) : Light K o tm σ σ' v ids .none := by
  unfold operX at h
  unfold fpX at hq
  split at h
  · rename_i fo args ats hop
    rw [hop] at hq
    simp only [] at hq
    split at hq
    · rename_i f first cap hfo
      simp only [hfo] at h
      split at hq
      · rename_i hst
        rw [if_pos hst] at h
        obtain rfl : [] = ids := by simpa using hq
        split at h
        · rename_i v' h'
          obtain ⟨rfl, rfl⟩ : v' = v ∧ σ = σ' := by simpa using h
          refine ⟨rfl, by simp, by simp, ?_⟩
          intro H a n next Q _ _ _ hr hv hk
          obtain ⟨as, ha, hrun⟩ := call_args (K := K) hop hv hfo
          unfold Oper.wp
          rw [hrun]
          rcases sum_of_run hC h' hst.2 H _ hr ha with ⟨fn, c, q1, q2, q3, q4⟩ | ⟨u, q1, q2⟩
          · have hcf : (callFunc f as).run K.P H.w = .ok (.enter f as) H.w := by simp [callFunc, q1, q2, q3]
            rw [hcf, Oper.upon_enter]
            refine Calls.mono q4 ?_
            rintro e w' ⟨u, H', rfl, rfl, p1, p2, p3, p4⟩
            exact hk u H' p1 p2 p3 p4
          · rw [q1, Oper.upon_value]
            exact hk u H q2 hr (Ext.refl H) rfl
        · cases h
      · cases hq
    · cases hq
  · rename_i hno
    split at hq
    · rename_i f args ats hop; exact (hno _ _ _ hop).elim
    · split at h
      · rename_i v' eff hp
        rw [hp] at hq
        simp only [] at hq
        unfold effFp at hq
        split at h
        · rename_i hok
          obtain ⟨rfl, rfl⟩ : _ = v ∧ _ = σ' := by simpa using h
          cases eff with
          | none =>
            obtain rfl : touches tm o.op = ids := by simpa using hq
            exact light_prim rfl hp (.inl rfl)
          | new ob => cases hq
          | _ => cases hq
        · cases h
      · cases h

theorem new_spec {ids : List Nat} (h : operX K C floor o tm σ = some (v, σ')) {nn : Nat} (hq : fpX K o tm σ σ' = .new nn ids) : nn = σ.length ∧ ∃ ob, Light K o tm σ σ' v ids (.new ob) := by
  unfold operX at h
  unfold fpX at hq
  split at h
  · rename_i fo args ats hop
    rw [hop] at hq
    simp only [] at hq
    split at hq
    · split at hq <;> cases hq
    · cases hq
  · rename_i hno
    split at hq
    · rename_i f args ats hop; exact (hno _ _ _ hop).elim
    · split at h
      · rename_i v' eff hp
        rw [hp] at hq
        simp only [] at hq
        unfold effFp at hq
        split at h
        · rename_i hok
          obtain ⟨rfl, rfl⟩ : _ = v ∧ _ = σ' := by simpa using h
          cases eff with
          | none => cases hq
          | new ob =>
            simp only [Fp.new.injEq] at hq
            obtain ⟨rfl, rfl⟩ := hq
            exact ⟨rfl, ob, light_prim rfl hp (.inr ⟨ob, rfl⟩)⟩
          | _ => cases hq
        · cases h
      · cases h

theorem chg_spec (hC : CallOK K C) {fr : Bool} {ks : Nat → Bool} (h : operX K C floor o tm σ = some (v, σ')) (hq : fpX K o tm σ σ' = .chg fr ks) : ∀ id, id < σ.length → ks id = true → σ'[id]? = σ[id]? := by
  unfold operX at h
  unfold fpX at hq
  split at h
  · rename_i f args ats hop
    rw [hop] at hq
    simp only [] at hq
    split at h
    · rename_i f first cap hf
      rw [hf] at hq
      simp only [] at hq
      split at hq
      · cases hq
      · rename_i hst
        rw [if_neg hst] at h
        simp only [Fp.chg.injEq] at hq
        obtain ⟨_, hq⟩ := hq
        subst hq
        intro id hl hk
        split at hk
        · rename_i hpol
          exact (hC _ _ _ _ _ _ h).1.2 id (by rw [if_pos hpol]; exact hl) hl
        · exact (sameO_eq hk).symm
    · cases h
  · rename_i hno
    split at hq
    · rename_i f args ats hop; exact (hno _ _ _ hop).elim
    · split at h
      · rename_i v' eff hp
        rw [hp] at hq
        simp only [] at hq
        unfold effFp at hq
        split at h
        · rename_i hok
          obtain ⟨rfl, rfl⟩ : _ = v ∧ _ = σ' := by simpa using h
          intro id hl hid
          cases eff with
          | none => rfl
          | new o => simp [Store.app, List.getElem?_append, hl]
          | upd i o =>
            simp only [Fp.chg.injEq] at hq
            obtain ⟨_, hq⟩ := hq
            subst hq
            simp only [Store.app, List.getElem?_set]
            rw [if_neg (fun e => by subst e; simp at hid)]
          | move i o =>
            simp only [Fp.chg.injEq] at hq
            obtain ⟨_, hq⟩ := hq
            subst hq
            simp only [Store.app]
            rw [List.getElem?_append_left (by simpa using hl), List.getElem?_set, if_neg (fun e => by subst e; simp at hid)]
        · cases h
      · cases h

/-- an append that moves its array: what it does where its objects read as they should -/
structure Moves (K : Cfg) (o : Oper) (tm : Tmps) (σ σ' : Store) (v : PV) (ks : Nat → Bool) (ids : List Nat) (id : Nat) (ob : Obj) : Prop where
  eff : σ' = σ.app (.move id ob)
  keeps : ∀ i, ks i = true ↔ i ≠ id
  lt : ∀ i ∈ ids, i < σ.length
  mem : id ∈ ids
  obj : ∀ i ∈ ids, ∃ x ∈ o.op.operands.toList, (evalO tm x).objId = some i
  wp : ∀ {H : Hp} {a : Act} {next : Act → World → Prop} {Q : Exit → Act → World → Prop}, (∀ i ∈ ids, H.τ i = σ[i]?) → H.τ σ.length = none → HR H → Opnds H tm a o.op →
    (∀ u H', V H' v u → HR H' → Ext H H' → H'.τ = appτ H.τ σ.length (.move id ob) → next (a.put o.dst u) H'.w) → o.wp K.P a H.w next Q

theorem appendT_move {get : Nat → Option Obj} {n sz by_ k : Nat} {s v : PV} {ys : List PV} {id : Nat} {ob : Obj} (h : appendT get n sz by_ s ys k = some (v, .move id ob)) : s.objId = some id := by
  unfold appendT at h
  split at h
  · split at h
    · simp at h
    · simp at h
    · split at h <;> simp at h
    · cases h
  · split at h
    · split at h <;> simp at h
    · split at h <;> simp at h
    · split at h
      · split at h
        · split at h
          · simp at h
          · split at h
            · split at h
              · split at h <;> simp at h
              · simp only [Option.some.injEq, Prod.mk.injEq, Eff.move.injEq] at h
                obtain ⟨_, rfl, _⟩ := h
                rfl
            · cases h
        · cases h
      · cases h
    · cases h
theorem wc_move {get : Nat → Option Obj} {i o : Nat} {z : List PV} {w v : PV} {id : Nat} {ob : Obj} (h : (writeCells get i o z).map (fun e => (w, e)) = some (v, .move id ob)) : False := by
  cases hw : writeCells get i o z with
  | none => rw [hw] at h; cases h
  | some e =>
    rw [hw] at h
    obtain ⟨_, rfl⟩ : _ ∧ e = .move id ob := by simpa using h
    unfold writeCells at hw
    split at hw
    · split at hw
      · cases Option.some.inj hw
      · cases hw
    · cases hw
theorem convT_move {P : Program} {get : Nat → Option Obj} {n : Nat} {s d : TypeId} {x v : PV} {id : Nat} {ob : Obj} (h : convT P get n s d x = some (v, .move id ob)) : False := by
  unfold convT at h
  repeat' split at h
  all_goals first
    | (simp at h; done)
    | (rw [Option.map_eq_some_iff] at h; obtain ⟨_, _, h⟩ := h; simp at h)
theorem move_touch {P : Program} {get : Nat → Option Obj} {n : Nat} {op : Op} {tm : Tmps} {v : PV} {id : Nat} {ob : Obj} (h : primOp P get n op tm = some (v, .move id ob)) : id ∈ touches tm op := by
  cases op with
  | call c =>
    obtain ⟨callee, args, ats⟩ := c
    cases callee with
    | builtin b =>
      have hl : b = .append → ∃ s x, args.toList.map (evalO tm) = [s, x] ∧ s.objId = some id := fun hb => by
        subst hb
        simp only [primOp] at h
        rcases hargs : args.toList.map (evalO tm) with _ | ⟨s, _ | ⟨x, _ | ⟨y, l⟩⟩⟩
        · rw [hargs] at h; cases h
        · rw [hargs] at h; cases h
        · rw [hargs] at h
          refine ⟨s, x, rfl, ?_⟩
          simp only [] at h
          repeat' split at h
          all_goals first
            | exact appendT_move h
            | (cases h; done)
            | (simp at h; done)
        · rw [hargs] at h; cases h
      cases b with
      | append =>
        obtain ⟨s, x, he, hs⟩ := hl rfl
        simp only [touches, List.mem_filterMap]
        cases ha : args.toList with
        | nil => rw [ha] at he; cases he
        | cons y l =>
          rw [ha] at he
          simp only [List.map_cons, List.cons.injEq] at he
          exact ⟨y, by simp [lookers, ha], by rw [he.1]; exact hs⟩
      | _ =>
        exfalso
        simp only [primOp] at h
        repeat' split at h
        all_goals first
          | contradiction
          | (cases h; done)
          | (exact wc_move h)
          | (simp at h; done)
          | (rw [Option.map_eq_some_iff] at h; obtain ⟨_, _, h⟩ := h; simp at h; done)
    | _ => simp [primOp] at h
  | convert s d x => exact (convT_move h).elim
  | makeFunc f a b => cases f <;> simp [primOp] at h
  | makeMap t r =>
    exfalso
    cases r <;> simp only [primOp] at h
    · repeat' split at h
      all_goals simp at h
    · cases h
  | slice t x lo hi mx =>
    exfalso
    cases mx <;> simp only [primOp] at h
    · repeat' split at h
      all_goals simp at h
    · cases h
  | store t a x =>
    exfalso
    simp only [primOp] at h
    repeat' split at h
    all_goals first
      | exact wc_move h
      | cases h
  | _ =>
    exfalso
    simp only [primOp] at h
    repeat' split at h
    all_goals first
      | contradiction
      | (cases h; done)
      | (simp at h; done)
      | (rw [Option.map_eq_some_iff] at h; obtain ⟨_, _, h⟩ := h; simp at h; done)

theorem move_spec {ks : Nat → Bool} (h : operX K C floor o tm σ = some (v, σ')) (hq : fpX K o tm σ σ' = .chg true ks) : ∃ id ob, Moves K o tm σ σ' v ks (touches tm o.op) id ob := by
  unfold operX at h
  unfold fpX at hq
  split at h
  · rename_i fo args ats hop
    rw [hop] at hq
    simp only [] at hq
    split at hq
    · split at hq <;> simp at hq
    · simp at hq
  · rename_i hno
    split at hq
    · rename_i f args ats hop; exact (hno _ _ _ hop).elim
    · split at h
      · rename_i v' eff hp
        rw [hp] at hq
        simp only [] at hq
        unfold effFp at hq
        split at h
        · rename_i hok
          obtain ⟨rfl, rfl⟩ : _ = v ∧ _ = σ' := by simpa using h
          cases eff with
          | move id ob =>
            simp only [Fp.chg.injEq, true_and] at hq
            refine ⟨id, ob, rfl, fun i => by
              rw [← hq]
              simp only [Bool.not_eq_true']
              exact ⟨fun h e => by subst e; simp at h, fun h => by rw [Bool.eq_false_iff]; exact fun e => h (Nat.eq_of_beq_eq_true e)⟩, fun i hi => ?_, move_touch hp, fun i hi => ?_, ?_⟩
            · obtain ⟨o', ho'⟩ := prim_there hp rfl i hi
              exact (List.getElem?_eq_some_iff.1 ho').1
            · simp only [touches, List.mem_filterMap] at hi
              obtain ⟨x, hx, hxo⟩ := hi
              exact ⟨x, lookers_sub x hx, hxo⟩
            · intro H a next Q hget hn hr hv hk
              have hp2 : primOp K.P H.τ σ.length o.op tm = some (v', .move id ob) := by
                rw [prim_local (n := σ.length) (get := H.τ) (get' := fun id => σ[id]?) hget]; exact hp
              obtain ⟨nx, H', h1, h2, h3, h4, h5⟩ := prim_sound (a := a) hr hn hv hp2
              unfold Oper.wp
              rw [h1]
              rcases h2 with ⟨u, rfl, hu⟩ | ⟨rfl, rfl⟩
              · rw [Oper.upon_value]; exact hk u H' hu h3 h4 h5
              · rw [Oper.upon_skip]; exact hk undef H' (by simp [V]) h3 h4 h5
          | _ => simp at hq
        · cases h
      · cases h
end

/-! ### the text's order, as a row of states -/
def StepX (K : Cfg) (C : CallT) (floor : Nat) (ops : Array Oper) (o : Oper) (tm : Tmps) (σ : Store) (tm' : Tmps) (σ' : Store) : Prop :=
  (wantedX ops o tm = some true ∧ ∃ v, operX K C floor o tm σ = some (v, σ') ∧ tm' = put o.dst v tm) ∨
  (wantedX ops o tm = some false ∧ σ' = σ ∧ tm' = put o.dst .gone tm)

/-- behind what -/
def B (ops : Array Oper) (i j : Nat) : Prop := ((Region.before ops).getD j 0).testBit i = true

def Did (K : Cfg) (ops : Array Oper) (tms : Nat → Tmps) (σs : Nat → Store) (i : Nat) (fp : Fp) : Prop :=
  ∃ o, ops[i]? = some o ∧ wantedX ops o (tms i) = some true ∧ fpX K o (tms i) (σs i) (σs (i + 1)) = fp

structure Row (K : Cfg) (C : CallT) (floor : Nat) (ops : Array Oper) (tms : Nat → Tmps) (σs : Nat → Store) : Prop where
  step : ∀ i o, ops[i]? = some o → StepX K C floor ops o (tms i) (σs i) (tms (i + 1)) (σs (i + 1))
  tr : ∀ i j f g, i < j → Did K ops tms σs i f → Did K ops tms σs j g → B ops i j ∨ f.apart g = true

theorem row_of_opsX {K : Cfg} {C : CallT} {floor : Nat} {ops : Array Oper} (b : Array Nat) : ∀ (l : List Oper) (i0 : Nat) {tm tm' : Tmps} {σ σ' : Store}, opsX K C floor ops l tm σ = some (tm', σ') →
    ∃ (tms : Nat → Tmps) (σs : Nat → Store), tms 0 = tm ∧ σs 0 = σ ∧ tms l.length = tm' ∧ σs l.length = σ' ∧
      (∀ i o, l[i]? = some o → StepX K C floor ops o (tms i) (σs i) (tms (i + 1)) (σs (i + 1))) ∧
      (∀ i o, l[i]? = some o → wantedX ops o (tms i) = some true → (i0 + i, fpX K o (tms i) (σs i) (σs (i + 1))) ∈ traceX K C floor ops l i0 tm σ) ∧
      (traceOk b (traceX K C floor ops l i0 tm σ) = true → ∀ i j oi oj, i < j → l[i]? = some oi → l[j]? = some oj → wantedX ops oi (tms i) = some true → wantedX ops oj (tms j) = some true →
        (b.getD (i0 + j) 0).testBit (i0 + i) = true ∨ (fpX K oi (tms i) (σs i) (σs (i + 1))).apart (fpX K oj (tms j) (σs j) (σs (j + 1))) = true)
  | [], i0, tm, tm', σ, σ', h => by
    simp only [opsX] at h
    obtain ⟨rfl, rfl⟩ : tm = tm' ∧ σ = σ' := by simpa using h
    exact ⟨fun _ => tm, fun _ => σ, rfl, rfl, rfl, rfl, by simp, by simp, by simp⟩
  | o :: rest, i0, tm, tm', σ, σ', h => by
    simp only [opsX] at h
    split at h
    · rename_i hw
      split at h
      · rename_i v σ1 ho
        obtain ⟨tms, σs, e1, e2, e3, e4, e5, e6, e7⟩ := row_of_opsX b rest (i0 + 1) h
        refine ⟨fun i => match i with | 0 => tm | i + 1 => tms i, fun i => match i with | 0 => σ | i + 1 => σs i, rfl, rfl, e3, e4, ?_, ?_, ?_⟩
        · intro i o' hi
          cases i with
          | zero =>
            obtain rfl : o = o' := by simpa using hi
            exact .inl ⟨hw, v, by simpa [e2] using ho, by simp [e1]⟩
          | succ i => exact e5 i o' (by simpa using hi)
        · intro i o' hi hw'
          simp only [traceX, hw, ho]
          cases i with
          | zero =>
            obtain rfl : o = o' := by simpa using hi
            simp [e2]
          | succ i =>
            have := e6 i o' (by simpa using hi) hw'
            rw [show i0 + (i + 1) = i0 + 1 + i by omega]
            exact List.mem_cons_of_mem _ this
        · intro ht i j oi oj hij hi hj hwi hwj
          simp only [traceX, hw, ho, traceOk, Bool.and_eq_true] at ht
          cases j with
          | zero => omega
          | succ j =>
            cases i with
            | zero =>
              obtain rfl : o = oi := by simpa using hi
              have := List.all_eq_true.1 ht.1 _ (e6 j oj (by simpa using hj) hwj)
              rw [show i0 + (j + 1) = i0 + 1 + j by omega]
              simpa [e2] using this
            | succ i =>
              have := e7 ht.2 i j oi oj (by omega) (by simpa using hi) (by simpa using hj) hwi hwj
              rw [show i0 + (j + 1) = i0 + 1 + j by omega, show i0 + (i + 1) = i0 + 1 + i by omega]
              exact this
      · cases h
    · rename_i hw
      obtain ⟨tms, σs, e1, e2, e3, e4, e5, e6, e7⟩ := row_of_opsX b rest (i0 + 1) h
      refine ⟨fun i => match i with | 0 => tm | i + 1 => tms i, fun i => match i with | 0 => σ | i + 1 => σs i, rfl, rfl, e3, e4, ?_, ?_, ?_⟩
      · intro i o' hi
        cases i with
        | zero =>
          obtain rfl : o = o' := by simpa using hi
          exact .inr ⟨hw, by simp [e2], by simp [e1]⟩
        | succ i => exact e5 i o' (by simpa using hi)
      · intro i o' hi hw'
        simp only [traceX, hw]
        cases i with
        | zero =>
          obtain rfl : o = o' := by simpa using hi
          simp only [hw] at hw'
          cases hw'
        | succ i =>
          have := e6 i o' (by simpa using hi) hw'
          rw [show i0 + (i + 1) = i0 + 1 + i by omega]
          exact this
      · intro ht i j oi oj hij hi hj hwi hwj
        simp only [traceX, hw] at ht
        cases j with
        | zero => omega
        | succ j =>
          cases i with
          | zero =>
            obtain rfl : o = oi := by simpa using hi
            simp only [hw] at hwi
            cases hwi
          | succ i =>
            have := e7 ht i j oi oj (by omega) (by simpa using hi) (by simpa using hj) hwi hwj
            rw [show i0 + (j + 1) = i0 + 1 + j by omega, show i0 + (i + 1) = i0 + 1 + i by omega]
            exact this
    · cases h

/-- 'before' is built of edges -/
theorem before_spec (ops : Array Oper) : ∀ j i, B ops i j → ∃ o, ops[j]? = some o ∧ ∃ e ∈ o.after, Region.binds .any e = true ∧ (i = e.on ∨ B ops i e.on) := by
  have key : (Region.before ops).size = ops.size ∧ ∀ j i, ((Region.before ops).getD j 0).testBit i = true → ∃ o, ops[j]? = some o ∧ ∃ e ∈ o.after, Region.binds .any e = true ∧ (i = e.on ∨ ((Region.before ops).getD e.on 0).testBit i = true) := by
    unfold Region.before
    refine Array.foldl_induction (motive := fun (n : Nat) (acc : Array Nat) => acc.size = n ∧ ∀ j i, (acc.getD j 0).testBit i = true → ∃ o, ops[j]? = some o ∧ ∃ e ∈ o.after, Region.binds .any e = true ∧ (i = e.on ∨ (acc.getD e.on 0).testBit i = true)) ⟨rfl, by simp⟩ ?_
    intro m acc ⟨hs, hg⟩
    refine ⟨by simp [hs], fun j i hb => ?_⟩
    have old : ∀ k x, k < acc.size → (acc.push x).getD k 0 = acc.getD k 0 := fun k x hk => by simp [Array.getD_eq_getD_getElem?, Array.getElem?_push, Nat.ne_of_lt hk]
    have nz : ∀ k, (acc.getD k 0).testBit i = true → k < acc.size := fun k hk => by
      rcases Nat.lt_or_ge k acc.size with h | h
      · exact h
      · rw [Array.getD_eq_getD_getElem?, Array.getElem?_eq_none h] at hk; simp at hk
    rcases Nat.lt_trichotomy j acc.size with h | h | h
    · rw [old _ _ h] at hb
      obtain ⟨o, h1, e, h2, h3, h4⟩ := hg j i hb
      exact ⟨o, h1, e, h2, h3, h4.imp id fun h5 => by rw [old _ _ (nz _ h5)]; exact h5⟩
    · subst h
      have hm : ops[acc.size]? = some ops[m] := by rw [hs]; simp
      refine ⟨ops[m], hm, ?_⟩
      have hb' : ((ops[m].after.foldl (fun s e => if Region.binds .any e = true then s ||| 2 ^ e.on ||| acc.getD e.on 0 else s) 0)).testBit i = true := by
        simpa [Array.getD_eq_getD_getElem?] using hb
      have : ∃ e ∈ ops[m].after, Region.binds .any e = true ∧ (i = e.on ∨ (acc.getD e.on 0).testBit i = true) := by
        rw [← Array.foldl_toList] at hb'
        simp only [← Array.mem_toList_iff]
        generalize ops[m].after.toList = l at hb'
        have gen : ∀ (l : List Edge) (s : Nat), (l.foldl (fun s e => if Region.binds .any e = true then s ||| 2 ^ e.on ||| acc.getD e.on 0 else s) s).testBit i = true →
            s.testBit i = true ∨ ∃ e ∈ l, Region.binds .any e = true ∧ (i = e.on ∨ (acc.getD e.on 0).testBit i = true) := by
          intro l
          induction l with
          | nil => intro s h; exact .inl h
          | cons e l ih =>
            intro s h
            rw [List.foldl_cons] at h
            rcases ih _ h with h1 | ⟨e', h1, h2⟩
            · split at h1
              · rename_i hbd
                rw [Nat.testBit_or, Nat.testBit_or, Bool.or_eq_true, Bool.or_eq_true, Nat.testBit_two_pow] at h1
                rcases h1 with (h1 | h1) | h1
                · exact .inl h1
                · exact .inr ⟨e, by simp, hbd, .inl (by simpa using (Eq.symm (by simpa using h1)))⟩
                · exact .inr ⟨e, by simp, hbd, .inr h1⟩
              · exact .inl h1
            · exact .inr ⟨e', by simp [h1], h2⟩
        rcases gen l 0 hb' with h | h
        · simp at h
        · exact h
      obtain ⟨e, h2, h3, h4⟩ := this
      exact ⟨e, h2, h3, h4.imp id fun h5 => by rw [old _ _ (nz _ h5)]; exact h5⟩
    · rw [Array.getD_eq_getD_getElem?, Array.getElem?_eq_none (by simp; omega)] at hb
      simp at hb
  exact fun j i h => key.2 j i h


theorem regionOk_spec {ops : Array Oper} (h : regionOk ops = true) :
    (∀ j o, ops[j]? = some o → ∀ e ∈ o.after, Region.binds .any e = true → e.on < j) ∧
    (∀ i j o p, i < j → ops[i]? = some o → ops[j]? = some p → B ops i j ∨ ((∀ d, o.dst = some d → d ∉ namesT ops p) ∧ (∀ d, p.dst = some d → d ∉ namesT ops o))) := by
  unfold regionOk at h
  rw [Bool.and_eq_true] at h
  obtain ⟨h1, h2⟩ := h
  have mem : ∀ j o, ops[j]? = some o → (o, j) ∈ ops.toList.zipIdx := fun j o hj => by
    rw [List.mem_zipIdx_iff_getElem?]; simpa using hj
  refine ⟨fun j o hj e he hb => ?_, fun i j o p hij hi hj => ?_⟩
  · have := List.all_eq_true.1 h1 _ (mem j o hj)
    have := Array.all_eq_true_iff_forall_mem.1 this e he
    simpa [hb] using this
  · have := List.all_eq_true.1 (List.all_eq_true.1 h2 _ (mem i o hi)) _ (mem j p hj)
    simp only [hij, decide_true, Bool.not_true, Bool.false_or, Bool.or_eq_true, Bool.and_eq_true] at this
    refine this.imp id fun ⟨a, b⟩ => ⟨fun d hd => ?_, fun d hd => ?_⟩
    · rw [hd] at a; simpa using a
    · rw [hd] at b; simpa using b

section
variable {K : Cfg} {C : CallT} {floor : Nat} {ops : Array Oper} {tms : Nat → Tmps} {σs : Nat → Store}

/-- it changes the store -/
def Chg (K : Cfg) (ops : Array Oper) (tms : Nat → Tmps) (σs : Nat → Store) (i : Nat) : Prop := ∃ f m, Did K ops tms σs i (.chg f m)
def New (K : Cfg) (ops : Array Oper) (tms : Nat → Tmps) (σs : Nat → Store) (i : Nat) (ids : List Nat) : Prop := ∃ n, Did K ops tms σs i (.new n ids)
def L (listed : Array Bool) (p : Nat) : Prop := listed.getD p false = true

theorem row_len (hR : Row K C floor ops tms σs) : ∀ i, i ≤ ops.size → (tms i).length = (tms 0).length
  | 0, _ => rfl
  | i + 1, h => by
    have hi : ops[i]? = some ops[i] := by simp
    rw [← row_len hR i (by omega)]
    rcases hR.step i _ hi with ⟨_, v, _, e⟩ | ⟨_, _, e⟩ <;> rw [e] <;> unfold put <;> split <;> simp

theorem row_tmp (hR : Row K C floor ops tms σs) {t i : Nat} : ∀ j, i ≤ j → j ≤ ops.size → (∀ p o, i ≤ p → p < j → ops[p]? = some o → o.dst ≠ some t) → (tms j)[t]? = (tms i)[t]? := by
  intro j hij
  induction hij with
  | refl => intro _ _; rfl
  | step hij ih =>
    rename_i j
    intro hj hno
    rw [← ih (by omega) fun p o h1 h2 => hno p o h1 (by omega)]
    have hi : ops[j]? = some ops[j] := by simp
    have hd := hno j _ hij (by omega) hi
    rcases hR.step j _ hi with ⟨_, v, _, e⟩ | ⟨_, _, e⟩ <;> rw [e] <;> unfold put <;> split <;> first
      | rfl
      | (rename_i d hd'; rw [List.getElem?_set_ne (fun e => hd (by rw [hd', e]))])

theorem row_le (hC : CallOK K C) (hR : Row K C floor ops tms σs) {i : Nat} : ∀ j, i ≤ j → j ≤ ops.size → (σs i).length ≤ (σs j).length := by
  intro j hij
  induction hij with
  | refl => intro _; exact Nat.le_refl _
  | step hij ih =>
    rename_i j
    intro hj
    refine Nat.le_trans (ih (by omega)) ?_
    have hi : ops[j]? = some ops[j] := by simp
    rcases hR.step j _ hi with ⟨hw, v, ho, _⟩ | ⟨_, e, _⟩
    · exact (operX_keeps hC ho).1
    · rw [e]; exact Nat.le_refl _

theorem row_new (hR : Row K C floor ops tms σs) {p : Nat} {ids : List Nat} (h : New K ops tms σs p ids) : p < ops.size ∧ ∃ ob, σs (p + 1) = σs p ++ [ob] := by
  obtain ⟨nn, o, ho, hw, hf⟩ := h
  refine ⟨(Array.getElem?_eq_some_iff.1 ho).1, ?_⟩
  rcases hR.step p _ ho with ⟨_, v, h, _⟩ | ⟨hw', _, _⟩
  · obtain ⟨_, ob, hl⟩ := new_spec h hf
    exact ⟨ob, hl.eff⟩
  · rw [hw] at hw'; cases hw'

theorem row_lt (hC : CallOK K C) (hR : Row K C floor ops tms σs) {p q : Nat} {ids : List Nat} (h : New K ops tms σs p ids) (hpq : p < q) (hq : q ≤ ops.size) : (σs p).length < (σs q).length := by
  obtain ⟨hp, ob, e⟩ := row_new hR h
  have := row_le hC hR (i := p + 1) q hpq hq
  rw [e] at this
  simp at this
  omega

theorem row_chain (hC : CallOK K C) (hR : Row K C floor ops tms σs) {id i : Nat} : ∀ j, i ≤ j → j ≤ ops.size → (∀ p, i ≤ p → p < j → ¬ Chg K ops tms σs p) → (∀ p ids, i ≤ p → p < j → New K ops tms σs p ids → id ≠ (σs p).length) → (σs j)[id]? = (σs i)[id]? := by
  intro j hij
  induction hij with
  | refl => intro _ _ _; rfl
  | step hij ih =>
    rename_i j
    intro hj hno hnew
    rw [← ih (by omega) (fun p h1 h2 => hno p h1 (by omega)) (fun p ids h1 h2 => hnew p ids h1 (by omega))]
    have hi : ops[j]? = some ops[j] := by simp
    have hd := hno j hij (by omega)
    rcases hR.step j _ hi with ⟨hw, v, ho, _⟩ | ⟨_, e, _⟩
    · cases hf : fpX K ops[j] (tms j) (σs j) (σs (j + 1)) with
      | quiet ids => rw [(quiet_spec hC ho hf).eff]; rfl
      | new nn ids =>
        obtain ⟨_, ob, hl⟩ := new_spec ho hf
        rw [hl.eff]
        simp only [Store.app]
        have hne := hnew j ids hij (by omega) ⟨_, _, hi, hw, hf⟩
        rcases Nat.lt_or_gt_of_ne hne with h | h
        · rw [List.getElem?_append_left h]
        · rw [List.getElem?_eq_none (by simp; omega), List.getElem?_eq_none (by omega)]
      | chg f m => exact (hd ⟨f, m, _, hi, hw, hf⟩).elim
    · rw [e]

/-- an object that no changer on the way names stays as it was -/
theorem row_obj (hC : CallOK K C) (hR : Row K C floor ops tms σs) {id i : Nat} (hid : id < (σs i).length) : ∀ j, i ≤ j → j ≤ ops.size →
    (∀ p f ks, i ≤ p → p < j → Did K ops tms σs p (.chg f ks) → ks id = true) → (σs j)[id]? = (σs i)[id]? ∧ (σs i).length ≤ (σs j).length := by
  intro j hij
  induction hij with
  | refl => intro _ _; exact ⟨rfl, Nat.le_refl _⟩
  | step hij ih =>
    rename_i j
    intro hj hno
    obtain ⟨e1, e2⟩ := ih (by omega) fun p f m h1 h2 => hno p f m h1 (by omega)
    have hi : ops[j]? = some ops[j] := by simp
    rcases hR.step j _ hi with ⟨hw, v, ho, _⟩ | ⟨_, e, _⟩
    · have hl := (operX_keeps hC ho).1
      refine ⟨?_, Nat.le_trans e2 hl⟩
      rw [← e1]
      cases hf : fpX K ops[j] (tms j) (σs j) (σs (j + 1)) with
      | quiet ids => rw [(quiet_spec hC ho hf).eff]; rfl
      | new nn ids =>
        obtain ⟨_, ob, hl⟩ := new_spec ho hf
        rw [hl.eff]
        simp only [Store.app]
        rw [List.getElem?_append_left (by omega)]
      | chg f m =>
        exact chg_spec hC ho hf id (by omega) (hno j f m hij (by omega) ⟨_, hi, hw, hf⟩)
    · rw [e]; exact ⟨e1, e2⟩

/-- what is there when the changers below k have been carried out, and those operations that make one object and are listed -/
structure Tau (K : Cfg) (ops : Array Oper) (tms : Nat → Tmps) (σs : Nat → Store) (listed : Array Bool) (k : Nat) (τ : Nat → Option Obj) : Prop where
  did : ∀ p ids, New K ops tms σs p ids → L listed p → τ (σs p).length = (σs (max k (p + 1)))[(σs p).length]?
  not : ∀ p ids, New K ops tms σs p ids → ¬ L listed p → τ (σs p).length = none
  old : ∀ id, (∀ p ids, New K ops tms σs p ids → id ≠ (σs p).length) → τ id = (σs k)[id]?

structure Inv (K : Cfg) (ops : Array Oper) (tms : Nat → Tmps) (σs : Nat → Store) (H0 : Hp) (listed : Array Bool) (a : Act) (H : Hp) : Prop where
  size : listed.size = ops.size
  closed : ∀ i j, L listed j → B ops i j → L listed i
  mem : ∃ k, k ≤ ops.size ∧ (∀ p, Chg K ops tms σs p → (L listed p ↔ p < k)) ∧ Tau K ops tms σs listed k H.τ
  hr : HR H
  ext : Ext H0 H
  dfr : a.defers = []
  tmp : ∃ tmF, Vs H tmF a.tmps.toList ∧ tmF.length = (tms 0).length ∧ ∀ t, t < tmF.length → ∃ i, i ≤ ops.size ∧ tmF[t]? = (tms i)[t]? ∧ ∀ p o, ops[p]? = some o → o.dst = some t → (L listed p ↔ p < i)

theorem L_set {listed : Array Bool} {j p : Nat} (hj : j < listed.size) : L (listed.setIfInBounds j true) p ↔ p = j ∨ L listed p := by
  unfold L
  by_cases h : p = j
  · subst h; simp [Array.getD_eq_getD_getElem?, hj]
  · simp [Array.getD_eq_getD_getElem?, Array.getElem?_setIfInBounds_ne (Ne.symm h), h]


theorem namesT_dst {o : Oper} {d : Tmp} (h : o.dst = some d) : d ∈ namesT ops o := by simp [namesT, h]
theorem namesT_opnd {o : Oper} {t : Tmp} (h : .tmp t ∈ o.op.operands.toList) : t ∈ namesT ops o := by
  simp only [namesT, List.mem_append, List.mem_filterMap]
  exact .inl (.inr ⟨.tmp t, h, rfl⟩)
theorem namesT_guard {o : Oper} {g : Nat} {b : Bool} {t : Tmp} (h : o.guard = some (g, b)) (ht : (ops[g]?).bind (·.dst) = some t) : t ∈ namesT ops o := by
  simp only [namesT, List.mem_append]
  right
  rw [h]
  simp [ht]

section
variable {H0 H : Hp} {listed : Array Bool} {a : Act} {j : Nat} {o : Oper}

theorem inv_preds (hI : Inv K ops tms σs H0 listed a H) (hall : ∀ e ∈ o.after, Region.binds .any e = true → listed.getD e.on false = true) (ho : ops[j]? = some o) : ∀ i, B ops i j → L listed i := by
  intro i hb
  obtain ⟨o', h1, e, h2, h3, h4⟩ := before_spec ops j i hb
  obtain rfl : o = o' := by rw [ho] at h1; exact Option.some.inj h1
  rcases h4 with rfl | h4
  · exact hall e h2 h3
  · exact hI.closed i _ (hall e h2 h3) h4

theorem inv_agree (hR : Row K C floor ops tms σs) (hk : regionOk ops = true) (hI : Inv K ops tms σs H0 listed a H) (hp : ∀ i, B ops i j → L listed i) (hj : ¬ L listed j) (ho : ops[j]? = some o)
    {tmF : Tmps} (hlen : tmF.length = (tms 0).length) (hF : ∀ t, t < tmF.length → ∃ i, i ≤ ops.size ∧ tmF[t]? = (tms i)[t]? ∧ ∀ p o, ops[p]? = some o → o.dst = some t → (L listed p ↔ p < i)) :
    ∀ t, t ∈ namesT ops o → tmF[t]? = (tms j)[t]? := by
  intro t ht
  have hjs : j < ops.size := (Array.getElem?_eq_some_iff.1 ho).1
  by_cases hl : t < tmF.length
  · obtain ⟨i, hi, e, hw⟩ := hF t hl
    rw [e]
    rcases Nat.le_total i j with hij | hij
    · refine (row_tmp hR j hij (by omega) fun p q h1 h2 hq hd => ?_).symm
      have hnl : ¬ L listed p := fun h => by have := (hw p q hq hd).1 h; omega
      rcases (regionOk_spec hk).2 p j q o h2 hq ho with h | h
      · exact hnl (hp p h)
      · exact h.1 t hd ht
    · refine row_tmp hR i hij hi fun p q h1 h2 hq hd => ?_
      have hl : L listed p := (hw p q hq hd).2 h2
      rcases Nat.eq_or_lt_of_le h1 with rfl | h1
      · exact hj hl
      · rcases (regionOk_spec hk).2 j p o q h1 ho hq with h | h
        · exact hj (hI.closed j p hl h)
        · exact h.2 t hd ht
  · have h1 : tmF.length ≤ t := Nat.le_of_not_lt hl
    have h2 : (tms j).length ≤ t := by rw [row_len hR j (by omega), ← hlen]; exact h1
    rw [List.getElem?_eq_none h1, List.getElem?_eq_none h2]

theorem put_get {dst : Option Tmp} {v : PV} {tm : Tmps} {t : Nat} (h : dst ≠ some t) : (put dst v tm)[t]? = tm[t]? := by
  unfold put
  split
  · rename_i d
    rw [List.getElem?_set_ne (fun e => h (by rw [e]))]
  · rfl

theorem inv_tmp (hR : Row K C floor ops tms σs) (hk : regionOk ops = true) (hI : Inv K ops tms σs H0 listed a H) (hp : ∀ i, B ops i j → L listed i) (hj : ¬ L listed j) (ho : ops[j]? = some o)
    {pv : PV} {u : Value} {H' : Hp} (hx : VExt H H') (hv : V H' pv u) (e : tms (j + 1) = put o.dst pv (tms j)) :
    ∃ tmF, Vs H' tmF (a.put o.dst u).tmps.toList ∧ tmF.length = (tms 0).length ∧ ∀ t, t < tmF.length → ∃ i, i ≤ ops.size ∧ tmF[t]? = (tms i)[t]? ∧ ∀ p o, ops[p]? = some o → o.dst = some t → (L (listed.setIfInBounds j true) p ↔ p < i) := by
  obtain ⟨tmF, h1, h2, h3⟩ := hI.tmp
  have hjs : j < ops.size := (Array.getElem?_eq_some_iff.1 ho).1
  have hsz : j < listed.size := by rw [hI.size]; exact hjs
  have hpl : (put o.dst pv tmF).length = tmF.length := by unfold put; split <;> simp
  refine ⟨put o.dst pv tmF, Vs_put (Vs_ext hx h1) _ hv, by rw [hpl, h2], fun t ht => ?_⟩
  rw [hpl] at ht
  by_cases hd : o.dst = some t
  · refine ⟨j + 1, hjs, ?_, fun p q hq hqd => ?_⟩
    · rw [e, hd]
      have h4 : t < (tms j).length := by rw [row_len hR j (by omega)]; omega
      simp [put, ht, h4]
    · rw [L_set hsz]
      constructor
      · rintro (rfl | hl)
        · omega
        · rcases Nat.lt_or_ge p (j + 1) with h | h
          · exact h
          · rcases (regionOk_spec hk).2 j p o q (by omega) ho hq with hb | hb
            · exact (hj (hI.closed j p hl hb)).elim
            · exact (hb.1 t hd (namesT_dst hqd)).elim
      · intro h
        by_cases hpj : p = j
        · exact .inl hpj
        · right
          rcases (regionOk_spec hk).2 p j q o (by omega) hq ho with hb | hb
          · exact hp p hb
          · exact (hb.1 t hqd (namesT_dst hd)).elim
  · obtain ⟨i, hi, e', hw⟩ := h3 t ht
    refine ⟨i, hi, by rw [put_get hd, e'], fun p q hq hqd => ?_⟩
    rw [L_set hsz, ← hw p q hq hqd]
    constructor
    · rintro (rfl | hl)
      · rw [ho] at hq; obtain rfl := Option.some.inj hq; exact (hd hqd).elim
      · exact hl
    · exact .inr

theorem inv_closed (hI : Inv K ops tms σs H0 listed a H) (hp : ∀ i, B ops i j → L listed i) (hsz : j < listed.size) : ∀ i p, L (listed.setIfInBounds j true) p → B ops i p → L (listed.setIfInBounds j true) i := by
  intro i p hl hb
  rw [L_set hsz] at hl ⊢
  rcases hl with rfl | hl
  · exact .inr (hp i hb)
  · exact .inr (hI.closed i p hl hb)

theorem wanted_agree {tm tm' : Tmps} (h : ∀ t, t ∈ namesT ops o → tm[t]? = tm'[t]?) : wantedX ops o tm = wantedX ops o tm' := by
  unfold wantedX
  split
  · rfl
  · rename_i g want hg
    split
    · rename_i t ht
      rw [h t (namesT_guard hg ht)]
    · rfl

theorem did_det {i : Nat} {f g : Fp} (h : Did K ops tms σs i f) (h' : Did K ops tms σs i g) : f = g := by
  obtain ⟨o, h1, _, h3⟩ := h
  obtain ⟨o', h1', _, h3'⟩ := h'
  rw [h1] at h1'
  obtain rfl := Option.some.inj h1'
  rw [← h3, ← h3']

theorem V_obj {H : Hp} {p : PV} {u : Value} {id : Nat} (h : V H p u) (hid : p.objId = some id) : ∃ o, H.τ id = some o := by
  cases p with
  | ptr i off => simp only [PV.objId, Option.some.injEq] at hid; subst hid; simp only [V] at h; obtain ⟨_, o, h, _⟩ := h; exact ⟨o, h⟩
  | ref i off len sz => simp only [PV.objId, Option.some.injEq] at hid; subst hid; simp only [V] at h; obtain ⟨_, o, h, _⟩ := h; exact ⟨o, h⟩
  | map i => simp only [PV.objId, Option.some.injEq] at hid; subst hid; simp only [V] at h; obtain ⟨_, o, h, _⟩ := h; exact ⟨o, h⟩
  | _ => simp [PV.objId] at hid

theorem tau_some (hR : Row K C floor ops tms σs) {k : Nat} {τ : Nat → Option Obj} (hT : Tau K ops tms σs listed k τ) (hkM : k ≤ ops.size) {id : Nat} {ob : Obj} (h : τ id = some ob) :
    ∃ m, m ≤ ops.size ∧ τ id = (σs m)[id]? ∧ (m = k ∨ (k < m ∧ ∃ p ids, New K ops tms σs p ids ∧ id = (σs p).length ∧ m = p + 1)) := by
  by_cases hc : ∃ p ids, New K ops tms σs p ids ∧ id = (σs p).length
  · obtain ⟨p, ids, hd, rfl⟩ := hc
    have hl : L listed p := by
      by_cases hl : L listed p
      · exact hl
      · rw [hT.not p ids hd hl] at h; cases h
    have hp := (row_new hR hd).1
    refine ⟨max k (p + 1), by omega, hT.did p ids hd hl, ?_⟩
    rcases Nat.lt_or_ge k (p + 1) with h1 | h1
    · exact .inr ⟨by omega, p, ids, hd, rfl, by omega⟩
    · exact .inl (by omega)
  · exact ⟨k, hkM, hT.old id fun p ids hd e => hc ⟨p, ids, hd, e⟩, .inl rfl⟩

theorem tau_free (hC : CallOK K C) (hR : Row K C floor ops tms σs) {k : Nat} {τ : Nat → Option Obj} (hT : Tau K ops tms σs listed k τ) (hkM : k ≤ ops.size) : τ (σs ops.size).length = none := by
  rw [hT.old _ fun p ids hd e => by have := row_lt hC hR hd (row_new hR hd).1 (Nat.le_refl _); omega]
  exact List.getElem?_eq_none (row_le hC hR _ hkM (Nat.le_refl _))

/-- what a light operation looks at reads as in the text's order -/
theorem tau_get (hC : CallOK K C) (hR : Row K C floor ops tms σs) {k : Nat} {τ : Nat → Option Obj} (hT : Tau K ops tms σs listed k τ) (hkM : k ≤ ops.size) (hkc : ∀ p, Chg K ops tms σs p → (L listed p ↔ p < k)) (hjs : j < ops.size) (hnl : ¬ L listed j)
    {id : Nat} {ob : Obj} (h : τ id = some ob) (hlt : id < (σs j).length) (hkeep : ∀ q f ks, Did K ops tms σs q (.chg f ks) → (q < j → ¬ L listed q → ks id = true) ∧ (j < q → L listed q → ks id = true)) : τ id = (σs j)[id]? := by
  obtain ⟨m, hm, e, hmk⟩ := tau_some hR hT hkM h
  have hlm : id < (σs m).length := by rw [e] at h; exact (List.getElem?_eq_some_iff.1 h).1
  rw [e]
  rcases Nat.le_total m j with hmj | hmj
  · refine (row_obj hC hR hlm j hmj (by omega) fun q f ks h1 h2 hd => (hkeep q f ks hd).1 h2 fun hl => ?_).1.symm
    have := (hkc q ⟨f, ks, hd⟩).1 hl
    rcases hmk with rfl | ⟨h3, _⟩ <;> omega
  · refine (row_obj hC hR hlt m hmj hm fun q f ks h1 h2 hd => ?_).1
    have hlq : L listed q := by
      refine (hkc q ⟨f, ks, hd⟩).2 ?_
      rcases hmk with rfl | ⟨h3, p, ids, hd', e', e''⟩
      · exact h2
      · exfalso
        have : ¬ j ≤ p := fun hjp => by have := row_le hC hR (i := j) p hjp (by omega); omega
        omega
    rcases Nat.eq_or_lt_of_le h1 with rfl | h1
    · exact (hnl hlq).elim
    · exact (hkeep q f ks hd).2 h1 hlq

theorem upd_self {τ : Nat → Option Obj} {n : Nat} {x : Option Obj} : upd τ n x n = x := by simp [upd]
theorem upd_ne {τ : Nat → Option Obj} {n m : Nat} {x : Option Obj} (h : m ≠ n) : upd τ n x m = τ m := by simp [upd, h]

/-- one operation that may come up now -/
theorem inv_step (hC : CallOK K C) (hR : Row K C floor ops tms σs) (hk : regionOk ops = true) (hI : Inv K ops tms σs H0 listed a H) (hr : j ∈ Region.ready .any ops listed) {Q : Exit → Act → World → Prop} {Kt : Act → World → Prop}
    (hn : ∀ a' H', Inv K ops tms σs H0 (listed.setIfInBounds j true) a' H' → Kt a' H'.w) : wpOp K.P ops Q j Kt a H.w := by
  obtain ⟨hun, o, ho, hall⟩ := mem_ready.1 hr
  have hjs : j < ops.size := (Array.getElem?_eq_some_iff.1 ho).1
  have hsz : j < listed.size := by rw [hI.size]; exact hjs
  have hj : ¬ L listed j := by
    unfold L
    simp [Array.getD_eq_getD_getElem?, hsz] at hun ⊢
    exact hun
  have hp := inv_preds hI hall ho
  have hcl := inv_closed hI hp hsz
  have hs' : (listed.setIfInBounds j true).size = ops.size := by simp [hI.size]
  obtain ⟨tmF, f1, f2, f3⟩ := hI.tmp
  have hag := inv_agree hR hk hI hp hj ho f2 f3
  obtain ⟨k, hkM, hkc, hT⟩ := hI.mem
  have lset : ∀ p, p ≠ j → (L (listed.setIfInBounds j true) p ↔ L listed p) := fun p hpj => by rw [L_set hsz]; exact ⟨fun h => h.resolve_left hpj, .inr⟩
  unfold wpOp
  rw [ho]
  simp only []
  rcases hR.step j o ho with ⟨hw, v, hop, htm⟩ | ⟨hw, hσ, htm⟩
  · rw [wanted_spec f1 (by rw [wanted_agree hag]; exact hw), if_pos rfl]
    left
    have hops : Opnds H (tms j) a o.op := fun x hx => by
      have h1 := V_evalO f1 x
      have : evalO (tms j) x = evalO tmF x := by
        cases x with
        | tmp t => simp only [evalO, List.getD]; rw [hag t (namesT_opnd hx)]
        | _ => rfl
      rw [this]; exact h1
    have hget : ∀ {ids : List Nat} {e : Eff}, Light K o (tms j) (σs j) (σs (j + 1)) v ids e → (∀ q f ks id, id ∈ ids → Did K ops tms σs q (.chg f ks) → (q < j → ¬ L listed q → ks id = true) ∧ (j < q → L listed q → ks id = true)) → ∀ id ∈ ids, H.τ id = (σs j)[id]? := fun hl hkeep id hid => by
      obtain ⟨x, hx, hxo⟩ := hl.obj id hid
      obtain ⟨ob, hob⟩ := V_obj (hops x hx) hxo
      exact tau_get hC hR hT hkM hkc hjs hj hob (hl.lt id hid) fun q f ks hd => hkeep q f ks id hid hd
    cases hf : fpX K o (tms j) (σs j) (σs (j + 1)) with
    | quiet ids =>
      have hdj : Did K ops tms σs j (.quiet ids) := ⟨o, ho, hw, hf⟩
      have hl := quiet_spec hC hop hf
      have hnc : ¬ Chg K ops tms σs j := fun ⟨_, m, hm⟩ => by cases did_det hm hdj
      refine hl.wp (hget hl fun q f ks id hid hd => ⟨fun hqj hnl => ?_, fun hjq hlq => ?_⟩) (tau_free hC hR hT hkM) (by simp) hI.hr hops fun u H' q1 q2 q3 q4 =>
        hn _ H' ⟨hs', hcl, ⟨k, hkM, fun p hpc => ?_, ?_⟩, q2, hI.ext.trans q3, by rw [put_defers]; exact hI.dfr, inv_tmp hR hk hI hp hj ho q3.toVExt q1 htm⟩
      · rcases hR.tr q j _ _ hqj hd hdj with h | h
        · exact (hnl (hp q h)).elim
        · exact List.all_eq_true.1 h id hid
      · rcases hR.tr j q _ _ hjq hdj hd with h | h
        · exact (hj (hI.closed j q hlq h)).elim
        · exact List.all_eq_true.1 h id hid
      · rw [lset p fun e => by subst e; exact hnc hpc]; exact hkc p hpc
      · rw [q4]
        have nq : ∀ ids', ¬ New K ops tms σs j ids' := fun ids' ⟨n', h⟩ => by cases did_det h hdj
        refine ⟨fun p ids' hd hl => hT.did p ids' hd ((lset p fun e => by subst e; exact nq _ hd).1 hl), fun p ids' hd hl => hT.not p ids' hd fun h => hl ((lset p fun e => by subst e; exact nq _ hd).2 h), hT.old⟩
    | new nn ids =>
      have hdj : Did K ops tms σs j (.new nn ids) := ⟨o, ho, hw, hf⟩
      have hnj : New K ops tms σs j ids := ⟨nn, hdj⟩
      obtain ⟨hnn, ob, hl⟩ := new_spec hop hf
      have hnc : ¬ Chg K ops tms σs j := fun ⟨_, m, hm⟩ => by cases did_det hm hdj
      refine hl.wp (hget hl fun q f ks id hid hd => ⟨fun hqj hnl => ?_, fun hjq hlq => ?_⟩) (hT.not j ids hnj hj) (fun _ => rfl) hI.hr hops fun u H' q1 q2 q3 q4 =>
        hn _ H' ⟨hs', hcl, ⟨k, hkM, fun p hpc => ?_, ?_⟩, q2, hI.ext.trans q3, by rw [put_defers]; exact hI.dfr, inv_tmp hR hk hI hp hj ho q3.toVExt q1 htm⟩
      · rcases hR.tr q j _ _ hqj hd hdj with h | h
        · exact (hnl (hp q h)).elim
        · simp only [Fp.apart, Bool.and_eq_true, List.all_eq_true] at h
          exact h.2 id hid
      · rcases hR.tr j q _ _ hjq hdj hd with h | h
        · exact (hj (hI.closed j q hlq h)).elim
        · simp only [Fp.apart, Bool.and_eq_true, List.all_eq_true] at h
          exact h.2 id hid
      · rw [lset p fun e => by subst e; exact hnc hpc]; exact hkc p hpc
      · rw [q4]
        simp only [appτ]
        refine ⟨fun p ids' hd hlp => ?_, fun p ids' hd hlp => ?_, fun id hid => ?_⟩
        · by_cases hpj : p = j
          · subst hpj
            rw [upd_self]
            have hob : (σs (p + 1))[(σs p).length]? = some ob := by rw [hl.eff]; simp [Store.app]
            rw [(row_obj hC hR (id := (σs p).length) (i := p + 1) (by rw [hl.eff]; simp [Store.app]) (max k (p + 1)) (by omega) (by omega) fun q f ks h1 h2 hd'' => ?_).1, hob]
            have hlq : L listed q := (hkc q ⟨f, ks, hd''⟩).2 (by omega)
            rcases hR.tr p q _ _ (by omega) hdj hd'' with h | h
            · exact (hj (hI.closed p q hlq h)).elim
            · simp only [Fp.apart, Bool.and_eq_true] at h
              rw [← hnn]
              exact h.1.2
          · rw [upd_ne ?_]
            · exact hT.did p ids' hd ((lset p hpj).1 hlp)
            · have := (row_new hR hd).1
              rcases Nat.lt_or_gt_of_ne hpj with h | h
              · have := row_lt hC hR hd h (by omega); omega
              · have := row_lt hC hR hnj h (by omega); omega
        · by_cases hpj : p = j
          · exact (hlp (by rw [L_set hsz]; exact .inl hpj)).elim
          · rw [upd_ne ?_]
            · exact hT.not p ids' hd fun h => hlp ((lset p hpj).2 h)
            · have := (row_new hR hd).1
              rcases Nat.lt_or_gt_of_ne hpj with h | h
              · have := row_lt hC hR hd h (by omega); omega
              · have := row_lt hC hR hnj h (by omega); omega
        · rw [upd_ne (hid j ids hnj)]
          exact hT.old id hid
    | chg free m =>
      have hdj : Did K ops tms σs j (.chg free m) := ⟨o, ho, hw, hf⟩
      cases free with
      | true =>
        obtain ⟨id0, ob, hm⟩ := move_spec hop hf
        have nj : ∀ {ids : List Nat}, ¬ New K ops tms σs j ids := fun ⟨_, h⟩ => by cases did_det h hdj
        have lo : ∀ q, q < j → Chg K ops tms σs q → L listed q := fun q h ⟨f', ks, hd⟩ => by
          rcases hR.tr q j _ _ h hd hdj with h | h
          · exact hp q h
          · simp [Fp.apart] at h
        have hi : ∀ q, j ≤ q → Chg K ops tms σs q → ¬ L listed q := fun q h ⟨f', ks, hd⟩ hl => by
          rcases Nat.eq_or_lt_of_le h with rfl | h
          · exact hj hl
          · rcases hR.tr j q _ _ h hdj hd with h | h
            · exact hj (hI.closed j q hl h)
            · simp [Fp.apart] at h
        have hcj : Chg K ops tms σs j := ⟨_, _, hdj⟩
        have hkj : k ≤ j := by
          rcases Nat.lt_or_ge j k with h | h
          · exact (hj ((hkc j hcj).2 h)).elim
          · exact h
        have hget2 : ∀ i ∈ touches (tms j) o.op, H.τ i = (σs j)[i]? := fun i hid => by
          obtain ⟨x, hx, hxo⟩ := hm.obj i hid
          obtain ⟨ob', hob'⟩ := V_obj (hops x hx) hxo
          refine tau_get hC hR hT hkM hkc hjs hj hob' (hm.lt i hid) fun q f' ks hd => ⟨fun hqj hnl => (hnl (lo q hqj ⟨_, _, hd⟩)).elim, fun hjq hlq => (hi q (by omega) ⟨_, _, hd⟩ hlq).elim⟩
        have hid0 : id0 < (σs j).length := hm.lt id0 hm.mem
        have len1 : (σs (j + 1)).length = (σs j).length + 1 := by rw [hm.eff]; simp [Store.app]
        have at0 : (σs (j + 1))[id0]? = some .dead := by rw [hm.eff]; simp only [Store.app]; rw [List.getElem?_append_left (by simpa using hid0), List.getElem?_set_self hid0]
        have atn : (σs (j + 1))[(σs j).length]? = some ob := by rw [hm.eff]; simp [Store.app]
        have ato : ∀ i, i ≠ id0 → i ≠ (σs j).length → (σs (j + 1))[i]? = (σs j)[i]? := fun i h1 h2 => by
          rcases Nat.lt_or_ge i (σs j).length with h | h
          · exact chg_spec hC hop hf i h ((hm.keeps i).2 h1)
          · rw [List.getElem?_eq_none (by omega), List.getElem?_eq_none (by omega)]
        have oldj : ∀ id, (∀ p ids, New K ops tms σs p ids → id ≠ (σs p).length) → H.τ id = (σs j)[id]? := fun id hid => by
          rw [hT.old id hid]
          exact (row_chain hC hR j hkj (by omega) (fun q h1 h2 hc => by have := (hkc q hc).1 (lo q h2 hc); omega) fun q ids _ _ hd => hid q ids hd).symm
        have lown : ∀ p ids, New K ops tms σs p ids → p < j → L listed p → H.τ (σs p).length = (σs j)[(σs p).length]? := fun p ids hd hpj hlp => by
          rw [hT.did p ids hd hlp]
          refine (row_chain hC hR j (by omega) (by omega) (fun q h1 h2 hc => ?_) fun q ids' h1 h2 hd' => ?_).symm
          · have := (hkc q hc).1 (lo q h2 hc); omega
          · have := row_lt hC hR hd (q := q) (by omega) (Nat.le_of_lt (row_new hR hd').1); omega
        have newge : ∀ p ids, New K ops tms σs p ids → j < p → (σs j).length < (σs p).length := fun p ids hd hjp => by
          have := row_le hC hR (i := j + 1) p hjp (Nat.le_of_lt (row_new hR hd).1)
          omega
        have newlt : ∀ p ids, New K ops tms σs p ids → p < j → (σs p).length < (σs j).length := fun p ids hd hpj => row_lt hC hR hd hpj (by omega)
        have newne : ∀ p ids, New K ops tms σs p ids → (σs j).length ≠ (σs p).length := fun p ids hd => by
          rcases Nat.lt_trichotomy p j with h | h | h
          · have := newlt p ids hd h; omega
          · subst h; exact (nj hd).elim
          · have := newge p ids hd h; omega
        refine hm.wp hget2 ?_ hI.hr hops fun u H' q1 q2 q3 q4 => hn _ H' ⟨hs', hcl, ⟨j + 1, hjs, fun p hpc => ?_, ?_⟩, q2, hI.ext.trans q3, by rw [put_defers]; exact hI.dfr, inv_tmp hR hk hI hp hj ho q3.toVExt q1 htm⟩
        · rw [oldj _ newne]
          exact List.getElem?_eq_none (Nat.le_refl _)
        · rw [L_set hsz]
          constructor
          · rintro (rfl | h)
            · omega
            · rcases Nat.lt_or_ge p j with h' | h'
              · omega
              · exact (hi p h' hpc h).elim
          · intro h
            by_cases hpj : p = j
            · exact .inl hpj
            · exact .inr (lo p (by omega) hpc)
        · rw [q4]
          simp only [appτ]
          refine ⟨fun p ids' hd hlp => ?_, fun p ids' hd hlp => ?_, fun id hid => ?_⟩
          · have hpj : p ≠ j := fun e => by subst e; exact nj hd
            have hlp' := (lset p hpj).1 hlp
            rw [upd_ne (fun e => newne p ids' hd e.symm)]
            rcases Nat.lt_or_gt_of_ne hpj with h | h
            · rw [show max (j + 1) (p + 1) = j + 1 by omega]
              by_cases e : (σs p).length = id0
              · rw [e, upd_self, at0]
              · rw [upd_ne e, lown p ids' hd h hlp', ato _ e (fun e' => newne p ids' hd e'.symm)]
            · have := newge p ids' hd h
              rw [upd_ne (by omega), hT.did p ids' hd hlp']
              rw [show max k (p + 1) = p + 1 by omega, show max (j + 1) (p + 1) = p + 1 by omega]
          · have hpj : p ≠ j := fun e => by subst e; exact nj hd
            have hnl : ¬ L listed p := fun h => hlp ((lset p hpj).2 h)
            have hno := hT.not p ids' hd hnl
            rw [upd_ne (fun e => newne p ids' hd e.symm), upd_ne (fun e => ?_)]
            · exact hno
            · have := hget2 id0 hm.mem
              rw [← e, hno] at this
              rw [e, List.getElem?_eq_getElem hid0] at this
              cases this
          · by_cases e : id = (σs j).length
            · subst e; rw [upd_self, atn]
            · rw [upd_ne e]
              by_cases e0 : id = id0
              · subst e0; rw [upd_self, at0]
              · rw [upd_ne e0, oldj id hid, ato id e0 e]
      | false =>
        have lo : ∀ p fp, p < j → Did K ops tms σs p fp → (∀ ids, fp ≠ .quiet ids) → L listed p := fun p fp h hd hq => by
          rcases hR.tr p j _ _ h hd hdj with h | h
          · exact hp p h
          · cases fp with
            | quiet ids => exact (hq ids rfl).elim
            | _ => simp [Fp.apart] at h
        have hi : ∀ p fp, j ≤ p → Did K ops tms σs p fp → (∀ ids, fp ≠ .quiet ids) → ¬ L listed p := fun p fp h hd hq hl => by
          rcases Nat.eq_or_lt_of_le h with rfl | h
          · exact hj hl
          · rcases hR.tr j p _ _ h hdj hd with h | h
            · exact hj (hI.closed j p hl h)
            · cases fp with
              | quiet ids => exact (hq ids rfl).elim
              | _ => simp [Fp.apart] at h
        have nj : ∀ {ids : List Nat}, ¬ New K ops tms σs j ids := fun ⟨_, h⟩ => by cases did_det h hdj
        have link : ∀ id m, m ≤ ops.size → (m = k ∨ (k < m ∧ m ≤ j)) → (∀ q ids, min m j ≤ q → New K ops tms σs q ids → id ≠ (σs q).length) → (σs m)[id]? = (σs j)[id]? := fun id m hm hmk hq => by
          rcases Nat.le_total m j with hmj | hmj
          · refine (row_chain hC hR j hmj (by omega) (fun q h1 h2 ⟨f', ks, hd⟩ => ?_) fun q ids h1 _ hd => hq q ids (by omega) hd).symm
            have := (hkc q ⟨f', ks, hd⟩).1 (lo q _ h2 hd (by simp))
            rcases hmk with rfl | h <;> omega
          · refine row_chain hC hR m hmj hm (fun q h1 h2 ⟨f', ks, hd⟩ => ?_) fun q ids h1 _ hd => hq q ids (by omega) hd
            refine hi q _ h1 hd (by simp) ((hkc q ⟨f', ks, hd⟩).2 ?_)
            rcases hmk with rfl | h <;> omega
        have hsub : H.τ = view (σs j) := by
          funext id
          simp only [view]
          by_cases hc : ∃ p ids, New K ops tms σs p ids ∧ id = (σs p).length
          · obtain ⟨p, ids, hd, rfl⟩ := hc
            have hps := (row_new hR hd).1
            rcases Nat.lt_trichotomy p j with h | h | h
            · rw [hT.did p ids hd (by obtain ⟨n', hd'⟩ := hd; exact lo p _ h hd' (by simp))]
              refine link _ _ (by omega) ?_ fun q ids' hq hd' => ?_
              · rcases Nat.lt_or_ge k (p + 1) with h1 | h1
                · exact .inr ⟨by omega, by omega⟩
                · exact .inl (by omega)
              · have := row_lt hC hR hd (q := q) (by omega) (Nat.le_of_lt (row_new hR hd').1); omega
            · subst h; exact (nj hd).elim
            · rw [hT.not p ids hd (by obtain ⟨n', hd'⟩ := hd; exact hi p _ (by omega) hd' (by simp))]
              exact (List.getElem?_eq_none (row_le hC hR p (by omega) (by omega))).symm
          · have hc' : ∀ p ids, New K ops tms σs p ids → id ≠ (σs p).length := fun p ids hd e => hc ⟨p, ids, hd, e⟩
            rw [hT.old id hc']
            exact link id k hkM (.inl rfl) fun q ids _ hd => hc' q ids hd
        refine operX_wp hC hop hsub hI.hr hops fun u H' q1 q2 q3 q4 => hn _ H' ⟨hs', hcl, ⟨j + 1, hjs, fun p hpc => ?_, ?_⟩, q2, hI.ext.trans q3, by rw [put_defers]; exact hI.dfr, inv_tmp hR hk hI hp hj ho q3.toVExt q1 htm⟩
        · obtain ⟨f', m', hm'⟩ := hpc
          rw [L_set hsz]
          constructor
          · rintro (rfl | h)
            · omega
            · rcases Nat.lt_or_ge p j with h' | h'
              · omega
              · exact (hi p _ h' hm' (by simp) h).elim
          · intro h
            by_cases hpj : p = j
            · exact .inl hpj
            · exact .inr (lo p _ (by omega) hm' (by simp))
        · rw [q4]
          refine ⟨fun p ids' hd hlp => ?_, fun p ids' hd hlp => ?_, fun id hid => rfl⟩
          · have hpj : p ≠ j := fun e => by subst e; exact nj hd
            have : p < j := by
              rcases Nat.lt_or_gt_of_ne hpj with h | h
              · exact h
              · obtain ⟨n', hd'⟩ := hd; exact (hi p _ (by omega) hd' (by simp) ((lset p hpj).1 hlp)).elim
            rw [show max (j + 1) (p + 1) = j + 1 by omega]
            rfl
          · have hpj : p ≠ j := fun e => by subst e; exact nj hd
            have : j < p := by
              rcases Nat.lt_or_gt_of_ne hpj with h | h
              · obtain ⟨n', hd'⟩ := hd; exact (hlp ((lset p hpj).2 (lo p _ h hd' (by simp)))).elim
              · exact h
            simp only [view]
            exact List.getElem?_eq_none (row_le hC hR p (by omega) (by have := (row_new hR hd).1; omega))
  · have hno : ∀ fp, ¬ Did K ops tms σs j fp := fun fp ⟨o', h1, h2, _⟩ => by
      rw [ho] at h1
      obtain rfl := Option.some.inj h1
      rw [hw] at h2
      cases h2
    rw [wanted_spec f1 (by rw [wanted_agree hag]; exact hw)]
    simp only [Bool.false_eq_true, if_false]
    refine hn _ H ⟨hs', hcl, ⟨k, hkM, fun p hpc => ?_, ?_⟩, hI.hr, hI.ext, by rw [put_defers]; exact hI.dfr, inv_tmp hR hk hI hp hj ho (VExt.refl H) (by simp only [V]) htm⟩
    · rw [lset p fun e => by subst e; obtain ⟨_, m, hm⟩ := hpc; exact hno _ hm]; exact hkc p hpc
    · exact ⟨fun p ids' hd hl => hT.did p ids' hd ((lset p fun e => by subst e; obtain ⟨_, hd⟩ := hd; exact hno _ hd).1 hl), fun p ids' hd hl => hT.not p ids' hd fun h => hl ((lset p fun e => by subst e; obtain ⟨_, hd⟩ := hd; exact hno _ hd).2 h), hT.old⟩

theorem inv_done (hC : CallOK K C) (hR : Row K C floor ops tms σs) (hk : regionOk ops = true) (hI : Inv K ops tms σs H0 listed a H) (hr : Region.ready .any ops listed = []) : RS H (tms ops.size) (σs ops.size) a := by
  have all : ∀ j, j < ops.size → L listed j := by
    intro j
    induction j using Nat.strongRecOn with
    | ind j ih =>
      intro hj
      by_cases hl : L listed j
      · exact hl
      · have ho : ops[j]? = some ops[j] := by simp
        have : j ∈ Region.ready .any ops listed := mem_ready.2 ⟨by
            unfold L at hl
            have : j < listed.size := by rw [hI.size]; exact hj
            simp [Array.getD_eq_getD_getElem?, this] at hl ⊢
            exact hl, ops[j], ho, fun e he hb => by
            have h1 := (regionOk_spec hk).1 j _ ho e he hb
            exact ih _ h1 (by omega)⟩
        rw [hr] at this
        cases this
  obtain ⟨tmF, f1, f2, f3⟩ := hI.tmp
  obtain ⟨k, hkM, hkc, hT⟩ := hI.mem
  have e1 : tmF = tms ops.size := by
    apply List.ext_getElem?
    intro t
    by_cases ht : t < tmF.length
    · obtain ⟨i, hi, e, hw⟩ := f3 t ht
      rw [e]
      refine (row_tmp hR ops.size hi (Nat.le_refl _) fun p q h1 h2 hq hd => ?_).symm
      have := (hw p q hq hd).1 (all p h2)
      omega
    · rw [List.getElem?_eq_none (by omega), List.getElem?_eq_none (by rw [row_len hR _ (Nat.le_refl _)]; omega)]
  have e2 : H.τ = view (σs ops.size) := by
    funext id
    simp only [view]
    have link : ∀ m, m ≤ ops.size → k ≤ m → (∀ q ids, m ≤ q → New K ops tms σs q ids → id ≠ (σs q).length) → (σs m)[id]? = (σs ops.size)[id]? := fun m hm hmk hq =>
      (row_chain hC hR _ hm (Nat.le_refl _) (fun p h1 h2 hc => by have := (hkc p hc).1 (all p h2); omega) fun q ids h1 _ hd => hq q ids h1 hd).symm
    by_cases hc : ∃ p ids, New K ops tms σs p ids ∧ id = (σs p).length
    · obtain ⟨p, ids, hd, rfl⟩ := hc
      have hps := (row_new hR hd).1
      rw [hT.did p ids hd (all p hps)]
      exact link _ (by omega) (by omega) fun q ids' hq hd' => by have := row_lt hC hR hd (q := q) (by omega) (Nat.le_of_lt (row_new hR hd').1); omega
    · have hc' : ∀ p ids, New K ops tms σs p ids → id ≠ (σs p).length := fun p ids hd e => hc ⟨p, ids, hd, e⟩
      rw [hT.old id hc']
      exact link k hkM (Nat.le_refl _) fun q ids _ hd => hc' q ids hd
  exact ⟨e1 ▸ f1, hI.dfr, e2, hI.hr⟩

theorem any_ok (hC : CallOK K C) (hR : Row K C floor ops tms σs) (hk : regionOk ops = true) {Q : Exit → Act → World → Prop} (hq : ∀ a' H', RS H' (tms ops.size) (σs ops.size) a' → Ext H0 H' → Q .normal a' H'.w) :
    ∀ (fuel : Nat) (listed : Array Bool) (a : Act) (H : Hp), Inv K ops tms σs H0 listed a H → listed.toList.count false ≤ fuel → wpAny K.P .any ops Q fuel listed a H.w
  | 0, listed, a, H, hI, hc => by
    have hr : Region.ready .any ops listed = [] := by
      cases h : Region.ready .any ops listed with
      | nil => rfl
      | cons j r =>
        have hj : j ∈ Region.ready .any ops listed := by rw [h]; simp
        obtain ⟨hun, o, ho, _⟩ := mem_ready.1 hj
        have hjs : j < ops.size := (Array.getElem?_eq_some_iff.1 ho).1
        have hsz : j < listed.size := by rw [hI.size]; exact hjs
        simp [Array.getD_eq_getD_getElem?, hsz] at hun
        have : false ∈ listed.toList := by rw [← hun]; simp
        have := List.count_pos_iff.2 this
        omega
    exact ⟨hr, hq a H (inv_done hC hR hk hI hr) hI.ext⟩
  | fuel + 1, listed, a, H, hI, hc => by
    refine ⟨fun hr => hq a H (inv_done hC hR hk hI hr) hI.ext, fun j hj => ?_⟩
    refine inv_step hC hR hk hI hj fun a' H' hI' => any_ok hC hR hk hq fuel _ a' H' hI' ?_
    obtain ⟨hun, o, ho, _⟩ := mem_ready.1 hj
    have hjs : j < ops.size := (Array.getElem?_eq_some_iff.1 ho).1
    have hsz : j < listed.size := by rw [hI.size]; exact hjs
    simp [Array.getD_eq_getD_getElem?, hsz] at hun
    rw [Array.toList_setIfInBounds, List.count_set (by simpa using hsz)]
    simp only [Array.getElem_toList, hun, beq_self_eq_true, if_true]
    have : (true == false) = false := rfl
    simp only [this, Bool.false_eq_true, if_false]
    omega
end

end

theorem draw_ok {K : Cfg} (hm : K.P.follows .mixedOrders = true) : DrawOK K := by
  intro C floor hC id ops tm tm' σ σ' H a hk hx ht hs Q hq
  refine wp_region_any hm ?_
  obtain ⟨tms, σs, e1, e2, e3, e4, e5, e6, e7⟩ := row_of_opsX (Region.before ops) ops.toList 0 hx
  have hR : Row K C floor ops tms σs := by
    refine ⟨fun i o ho => e5 i o (by simpa using ho), fun i j f g hij hf hg => ?_⟩
    obtain ⟨oi, h1, h2, h3⟩ := hf
    obtain ⟨oj, g1, g2, g3⟩ := hg
    have := e7 ht i j oi oj hij (by simpa using h1) (by simpa using g1) h2 g2
    rw [h3, g3] at this
    simpa [B] using this
  have hN : ops.toList.length = ops.size := by simp
  rw [hN] at e3 e4
  let H1 : Hp := { H with w := { H.w with drawn := H.w.drawn + 1 } }
  have hx1 : VExt H H1 := ⟨fun id o h => ⟨o, h, by cases o <;> simp [Obj.keeps], fun _ => rfl⟩, fun b h => ⟨h, rfl⟩⟩
  have hE : Ext H H1 := { hx1 with os := rfl, tape := rfl, output := rfl, size := Nat.le_refl _, frame := fun _ _ _ => ⟨rfl, fun z => z⟩, img := fun id o h hd _ hf => hf id o h hd rfl }
  have hr1 : HR H1 := by
    refine ⟨fun id cs cap h => ?_, fun id es h => ?_, hs.hr.inj, hs.hr.z⟩
    · obtain ⟨c, e, fr, h1, h2, h3, h4, h5, h6, h7⟩ := hs.hr.arr id cs cap h
      exact ⟨c, e, fr, h1, h2, h3, h4, h5, h6, Vs_ext hx1 h7⟩
    · obtain ⟨es', clk, h1, h2, h3⟩ := hs.hr.mp id es h
      exact ⟨es', clk, h1, Vs_ext hx1 h2, Vs_ext hx1 h3⟩
  have hL0 : ∀ p, ¬ L (Array.replicate ops.size false) p := fun p => by
    unfold L
    by_cases h : p < ops.size <;> simp [Array.getD_eq_getD_getElem?, h]
  have hI : Inv K ops tms σs H (Array.replicate ops.size false) a H1 := by
    refine ⟨by simp, fun i j h => (hL0 j h).elim, ⟨0, Nat.zero_le _, fun p _ => ⟨fun h => (hL0 p h).elim, fun h => by omega⟩, ⟨fun p _ _ h => (hL0 p h).elim, fun p ids hd _ => ?_, fun id _ => ?_⟩⟩, hr1, hE, hs.dfr, ⟨tm, Vs_ext hx1 hs.tms, by rw [e1], fun t _ => ⟨0, Nat.zero_le _, by rw [e1], fun p _ _ _ => ⟨fun h => (hL0 p h).elim, fun h => by omega⟩⟩⟩⟩
    · show H.τ _ = none
      rw [hs.sub, ← e2]
      exact List.getElem?_eq_none (row_le hC hR p (Nat.zero_le _) (Nat.le_of_lt (row_new hR hd).1))
    · show H.τ id = _
      rw [hs.sub, ← e2]; rfl
  exact any_ok hC hR hk (fun a' H' h1 h2 => hq a' H' (by rw [e3, e4] at h1; exact h1) h2) ops.size _ a H1 hI (by
    rw [Array.toList_replicate, List.count_replicate_self]; exact Nat.le_refl _)

end Go.MT
