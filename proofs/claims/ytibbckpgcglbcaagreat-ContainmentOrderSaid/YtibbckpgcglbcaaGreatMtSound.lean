/-
  What the evaluator says of code is what the model does (1): operations, and regions whose order is the text's.
-/
import Derived.Test.YtibbckpgcglbcaaGreatMtExec
import Derived.Tactics
namespace Go.MT

def view (σ : Store) : Nat → Option Obj := fun id => σ[id]?

theorem app_view {σ : Store} {eff : Eff} {floor : Nat} (h : eff.okFloor floor σ.length = true) : appτ (view σ) σ.length eff = view (σ.app eff) := by
  funext k
  cases eff with
  | none => rfl
  | new o =>
    simp only [appτ, upd, view, Store.app]
    by_cases hk : k = σ.length
    · subst hk; simp
    · rw [if_neg hk, List.getElem?_append]
      split
      · rfl
      · rw [List.getElem?_eq_none (by omega), List.getElem?_eq_none (by simp; omega)]
  | upd id o =>
    simp only [Eff.okFloor, Bool.and_eq_true, decide_eq_true_eq] at h
    simp only [appτ, upd, view, Store.app, List.getElem?_set]
    by_cases hk : k = id
    · subst hk; simp [h.2]
    · simp [hk, Ne.symm hk]
  | move id o =>
    simp only [Eff.okFloor, Bool.and_eq_true, decide_eq_true_eq] at h
    simp only [appτ, upd, view, Store.app]
    by_cases hk : k = σ.length
    · subst hk; simp
    · rw [if_neg hk, List.getElem?_append]
      simp only [List.length_set]
      split
      · rename_i hi
        subst hi
        rw [if_pos h.2, List.getElem?_set_self h.2]
      · rename_i hi
        split
        · rw [List.getElem?_set_ne (Ne.symm hi)]
        · rw [List.getElem?_eq_none (by omega), List.getElem?_eq_none (by simp; omega)]

theorem app_keeps {σ : Store} {eff : Eff} {floor : Nat} (h : eff.okFloor floor σ.length = true) : σ.length ≤ (σ.app eff).length ∧ ∀ id, id < floor → id < σ.length → (σ.app eff)[id]? = σ[id]? := by
  cases eff with
  | none => exact ⟨Nat.le_refl _, fun _ _ _ => rfl⟩
  | new o => exact ⟨by simp [Store.app], fun id _ hl => by simp [Store.app, List.getElem?_append, hl]⟩
  | upd i o =>
    simp only [Eff.okFloor, Bool.and_eq_true, decide_eq_true_eq] at h
    exact ⟨by simp [Store.app], fun id hf _ => by simp only [Store.app, List.getElem?_set]; rw [if_neg (by omega)]⟩
  | move i o =>
    simp only [Eff.okFloor, Bool.and_eq_true, decide_eq_true_eq] at h
    exact ⟨by simp [Store.app], fun id hf hl => by simp only [Store.app]; rw [List.getElem?_append_left (by simpa using hl), List.getElem?_set, if_neg (by omega)]⟩

/-- what is asked of calls -/
def CallOK (K : Cfg) (C : CallT) : Prop := ∀ floor f args σ v σ', C floor f args σ = some (v, σ') →
  (σ.length ≤ σ'.length ∧ ∀ id, id < (if K.pol f = 0 ∨ K.pol f = 1 then σ.length else floor) → id < σ.length → σ'[id]? = σ[id]?) ∧
  ∀ (H : Hp) (as : Array Value), H.τ = view σ → HR H → Vs H args as.toList →
    (∃ fn c, K.P.funcs[f]? = some fn ∧ fn.body = some c ∧ fn.name ≠ "runtime.NumGoroutine" ∧
      Calls K.P f as H.w fun e w' => ∃ u H', e = .returned u ∧ Hp.w H' = w' ∧ V H' v u ∧ HR H' ∧ Ext H H' ∧ H'.τ = view σ') ∨
    (∃ u, (callFunc f as).run K.P H.w = .ok (.value u) H.w ∧ V H v u ∧ σ' = σ)

mutual
theorem V_still {H : Hp} : ∀ {p : PV} {u : Value}, p.still = true → V H p u → V H.bare p u
  | .ptr .., _, h, _ => by simp [PV.still] at h
  | .ref .., _, h, _ => by simp [PV.still] at h
  | .map _, _, h, _ => by simp [PV.still] at h
  | .fn f a b, u, h, hv => by
    simp only [PV.still, Bool.and_eq_true] at h
    simp only [V] at hv ⊢
    obtain ⟨us, us', e, h1, h2⟩ := hv
    exact ⟨us, us', e, Vs_still h.1 h1, Vs_still h.2 h2⟩
  | .agg cs, u, h, hv => by
    simp only [PV.still] at h
    simp only [V] at hv ⊢
    obtain ⟨us, e, h1⟩ := hv
    exact ⟨us, e, Vs_still h h1⟩
  | .tup cs, u, h, hv => by
    simp only [PV.still] at h
    simp only [V] at hv ⊢
    obtain ⟨us, e, h1⟩ := hv
    exact ⟨us, e, Vs_still h h1⟩
  | .int .., _, _, hv => by simpa only [V] using hv
  | .bool _, _, _, hv => by simpa only [V] using hv
  | .str _, _, _, hv => by simpa only [V] using hv
  | .frz _, _, _, hv => by simp only [V] at hv ⊢; exact hv
  | .nilptr, _, _, hv => by simpa only [V] using hv
  | .lst .., _, _, hv => by simp only [V] at hv ⊢; exact hv
  | .nilslice, _, _, hv => by simpa only [V] using hv
  | .nilfn, _, _, hv => by simpa only [V] using hv
  | .nilmap, _, _, hv => by simpa only [V] using hv
  | .undef, _, _, hv => by simp only [V]
  | .gone, _, _, hv => by simpa only [V] using hv
theorem Vs_still {H : Hp} : ∀ {cs : List PV} {us : List Value}, stills cs = true → Vs H cs us → Vs H.bare cs us
  | [], _, _, h => by simpa only [Vs] using h
  | c :: cs, us, hs, h => by
    simp only [stills, Bool.and_eq_true] at hs
    simp only [Vs] at h ⊢
    obtain ⟨u, r, e, h1, h2⟩ := h
    exact ⟨u, r, e, V_still hs.1 h1, Vs_still hs.2 h2⟩
end

theorem HR.bare {H : Hp} (h : HR H) : HR H.bare :=
  ⟨fun _ _ _ e => (by simp [Hp.bare] at e), fun _ _ e => by simp [Hp.bare] at e, fun _ _ _ _ e => by simp [Hp.bare] at e, fun b hb => ⟨(h.z b hb).1, fun _ _ e => by simp [Hp.bare] at e⟩⟩

theorem HR.live {H : Hp} (h : HR H) {id : Nat} {o : Obj} (ho : H.τ id = some o) (hd : o ≠ .dead) : (H.ρ id).blk < H.w.heap.size := by
  cases o with
  | arr cs cap => obtain ⟨c, e, fr, h1, _⟩ := h.arr id cs cap ho; exact (Array.getElem?_eq_some_iff.1 h1).1
  | mp es => obtain ⟨es', clk, h1, _⟩ := h.mp id es ho; exact (Array.getElem?_eq_some_iff.1 h1).1
  | dead => exact (hd rfl).elim

/-- what a call did beside the store, with the store back -/
theorem unbare {H H' : Hp} (hr : HR H) (hr' : HR H') (hx : Ext H.bare H') (hτ : ∀ id, H'.τ id = none) :
    HR { H' with τ := H.τ, ρ := H.ρ } ∧ Ext H { H' with τ := H.τ, ρ := H.ρ } ∧ VExt H' { H' with τ := H.τ, ρ := H.ρ } := by
  have fr : ∀ b, b < H.w.heap.size → H'.w.heap[b]? = H.w.heap[b]? ∧ (H'.Z b → H.Z b) := fun b hb => hx.frame b hb fun id o e => by simp [Hp.bare] at e
  have lt : ∀ id o, H.τ id = some o → o ≠ .dead → (H.ρ id).blk < H.w.heap.size := fun id o ho hd => hr.live ho hd
  have v1 : VExt H { H' with τ := H.τ, ρ := H.ρ } := ⟨fun id o ho => ⟨o, ho, by cases o <;> simp [Obj.keeps], fun _ => rfl⟩, fun b hb => hx.z b hb⟩
  refine ⟨⟨fun id cs cap ho => ?_, fun id es ho => ?_, hr.inj, fun b hb => ⟨(hr'.z b hb).1, fun id o ho hd he => ?_⟩⟩, { v1 with os := hx.os, tape := hx.tape, output := hx.output, size := hx.size, frame := fun b hb _ => fr b hb, img := fun id o h hd _ hf => hf id o h hd rfl }, ⟨fun id o ho => (by rw [hτ] at ho; cases ho), fun b hb => ⟨hb, rfl⟩⟩⟩
  · obtain ⟨c, e, f, h1, h2, h3, h4, h5, h6, h7⟩ := hr.arr id cs cap ho
    exact ⟨c, e, f, by rw [← h1]; exact (fr _ (lt id _ ho (by simp))).1, h2, h3, h4, h5, h6, Vs_ext v1 h7⟩
  · obtain ⟨es', clk, h1, h2, h3⟩ := hr.mp id es ho
    exact ⟨es', clk, by rw [← h1]; exact (fr _ (lt id _ ho (by simp))).1, Vs_ext v1 h2, Vs_ext v1 h3⟩
  · have := lt id o ho hd
    rw [show ({ H' with τ := H.τ, ρ := H.ρ } : Hp).ρ id = H.ρ id from rfl] at he
    rw [he] at this
    exact (hr.z b ((fr b this).2 hb)).2 id o ho hd he

theorem view_nil : view [] = fun _ => none := by funext id; simp [view]

/-- the call answers v, whatever the store, and leaves the store alone -/
def SumOK (P : Program) (f : FuncId) (args : List PV) (v : PV) : Prop := ∀ (H : Hp) (as : Array Value), HR H → Vs H args as.toList →
  (∃ fn c, P.funcs[f]? = some fn ∧ fn.body = some c ∧ fn.name ≠ "runtime.NumGoroutine" ∧
    Calls P f as H.w fun e w' => ∃ u H', e = .returned u ∧ Hp.w H' = w' ∧ V H' v u ∧ HR H' ∧ Ext H H' ∧ H'.τ = H.τ) ∨
  (∃ u, (callFunc f as).run P H.w = .ok (.value u) H.w ∧ V H v u)
/-- what is known of a call in a store -/
def SumAt (P : Program) (f : FuncId) (args : List PV) (σ : Store) (v : PV) : Prop := ∀ (H : Hp) (as : Array Value), H.τ = view σ → HR H → Vs H args as.toList →
  (∃ fn c, P.funcs[f]? = some fn ∧ fn.body = some c ∧ fn.name ≠ "runtime.NumGoroutine" ∧
    Calls P f as H.w fun e w' => ∃ u H', e = .returned u ∧ Hp.w H' = w' ∧ V H' v u ∧ HR H' ∧ Ext H H' ∧ H'.τ = H.τ) ∨
  (∃ u, (callFunc f as).run P H.w = .ok (.value u) H.w ∧ V H v u)
theorem SumOK.at {P : Program} {f : FuncId} {args : List PV} {v : PV} (h : SumOK P f args v) (σ : Store) : SumAt P f args σ v := fun H as _ hr hv => h H as hr hv
/-- an answer out of an empty store is known of the call, whatever the store -/
theorem sum_of_run {K : Cfg} {C : CallT} (hC : CallOK K C) {fl : Nat} {f : FuncId} {args : List PV} {v : PV} (h : C fl f args [] = some (v, [])) (hs : stills args = true) : SumOK K.P f args v := by
  intro H as hr hv
  rcases (hC _ _ _ _ _ _ h).2 H.bare as (by rw [view_nil]; rfl) hr.bare (Vs_still hs hv) with ⟨fn, c, h1, h2, h3, h4⟩ | ⟨u, h1, h2, _⟩
  · refine .inl ⟨fn, c, h1, h2, h3, Calls.mono h4 ?_⟩
    rintro e w' ⟨u, H', rfl, rfl, q1, q2, q3, q4⟩
    obtain ⟨k1, k2, k3⟩ := unbare hr q2 q3 (fun id => by rw [q4, view_nil])
    exact ⟨u, { H' with τ := H.τ, ρ := H.ρ }, rfl, rfl, V_ext k3 q1, k1, k2, rfl⟩
  · exact .inr ⟨u, h1, V_ext (H := H.bare) (H' := H) ⟨fun id o e => (by simp [Hp.bare] at e), fun b hb => ⟨hb, rfl⟩⟩ h2⟩

section
variable {K : Cfg} {C : CallT} {floor : Nat} {H : Hp} {o : Oper} {a : Act} {tm : Tmps} {σ σ' : Store} {v : PV}

theorem operX_keeps (hC : CallOK K C) (h : operX K C floor o tm σ = some (v, σ')) : σ.length ≤ σ'.length ∧ ∀ id, id < floor → id < σ.length → σ'[id]? = σ[id]? := by
  unfold operX at h
  split at h
  · split at h
    · rename_i f first cap _
      split at h
      · split at h
        · obtain ⟨rfl, rfl⟩ : _ = v ∧ σ = σ' := by simpa using h
          exact ⟨Nat.le_refl _, fun _ _ _ => rfl⟩
        · cases h
      · obtain ⟨⟨h1, h2⟩, _⟩ := hC _ _ _ _ _ _ h
        refine ⟨h1, fun id hf hl => h2 id ?_ hl⟩
        split <;> assumption
    · cases h
  · split at h
    · split at h
      · rename_i hok
        obtain ⟨rfl, rfl⟩ : _ = v ∧ _ = σ' := by simpa using h
        exact app_keeps hok
      · cases h
    · cases h

theorem operX_wp (hC : CallOK K C) (h : operX K C floor o tm σ = some (v, σ')) (hsub : H.τ = view σ) (hr : HR H) (hv : Opnds H tm a o.op) {next : Act → World → Prop} {Q : Exit → Act → World → Prop}
    (hk : ∀ u H', V H' v u → HR H' → Ext H H' → H'.τ = view σ' → next (a.put o.dst u) H'.w) : o.wp K.P a H.w next Q := by
  unfold operX at h
  split at h
  · rename_i fo args ats hop
    have mem : ∀ x, x ∈ o.op.operands.toList → V H (evalO tm x) (a.eval x) := hv
    rw [hop] at mem
    have hf := mem fo (by simp [Op.operands, Call.operands])
    split at h
    · rename_i f first cap hfo
      rw [hfo] at hf
      simp only [V] at hf
      obtain ⟨us, us', haf, h1, h2⟩ := hf
      have hargs : Vs H (first ++ args.toList.map (evalO tm) ++ cap) (us ++ args.map a.eval ++ us').toList := by
        simp only [Array.toList_append, Array.toList_map]
        exact Vs_append (Vs_append h1 (Vs_map _ _ _ fun x hx => mem x (by simp [Op.operands, Call.operands]; exact .inr (by simpa using hx)))) h2
      have hrun : (execOp a.eval o).run K.P H.w = (callFunc f (us ++ args.map a.eval ++ us')).run K.P H.w := by
        simp only [execOp, hop, resolve, Sem.run_bind, haf, Deferred.ofValue, Sem.run_pure, Result.andThen_ok, invoke]
      have hsem : (∃ fn c, K.P.funcs[f]? = some fn ∧ fn.body = some c ∧ fn.name ≠ "runtime.NumGoroutine" ∧
          Calls K.P f (us ++ args.map a.eval ++ us') H.w fun e w' => ∃ u H', e = .returned u ∧ Hp.w H' = w' ∧ V H' v u ∧ HR H' ∧ Ext H H' ∧ H'.τ = view σ') ∨
          (∃ u, (callFunc f (us ++ args.map a.eval ++ us')).run K.P H.w = .ok (.value u) H.w ∧ V H v u ∧ σ' = σ) := by
        split at h
        · rename_i hst
          split at h
          · rename_i v' h'
            obtain ⟨rfl, rfl⟩ : v' = v ∧ σ = σ' := by simpa using h
            rcases sum_of_run hC h' hst.2 H _ hr hargs with ⟨fn, c, q1, q2, q3, q4⟩ | ⟨u, q1, q2⟩
            · refine .inl ⟨fn, c, q1, q2, q3, Calls.mono q4 ?_⟩
              rintro e w' ⟨u, H', p1, p2, p3, p4, p5, p6⟩
              exact ⟨u, H', p1, p2, p3, p4, p5, by rw [p6, hsub]⟩
            · exact .inr ⟨u, q1, q2, rfl⟩
          · cases h
        · exact (hC _ _ _ _ _ _ h).2 H _ hsub hr hargs
      rcases hsem with ⟨fn, c, hfn, hb, hng, hcalls⟩ | ⟨u, hu, hvu, rfl⟩
      · have hcf : (callFunc f (us ++ args.map a.eval ++ us')).run K.P H.w = .ok (.enter f (us ++ args.map a.eval ++ us')) H.w := by
          simp [callFunc, hfn, hb, hng]
        unfold Oper.wp
        rw [hrun, hcf, Oper.upon_enter]
        refine Calls.mono hcalls ?_
        rintro e w' ⟨u, H', rfl, rfl, q1, q2, q3, q4⟩
        exact hk u H' q1 q2 q3 q4
      · unfold Oper.wp
        rw [hrun, hu, Oper.upon_value]
        exact hk u H hvu hr (Ext.refl H) hsub
    · cases h
  · rename_i op hnc
    split at h
    · rename_i v' eff hp
      split at h
      · rename_i hok
        obtain ⟨rfl, rfl⟩ : _ = v ∧ _ = σ' := by simpa using h
        have hp' : primOp K.P H.τ σ.length o.op tm = some (v', eff) := by rw [hsub]; exact hp
        obtain ⟨nx, H', h1, h2, h3, h4, h5⟩ := prim_sound (a := a) hr (by rw [hsub]; simp [view]) hv hp'
        rw [hsub, app_view hok] at h5
        unfold Oper.wp
        rw [h1]
        rcases h2 with ⟨u, rfl, hu⟩ | ⟨rfl, rfl⟩
        · rw [Oper.upon_value]; exact hk u H' hu h3 h4 h5
        · rw [Oper.upon_skip]; exact hk undef H' (by simp [V]) h3 h4 h5
      · cases h
    · cases h

theorem Vs_set {tm : List PV} {us : List Value} (h : Vs H tm us) (d : Nat) {u : Value} (hv : V H v u) : Vs H (tm.set d v) (us.set d u) := by
  refine Vs_mk (by simp [Vs_length h]) fun k hk => ?_
  simp only [List.length_set] at hk
  obtain ⟨u', h1, h2⟩ := Vs_get h k hk
  by_cases hd : d = k
  · subst hd
    refine ⟨u, ?_, by simpa using hv⟩
    rw [List.getElem?_set_self (by rw [Vs_length h]; exact hk)]
  · exact ⟨u', by rw [List.getElem?_set_ne hd]; exact h1, by rw [List.getElem_set_ne hd]; exact h2⟩

theorem Vs_put (h : Vs H tm a.tmps.toList) (dst : Option Tmp) {u : Value} (hv : V H v u) : Vs H (put dst v tm) (a.put dst u).tmps.toList := by
  cases dst with
  | none => exact h
  | some d => simp only [put, Act.put, Array.toList_setIfInBounds]; exact Vs_set h d hv

theorem put_defers (dst : Option Tmp) (u : Value) : (a.put dst u).defers = a.defers := by cases dst <;> rfl

/-- the frame's state -/
structure RS (H : Hp) (tm : Tmps) (σ : Store) (a : Act) : Prop where
  tms : Vs H tm a.tmps.toList
  dfr : a.defers = []
  sub : H.τ = view σ
  hr : HR H

theorem RS.opnds (h : RS H tm σ a) (op : Op) : Opnds H tm a op := fun x _ => V_evalO h.tms x

theorem wanted_spec {ops : Array Oper} (h : Vs H tm a.tmps.toList) {b : Bool} (hg : wantedX ops o tm = some b) : Region.wanted o (yielded ops a.tmps) = b := by
  unfold Region.wanted
  unfold wantedX at hg
  split at hg
  · rename_i hj
    rw [hj]
    exact Option.some.inj hg
  · rename_i j want hj
    rw [hj]
    simp only []
    split at hg
    · rename_i t ht
      split at hg
      · rename_i b' hb
        obtain rfl := Option.some.inj hg
        obtain ⟨hlt, hb⟩ := List.getElem?_eq_some_iff.1 hb
        obtain ⟨u, h1, h2⟩ := Vs_get h t hlt
        rw [hb] at h2
        simp only [V] at h2
        subst h2
        rw [Array.getElem?_toList] at h1
        simp [yielded, ht, h1]
      · rename_i hb
        obtain rfl := Option.some.inj hg
        obtain ⟨hlt, hb⟩ := List.getElem?_eq_some_iff.1 hb
        obtain ⟨u, h1, h2⟩ := Vs_get h t hlt
        rw [hb] at h2
        simp only [V] at h2
        subst h2
        rw [Array.getElem?_toList] at h1
        simp [yielded, ht, h1, undef]
      · cases hg
    · cases hg

/-- a region in the text's order -/
theorem opsX_wp {K : Cfg} {C : CallT} {floor : Nat} (hC : CallOK K C) {ops : Array Oper} {Q : Exit → Act → World → Prop} : ∀ (l : List Oper) {tm tm' : Tmps} {σ σ' : Store} {H : Hp} {a : Act},
    opsX K C floor ops l tm σ = some (tm', σ') → RS H tm σ a →
    (∀ a' H', RS H' tm' σ' a' → Ext H H' → Q .normal a' H'.w) → wpList K.P ops Q l a H.w
  | [], tm, tm', σ, σ', H, a, h, hs, hq => by
    simp only [opsX] at h
    obtain ⟨rfl, rfl⟩ : tm = tm' ∧ σ = σ' := by simpa using h
    exact hq a H hs (Ext.refl H)
  | o :: rest, tm, tm', σ, σ', H, a, h, hs, hq => by
    simp only [opsX] at h
    unfold wpList
    split at h
    · rename_i hw
      rw [wanted_spec hs.tms hw, if_pos rfl]
      left
      split at h
      · rename_i v σ1 ho
        refine operX_wp hC ho hs.sub hs.hr (hs.opnds _) fun u H' q1 q2 q3 q4 => ?_
        have hs' : RS H' (put o.dst v tm) σ1 (a.put o.dst u) := ⟨Vs_put (Vs_ext q3.toVExt hs.tms) _ q1, by rw [put_defers]; exact hs.dfr, q4, q2⟩
        exact opsX_wp hC rest h hs' fun a' H'' r1 r2 => hq a' H'' r1 (q3.trans r2)
      · cases h
    · rename_i hw
      rw [wanted_spec hs.tms hw]
      simp only [Bool.false_eq_true, if_false]
      have hs' : RS H (put o.dst .gone tm) σ (a.put o.dst undef) := ⟨Vs_put hs.tms _ (by simp only [V]), by rw [put_defers]; exact hs.dfr, hs.sub, hs.hr⟩
      exact opsX_wp hC rest h hs' hq
    · cases h

theorem opsX_keeps {K : Cfg} {C : CallT} {floor : Nat} (hC : CallOK K C) {ops : Array Oper} : ∀ (l : List Oper) {tm tm' : Tmps} {σ σ' : Store}, opsX K C floor ops l tm σ = some (tm', σ') →
    σ.length ≤ σ'.length ∧ ∀ id, id < floor → id < σ.length → σ'[id]? = σ[id]?
  | [], tm, tm', σ, σ', h => by
    simp only [opsX] at h
    obtain ⟨rfl, rfl⟩ : tm = tm' ∧ σ = σ' := by simpa using h
    exact ⟨Nat.le_refl _, fun _ _ _ => rfl⟩
  | o :: rest, tm, tm', σ, σ', h => by
    simp only [opsX] at h
    split at h
    · split at h
      · rename_i v σ1 ho
        obtain ⟨h1, h2⟩ := operX_keeps hC ho
        obtain ⟨h3, h4⟩ := opsX_keeps hC rest h
        exact ⟨Nat.le_trans h1 h3, fun id hf hl => by rw [h4 id hf (Nat.lt_of_lt_of_le hl h1), h2 id hf hl]⟩
      · cases h
    · exact opsX_keeps hC rest h
    · cases h

end
end Go.MT
