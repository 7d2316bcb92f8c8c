/-
  Operations one by one (2): aggregates built, operators, conversions, addresses.
-/
import Derived.Test.YtibbckpgcglbcaaGreatMtOps1
import Derived.Laws.BytesString
namespace Go.MT

section
variable {P : Program} {H : Hp} {o : Oper} {a : Act} {tm : Tmps} {n : Nat} {v : PV} {eff : Eff}

theorem foldSet_spec (off : Nat) : ∀ (l : List Value) (k : Nat) (cells : Array Value), off + k + l.length ≤ cells.size →
    ((l.zipIdx k).foldl (fun (cs : Array Value) (p : Value × Nat) => cs.setIfInBounds (off + p.2) p.1) cells).toList = cells.toList.take (off + k) ++ l ++ cells.toList.drop (off + k + l.length)
  | [], k, cells, h => by simp
  | x :: l, k, cells, h => by
    simp only [List.length_cons] at h
    simp only [List.zipIdx_cons, List.foldl_cons]
    rw [foldSet_spec off l (k + 1) _ (by simp; omega)]
    simp only [Array.toList_setIfInBounds, List.length_cons]
    rw [show off + (k + 1) = (off + k) + 1 by omega, List.take_set, List.drop_set_of_lt (by omega), List.take_add_one]
    have hlt : off + k < cells.toList.length := by simp; omega
    rw [List.getElem?_eq_getElem hlt, Option.toList_some, List.set_append_right _ _ (by simp; omega)]
    simp at hlt
    simp [Nat.min_eq_left (Nat.le_of_lt hlt), Nat.add_assoc, Nat.add_comm 1]

theorem fill_spec {place : Nat → Option (Nat × Nat)} : ∀ (ps : List (Nat × Operand)) {cells r : List PV} {cs : Array Value},
    setParts place cells (ps.map fun p => (p.1, evalO tm p.2)) = some r → Vs H cells cs.toList → (∀ i x, (i, x) ∈ ps → V H (evalO tm x) (a.eval x)) →
    ∃ cs', Instr.fill place cs (ps.map fun p => (p.1, a.eval p.2)) = some cs' ∧ Vs H r cs'.toList ∧ ((∀ x ∈ cells, x.leaf = true) → ∀ x ∈ r, x.leaf = true)
  | [], cells, r, cs, h, hv, _ => by
    simp only [List.map_nil, setParts] at h
    obtain rfl := Option.some.inj h
    exact ⟨cs, rfl, hv, fun h => h⟩
  | (i, x) :: ps, cells, r, cs, h, hv, hx => by
    simp only [List.map_cons, setParts] at h
    split at h
    · cases h
    · rename_i off size hp
      split at h
      · rename_i hc
        obtain ⟨h1, h2, h3⟩ := hc
        have hvs := V_cells (hx i x (by simp)) h3
        have hlen := Vs_length hvs
        have hl2 := Vs_length hv
        simp only [Array.length_toList] at hlen hl2
        simp only [List.map_cons, Instr.fill, hp]
        have hbad : ¬ ((a.eval x).cells.size ≠ size ∨ off + (a.eval x).cells.size > cs.size) := by
          omega
        rw [if_neg (by simpa using hbad)]
        have hf := foldSet_spec off (a.eval x).cells.toList 0 cs (by simp; omega)
        have e1 : ((a.eval x).cells.zipIdx.foldl (fun (cs : Array Value) (p : Value × Nat) => cs.setIfInBounds (off + p.2) p.1) cs).toList =
            cs.toList.take off ++ (a.eval x).cells.toList ++ cs.toList.drop (off + (a.eval x).cells.toList.length) := by
          rw [← Array.foldl_toList, Array.toList_zipIdx]
          simpa using hf
        obtain ⟨cs', k1, k2, k3⟩ := fill_spec ps (cs := (a.eval x).cells.zipIdx.foldl (fun (cs : Array Value) (p : Value × Nat) => cs.setIfInBounds (off + p.2) p.1) cs) h (by
          rw [e1]
          simp only [splice, Array.length_toList, hlen]
          exact Vs_append (Vs_append (Vs_take hv off) hvs) (Vs_drop hv _)) (fun i x hm => hx i x (by simp [hm]))
        refine ⟨cs', k1, k2, fun hl => k3 fun y hy => ?_⟩
        simp only [splice, List.mem_append] at hy
        rcases hy with (hy | hy) | hy
        · exact hl y (List.mem_of_mem_take hy)
        · simp only [List.all_eq_true] at h3; exact h3 y hy
        · exact hl y (List.mem_of_mem_drop hy)
      · cases h

theorem run_places {w : World} : ∀ (l : List Field) {pl : List (Nat × Nat)}, placesT P l = some pl → (l.mapM fun (f : Field) => (do pure (f.offset, ← sizeOf f.type) : Sem (Nat × Nat))).run P w = .ok pl w
  | [], pl, h => by simp [placesT] at h; subst h; simp
  | f :: l, pl, h => by
    simp only [placesT] at h
    split at h
    · rename_i s r hs hr
      obtain rfl := Option.some.inj h
      have ih := run_places l hr (w := w)
      rw [List.mapM_cons]
      simp only [Sem.run_bind, run_sizeT hs, Result.andThen_ok, Sem.run_pure, ih]
    · cases h

theorem ok_build {t : TypeId} {parts : Array (Nat × Operand)} (ho : o.op = .build t parts) (hr : HR H) (hx : ∀ i x, (i, x) ∈ parts.toList → V H (evalO tm x) (a.eval x))
    (h : primOp P H.τ n (.build t parts) tm = some (v, eff)) : OpOk P H o a n v eff := by
  simp only [primOp] at h
  split at h
  · rename_i fs z hu hz
    obtain ⟨zv, z1, z2, z3, z4⟩ := run_zeroT (w := H.w) (H := H) hz
    split at h
    · rename_i pl hpl
      rw [Option.map_eq_some_iff] at h
      obtain ⟨r, h, he⟩ := h
      obtain ⟨rfl, rfl⟩ : _ = v ∧ _ = eff := by simpa using he
      obtain ⟨cs', k1, k2, _⟩ := fill_spec (a := a) parts.toList h z3 hx
      refine OpOk.val' hr (u := .agg cs') ?_ (by simp only [V]; exact ⟨cs', rfl, k2⟩)
      have hp := run_places (w := H.w) fs.toList hpl
      simp only [execOp, ho, Instr.build, Sem.run_bind, z1, Result.andThen_ok, run_und hu]
      obtain ⟨fl⟩ := fs
      have hpp : (parts.map fun (p : Nat × Operand) => match p with | (i, x) => (i, a.eval x)).toList = parts.toList.map fun p => (p.1, a.eval p.2) := by simp
      simp only [List.mapM_toArray, Sem.run_map, hp, Result.andThen_ok, hpp]
      have : (fun (i : Nat) => pl.toArray[i]?) = fun i => pl[i]? := by funext i; simp
      rw [this, k1]
      simp
    · cases h
  · rename_i len e z hu hz
    obtain ⟨zv, z1, z2, z3, z4⟩ := run_zeroT (w := H.w) (H := H) hz
    split at h
    · rename_i s hs
      rw [Option.map_eq_some_iff] at h
      obtain ⟨r, h, he⟩ := h
      obtain ⟨rfl, rfl⟩ : _ = v ∧ _ = eff := by simpa using he
      obtain ⟨cs', k1, k2, _⟩ := fill_spec (a := a) parts.toList h z3 hx
      refine OpOk.val' hr (u := .agg cs') ?_ (by simp only [V]; exact ⟨cs', rfl, k2⟩)
      simp only [execOp, ho, Instr.build, Sem.run_bind, z1, Result.andThen_ok, run_und hu, run_sizeT hs]
      have hpp : (parts.map fun (p : Nat × Operand) => match p with | (i, x) => (i, a.eval x)).toList = parts.toList.map fun p => (p.1, a.eval p.2) := by simp
      rw [hpp, k1]
      simp
    · cases h
  · cases h

theorem ok_nilCheck {x : Operand} (ho : o.op = .nilCheck x) (hr : HR H) (hx : V H (evalO tm x) (a.eval x)) (h : primOp P H.τ n (.nilCheck x) tm = some (v, eff)) : OpOk P H o a n v eff := by
  simp only [primOp] at h
  split at h
  · rename_i id off hp
    split at h
    · rename_i cs cap ht
      obtain ⟨rfl, rfl⟩ : _ = v ∧ _ = eff := by simpa using h
      rw [hp] at hx
      have hx' := hx
      simp only [V] at hx
      obtain ⟨_, ob, hob, hl⟩ := hx
      rw [ht] at hob
      obtain rfl := Option.some.inj hob
      obtain ⟨_, hav⟩ := hl (by simp)
      exact OpOk.val' hr (u := a.eval x) (by simp [execOp, ho, hav]) hx'
    · cases h
  · rename_i cs hp
    obtain ⟨rfl, rfl⟩ : _ = v ∧ _ = eff := by simpa using h
    rw [hp] at hx
    have hx' := hx
    simp only [V] at hx
    obtain ⟨b, of, us, hav, _⟩ := hx
    exact OpOk.val' hr (u := a.eval x) (by simp [execOp, ho, hav]) hx'
  · rename_i f fa ca hp
    obtain ⟨rfl, rfl⟩ : _ = v ∧ _ = eff := by simpa using h
    rw [hp] at hx
    have hx' := hx
    simp only [V] at hx
    obtain ⟨us, us', hav, _⟩ := hx
    exact OpOk.val' hr (u := a.eval x) (by simp [execOp, ho, hav]) hx'
  · cases h

theorem eqT_shape {d : Nat} {t : TypeId} {x y : PV} {u : Value} {r : Bool} (h : eqT P d t x y = some r) (hx : V H x u) (h1 : ∀ k m, x ≠ .int k m) (h2 : ∀ s, x ≠ .str s) (h3 : ∀ cs, x ≠ .agg cs) :
    (∃ b, u = .bool b) ∨ (∃ p, u = .pointer p) ∨ (∃ p l c, u = .slice p l c) ∨ u = .nilFunc ∨ (∃ f p q, u = .func f p q) := by
  cases d with
  | zero => simp [eqT] at h
  | succ d =>
    unfold eqT at h
    cases x with
    | int k m => exact (h1 _ _ rfl).elim
    | str s => exact (h2 _ rfl).elim
    | agg cs => exact (h3 _ rfl).elim
    | bool b => simp only [V] at hx; exact .inl ⟨b, hx⟩
    | frz cs => simp only [V] at hx; obtain ⟨b, o, us, hu, _⟩ := hx; exact .inr (.inl ⟨_, hu⟩)
    | nilptr => simp only [V] at hx; exact .inr (.inl ⟨_, hx⟩)
    | lst tight sz n cs => simp only [V] at hx; obtain ⟨b, o, c, us, hu, _⟩ := hx; exact .inr (.inr (.inl ⟨_, _, _, hu⟩))
    | nilslice => simp only [V] at hx; exact .inr (.inr (.inl ⟨_, _, _, hx⟩))
    | fn f first cap => simp only [V] at hx; obtain ⟨us, us', hu, _⟩ := hx; exact .inr (.inr (.inr (.inr ⟨_, _, _, hu⟩)))
    | nilfn => simp only [V] at hx; exact .inr (.inr (.inr (.inl hx)))
    | _ => split at h <;> simp_all

theorem eqT_guard {d : Nat} {t : TypeId} {x y : PV} {u u' : Value} {r : Bool} (h : eqT P d t x y = some r) (hx : V H x u) (h1 : ∀ k m, x ≠ .int k m) (h2 : ∀ s, x ≠ .str s) (h3 : ∀ cs, x ≠ .agg cs) (op : BinOp) (xo yo : Operand) {w : World} :
    (eqGuard op t xo yo u u').run P w = .ok () w ∧ Go.binOp .eql t u u' = (do pure (.bool (← Op.equal t u u'))) ∧ Go.binOp .neq t u u' = (do pure (.bool (!(← Op.equal t u u')))) := by
  rcases eqT_shape h hx h1 h2 h3 with ⟨b, rfl⟩ | ⟨p, rfl⟩ | ⟨p, l, c, rfl⟩ | rfl | ⟨f, p, q, rfl⟩ <;>
    exact ⟨by cases op <;> cases u' <;> simp [eqGuard], by cases u' <;> rfl, by cases u' <;> rfl⟩

theorem run_binT {op : BinOp} {t : TypeId} {x y r : PV} {u u' : Value} {xo yo : Operand} (h : binT P op t x y = some r) (hx : V H x u) (hy : V H y u') :
    ∃ z, (do eqGuard op t xo yo u u'; Go.binOp op t u u' : Sem Value).run P H.w = .ok z H.w ∧ V H r z := by
  unfold binT at h
  split at h
  · rename_i k m k' m'
    simp only [V] at hx hy; subst hx hy
    obtain ⟨z, h1, h2⟩ := shiftOp_spec (w := H.w) (P := P) (t := t) (k' := k') h
    exact ⟨z, by simp only [Sem.run_bind, eqGuard_int, Result.andThen_ok]; exact h1, h2 H⟩
  · rename_i k m k' m'
    simp only [V] at hx hy; subst hx hy
    obtain ⟨z, h1, h2⟩ := shiftOp_spec (w := H.w) (P := P) (t := t) (k' := k') h
    exact ⟨z, by simp only [Sem.run_bind, eqGuard_int, Result.andThen_ok]; exact h1, h2 H⟩
  · rename_i k m k' m' _ _
    simp only [V] at hx hy; subst hx hy
    split at h
    · rename_i hk
      subst hk
      obtain ⟨z, h1, h2⟩ := intOp_spec (w := H.w) (P := P) (t := t) h
      exact ⟨z, by simp only [Sem.run_bind, eqGuard_int, Result.andThen_ok]; exact h1, h2 H⟩
    · cases h
  · simp only [V] at hx hy
    obtain ⟨s, rfl, rfl⟩ := hx
    obtain ⟨s', rfl, rfl⟩ := hy
    obtain ⟨z, h1, h2⟩ := strOp_spec (w := H.w) (P := P) (t := t) h
    exact ⟨z, by simp only [Sem.run_bind, eqGuard_str, Result.andThen_ok]; exact h1, h2 H⟩
  · rename_i cs ds
    split at h
    · cases h
    · rename_i hg
      rw [Option.map_eq_some_iff] at h
      obtain ⟨b, h, rfl⟩ := h
      have he := eqT_spec (w := H.w) _ h hx hy
      simp only [V] at hx hy
      obtain ⟨us, rfl, _⟩ := hx
      obtain ⟨vs, rfl, _⟩ := hy
      refine ⟨.bool b, ?_, by simp only [V]⟩
      simp only [Sem.run_bind, run_eqGuard_agg H.w _ t xo yo us vs (by simpa using hg), Result.andThen_ok, run_eql_struct, he]
  · rename_i cs ds
    split at h
    · cases h
    · rename_i hg
      rw [Option.map_eq_some_iff] at h
      obtain ⟨b, h, rfl⟩ := h
      have he := eqT_spec (w := H.w) _ h hx hy
      simp only [V] at hx hy
      obtain ⟨us, rfl, _⟩ := hx
      obtain ⟨vs, rfl, _⟩ := hy
      refine ⟨.bool !b, ?_, by simp only [V]⟩
      simp only [Sem.run_bind, run_eqGuard_agg H.w _ t xo yo us vs (by simpa using hg), Result.andThen_ok, run_neq_struct, he]
  · rename_i hni hns hna
    rw [Option.map_eq_some_iff] at h
    obtain ⟨b, h, rfl⟩ := h
    have he := eqT_spec (w := H.w) _ h hx hy
    have hsh : (∀ k m, x ≠ .int k m) ∧ (∀ s, x ≠ .str s) ∧ (∀ cs, x ≠ .agg cs) := by
      refine ⟨fun k m e => ?_, fun s e => ?_, fun cs e => ?_⟩ <;> subst e <;> unfold eqT at h <;> split at h <;> first
        | (cases h; done)
        | (exact hni _ _ _ _ rfl rfl)
        | (exact hns _ _ rfl rfl)
        | (exact hna _ _ rfl rfl)
        | simp_all
    obtain ⟨g1, g2, g3⟩ := eqT_guard (u' := u') h hx hsh.1 hsh.2.1 hsh.2.2 .eql xo yo (w := H.w)
    refine ⟨.bool b, ?_, by simp only [V]⟩
    rw [g2]
    simp only [Sem.run_bind, g1, Result.andThen_ok, Op.equal, Op.maxDepth, he]
    rfl
  · rename_i hni hns hna
    rw [Option.map_eq_some_iff] at h
    obtain ⟨b, h, rfl⟩ := h
    have he := eqT_spec (w := H.w) _ h hx hy
    have hsh : (∀ k m, x ≠ .int k m) ∧ (∀ s, x ≠ .str s) ∧ (∀ cs, x ≠ .agg cs) := by
      refine ⟨fun k m e => ?_, fun s e => ?_, fun cs e => ?_⟩ <;> subst e <;> unfold eqT at h <;> split at h <;> first
        | (cases h; done)
        | (exact hni _ _ _ _ rfl rfl)
        | (exact hns _ _ rfl rfl)
        | (exact hna _ _ rfl rfl)
        | simp_all
    obtain ⟨g1, g2, g3⟩ := eqT_guard (u' := u') h hx hsh.1 hsh.2.1 hsh.2.2 .neq xo yo (w := H.w)
    refine ⟨.bool !b, ?_, by simp only [V]⟩
    rw [g3]
    simp only [Sem.run_bind, g1, Result.andThen_ok, Op.equal, Op.maxDepth, he]
    rfl
  · cases h

theorem ok_binOp {op : BinOp} {t t' : TypeId} {x y : Operand} (ho : o.op = .binOp op t x y t') (hr : HR H) (hx : V H (evalO tm x) (a.eval x)) (hy : V H (evalO tm y) (a.eval y))
    (h : primOp P H.τ n (.binOp op t x y t') tm = some (v, eff)) : OpOk P H o a n v eff := by
  simp only [primOp, Option.map_eq_some_iff] at h
  obtain ⟨r, h, he⟩ := h
  obtain ⟨rfl, rfl⟩ : _ = v ∧ _ = eff := by simpa using he
  obtain ⟨z, h1, h2⟩ := run_binT (xo := x) (yo := y) h hx hy
  refine OpOk.val' hr (u := z) ?_ h2
  simp only [execOp, ho]
  rw [Sem.run_bind, h1]
  rfl

theorem ok_unOp {op : UnOp} {t : TypeId} {x : Operand} (ho : o.op = .unOp op t x) (hr : HR H) (hx : V H (evalO tm x) (a.eval x)) (h : primOp P H.τ n (.unOp op t x) tm = some (v, eff)) : OpOk P H o a n v eff := by
  simp only [primOp] at h
  split at h
  · rename_i b hp
    obtain ⟨rfl, rfl⟩ : _ = v ∧ _ = eff := by simpa using h
    rw [hp] at hx; simp only [V] at hx
    exact OpOk.val' hr (u := .bool !b) (by simp [execOp, ho, hx, Op.unary]) (by simp only [V])
  · rename_i k m hp
    simp only [Option.some.injEq, Prod.mk.injEq] at h
    obtain ⟨rfl, rfl⟩ := h
    rw [hp] at hx; simp only [V] at hx
    exact OpOk.val' hr (u := .int k (k.wrap (0 - m))) (by simp only [execOp, ho, hx, Op.unary, Op.intArith]; rfl) (by simp only [V])
  · cases h

theorem ok_makeFunc {f : FuncId} {first cap : Array Operand} (ho : o.op = .makeFunc (.func f) first cap) (hr : HR H) (h1 : ∀ x ∈ first.toList, V H (evalO tm x) (a.eval x)) (h2 : ∀ x ∈ cap.toList, V H (evalO tm x) (a.eval x))
    (h : primOp P H.τ n (.makeFunc (.func f) first cap) tm = some (v, eff)) : OpOk P H o a n v eff := by
  simp only [primOp] at h
  obtain ⟨rfl, rfl⟩ : _ = v ∧ _ = eff := by simpa using h
  refine OpOk.val' hr (u := .func (.func f) (first.map a.eval) (cap.map a.eval)) (by simp [execOp, ho, Instr.makeFunc]) ?_
  simp only [V]
  exact ⟨_, _, rfl, by simpa using Vs_map _ _ _ h1, by simpa using Vs_map _ _ _ h2⟩

theorem ok_makeMap {t : TypeId} {r : Option Operand} (ho : o.op = .makeMap t r) (hr : HR H) (hn : H.τ n = none) (h : primOp P H.τ n (.makeMap t r) tm = some (v, eff)) : OpOk P H o a n v eff := by
  cases r with
  | some x => simp [primOp] at h
  | none =>
    simp only [primOp] at h
    split at h
    · obtain ⟨rfl, rfl⟩ : _ = v ∧ _ = eff := by simpa using h
      obtain ⟨k1, k2⟩ := step_new (w' := { H.w with heap := H.w.heap.push (.map #[] 0) }) (o := .mp []) (blk := .map #[] 0) hr hn rfl rfl rfl rfl 0 (fun cs cap hc => by cases hc)
        (fun es hc => by
          obtain rfl : [] = es := by simpa using hc
          exact ⟨#[], 0, rfl, by simp [Vs], by simp [Vs]⟩)
      refine ⟨_, _, ?_, .inl ⟨.map (some H.w.heap.size), rfl, ?_⟩, k1, k2, rfl⟩
      · simp [execOp, ho, Instr.makeMap]
      · simp only [V]
        exact ⟨rfl, .mp [], by simp, fun _ => ⟨⟨[], rfl⟩, by simp⟩⟩
    · cases h

theorem ok_field {t : TypeId} {x : Operand} {f : Nat} (ho : o.op = .field t x f) (hr : HR H) (hx : V H (evalO tm x) (a.eval x)) (h : primOp P H.τ n (.field t x f) tm = some (v, eff)) : OpOk P H o a n v eff := by
  simp only [primOp] at h
  split at h
  · rename_i fs cs hu hp
    split at h
    · rename_i fd hf
      rw [Option.map_eq_some_iff] at h
      obtain ⟨r, h, he⟩ := h
      obtain ⟨rfl, rfl⟩ : _ = v ∧ _ = eff := by simpa using he
      rw [hp] at hx; simp only [V] at hx
      obtain ⟨us, hav, hx⟩ := hx
      obtain ⟨u, h1, h2⟩ := run_partT (w := H.w) h hx
      refine OpOk.val' hr (u := u) ?_ h2
      simp [execOp, ho, Instr.field, run_und hu, hf, hav, asAgg, h1]
    · cases h
  · cases h

theorem ok_fieldAddr {t : TypeId} {x : Operand} {f : Nat} (ho : o.op = .fieldAddr t x f) (hr : HR H) (hx : V H (evalO tm x) (a.eval x)) (h : primOp P H.τ n (.fieldAddr t x f) tm = some (v, eff)) : OpOk P H o a n v eff := by
  simp only [primOp] at h
  split at h
  · rename_i fs hu
    split at h
    · rename_i fd hf
      split at h
      · rename_i s hs
        have hrun : ∀ (b of : Nat), (Instr.fieldAt t (.pointer (some ⟨b, of, none⟩)) f).run P H.w = .ok (.pointer (some ⟨b, of + fd.offset, none⟩)) H.w := fun b of => by
          simp [Instr.fieldAt, run_und hu, hf, Instr.sureAddr, fieldPlace, run_sizeT hs, addr_add]
        split at h
        · rename_i id off hp
          split at h
          · rename_i cs cap ht
            obtain ⟨rfl, rfl⟩ : _ = v ∧ _ = eff := by simpa using h
            rw [hp] at hx; simp only [V] at hx
            obtain ⟨_, ob, hob, hl⟩ := hx
            rw [ht] at hob
            obtain rfl := Option.some.inj hob
            obtain ⟨_, hav⟩ := hl (by simp)
            refine OpOk.val' hr (u := .pointer (some ⟨(H.ρ id).blk, (H.ρ id).base + off + fd.offset, none⟩)) (by simp only [execOp, ho, hav, Sem.run_bind, hrun]; rfl) ?_
            simp only [V]
            exact ⟨rfl, _, ht, fun _ => ⟨⟨cs, cap, rfl⟩, by rw [Nat.add_assoc]⟩⟩
          · cases h
        · rename_i cs hp
          obtain ⟨rfl, rfl⟩ : _ = v ∧ _ = eff := by simpa using h
          rw [hp] at hx; simp only [V] at hx
          obtain ⟨b, of, us, hav, hz, hlf, hc, hs'⟩ := hx
          refine OpOk.val' hr (u := .pointer (some ⟨b, of + fd.offset, none⟩)) (by simp only [execOp, ho, hav, Sem.run_bind, hrun]; rfl) ?_
          simp only [V]
          exact ⟨b, of + fd.offset, us.drop fd.offset, rfl, fun hne => hz fun e => hne (by simp [e]), fun x hx => hlf x (List.mem_of_mem_drop hx), cellsAt_drop hc _, Vs_drop hs' _⟩
        · cases h
      · cases h
    · cases h
  · cases h

theorem ok_extract {x : Operand} {i : Nat} (ho : o.op = .extract x i) (hr : HR H) (hx : V H (evalO tm x) (a.eval x)) (h : primOp P H.τ n (.extract x i) tm = some (v, eff)) : OpOk P H o a n v eff := by
  simp only [primOp] at h
  split at h
  · rename_i vs hp
    rw [Option.map_eq_some_iff] at h
    obtain ⟨r, h, he⟩ := h
    obtain ⟨rfl, rfl⟩ : _ = v ∧ _ = eff := by simpa using he
    rw [hp] at hx; simp only [V] at hx
    obtain ⟨us, hav, hx⟩ := hx
    obtain ⟨hlt, rfl⟩ := List.getElem?_eq_some_iff.1 h
    obtain ⟨u, h1, h2⟩ := Vs_get hx i hlt
    rw [Array.getElem?_toList] at h1
    exact OpOk.val' hr (u := u) (by simp [execOp, ho, hav, Instr.extract, h1]) h2
  · cases h

end
end Go.MT
