/-
  Operations one by one (4): slices made, cut, indexed, appended to.
-/
import Derived.Test.YtibbckpgcglbcaaGreatMtOps3
namespace Go.MT

section
variable {P : Program} {H : Hp} {o : Oper} {a : Act} {tm : Tmps} {n : Nat} {v : PV} {eff : Eff}

/-- a new block that nothing will write -/
theorem step_frozen {w' : World} {blk : Go.Obj} (hr : HR H) (hw : w'.heap = H.w.heap.push blk) (h2 : w'.os = H.w.os) (h3 : w'.tape = H.w.tape) (h4 : w'.output = H.w.output) :
    HR { H with Z := fun b => H.Z b ∨ b = H.w.heap.size, w := w' } ∧ Ext H { H with Z := fun b => H.Z b ∨ b = H.w.heap.size, w := w' } := by
  have hold : ∀ b, b < H.w.heap.size → w'.heap[b]? = H.w.heap[b]? := fun b hb => by
    rw [hw, Array.getElem?_push]; simp [Nat.ne_of_lt hb]
  have hx : VExt H { H with Z := fun b => H.Z b ∨ b = H.w.heap.size, w := w' } := by
    exact ⟨fun id o' ho => ⟨o', ho, by cases o' <;> simp [Obj.keeps], fun _ => rfl⟩, fun b hb => ⟨.inl hb, hold b (hr.z b hb).1⟩⟩
  refine ⟨⟨fun id cs cap ht => ?_, fun id es ht => ?_, hr.inj, fun b hb => ?_⟩, { hx with os := h2, tape := h3, output := h4, size := by simp [hw], frame := fun b hb _ => ⟨hold b hb, fun z => ?_⟩, img := fun id o' ho hd' hlt hf => hf id o' ho hd' rfl }⟩
  · obtain ⟨c, e, fr, k1, k2, k2', k3, k4, k5, k6⟩ := hr.arr id cs cap ht
    exact ⟨c, e, fr, by rw [hold _ (Array.getElem?_eq_some_iff.1 k1).1]; exact k1, k2, k2', k3, k4, k5, Vs_ext hx k6⟩
  · obtain ⟨es', clk, k1, k2, k3⟩ := hr.mp id es ht
    exact ⟨es', clk, by rw [hold _ (Array.getElem?_eq_some_iff.1 k1).1]; exact k1, Vs_ext hx k2, Vs_ext hx k3⟩
  · rcases hb with hb | rfl
    · obtain ⟨k1, k2⟩ := hr.z b hb
      exact ⟨by simp only [hw, Array.size_push]; omega, k2⟩
    · exact ⟨by simp [hw], fun id o' ho hd => Nat.ne_of_lt (hr.lt ho hd)⟩
  · rcases z with z | rfl
    · exact z
    · omega

theorem closed_V : ∀ {c : PV} {u : Value}, c.closedLeaf = true → V H c u → V H.bare c u := by
  intro c u hc h
  cases c with
  | fn f x y =>
    cases x with
    | nil => cases y with
      | nil => simpa only [V, Vs] using h
      | cons _ _ => simp [PV.closedLeaf] at hc
    | cons _ _ => simp [PV.closedLeaf] at hc
  | frz cs => simp only [V] at h ⊢; exact h
  | lst _ _ _ _ => simp only [V] at h ⊢; exact h
  | int _ _ => simpa only [V] using h
  | bool _ => simpa only [V] using h
  | str _ => simpa only [V] using h
  | nilptr => simpa only [V] using h
  | nilslice => simpa only [V] using h
  | nilfn => simpa only [V] using h
  | nilmap => simpa only [V] using h
  | _ => simp [PV.closedLeaf] at hc

theorem closed_leaf {c : PV} (hc : c.closedLeaf = true) : c.leaf = true := by cases c <;> simp_all [PV.closedLeaf, PV.leaf]

theorem closed_Vs : ∀ {cs : List PV} {us : List Value}, (∀ c ∈ cs, c.closedLeaf = true) → Vs H cs us → Vs H.bare cs us
  | [], _, _, h => by simpa only [Vs] using h
  | c :: cs, us, hc, h => by
    simp only [Vs] at h ⊢
    obtain ⟨u, r, e, h1, h2⟩ := h
    exact ⟨u, r, e, closed_V (hc c (by simp)) h1, closed_Vs (fun x hx => hc x (by simp [hx])) h2⟩

/-- zeros, len times -/
theorem zeros_list (z : Array Value) (len : Nat) (_hz : 0 < z.size) : ((Array.range (len * z.size)).map (fun i => z[i % z.size]!)).toList = (List.replicate len z.toList).flatten := by
  rw [Array.toList_map, Array.toList_range]
  induction len with
  | zero => simp
  | succ m ih =>
    rw [show (m + 1) * z.size = m * z.size + z.size by rw [Nat.add_mul, Nat.one_mul], List.range_add, List.map_append, ih, List.replicate_succ', List.flatten_append]
    congr 1
    simp only [List.map_map, List.flatten_cons, List.flatten_nil, List.append_nil]
    apply List.ext_getElem
    · simp
    · intro i h1 h2
      simp at h1
      simp [Nat.mod_eq_of_lt h1, getElem!_pos, h1]

theorem Vs_replicate {z : List PV} {zs : List Value} (h : Vs H z zs) (len : Nat) : Vs H (List.replicate len z).flatten (List.replicate len zs).flatten := by
  induction len with
  | zero => simp [Vs]
  | succ m ih => rw [List.replicate_succ, List.replicate_succ, List.flatten_cons, List.flatten_cons]; exact Vs_append h ih

theorem leaf_replicate {z : List PV} (h : ∀ x ∈ z, x.leaf = true) (len : Nat) : ∀ x ∈ (List.replicate len z).flatten, x.leaf = true := by
  intro x hx
  rw [List.mem_flatten] at hx
  obtain ⟨l, hl, hx⟩ := hx
  rw [List.mem_replicate] at hl
  exact h x (by rw [← hl.2]; exact hx)

theorem length_replicate_flatten {α : Type} (z : List α) (len : Nat) : (List.replicate len z).flatten.length = len * z.length := by
  induction len with
  | zero => simp
  | succ m ih => rw [List.replicate_succ, List.flatten_cons, List.length_append, ih, Nat.add_mul]; omega

theorem ok_buildSlice {t : TypeId} {len : Nat} {parts : Array (Nat × Operand)} (ho : o.op = .buildSlice t len parts) (hr : HR H) (hn : H.τ n = none) (hx : ∀ i x, (i, x) ∈ parts.toList → V H (evalO tm x) (a.eval x))
    (h : primOp P H.τ n (.buildSlice t len parts) tm = some (v, eff)) : OpOk P H o a n v eff := by
  simp only [primOp] at h
  split at h
  · rename_i e hu
    split at h
    · rename_i sz z hs hz
      obtain ⟨zv, z1, z2, z3, z4⟩ := run_zeroT (w := H.w) (H := H) hz
      split at h
      · rename_i hc
        obtain ⟨c1, c2, c3⟩ := hc
        have hzl : zv.cells.size = sz := by have := Vs_length z3; simp at this; omega
        have hzlf : ∀ x ∈ z.cells, x.leaf = true := by simpa using z4
        split at h
        · rename_i cs hf
          obtain ⟨cs', k1, k2, k3⟩ := fill_spec (a := a) (cs := (Array.range (len * sz)).map (fun i => zv.cells[i % zv.cells.size]!)) parts.toList hf
            (by rw [← hzl, zeros_list _ _ (by omega)]; exact Vs_replicate z3 len) hx
          have hlf := k3 (leaf_replicate hzlf len)
          have hpp : (parts.map fun (p : Nat × Operand) => match p with | (i, x) => (i, a.eval x)).toList = parts.toList.map fun p => (p.1, a.eval p.2) := by simp
          have hcl : cs.length = len * sz := by
            have : ∀ (ps : List (Nat × PV)) (x y : List PV), setParts (fun i => some (i * sz, sz)) x ps = some y → y.length = x.length := by
              intro ps
              induction ps with
              | nil => intro x y h; simp [setParts] at h; rw [h]
              | cons p ps ih =>
                intro x y h
                simp only [setParts] at h
                split at h
                · rename_i hcc
                  rw [ih _ _ h]
                  simp [splice]; omega
                · cases h
            rw [this _ _ _ hf, length_replicate_flatten, c1]
          have hcl' : cs'.size = len * sz := by have := Vs_length k2; simp at this; omega
          have hrun : (execOp a.eval o).run P H.w = .ok (.value (.slice (some ⟨H.w.heap.size, 0, none⟩) len len)) { H.w with heap := H.w.heap.push (.cells cs' e) } := by
            simp only [execOp, ho, Instr.buildSlice, Sem.run_bind, run_und hu, Result.andThen_ok, run_sizeT hs]
            rw [if_neg (by omega)]
            by_cases h0 : len * sz = 0
            · have hl0 : len = 0 := by
                rcases Nat.mul_eq_zero.1 h0 with h | h
                · exact h
                · omega
              subst hl0
              simp only [Nat.zero_mul, if_true, pure_bind, hpp]
              have : (Array.map (fun (i : Nat) => (#[] : Array Value)[i % (#[] : Array Value).size]!) (Array.range 0)) = (Array.range (0 * sz)).map (fun i => zv.cells[i % zv.cells.size]!) := by simp
              rw [this, k1]
              simp [newRow]
            · simp only [h0, if_false, Sem.run_bind, z1, Result.andThen_ok, Sem.run_pure, hpp, k1]
              simp [newRow]
          split at h
          · rename_i hcl0
            obtain ⟨rfl, rfl⟩ : _ = v ∧ _ = eff := by simpa using h
            obtain ⟨s1, s2⟩ := step_frozen (w' := { H.w with heap := H.w.heap.push (.cells cs' e) }) hr rfl rfl rfl rfl
            refine ⟨_, _, hrun, .inl ⟨_, rfl, ?_⟩, s1, s2, rfl⟩
            simp only [V]
            refine ⟨H.w.heap.size, 0, len, cs'.toList, rfl, Nat.le_refl _, fun _ => rfl, c2, hcl, fun _ => .inr rfl, hlf, ?_, ?_⟩
            · have : cellsAt { H.w with heap := H.w.heap.push (.cells cs' e) } H.w.heap.size 0 ((cs'.toList.drop 0).take cs'.toList.length) := cellsAt_block (e := e) (fr := (0, 0)) (by simp)
              rw [List.drop_zero, List.take_length] at this
              exact this
            · exact Vs_ext s2.toVExt.bare (closed_Vs (by simpa using hcl0) k2)
          · split at h
            · obtain ⟨rfl, rfl⟩ : _ = v ∧ _ = eff := by simpa using h
              obtain ⟨s1, s2⟩ := new_var (len * sz) (n := n) (e := e) (c := cs') (cap := some (len * sz)) hr hn (by rw [hcl, ← hcl', ← Array.length_toList, List.take_length]; exact k2) (by omega) (by omega) (by simp) hlf
              refine ⟨_, _, hrun, .inl ⟨_, rfl, ?_⟩, s1, s2, rfl⟩
              simp only [V]
              exact ⟨rfl, _, upd_same _ _ _, fun _ => ⟨_, _, len, H.w.heap.size, 0, rfl, rfl, Nat.le_refl _, c2, by simp, .inr ⟨by simp, by simp⟩⟩⟩
            · cases h
        · cases h
      · cases h
    · cases h
  · cases h

theorem wrap_small {m : Int} (h0 : 0 ≤ m) (h1 : m ≤ 70368744177664) : IntKind.i64.wrap m = m := by
  simp [IntKind.wrap, IntKind.bits, IntKind.signed]
  omega

theorem ok_makeSlice {t : TypeId} {x y : Operand} (ho : o.op = .makeSlice t x y) (hr : HR H) (hn : H.τ n = none) (hx : V H (evalO tm x) (a.eval x)) (hy : V H (evalO tm y) (a.eval y))
    (h : primOp P H.τ n (.makeSlice t x y) tm = some (v, eff)) : OpOk P H o a n v eff := by
  simp only [primOp] at h
  split at h
  · rename_i e k1 l k2 m hu hp hq
    rw [hp] at hx; rw [hq] at hy
    simp only [V] at hx hy
    split at h
    · rename_i sz by_ z hs hb hz
      obtain ⟨zv, z1, z2, z3, z4⟩ := run_zeroT (w := H.w) (H := H) hz
      obtain ⟨inf, i1, i2⟩ := run_bytesT (w := H.w) hb
      split at h
      · rename_i hc
        obtain ⟨c1, c2, c3, c4, c5, c6⟩ := hc
        obtain ⟨rfl, rfl⟩ : _ = v ∧ _ = eff := by simpa using h
        have hzl : zv.cells.size = sz := by have := Vs_length z3; simp at this; omega
        have hzlf : ∀ x ∈ z.cells, x.leaf = true := by simpa using z4
        have w1 := wrap_small c1 (by omega : l ≤ 70368744177664)
        have w2 := wrap_small (by omega : 0 ≤ m) c4
        generalize hcs : (Array.range (m.toNat * sz)).map (fun i => zv.cells[i % zv.cells.size]!) = cs'
        have hrun : (execOp a.eval o).run P H.w = .ok (.value (.slice (some ⟨H.w.heap.size, 0, none⟩) l.toNat m.toNat)) { H.w with heap := H.w.heap.push (.cells cs' e) } := by
          have hbm : ¬ ((inf.bytes : Int) * m > 2 ^ 48) := by
            rw [i2, Int.mul_comm]; omega
          have hm0 : ¬ m < 0 := by omega
          have hl0 : ¬ l < 0 := by omega
          have hlm : ¬ l > m := by omega
          simp only [execOp, ho, Instr.makeSlice, Sem.run_bind, run_und hu, Result.andThen_ok, hx, hy, asInt, asIntOf, Sem.run_pure, i1, w1, w2, hbm, hm0, hl0, hlm, decide_false, Bool.or_self, Bool.false_eq_true, if_false, run_askRoom, run_sizeT hs]
          by_cases h0 : m.toNat * sz = 0
          · simp only [h0, if_true, pure_bind]
            have : (Array.map (fun (i : Nat) => (#[] : Array Value)[i % (#[] : Array Value).size]!) (Array.range 0)) = cs' := by rw [← hcs, h0]; simp
            rw [this]
            simp [newRow]
          · simp only [h0, if_false, Sem.run_bind, z1, Result.andThen_ok, Sem.run_pure, hcs]
            simp [newRow]
        have hcl : cs'.toList = (List.replicate m.toNat zv.cells.toList).flatten := by rw [← hcs, ← hzl]; exact zeros_list _ _ (by omega)
        have hcz : cs'.size = m.toNat * sz := by rw [← hcs]; simp
        have hle : l.toNat * sz ≤ m.toNat * sz := Nat.mul_le_mul_right _ (by omega)
        have htk : cs'.toList.take (l.toNat * sz) = (List.replicate l.toNat zv.cells.toList).flatten := by
          rw [hcl, show m.toNat = l.toNat + (m.toNat - l.toNat) by omega, ← List.replicate_append_replicate, List.flatten_append, List.take_append_of_le_length (by rw [length_replicate_flatten]; simp [hzl]),
            List.take_of_length_le (by rw [length_replicate_flatten]; simp [hzl])]
        obtain ⟨s1, s2⟩ := new_var (m.toNat * sz) (n := n) (e := e) (c := cs') (cap := some (m.toNat * sz)) (cs := (List.replicate l.toNat z.cells).flatten) hr hn
          (by rw [length_replicate_flatten, c5, htk]; exact Vs_replicate z3 _) (by rw [length_replicate_flatten, c5]; exact hle) (by omega) (by simp) (leaf_replicate hzlf _)
        refine ⟨_, _, hrun, .inl ⟨_, rfl, ?_⟩, s1, s2, rfl⟩
        simp only [V]
        exact ⟨rfl, _, upd_same _ _ _, fun _ => ⟨_, _, m.toNat, H.w.heap.size, 0, rfl, rfl, by omega, c6, by simp, .inr ⟨by simp, by simp⟩⟩⟩
      · cases h
    · cases h
  · cases h

end
end Go.MT
