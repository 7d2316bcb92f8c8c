/-
  Operations that call no function: what the evaluator says they do is what the model does, on every tape.
-/
import Derived.Test.YtibbckpgcglbcaaGreatMtMem
import Derived.Laws.StructEq
namespace Go.MT

section
variable {P : Program} {w : World}

theorem run_und {t : TypeId} {d : TypeDesc} (h : P.underlying t = some d) : (underlying t).run P w = .ok d w := by simp [underlying, h]
theorem run_info {t : TypeId} {i : TypeInfo} (h : P.info? t = some i) : (typeInfo t).run P w = .ok i w := by simp [typeInfo, h]
theorem run_sizeT {t : TypeId} {n : Nat} (h : sizeT P t = some n) : (sizeOf t).run P w = .ok n w := by
  unfold sizeT at h
  cases hi : P.info? t with
  | none => simp [hi] at h
  | some i => simp [hi] at h; simp [sizeOf, run_info hi, h]
theorem run_bytesT {t : TypeId} {n : Nat} (h : bytesT P t = some n) : ∃ i, (typeInfo t).run P w = .ok i w ∧ i.bytes = n := by
  unfold bytesT at h
  cases hi : P.info? t with
  | none => simp [hi] at h
  | some i => simp [hi] at h; exact ⟨i, run_info hi, h⟩
theorem run_aggT {t : TypeId} {b : Bool} (h : aggT P t = some b) : (isAgg t).run P w = .ok b w := by
  unfold aggT at h
  cases hu : P.underlying t with
  | none => simp [hu] at h
  | some d =>
    simp [hu] at h
    subst h
    simp only [isAgg, Sem.run_bind, run_und hu, Result.andThen_ok]
    cases d <;> rfl

theorem V_absLeaf (H : Hp) (v : Value) : V H (absLeaf v) v := by
  unfold absLeaf
  split <;> simp [V, Vs]
theorem V_absV (H : Hp) (v : Value) : V H (absV v) v := by
  unfold absV
  split
  · rename_i cs
    simp only [V]
    refine ⟨cs, rfl, ?_⟩
    have := Vs_map (H := H) absLeaf (fun v => v) cs.toList fun x _ => V_absLeaf H x
    simpa using this
  · exact V_absLeaf H v

theorem V_evalO {H : Hp} {tm : Tmps} {a : Act} (h : Vs H tm a.tmps.toList) (x : Operand) : V H (evalO tm x) (a.eval x) := by
  cases x with
  | tmp t =>
    simp only [evalO, Act.eval]
    by_cases hlt : t < tm.length
    · obtain ⟨u, h1, h2⟩ := Vs_get h t hlt
      rw [Array.getElem?_toList] at h1
      simp only [List.getD, Array.getD_eq_getD_getElem?, h1, List.getElem?_eq_getElem hlt, Option.getD_some]
      exact h2
    · simp [List.getD, List.getElem?_eq_none (Nat.le_of_not_lt hlt), V]
  | const v => exact V_absV H v
  | global g => simp [evalO, V]
  | func f => simp [evalO, Act.eval, V, Vs]

theorem V_one {H : Hp} {pv : PV} {v : Value} (h : V H pv v) (hl : pv.leaf = true) : v.oneCell' = true := by
  cases pv with
  | int k n => simp only [V] at h; subst h; rfl
  | bool b => simp only [V] at h; subst h; rfl
  | str s => simp only [V] at h; obtain ⟨bs, rfl, _⟩ := h; rfl
  | ptr id off => simp only [V] at h; exact h.1
  | frz cs => simp only [V] at h; obtain ⟨b, o, us, rfl, _⟩ := h; rfl
  | nilptr => simp only [V] at h; subst h; rfl
  | ref id off len sz => simp only [V] at h; exact h.1
  | lst tight sz n cs => simp only [V] at h; obtain ⟨b, a, cap, us, rfl, _⟩ := h; rfl
  | nilslice => simp only [V] at h; subst h; rfl
  | fn f first cap => simp only [V] at h; obtain ⟨us, us', rfl, _⟩ := h; rfl
  | nilfn => simp only [V] at h; subst h; rfl
  | map id => simp only [V] at h; exact h.1
  | nilmap => simp only [V] at h; subst h; rfl
  | agg cs => simp [PV.leaf] at hl
  | tup vs => simp [PV.leaf] at hl
  | undef => simp [PV.leaf] at hl
  | gone => simp [PV.leaf] at hl

theorem Vs_one' {H : Hp} : ∀ {cs : List PV} {us : List Value}, Vs H cs us → (∀ c ∈ cs, c.leaf = true) → ∀ u ∈ us, u.oneCell' = true
  | [], us, h, _, u, hu => by simp only [Vs] at h; subst h; simp at hu
  | c :: cs, us, h, hl, u, hu => by
    simp only [Vs] at h
    obtain ⟨u0, r, rfl, h1, h2⟩ := h
    rcases List.mem_cons.1 hu with rfl | hu
    · exact V_one h1 (hl c (by simp))
    · exact Vs_one' h2 (fun c hc => hl c (by simp [hc])) u hu

theorem cells_of_one {v : Value} (h : v.oneCell' = true) : v.cells = #[v] := by cases v <;> first | rfl | (simp [Value.oneCell'] at h)

theorem V_cells {H : Hp} {pv : PV} {v : Value} (h : V H pv v) (hl : pv.cells.all PV.leaf = true) : Vs H pv.cells v.cells.toList := by
  cases pv with
  | agg cs =>
    simp only [V] at h
    obtain ⟨us, rfl, h⟩ := h
    simpa [PV.cells, Value.cells] using h
  | tup vs => simp [PV.cells, PV.leaf] at hl
  | undef => simp [PV.cells, PV.leaf] at hl
  | gone => simp [PV.cells, PV.leaf] at hl
  | _ =>
    rw [cells_of_one (V_one h (by simpa [PV.cells] using hl))]
    simp only [PV.cells]
    exact Vs_one h

theorem run_zeroT {H : Hp} {t : TypeId} {z : PV} (h : zeroT P t = some z) : ∃ zv, (zeroValue t).run P w = .ok zv w ∧ V H z zv ∧ Vs H z.cells zv.cells.toList ∧ z.cells.all PV.leaf = true := by
  unfold zeroT at h
  split at h
  · rename_i _ _ _ _ _ _ _ v _ _ hi
    split at h
    · rename_i hl
      obtain rfl := Option.some.inj h
      refine ⟨v, by simp [zeroValue, run_info hi], V_absV H v, V_cells (V_absV H v) hl, hl⟩
    · cases h
  · cases h

theorem V_bare {H : Hp} {pv : PV} {v : Value} (h : V H.bare pv v) : V H pv v :=
  V_ext (H := H.bare) (H' := H) ⟨fun id o ho => by simp [Hp.bare] at ho, fun b hb => ⟨hb, rfl⟩⟩ h
theorem Vs_bare {H : Hp} {cs : List PV} {us : List Value} (h : Vs H.bare cs us) : Vs H cs us :=
  Vs_ext (H := H.bare) (H' := H) ⟨fun id o ho => by simp [Hp.bare] at ho, fun b hb => ⟨hb, rfl⟩⟩ h

theorem cellsAt_block {w : World} {b o n : Nat} {c : Array Value} {e : TypeId} {fr : Nat × Nat} (h : w.heap[b]? = some (.cells c e fr)) : cellsAt w b o ((c.toList.drop o).take n) := by
  intro k hk
  simp at hk
  simp only [World.cell?, h, Option.isSome_none, Bool.false_eq_true, if_false]
  rw [List.getElem?_take_of_lt (by omega), List.getElem?_drop, Array.getElem?_toList]

theorem cellsAt_take {w : World} {b o : Nat} {us : List Value} (h : cellsAt w b o us) (n : Nat) : cellsAt w b o (us.take n) := fun k hk => by
  simp at hk
  rw [h k (by omega), List.getElem?_take_of_lt (by omega)]
theorem cellsAt_drop {w : World} {b o : Nat} {us : List Value} (h : cellsAt w b o us) (n : Nat) : cellsAt w b (o + n) (us.drop n) := fun k hk => by
  simp at hk
  rw [show o + n + k = o + (n + k) by omega, h (n + k) (by omega), List.getElem?_drop]

/-- what is read from a pointer on -/
theorem readCells_spec {H : Hp} (hr : HR H) {p : PV} {v : Value} {n : Nat} {cs : List PV} (h : readCells H.τ p n = some cs) (hv : V H p v) :
    ∃ b o us, v = .pointer (some ⟨b, o, none⟩) ∧ cellsAt H.w b o us ∧ us.length = n ∧ Vs H cs us ∧ cs.length = n ∧ (∀ x ∈ cs, x.leaf = true) := by
  unfold readCells at h
  split at h
  · rename_i id off
    split at h
    · rename_i ds cap ht
      split at h
      · rename_i hle
        obtain rfl := Option.some.inj h
        simp only [V] at hv
        obtain ⟨_, o, ho, hl⟩ := hv
        rw [ht] at ho
        obtain rfl := Option.some.inj ho
        obtain ⟨_, rfl⟩ := hl (by simp)
        obtain ⟨c, e, fr, k1, k2, k2', k3, k4, k5, k6⟩ := hr.arr id ds cap ht
        refine ⟨_, _, (c.toList.drop ((H.ρ id).base + off)).take n, rfl, cellsAt_block k1, ?_, ?_, ?_, fun x hx => k5 x (List.mem_of_mem_drop (List.mem_of_mem_take hx))⟩
        · simp; omega
        · have := Vs_take (Vs_drop k6 off) n
          rw [List.drop_take, List.drop_drop, List.take_take] at this
          rwa [Nat.min_eq_left (by omega)] at this
        · simp; omega
      · cases h
    · cases h
  · rename_i ds
    split at h
    · rename_i hle
      obtain rfl := Option.some.inj h
      simp only [V] at hv
      obtain ⟨b, o, us, rfl, hz, hlf, hc, hs⟩ := hv
      refine ⟨b, o, us.take n, rfl, cellsAt_take hc n, ?_, Vs_take (Vs_bare hs) n, ?_, fun x hx => hlf x (List.mem_of_mem_take hx)⟩
      · have := Vs_length hs; simp; omega
      · simp; omega
    · cases h
  · cases h

theorem addr_add (b o k : Nat) : (⟨b, o, none⟩ : Addr).add k = ⟨b, o + k, none⟩ := by unfold Addr.add; split <;> simp_all

theorem run_cellsAt {b o : Nat} {us : List Value} (h : cellsAt w b o us) : (loadCells ⟨b, o, none⟩ us.length).run P w = .ok us.toArray w :=
  run_loadCells_list w _ us fun j v hj => by
    rw [addr_add]
    have hlt : j < us.length := (List.getElem?_eq_some_iff.1 hj).1
    rw [h j hlt, hj]

theorem run_loadT {H : Hp} (hr : HR H) {t : TypeId} {p r : PV} {v : Value} (h : loadT P H.τ t p = some r) (hv : V H p v) :
    ∃ u, (Instr.loadAt t v).run P H.w = .ok u H.w ∧ V H r u := by
  unfold loadT at h
  split at h
  · rename_i n ha hs
    cases hc : readCells H.τ p n with
    | none => simp [hc] at h
    | some cs =>
      simp [hc] at h
      subst h
      obtain ⟨b, o, us, rfl, h1, h2, h3, _⟩ := readCells_spec hr hc hv
      refine ⟨.agg us.toArray, ?_, ?_⟩
      · have := run_cellsAt (P := P) h1
        rw [h2] at this
        simp [Instr.loadAt, Instr.sureAddr, loadVar, run_aggT ha, run_sizeT hs, this]
      · simp only [V]; exact ⟨_, rfl, by simpa using h3⟩
  · rename_i n ha hs
    split at h
    · rename_i x hc
      obtain rfl := Option.some.inj h
      obtain ⟨b, o, us, rfl, h1, h2, h3, _⟩ := readCells_spec hr hc hv
      simp only [Vs] at h3
      obtain ⟨u, rr, rfl, hu, rfl⟩ := h3
      refine ⟨u, ?_, hu⟩
      have := h1 0 (by simp)
      simp at this
      simp [Instr.loadAt, Instr.sureAddr, loadVar, run_aggT ha, this]
    · cases h
  · cases h

end
end Go.MT
