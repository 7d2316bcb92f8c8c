/-
  Which of the law's queries map into which: all of them; what Contained answers over the law's queries.
-/
import Derived.Test.YtibbckpgcglbcaaGreatMtMapA
import Derived.Test.YtibbckpgcglbcaaGreatMtMapB
import Derived.Test.YtibbckpgcglbcaaGreatMtMapC
import Derived.Test.YtibbckpgcglbcaaGreatMtMapD
import Derived.Test.YtibbckpgcglbcaaGreatMtCon
import Derived.Test.YtibbckpgcglbcaaGreatMtSnap
namespace Go.MT
open Go Go.Proofs

theorem mpAll : ∀ i j, i < 22 → j < 22 → MP i j
  | 0, j, _, h => mpR0 j h
  | 1, j, _, h => mpR1 j h
  | 2, j, _, h => mpR2 j h
  | 3, j, _, h => mpR3 j h
  | 4, j, _, h => mpR4 j h
  | 5, j, _, h => mpR5 j h
  | 6, j, _, h => mpR6 j h
  | 7, j, _, h => mpR7 j h
  | 8, j, _, h => mpR8 j h
  | 9, j, _, h => mpR9 j h
  | 10, j, _, h => mpR10 j h
  | 11, j, _, h => mpR11 j h
  | 12, j, _, h => mpR12 j h
  | 13, j, _, h => mpR13 j h
  | 14, j, _, h => mpR14 j h
  | 15, j, _, h => mpR15 j h
  | 16, j, _, h => mpR16 j h
  | 17, j, _, h => mpR17 j h
  | 18, j, _, h => mpR18 j h
  | 19, j, _, h => mpR19 j h
  | 20, j, _, h => mpR20 j h
  | 21, j, _, h => mpR21 j h
  | n + 22, _, h, _ => by omega
theorem cqF_self : ∀ i, i < 22 → cqF (cq i) 22 = some i
  | 0, _ => by kernel_rfl
  | 1, _ => by kernel_rfl
  | 2, _ => by kernel_rfl
  | 3, _ => by kernel_rfl
  | 4, _ => by kernel_rfl
  | 5, _ => by kernel_rfl
  | 6, _ => by kernel_rfl
  | 7, _ => by kernel_rfl
  | 8, _ => by kernel_rfl
  | 9, _ => by kernel_rfl
  | 10, _ => by kernel_rfl
  | 11, _ => by kernel_rfl
  | 12, _ => by kernel_rfl
  | 13, _ => by kernel_rfl
  | 14, _ => by kernel_rfl
  | 15, _ => by kernel_rfl
  | 16, _ => by kernel_rfl
  | 17, _ => by kernel_rfl
  | 18, _ => by kernel_rfl
  | 19, _ => by kernel_rfl
  | 20, _ => by kernel_rfl
  | 21, _ => by kernel_rfl
  | n + 22, h => by omega
theorem cq_inj {i j : Nat} (hi : i < 22) (hj : j < 22) (h : cq i = cq j) : i = j := by
  have h1 := cqF_self i hi
  rw [h, cqF_self j hj] at h1
  exact (Option.some.inj h1).symm
theorem sumT {m : Nat} {f : FuncId} {args : List PV} {v : PV} (h : runS KT E0 XT m f args = some (v, [])) (hs : stills args = true) : SumOK Tryz.prog f args v :=
  lv_sum lvT (m := m) (fl := 0) (run_pcall (K := KT) (X := XT) (extX_ok (K := KT) (e := extT) fun _ _ _ => rfl) h) hs
open Classical in
theorem MM_eq {i j : Nat} (hi : i < 22) (hj : j < 22) : MM (cq i) (cq j) = mapB i j := by
  unfold MM
  rw [Bool.eq_iff_iff, decide_eq_true_eq]
  constructor
  · rintro ⟨a, b, ha, hb, h1, h2, h3⟩
    obtain rfl := cq_inj hi ha h1
    obtain rfl := cq_inj hj hb h2
    exact h3
  · intro h
    exact ⟨i, j, hi, hj, rfl, rfl, h⟩
open Classical in
theorem kn_eq {i j : Nat} (hi : i < 22) (hj : j < 22) : kn (cq i) (cq j) = true := by
  unfold kn
  rw [decide_eq_true_eq]
  exact ⟨i, j, hi, hj, rfl, rfl⟩
open Classical in
theorem kn_iff {c d : PV} : kn c d = true ↔ ∃ i j, i < 22 ∧ j < 22 ∧ c = cq i ∧ d = cq j := by unfold kn; rw [decide_eq_true_eq]
theorem ext3_sum {f : FuncId} {args : List PV} {v : PV} (h : ext3 f args = some v) : SumOK Tryz.prog f args v := by
  unfold ext3 at h
  cases hb : Nat.beq f 12 with
  | false => rw [hb] at h; exact ext0_sum h
  | true =>
    rw [hb] at h
    obtain rfl := Nat.eq_of_beq_eq_true hb
    have h : mapE args = some v := h
    unfold mapE at h
    split at h
    · rename_i c d
      split at h
      · rename_i hk
        obtain rfl := Option.some.inj h
        obtain ⟨i, j, hi, hj, rfl, rfl⟩ := kn_iff.1 hk
        rw [MM_eq hi hj]
        exact sumT (mpAll i j hi hj) (by simp [cq, stills, PV.still])
      · cases h
    · cases h
theorem lv3 : ∀ f args (σ : Store) v, (fun f vs (_ : Store) => ext3 f vs) f args σ = some v → SumAt Tryz.prog f args σ v := fun _ _ σ _ h => (ext3_sum h).at σ

/-! ### Contained over the law's queries, by their numbers -/
noncomputable def el (i : Nat) : El := (cqN i, cqC i)
noncomputable def els (is : List Nat) : List El := is.map el
theorem eE_el (i : Nat) : eE (el i) = cq i := rfl
/-- each of the first maps from one of the second -/
noncomputable def CT (is js : List Nat) : Bool := is.all fun d => js.any fun c => mapB c d
def Small (is : List Nat) : Prop := ∀ i ∈ is, i < 22
theorem anyT_eq {β : Type} {d : Nat} (hd : d < 22) (yes no : Option β) : ∀ {js : List Nat}, Small js → anyT (cq d) (els js) yes no = if js.any (fun c => mapB c d) = true then yes else no
  | [], _ => by simp [anyT, els]
  | c :: js, h => by
    have e : anyT (cq d) (els (c :: js)) yes no = (Bool.rec (motive := fun _ => Option β) none (Bool.rec (motive := fun _ => Option β) (anyT (cq d) (els js) yes no) yes (MM (cq c) (cq d))) (kn (cq c) (cq d))) := rfl
    have hc : c < 22 := h c (by simp)
    rw [e, kn_eq hc hd, MM_eq hc hd]
    have ih := anyT_eq hd yes no (js := js) fun i hi => h i (by simp [hi])
    cases hm : mapB c d with
    | true => simp [hm]
    | false => simp only [ih, List.any_cons, hm, Bool.false_or]
theorem conT_eq {β : Type} {js : List Nat} (hj : Small js) (k : Bool → Option β) : ∀ {is : List Nat}, Small is → conT (els js) k (els is) = k (CT is js)
  | [], _ => rfl
  | d :: is, h => by
    have e : conT (els js) k (els (d :: is)) = anyT (cq d) (els js) (conT (els js) k (els is)) (k false) := rfl
    rw [e, anyT_eq (h d (by simp)) _ _ hj, conT_eq hj k fun i hi => h i (by simp [hi])]
    simp only [CT, List.all_cons]
    cases js.any fun c => mapB c d <;> simp
theorem con_sum {is js : List Nat} (hi : Small is) (hj : Small js) (h1 : 0 < is.length) (h2 : 0 < js.length) (h3 : is.length ≤ 6) (h4 : js.length ≤ 6) (h5 : is.length ≤ 3 ∨ js.length ≤ 3) :
    SumOK Tryz.prog 5 [qE (els is), qE (els js)] (.bool (CT is js)) := by
  refine lv_sum lv3 (m := 100000) (fl := 0) (run_pcall (K := K3) (X := X3) X3_ok ?_) (by simp [qE, stills, PV.still])
  have := conAll (els is) (els js) (by simpa [els] using h1) (by simpa [els] using h2) (by simpa [els] using h3) (by simpa [els] using h4) (by simpa [els] using h5)
  unfold CON at this
  rw [this, conT_eq hj _ hi]
theorem cE_inj : ∀ {is js : List Nat}, Small is → Small js → (els is).flatMap cE = (els js).flatMap cE → is = js
  | [], [], _, _, _ => rfl
  | [], j :: js, _, _, h => by simp [els, cE] at h
  | i :: is, [], _, _, h => by simp [els, cE] at h
  | i :: is, j :: js, hi, hj, h => by
    have h : cE (el i) ++ (els is).flatMap cE = cE (el j) ++ (els js).flatMap cE := h
    have h : PV.lst false 3 (cqN i) (cqC i) :: PV.nilslice :: (els is).flatMap cE = PV.lst false 3 (cqN j) (cqC j) :: PV.nilslice :: (els js).flatMap cE := h
    simp only [List.cons.injEq, true_and] at h
    have e : cq i = cq j := by unfold cq; rw [h.1]
    rw [cq_inj (hi i (by simp)) (hj j (by simp)) e, cE_inj (fun x hx => hi x (by simp [hx])) (fun x hx => hj x (by simp [hx])) h.2]
end Go.MT
