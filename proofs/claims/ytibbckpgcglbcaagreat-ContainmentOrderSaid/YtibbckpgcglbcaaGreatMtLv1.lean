/-
  The first two levels: what is known of the parser on the law's texts; what the law's Positive answers.
-/
import Derived.Test.YtibbckpgcglbcaaGreatMtPq
import Derived.Test.YtibbckpgcglbcaaGreatMtAt
namespace Go.MT
open Go Go.Proofs

theorem ext0_sum {f : FuncId} {args : List PV} {v : PV} (h : ext0 f args = some v) : SumOK Tryz.prog f args v := by
  unfold ext0 at h
  cases hb : Nat.beq f 93 with
  | false => rw [hb] at h; cases h
  | true =>
    rw [hb] at h
    obtain rfl := Nat.eq_of_beq_eq_true hb
    have h : extC args = some v := h
    unfold extC at h
    split at h
    · obtain rfl := Option.some.inj h
      exact cmp_sum Tryz.func93 (by kernel_rfl) (by kernel_rfl) (by kernel_rfl) (by kernel_rfl) _ _
    · cases h
theorem fq : funcsQ Tryz.prog.funcs.toList = true := by kernel_rfl
theorem follows : Tryz.prog.follows .mixedOrders = true := by kernel_rfl
/-- a level: what is known beforehand is known rightly -/
theorem lv_ok {e : FuncId → List PV → Store → Option PV} (h : ∀ f args σ v, e f args σ = some v → SumAt Tryz.prog f args σ v) (m : Nat) : CallOK ⟨Tryz.prog, pol, e⟩ (pcall ⟨Tryz.prog, pol, e⟩ m) :=
  pcall_ok (K := ⟨Tryz.prog, pol, e⟩) h (funcs_ok (K := ⟨Tryz.prog, pol, e⟩) fq) (draw_ok (K := ⟨Tryz.prog, pol, e⟩) follows) m
/-- a run out of an empty store at a level -/
theorem lv_sum {e : FuncId → List PV → Store → Option PV} (h : ∀ f args σ v, e f args σ = some v → SumAt Tryz.prog f args σ v) {m fl : Nat} {f : FuncId} {args : List PV} {v : PV}
    (hr : pcall ⟨Tryz.prog, pol, e⟩ m fl f args [] = some (v, [])) (hs : stills args = true) : SumOK Tryz.prog f args v :=
  sum_of_run (K := ⟨Tryz.prog, pol, e⟩) (lv_ok h m) hr hs
theorem run_pcall {K : Cfg} {X : XF (PV × List Obj)} (hX : XOk K X) {m : Nat} {f : FuncId} {args : List PV} {v : PV} (h : runS K E0 X m f args = some (v, [])) : pcall K m 0 f args [] = some (v, []) := by
  have := runS_some hX h
  simpa using this

/-! ### level 0 -/
theorem lv0 : ∀ f args (σ : Store) v, (fun f vs (_ : Store) => ext0 f vs) f args σ = some v → SumAt Tryz.prog f args σ v := fun _ _ σ _ h => (ext0_sum h).at σ
theorem sum0 {m : Nat} {f : FuncId} {args : List PV} {v : PV} (h : runS K0 E0 X0 m f args = some (v, [])) (hs : stills args = true) : SumOK Tryz.prog f args v :=
  lv_sum lv0 (run_pcall (extX_ok fun _ _ _ => rfl) h) hs

/-! ### level 1: the parser -/
theorem pqAll : ∀ i, i < 22 → PQ i
  | 0, _ => pq0
  | 1, _ => pq1
  | 2, _ => pq2
  | 3, _ => pq3
  | 4, _ => pq4
  | 5, _ => pq5
  | 6, _ => pq6
  | 7, _ => pq7
  | 8, _ => pq8
  | 9, _ => pq9
  | 10, _ => pq10
  | 11, _ => pq11
  | 12, _ => pq12
  | 13, _ => pq13
  | 14, _ => pq14
  | 15, _ => pq15
  | 16, _ => pq16
  | 17, _ => pq17
  | 18, _ => pq18
  | 19, _ => pq19
  | 20, _ => pq20
  | 21, _ => pq21
  | n + 22, h => by omega
noncomputable def pqF (s : List Nat) (n : Nat) : Option PV := Nat.rec (motive := fun _ => Option PV) none (fun m ih => Bool.rec (motive := fun _ => Option PV) ih (some (pqV m)) (strEq s (cqSt m))) n
theorem pqF_some {s : List Nat} {v : PV} : ∀ {n : Nat}, pqF s n = some v → ∃ i, i < n ∧ s = cqSt i ∧ v = pqV i
  | 0, h => by cases h
  | n + 1, h => by
    have h : (Bool.rec (motive := fun _ => Option PV) (pqF s n) (some (pqV n)) (strEq s (cqSt n)) : Option PV) = some v := h
    cases hb : strEq s (cqSt n) with
    | true => rw [hb] at h; exact ⟨n, by omega, strEq_eq' hb, (Option.some.inj h).symm⟩
    | false =>
      rw [hb] at h
      obtain ⟨i, h1, h2⟩ := pqF_some (n := n) h
      exact ⟨i, by omega, h2⟩
def strArg (args : List PV) : Option (List Nat) := match args with
  | [.str s] => some s
  | _ => none
noncomputable def ext1 (f : FuncId) (vs : List PV) : Option PV := Bool.rec (motive := fun _ => Option PV) (ext0 f vs) (Option.rec (motive := fun _ => Option PV) none (fun s => pqF s 22) (strArg vs)) (Nat.beq f 19)
noncomputable def K1 : Cfg := ⟨Tryz.prog, pol, fun f vs _ => ext1 f vs⟩
noncomputable def X1 {β : Type} : XF β := extX ext1
theorem ext1_sum {f : FuncId} {args : List PV} {v : PV} (h : ext1 f args = some v) : SumOK Tryz.prog f args v := by
  unfold ext1 at h
  cases hb : Nat.beq f 19 with
  | false => rw [hb] at h; exact ext0_sum h
  | true =>
    rw [hb] at h
    obtain rfl := Nat.eq_of_beq_eq_true hb
    have h : (Option.rec (motive := fun _ => Option PV) none (fun s => pqF s 22) (strArg args) : Option PV) = some v := h
    unfold strArg at h
    split at h
    · obtain ⟨i, h1, rfl, rfl⟩ := pqF_some h
      exact sum0 (pqAll i h1) rfl
    · cases h
theorem lv1 : ∀ f args (σ : Store) v, (fun f vs (_ : Store) => ext1 f vs) f args σ = some v → SumAt Tryz.prog f args σ v := fun _ _ σ _ h => (ext1_sum h).at σ

/-! ### Positive -/
theorem pos_tree (x : Nat) : runS K1 E0 X1 100000 8 [.int .i64 (.ofNat x)] = spreadN 18 (Nat.mod (Nat.land x 65535) 18) fun i => spreadN 8 (Nat.land (Nat.shiftRight x 6) 7) fun j => some (cq (cqIx i j), []) := by kernel_rfl
/-- which query a number gives -/
noncomputable def posI (x : Nat) : Nat := cqIx (Nat.mod (Nat.land x 65535) 18) (Nat.land (Nat.shiftRight x 6) 7)
theorem pos_sum (x : Nat) : SumOK Tryz.prog 8 [.int .i64 (.ofNat x)] (cq (posI x)) := by
  refine lv_sum lv1 (m := 100000) (fl := 0) (run_pcall (K := K1) (X := X1) (extX_ok fun _ _ _ => rfl) ?_) rfl
  rw [pos_tree, spreadN_eq, if_pos (show Nat.mod (Nat.land x 65535) 18 < 18 from Nat.mod_lt _ (by decide)), spreadN_eq, if_pos (show Nat.land (Nat.shiftRight x 6) 7 < 8 from Nat.lt_of_le_of_lt Nat.and_le_right (by decide))]
  rfl
end Go.MT
