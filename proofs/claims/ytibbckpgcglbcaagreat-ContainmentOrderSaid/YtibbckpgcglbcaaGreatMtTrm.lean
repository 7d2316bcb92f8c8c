/-
  What the law's queries have of terms and of variables.
-/
import Derived.Test.YtibbckpgcglbcaaGreatMtLv1
namespace Go.MT
open Go Go.Proofs
def trmT : List PV := [(.lst false 4 2 [(.str [120]), (.int .i64 0), (.int .i64 0), (.str []), (.str [121]), (.int .i64 0), (.int .i64 0), (.str [])]),
  (.lst false 4 2 [(.str [120]), (.int .i64 0), (.int .i64 0), (.str []), (.str [121]), (.int .i64 0), (.int .i64 0), (.str [])]),
  (.lst false 4 2 [(.str [120]), (.int .i64 0), (.int .i64 0), (.str []), (.str [121]), (.int .i64 0), (.int .i64 0), (.str [])]),
  (.lst false 4 3 [(.str [120]), (.int .i64 0), (.int .i64 0), (.str []), (.str [121]), (.int .i64 0), (.int .i64 0), (.str []), (.str [122]), (.int .i64 0), (.int .i64 0), (.str [])]),
  (.lst false 4 2 [(.str [120]), (.int .i64 0), (.int .i64 0), (.str []), (.str [121]), (.int .i64 0), (.int .i64 0), (.str [])]),
  (.lst false 4 3 [(.str [120]), (.int .i64 0), (.int .i64 0), (.str []), (.str [121]), (.int .i64 0), (.int .i64 0), (.str []), (.str [122]), (.int .i64 0), (.int .i64 0), (.str [])]),
  (.lst false 4 2 [(.str [120]), (.int .i64 0), (.int .i64 0), (.str []), (.str [121]), (.int .i64 0), (.int .i64 0), (.str [])]),
  (.lst false 4 3 [(.str [120]), (.int .i64 0), (.int .i64 0), (.str []), (.str [121]), (.int .i64 0), (.int .i64 0), (.str []), (.str [122]), (.int .i64 0), (.int .i64 0), (.str [])]),
  (.lst false 4 2 [(.str [120]), (.int .i64 0), (.int .i64 0), (.str []), (.str [121]), (.int .i64 0), (.int .i64 0), (.str [])]),
  (.lst false 4 3 [(.str [120]), (.int .i64 0), (.int .i64 0), (.str []), (.str [121]), (.int .i64 0), (.int .i64 0), (.str []), (.str [122]), (.int .i64 0), (.int .i64 0), (.str [])]),
  (.lst false 4 2 [(.str []), (.int .i64 1), (.int .i64 1), (.str []), (.str [120]), (.int .i64 0), (.int .i64 0), (.str [])]),
  (.lst false 4 2 [(.str []), (.int .i64 1), (.int .i64 2), (.str []), (.str [120]), (.int .i64 0), (.int .i64 0), (.str [])]),
  (.lst false 4 2 [(.str []), (.int .i64 1), (.int .i64 3), (.str []), (.str [120]), (.int .i64 0), (.int .i64 0), (.str [])]),
  (.lst false 4 2 [(.str []), (.int .i64 1), (.int .i64 1), (.str []), (.str [120]), (.int .i64 0), (.int .i64 0), (.str [])]),
  (.lst false 4 2 [(.str []), (.int .i64 1), (.int .i64 2), (.str []), (.str [120]), (.int .i64 0), (.int .i64 0), (.str [])]),
  (.lst false 4 2 [(.str []), (.int .i64 1), (.int .i64 3), (.str []), (.str [120]), (.int .i64 0), (.int .i64 0), (.str [])]),
  (.lst false 4 1 [(.str [120]), (.int .i64 0), (.int .i64 0), (.str [])]),
  (.lst false 4 3 [(.str [120]), (.int .i64 0), (.int .i64 0), (.str []), (.str [121]), (.int .i64 0), (.int .i64 0), (.str []), (.str [122]), (.int .i64 0), (.int .i64 0), (.str [])]),
  (.lst false 4 3 [(.str [120]), (.int .i64 0), (.int .i64 0), (.str []), (.str [121]), (.int .i64 0), (.int .i64 0), (.str []), (.str [122]), (.int .i64 0), (.int .i64 0), (.str [])]),
  (.lst false 4 3 [(.str [120]), (.int .i64 0), (.int .i64 0), (.str []), (.str [121]), (.int .i64 0), (.int .i64 0), (.str []), (.str [122]), (.int .i64 0), (.int .i64 0), (.str [])]),
  (.lst false 4 1 [(.str [120]), (.int .i64 0), (.int .i64 0), (.str [])]),
  (.lst false 4 3 [(.str [120]), (.int .i64 0), (.int .i64 0), (.str []), (.str [121]), (.int .i64 0), (.int .i64 0), (.str []), (.str [122]), (.int .i64 0), (.int .i64 0), (.str [])])]
def vrsT : List PV := [(.lst false 1 2 [(.str [120]), (.str [121])]),
  (.lst false 1 2 [(.str [120]), (.str [121])]),
  (.lst false 1 2 [(.str [120]), (.str [121])]),
  (.lst false 1 3 [(.str [120]), (.str [121]), (.str [122])]),
  (.lst false 1 2 [(.str [120]), (.str [121])]),
  (.lst false 1 3 [(.str [120]), (.str [121]), (.str [122])]),
  (.lst false 1 2 [(.str [120]), (.str [121])]),
  (.lst false 1 3 [(.str [120]), (.str [121]), (.str [122])]),
  (.lst false 1 2 [(.str [120]), (.str [121])]),
  (.lst false 1 3 [(.str [120]), (.str [121]), (.str [122])]),
  (.lst false 1 1 [(.str [120])]),
  (.lst false 1 1 [(.str [120])]),
  (.lst false 1 1 [(.str [120])]),
  (.lst false 1 1 [(.str [120])]),
  (.lst false 1 1 [(.str [120])]),
  (.lst false 1 1 [(.str [120])]),
  (.lst false 1 1 [(.str [120])]),
  (.lst false 1 3 [(.str [120]), (.str [121]), (.str [122])]),
  (.lst false 1 3 [(.str [120]), (.str [121]), (.str [122])]),
  (.lst false 1 3 [(.str [120]), (.str [121]), (.str [122])]),
  (.lst false 1 1 [(.str [120])]),
  (.lst false 1 3 [(.str [120]), (.str [121]), (.str [122])])]
noncomputable def trm (i : Nat) : PV := nthR trmT i .undef id
noncomputable def vrs (i : Nat) : PV := nthR vrsT i .undef id
def TT (i : Nat) : Prop := runS K0 E0 X0 100000 22 [cq i] = some (trm i, [])
def VV (i : Nat) : Prop := runS K0 E0 X0 100000 20 [cq i] = some (vrs i, [])
theorem tt0 : TT 0 := by unfold TT; kernel_rfl
theorem vv0 : VV 0 := by unfold VV; kernel_rfl
theorem tt1 : TT 1 := by unfold TT; kernel_rfl
theorem vv1 : VV 1 := by unfold VV; kernel_rfl
theorem tt2 : TT 2 := by unfold TT; kernel_rfl
theorem vv2 : VV 2 := by unfold VV; kernel_rfl
theorem tt3 : TT 3 := by unfold TT; kernel_rfl
theorem vv3 : VV 3 := by unfold VV; kernel_rfl
theorem tt4 : TT 4 := by unfold TT; kernel_rfl
theorem vv4 : VV 4 := by unfold VV; kernel_rfl
theorem tt5 : TT 5 := by unfold TT; kernel_rfl
theorem vv5 : VV 5 := by unfold VV; kernel_rfl
theorem tt6 : TT 6 := by unfold TT; kernel_rfl
theorem vv6 : VV 6 := by unfold VV; kernel_rfl
theorem tt7 : TT 7 := by unfold TT; kernel_rfl
theorem vv7 : VV 7 := by unfold VV; kernel_rfl
theorem tt8 : TT 8 := by unfold TT; kernel_rfl
theorem vv8 : VV 8 := by unfold VV; kernel_rfl
theorem tt9 : TT 9 := by unfold TT; kernel_rfl
theorem vv9 : VV 9 := by unfold VV; kernel_rfl
theorem tt10 : TT 10 := by unfold TT; kernel_rfl
theorem vv10 : VV 10 := by unfold VV; kernel_rfl
theorem tt11 : TT 11 := by unfold TT; kernel_rfl
theorem vv11 : VV 11 := by unfold VV; kernel_rfl
theorem tt12 : TT 12 := by unfold TT; kernel_rfl
theorem vv12 : VV 12 := by unfold VV; kernel_rfl
theorem tt13 : TT 13 := by unfold TT; kernel_rfl
theorem vv13 : VV 13 := by unfold VV; kernel_rfl
theorem tt14 : TT 14 := by unfold TT; kernel_rfl
theorem vv14 : VV 14 := by unfold VV; kernel_rfl
theorem tt15 : TT 15 := by unfold TT; kernel_rfl
theorem vv15 : VV 15 := by unfold VV; kernel_rfl
theorem tt16 : TT 16 := by unfold TT; kernel_rfl
theorem vv16 : VV 16 := by unfold VV; kernel_rfl
theorem tt17 : TT 17 := by unfold TT; kernel_rfl
theorem vv17 : VV 17 := by unfold VV; kernel_rfl
theorem tt18 : TT 18 := by unfold TT; kernel_rfl
theorem vv18 : VV 18 := by unfold VV; kernel_rfl
theorem tt19 : TT 19 := by unfold TT; kernel_rfl
theorem vv19 : VV 19 := by unfold VV; kernel_rfl
theorem tt20 : TT 20 := by unfold TT; kernel_rfl
theorem vv20 : VV 20 := by unfold VV; kernel_rfl
theorem tt21 : TT 21 := by unfold TT; kernel_rfl
theorem vv21 : VV 21 := by unfold VV; kernel_rfl
theorem ttAll : ∀ i, i < 22 → TT i ∧ VV i
  | 0, _ => ⟨tt0, vv0⟩
  | 1, _ => ⟨tt1, vv1⟩
  | 2, _ => ⟨tt2, vv2⟩
  | 3, _ => ⟨tt3, vv3⟩
  | 4, _ => ⟨tt4, vv4⟩
  | 5, _ => ⟨tt5, vv5⟩
  | 6, _ => ⟨tt6, vv6⟩
  | 7, _ => ⟨tt7, vv7⟩
  | 8, _ => ⟨tt8, vv8⟩
  | 9, _ => ⟨tt9, vv9⟩
  | 10, _ => ⟨tt10, vv10⟩
  | 11, _ => ⟨tt11, vv11⟩
  | 12, _ => ⟨tt12, vv12⟩
  | 13, _ => ⟨tt13, vv13⟩
  | 14, _ => ⟨tt14, vv14⟩
  | 15, _ => ⟨tt15, vv15⟩
  | 16, _ => ⟨tt16, vv16⟩
  | 17, _ => ⟨tt17, vv17⟩
  | 18, _ => ⟨tt18, vv18⟩
  | 19, _ => ⟨tt19, vv19⟩
  | 20, _ => ⟨tt20, vv20⟩
  | 21, _ => ⟨tt21, vv21⟩
  | n + 22, h => by omega
/-- the number of a query -/
noncomputable def cqF (c : PV) (n : Nat) : Option Nat := Nat.rec (motive := fun _ => Option Nat) none (fun m ih => Bool.rec (motive := fun _ => Option Nat) ih (some m) (eqPV c (cq m))) n
theorem cqF_some {c : PV} {i : Nat} : ∀ {n : Nat}, cqF c n = some i → i < n ∧ c = cq i
  | 0, h => by cases h
  | n + 1, h => by
    have h : (Bool.rec (motive := fun _ => Option Nat) (cqF c n) (some n) (eqPV c (cq n)) : Option Nat) = some i := h
    cases hb : eqPV c (cq n) with
    | true => rw [hb] at h; obtain rfl := Option.some.inj h; exact ⟨by omega, eqPV_eq hb⟩
    | false =>
      rw [hb] at h
      obtain ⟨h1, h2⟩ := cqF_some (n := n) h
      exact ⟨by omega, h2⟩
def oneArg (args : List PV) : Option PV := match args with
  | [c] => some c
  | _ => none
noncomputable def tabE (t : Nat → PV) (args : List PV) : Option PV := Option.rec (motive := fun _ => Option PV) none (fun c => Option.rec (motive := fun _ => Option PV) none (fun i => some (t i)) (cqF c 22)) (oneArg args)
theorem tabE_some {t : Nat → PV} {args : List PV} {v : PV} (h : tabE t args = some v) : ∃ i, i < 22 ∧ args = [cq i] ∧ v = t i := by
  unfold tabE oneArg at h
  split at h
  · rename_i c
    cases hc : cqF c 22 with
    | none => simp only [hc] at h; cases h
    | some i =>
      simp only [hc] at h
      obtain ⟨h1, rfl⟩ := cqF_some hc
      exact ⟨i, h1, rfl, (Option.some.inj h).symm⟩
  · cases h
noncomputable def extT (f : FuncId) (vs : List PV) : Option PV := Bool.rec (motive := fun _ => Option PV) (Bool.rec (motive := fun _ => Option PV) (ext0 f vs) (tabE vrs vs) (Nat.beq f 20)) (tabE trm vs) (Nat.beq f 22)
noncomputable def KT : Cfg := ⟨Tryz.prog, pol, fun f vs _ => extT f vs⟩
noncomputable def XT {β : Type} : XF β := extX extT
theorem cq_still (i : Nat) : stills [cq i] = true := by simp [cq, stills, PV.still]
theorem extT_sum {f : FuncId} {args : List PV} {v : PV} (h : extT f args = some v) : SumOK Tryz.prog f args v := by
  unfold extT at h
  cases hb : Nat.beq f 22 with
  | true =>
    rw [hb] at h
    obtain rfl := Nat.eq_of_beq_eq_true hb
    obtain ⟨i, h1, rfl, rfl⟩ := tabE_some (t := trm) h
    exact sum0 (ttAll i h1).1 (cq_still i)
  | false =>
    rw [hb] at h
    cases hb : Nat.beq f 20 with
    | true =>
      rw [hb] at h
      obtain rfl := Nat.eq_of_beq_eq_true hb
      obtain ⟨i, h1, rfl, rfl⟩ := tabE_some (t := vrs) h
      exact sum0 (ttAll i h1).2 (cq_still i)
    | false => rw [hb] at h; exact ext0_sum h
theorem lvT : ∀ f args (σ : Store) v, (fun f vs (_ : Store) => extT f vs) f args σ = some v → SumAt Tryz.prog f args σ v := fun _ _ σ _ h => (extT_sum h).at σ
end Go.MT
