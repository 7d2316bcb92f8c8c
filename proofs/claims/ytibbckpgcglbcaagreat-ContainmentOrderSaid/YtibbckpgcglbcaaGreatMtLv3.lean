/-
  The level of the maps: what Contained answers over given disjuncts, as a tree of questions.
-/
import Derived.Test.YtibbckpgcglbcaaGreatMtMapT
namespace Go.MT
open Go Go.Proofs

open Classical in
noncomputable def kn (c d : PV) : Bool := decide (∃ i j, i < 22 ∧ j < 22 ∧ c = cq i ∧ d = cq j)
open Classical in
noncomputable def MM (c d : PV) : Bool := decide (∃ i j, i < 22 ∧ j < 22 ∧ c = cq i ∧ d = cq j ∧ mapB i j = true)
noncomputable def mapE (args : List PV) : Option PV := match args with
  | [c, d, .nilslice] => if kn c d = true then some (.bool (MM c d)) else none
  | _ => none
noncomputable def ext3 (f : FuncId) (vs : List PV) : Option PV := Bool.rec (motive := fun _ => Option PV) (ext0 f vs) (mapE vs) (Nat.beq f 12)
noncomputable def K3 : Cfg := ⟨Tryz.prog, pol, fun f vs _ => ext3 f vs⟩
section
variable {β : Type}
noncomputable def mapX (args : List PV) (k : PV → Option β) (dd : Option β) : Option β := match args with
  | [c, d, .nilslice] => Bool.rec (motive := fun _ => Option β) none (Bool.rec (motive := fun _ => Option β) (k (.bool false)) (k (.bool true)) (MM c d)) (kn c d)
  | _ => dd
noncomputable def X3 : XF β := fun f args n rs k d => Bool.rec (motive := fun _ => Option β) (X0 f args n rs k d) (mapX args k d) (Nat.beq f 12)
theorem mapX_ok {args : List PV} {k : PV → Option β} {d : Option β} {r : β} (h : mapX args k d = some r) : (∃ v, mapE args = some v ∧ k v = some r) ∨ (mapE args = none ∧ d = some r) := by
  unfold mapX at h
  unfold mapE
  split at h
  · rename_i c d
    cases ho : kn c d with
    | false => rw [ho] at h; cases h
    | true =>
      rw [ho] at h
      refine .inl ⟨_, if_pos rfl, ?_⟩
      cases hm : MM c d <;> rw [hm] at h <;> exact h
  · exact .inr ⟨rfl, h⟩
theorem X3_ok : XOk (β := β) K3 X3 := fun f args rs k d r h => by
  have h : (Bool.rec (motive := fun _ => Option β) (X0 f args rs.length rs k d) (mapX args k d) (Nat.beq f 12)) = some r := h
  have e : K3.ext f args rs.reverse = (Bool.rec (motive := fun _ => Option PV) (ext0 f args) (mapE args) (Nat.beq f 12)) := rfl
  rw [e]
  cases h7 : Nat.beq f 12 with
  | true => rw [h7] at h; exact mapX_ok h
  | false => rw [h7] at h; exact extX_ok (K := K0) (e := ext0) (fun _ _ _ => rfl) f args rs k d r h

/-! ### Contained -/
abbrev El := Nat × List PV
def eE (p : El) : PV := .agg [.lst false 3 p.1 p.2, .nilslice]
def cE (p : El) : List PV := [.lst false 3 p.1 p.2, .nilslice]
def qE (js : List El) : PV := .agg [.nilslice, .lst false 2 js.length (js.flatMap cE)]
noncomputable def anyT (d : PV) (qs : List El) (yes no : Option β) : Option β := List.rec (motive := fun _ => Option β) no (fun c _ ih => Bool.rec (motive := fun _ => Option β) none (Bool.rec (motive := fun _ => Option β) ih yes (MM (eE c) d)) (kn (eE c) d)) qs
noncomputable def conT (qs : List El) (k : Bool → Option β) (ps : List El) : Option β := List.rec (motive := fun _ => Option β) (k true) (fun d _ ih => anyT (eE d) qs ih (k false)) ps
end
def CON (ps qs : List El) : Prop := runS K3 E0 X3 100000 5 [qE ps, qE qs] = conT qs (fun b => some (.bool b, [])) ps
end Go.MT
