/-
  The last level: what the law's own function answers, as a tree of questions.
-/
import Derived.Test.YtibbckpgcglbcaaGreatMtLv2
import Derived.Test.YtibbckpgcglbcaaGreatMtLv3b
namespace Go.MT
open Go Go.Proofs

/-! ### known -/
theorem known_run : runS K0 E0 X0 100000 6 [] = some (.bool true, []) := by kernel_rfl

/-! ### a list of disjuncts, held or live -/
def viewO (s : PV) (σ : Store) : Option (Nat × List PV) := match s with
  | .lst false 2 m cs => some (m, cs)
  | .ref id 0 m 2 => match σ[id]? with
    | some (.arr cs none) => some (m, cs)
    | _ => none
  | _ => none
def Fits (m : Nat) (cs : List PV) (is : List Nat) : Prop := Small is ∧ 0 < is.length ∧ is.length ≤ 6 ∧ m = is.length ∧ cs = (els is).flatMap cE
open Classical in
noncomputable def okC (m : Nat) (cs : List PV) (m' : Nat) (cs' : List PV) : Bool := decide (∃ is js, Fits m cs is ∧ Fits m' cs' js ∧ (is.length ≤ 3 ∨ js.length ≤ 3))
open Classical in
noncomputable def CC (m : Nat) (cs : List PV) (m' : Nat) (cs' : List PV) : Bool := decide (∃ is js, Fits m cs is ∧ Fits m' cs' js ∧ CT is js = true)
def twoQ (args : List PV) : Option (PV × PV) := match args with
  | [.agg [.nilslice, s], .agg [.nilslice, t]] => some (s, t)
  | _ => none
noncomputable def conE (args : List PV) (σ : Store) : Option PV := match twoQ args with
  | some (s, t) => match viewO s σ, viewO t σ with
    | some (m, cs), some (m', cs') => if okC m cs m' cs' = true then some (.bool (CC m cs m' cs')) else none
    | _, _ => none
  | none => none
open Classical in
noncomputable def okL (l : PV) : Bool := decide (∃ zs, IntsL l zs)
noncomputable def posqE (args : List PV) : Option PV := match oneArg args with
  | some l => if okL l = true then some (qV (headP (Nat.mod (atP l 0) 2)) (qL l)) else none
  | none => none
def knownE (args : List PV) : Option PV := match args with
  | [] => some (.bool true)
  | _ => none
noncomputable def ext4 (f : FuncId) (vs : List PV) (σ : Store) : Option PV :=
  Bool.rec (motive := fun _ => Option PV) (Bool.rec (motive := fun _ => Option PV) (Bool.rec (motive := fun _ => Option PV) (ext0 f vs) (knownE vs) (Nat.beq f 6)) (conE vs σ) (Nat.beq f 5)) (posqE vs) (Nat.beq f 4)
noncomputable def K4 : Cfg := ⟨Tryz.prog, pol, ext4⟩

section
variable {β : Type}
noncomputable def viewX (s : PV) (n : Nat) (rs : List Obj) (k : Nat → List PV → Option β) : Option β := match s with
  | .lst false 2 m cs => k m cs
  | .ref id 0 m 2 => getR n rs id fun o => match o with
    | .arr cs none => k m cs
    | _ => none
  | _ => none
noncomputable def askC (m : Nat) (cs : List PV) (m' : Nat) (cs' : List PV) (yes no : Option β) : Option β := Bool.rec (motive := fun _ => Option β) none (Bool.rec (motive := fun _ => Option β) no yes (CC m cs m' cs')) (okC m cs m' cs')
noncomputable def conX (args : List PV) (n : Nat) (rs : List Obj) (k : PV → Option β) (d : Option β) : Option β := match twoQ args with
  | some (s, t) => viewX s n rs fun m cs => viewX t n rs fun m' cs' => askC m cs m' cs' (k (.bool true)) (k (.bool false))
  | none => d
noncomputable def cellsM (l : PV) (m : Nat) : List PV := ((List.range (Nat.succ m)).map fun i => posI (atP l (Nat.add 2 i))).flatMap elem
noncomputable def askQ (l : PV) (k : Nat → Nat → Option β) : Option β := Bool.rec (motive := fun _ => Option β) none (spreadN 2 (Nat.mod (atP l 0) 2) fun h => spreadN 3 (Nat.mod (atP l 1) 3) fun m => k h m) (okL l)
noncomputable def posqX (args : List PV) (k : PV → Option β) (d : Option β) : Option β := match oneArg args with
  | some l => askQ l fun h m => k (.agg [headP h, .lst false 2 (Nat.succ m) (cellsM l m)])
  | none => d
noncomputable def knownX (args : List PV) (k : PV → Option β) (d : Option β) : Option β := match args with
  | [] => k (.bool true)
  | _ => d
noncomputable def X4 : XF β := fun f args n rs k d =>
  Bool.rec (motive := fun _ => Option β) (Bool.rec (motive := fun _ => Option β) (Bool.rec (motive := fun _ => Option β) (X0 f args n rs k d) (knownX args k d) (Nat.beq f 6)) (conX args n rs k d) (Nat.beq f 5)) (posqX args k d) (Nat.beq f 4)

/-! ### the law's function -/
noncomputable def rest (m : Nat) (cs : List PV) (m' : Nat) (cs' : List PV) (T F : Option β) : Option β :=
  askC m cs m cs (askC m cs (Nat.add m m') (cs ++ cs') (askC m' cs' (Nat.add m m') (cs ++ cs') (askC (Nat.add m m') (cs ++ cs') m' cs' (askC m cs m' cs' T F) (askC m cs m' cs' F T)) F) F) F
noncomputable def lawT (l1 l2 l3 : PV) (T F : Option β) : Option β := askQ l1 fun _ m1 => askQ l2 fun _ m2 => askQ l3 fun _ m3 =>
  askC (Nat.succ m1) (cellsM l1 m1) (Nat.succ m2) (cellsM l2 m2)
    (askC (Nat.succ m2) (cellsM l2 m2) (Nat.succ m3) (cellsM l3 m3)
      (askC (Nat.succ m1) (cellsM l1 m1) (Nat.succ m3) (cellsM l3 m3) (rest (Nat.succ m1) (cellsM l1 m1) (Nat.succ m2) (cellsM l2 m2) T F) F)
      (rest (Nat.succ m1) (cellsM l1 m1) (Nat.succ m2) (cellsM l2 m2) T F))
    (rest (Nat.succ m1) (cellsM l1 m1) (Nat.succ m2) (cellsM l2 m2) T F)
end
def LAW (l1 l2 l3 : PV) : Prop := runS K4 E0 X4 100000 3 [l1, l2, l3] = lawT l1 l2 l3 (some (.bool true, [])) (some (.bool false, []))
theorem law0 (n n' n'' : Nat) (c c' c'' : List PV) : LAW (.lst false 1 n c) (.lst false 1 n' c') (.lst false 1 n'' c'') := by unfold LAW; kernel_rfl
theorem law1 (n' n'' : Nat) (c' c'' : List PV) : LAW .nilslice (.lst false 1 n' c') (.lst false 1 n'' c'') := by unfold LAW; kernel_rfl
theorem law2 (n n'' : Nat) (c c'' : List PV) : LAW (.lst false 1 n c) .nilslice (.lst false 1 n'' c'') := by unfold LAW; kernel_rfl
theorem law3 (n'' : Nat) (c'' : List PV) : LAW .nilslice .nilslice (.lst false 1 n'' c'') := by unfold LAW; kernel_rfl
theorem law4 (n n' : Nat) (c c' : List PV) : LAW (.lst false 1 n c) (.lst false 1 n' c') .nilslice := by unfold LAW; kernel_rfl
theorem law5 (n' : Nat) (c' : List PV) : LAW .nilslice (.lst false 1 n' c') .nilslice := by unfold LAW; kernel_rfl
theorem law6 (n : Nat) (c : List PV) : LAW (.lst false 1 n c) .nilslice .nilslice := by unfold LAW; kernel_rfl
theorem law7 : LAW .nilslice .nilslice .nilslice := by unfold LAW; kernel_rfl
end Go.MT
