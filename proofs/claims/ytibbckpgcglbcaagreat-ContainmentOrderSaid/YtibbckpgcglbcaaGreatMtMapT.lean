/-
  Which of the law's queries map into which: the table.
-/
import Derived.Test.YtibbckpgcglbcaaGreatMtTrm
namespace Go.MT
open Go Go.Proofs
def mapM : List (List Bool) := [[true, true, true, true, false, true, true, true, true, false, true, true, true, false, false, false, true, true, true, true, false, true],
  [false, true, false, false, false, false, false, false, true, false, false, false, false, false, false, false, false, true, false, false, false, false],
  [false, false, true, false, false, false, false, false, true, false, false, false, false, false, false, false, false, false, false, true, false, false],
  [false, false, false, true, false, false, false, false, false, false, false, false, false, false, false, false, false, false, false, false, false, false],
  [false, false, false, false, true, false, false, false, false, false, false, false, false, false, false, false, false, false, false, false, false, false],
  [false, false, false, false, false, true, true, false, false, false, false, false, false, false, false, false, true, false, false, false, false, true],
  [false, false, false, false, false, false, true, false, false, false, false, false, false, false, false, false, true, false, false, false, false, true],
  [false, false, false, false, false, false, false, true, false, false, false, false, false, false, false, false, false, false, false, false, false, false],
  [false, false, false, false, false, false, false, false, true, false, false, false, false, false, false, false, false, false, false, false, false, false],
  [false, false, false, true, true, false, false, false, false, true, false, false, false, true, true, true, false, true, false, false, false, false],
  [false, false, false, false, false, false, false, false, false, false, true, false, false, false, false, false, false, false, false, false, false, false],
  [false, false, false, false, false, false, false, false, false, false, false, true, false, false, false, false, false, false, false, false, false, false],
  [false, false, false, false, false, false, false, false, false, false, false, false, true, false, false, false, false, false, false, false, false, false],
  [false, false, false, false, false, false, false, false, false, false, false, false, false, true, false, false, false, false, false, false, false, false],
  [false, false, false, false, false, false, false, false, false, false, false, false, false, false, true, false, false, false, false, false, false, false],
  [false, false, false, false, false, false, false, false, false, false, false, false, false, false, false, true, false, false, false, false, false, false],
  [false, false, false, false, false, false, false, false, false, false, false, false, false, false, false, false, true, false, false, false, false, true],
  [false, false, false, false, false, false, false, false, false, false, false, false, false, false, false, false, false, true, false, false, false, false],
  [true, true, true, true, false, true, true, true, true, false, true, true, true, false, false, false, true, true, true, true, false, true],
  [false, false, true, false, false, false, false, false, true, false, false, false, false, false, false, false, false, false, false, true, false, false],
  [false, true, true, false, true, false, false, false, true, false, false, false, false, true, true, true, false, true, false, true, true, false],
  [false, false, false, false, false, false, false, false, false, false, false, false, false, false, false, false, true, false, false, false, false, true]]
noncomputable def mapB (i j : Nat) : Bool := nthR mapM i false fun r => nthR r j false id
def MP (i j : Nat) : Prop := runS KT E0 XT 100000 12 [cq i, cq j, .nilslice] = some (.bool (mapB i j), [])
end Go.MT
