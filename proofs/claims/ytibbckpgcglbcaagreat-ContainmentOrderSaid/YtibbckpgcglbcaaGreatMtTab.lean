/-
  The queries that the law's inputs are built of: their texts, and what they read as.
-/
import Derived.Test.YtibbckpgcglbcaaGreatMtSeat
namespace Go.MT
/-- the texts -/
def cqS : List (List Nat) := [[82, 40, 120, 44, 32, 121, 41],
  [82, 40, 120, 44, 32, 121, 41, 44, 32, 83, 40, 121, 41],
  [82, 40, 120, 44, 32, 121, 41, 44, 32, 83, 40, 120, 41],
  [82, 40, 120, 44, 32, 121, 41, 44, 32, 75, 40, 121, 44, 32, 122, 41],
  [75, 40, 120, 44, 32, 121, 41, 44, 32, 83, 40, 121, 41],
  [82, 40, 120, 44, 32, 121, 41, 44, 32, 82, 40, 121, 44, 32, 122, 41],
  [82, 40, 120, 44, 32, 121, 41, 44, 32, 82, 40, 121, 44, 32, 120, 41],
  [67, 40, 120, 44, 32, 121, 41, 44, 32, 82, 40, 121, 44, 32, 122, 41],
  [82, 40, 120, 44, 32, 121, 41, 44, 32, 83, 40, 120, 41, 44, 32, 83, 40, 121, 41],
  [75, 40, 120, 44, 32, 121, 41, 44, 32, 75, 40, 122, 44, 32, 121, 41],
  [82, 40, 120, 44, 32, 49, 41],
  [82, 40, 120, 44, 32, 50, 41],
  [82, 40, 120, 44, 32, 51, 41],
  [83, 40, 120, 41, 44, 32, 75, 40, 120, 44, 32, 49, 41],
  [83, 40, 120, 41, 44, 32, 75, 40, 120, 44, 32, 50, 41],
  [83, 40, 120, 41, 44, 32, 75, 40, 120, 44, 32, 51, 41],
  [82, 40, 120, 44, 32, 120, 41],
  [75, 40, 120, 44, 32, 121, 41, 44, 32, 82, 40, 121, 44, 32, 122, 41, 44, 32, 83, 40, 122, 41],
  [82, 40, 120, 44, 32, 121, 41, 44, 32, 82, 40, 120, 44, 32, 122, 41],
  [82, 40, 120, 44, 32, 121, 41, 44, 32, 82, 40, 122, 44, 32, 121, 41, 44, 32, 83, 40, 122, 41],
  [83, 40, 120, 41],
  [82, 40, 120, 44, 32, 121, 41, 44, 32, 82, 40, 121, 44, 32, 122, 41, 44, 32, 82, 40, 120, 44, 32, 120, 41]]
/-- how many atoms, and the atoms' cells -/
def cqs : List (Nat × List PV) := [(1, [(.str [82]), (.bool false), (.lst false 4 2 [(.str [120]), (.int .i64 0), (.int .i64 0), (.str []), (.str [121]), (.int .i64 0), (.int .i64 0), (.str [])])]),
  (2, [(.str [82]), (.bool false), (.lst false 4 2 [(.str [120]), (.int .i64 0), (.int .i64 0), (.str []), (.str [121]), (.int .i64 0), (.int .i64 0), (.str [])]), (.str [83]), (.bool false), (.lst false 4 1 [(.str [121]), (.int .i64 0), (.int .i64 0), (.str [])])]),
  (2, [(.str [82]), (.bool false), (.lst false 4 2 [(.str [120]), (.int .i64 0), (.int .i64 0), (.str []), (.str [121]), (.int .i64 0), (.int .i64 0), (.str [])]), (.str [83]), (.bool false), (.lst false 4 1 [(.str [120]), (.int .i64 0), (.int .i64 0), (.str [])])]),
  (2, [(.str [82]), (.bool false), (.lst false 4 2 [(.str [120]), (.int .i64 0), (.int .i64 0), (.str []), (.str [121]), (.int .i64 0), (.int .i64 0), (.str [])]), (.str [75]), (.bool false), (.lst false 4 2 [(.str [121]), (.int .i64 0), (.int .i64 0), (.str []), (.str [122]), (.int .i64 0), (.int .i64 0), (.str [])])]),
  (2, [(.str [75]), (.bool false), (.lst false 4 2 [(.str [120]), (.int .i64 0), (.int .i64 0), (.str []), (.str [121]), (.int .i64 0), (.int .i64 0), (.str [])]), (.str [83]), (.bool false), (.lst false 4 1 [(.str [121]), (.int .i64 0), (.int .i64 0), (.str [])])]),
  (2, [(.str [82]), (.bool false), (.lst false 4 2 [(.str [120]), (.int .i64 0), (.int .i64 0), (.str []), (.str [121]), (.int .i64 0), (.int .i64 0), (.str [])]), (.str [82]), (.bool false), (.lst false 4 2 [(.str [121]), (.int .i64 0), (.int .i64 0), (.str []), (.str [122]), (.int .i64 0), (.int .i64 0), (.str [])])]),
  (2, [(.str [82]), (.bool false), (.lst false 4 2 [(.str [120]), (.int .i64 0), (.int .i64 0), (.str []), (.str [121]), (.int .i64 0), (.int .i64 0), (.str [])]), (.str [82]), (.bool false), (.lst false 4 2 [(.str [121]), (.int .i64 0), (.int .i64 0), (.str []), (.str [120]), (.int .i64 0), (.int .i64 0), (.str [])])]),
  (2, [(.str [67]), (.bool false), (.lst false 4 2 [(.str [120]), (.int .i64 0), (.int .i64 0), (.str []), (.str [121]), (.int .i64 0), (.int .i64 0), (.str [])]), (.str [82]), (.bool false), (.lst false 4 2 [(.str [121]), (.int .i64 0), (.int .i64 0), (.str []), (.str [122]), (.int .i64 0), (.int .i64 0), (.str [])])]),
  (3, [(.str [82]), (.bool false), (.lst false 4 2 [(.str [120]), (.int .i64 0), (.int .i64 0), (.str []), (.str [121]), (.int .i64 0), (.int .i64 0), (.str [])]), (.str [83]), (.bool false), (.lst false 4 1 [(.str [120]), (.int .i64 0), (.int .i64 0), (.str [])]), (.str [83]), (.bool false), (.lst false 4 1 [(.str [121]), (.int .i64 0), (.int .i64 0), (.str [])])]),
  (2, [(.str [75]), (.bool false), (.lst false 4 2 [(.str [120]), (.int .i64 0), (.int .i64 0), (.str []), (.str [121]), (.int .i64 0), (.int .i64 0), (.str [])]), (.str [75]), (.bool false), (.lst false 4 2 [(.str [122]), (.int .i64 0), (.int .i64 0), (.str []), (.str [121]), (.int .i64 0), (.int .i64 0), (.str [])])]),
  (1, [(.str [82]), (.bool false), (.lst false 4 2 [(.str [120]), (.int .i64 0), (.int .i64 0), (.str []), (.str []), (.int .i64 1), (.int .i64 1), (.str [])])]),
  (1, [(.str [82]), (.bool false), (.lst false 4 2 [(.str [120]), (.int .i64 0), (.int .i64 0), (.str []), (.str []), (.int .i64 1), (.int .i64 2), (.str [])])]),
  (1, [(.str [82]), (.bool false), (.lst false 4 2 [(.str [120]), (.int .i64 0), (.int .i64 0), (.str []), (.str []), (.int .i64 1), (.int .i64 3), (.str [])])]),
  (2, [(.str [83]), (.bool false), (.lst false 4 1 [(.str [120]), (.int .i64 0), (.int .i64 0), (.str [])]), (.str [75]), (.bool false), (.lst false 4 2 [(.str [120]), (.int .i64 0), (.int .i64 0), (.str []), (.str []), (.int .i64 1), (.int .i64 1), (.str [])])]),
  (2, [(.str [83]), (.bool false), (.lst false 4 1 [(.str [120]), (.int .i64 0), (.int .i64 0), (.str [])]), (.str [75]), (.bool false), (.lst false 4 2 [(.str [120]), (.int .i64 0), (.int .i64 0), (.str []), (.str []), (.int .i64 1), (.int .i64 2), (.str [])])]),
  (2, [(.str [83]), (.bool false), (.lst false 4 1 [(.str [120]), (.int .i64 0), (.int .i64 0), (.str [])]), (.str [75]), (.bool false), (.lst false 4 2 [(.str [120]), (.int .i64 0), (.int .i64 0), (.str []), (.str []), (.int .i64 1), (.int .i64 3), (.str [])])]),
  (1, [(.str [82]), (.bool false), (.lst false 4 2 [(.str [120]), (.int .i64 0), (.int .i64 0), (.str []), (.str [120]), (.int .i64 0), (.int .i64 0), (.str [])])]),
  (3, [(.str [75]), (.bool false), (.lst false 4 2 [(.str [120]), (.int .i64 0), (.int .i64 0), (.str []), (.str [121]), (.int .i64 0), (.int .i64 0), (.str [])]), (.str [82]), (.bool false), (.lst false 4 2 [(.str [121]), (.int .i64 0), (.int .i64 0), (.str []), (.str [122]), (.int .i64 0), (.int .i64 0), (.str [])]), (.str [83]), (.bool false), (.lst false 4 1 [(.str [122]), (.int .i64 0), (.int .i64 0), (.str [])])]),
  (2, [(.str [82]), (.bool false), (.lst false 4 2 [(.str [120]), (.int .i64 0), (.int .i64 0), (.str []), (.str [121]), (.int .i64 0), (.int .i64 0), (.str [])]), (.str [82]), (.bool false), (.lst false 4 2 [(.str [120]), (.int .i64 0), (.int .i64 0), (.str []), (.str [122]), (.int .i64 0), (.int .i64 0), (.str [])])]),
  (3, [(.str [82]), (.bool false), (.lst false 4 2 [(.str [120]), (.int .i64 0), (.int .i64 0), (.str []), (.str [121]), (.int .i64 0), (.int .i64 0), (.str [])]), (.str [82]), (.bool false), (.lst false 4 2 [(.str [122]), (.int .i64 0), (.int .i64 0), (.str []), (.str [121]), (.int .i64 0), (.int .i64 0), (.str [])]), (.str [83]), (.bool false), (.lst false 4 1 [(.str [122]), (.int .i64 0), (.int .i64 0), (.str [])])]),
  (1, [(.str [83]), (.bool false), (.lst false 4 1 [(.str [120]), (.int .i64 0), (.int .i64 0), (.str [])])]),
  (3, [(.str [82]), (.bool false), (.lst false 4 2 [(.str [120]), (.int .i64 0), (.int .i64 0), (.str []), (.str [121]), (.int .i64 0), (.int .i64 0), (.str [])]), (.str [82]), (.bool false), (.lst false 4 2 [(.str [121]), (.int .i64 0), (.int .i64 0), (.str []), (.str [122]), (.int .i64 0), (.int .i64 0), (.str [])]), (.str [82]), (.bool false), (.lst false 4 2 [(.str [120]), (.int .i64 0), (.int .i64 0), (.str []), (.str [120]), (.int .i64 0), (.int .i64 0), (.str [])])])]
/-- which one a pattern and a constant give -/
def cqX : List (List Nat) := [[0, 0, 0, 0, 0, 0, 0, 0], [1, 1, 1, 1, 1, 1, 1, 1], [2, 2, 2, 2, 2, 2, 2, 2], [3, 3, 3, 3, 3, 3, 3, 3], [4, 4, 4, 4, 4, 4, 4, 4], [5, 5, 5, 5, 5, 5, 5, 5], [6, 6, 6, 6, 6, 6, 6, 6], [7, 7, 7, 7, 7, 7, 7, 7], [8, 8, 8, 8, 8, 8, 8, 8], [9, 9, 9, 9, 9, 9, 9, 9], [10, 11, 12, 10, 11, 12, 10, 11], [13, 14, 15, 13, 14, 15, 13, 14], [16, 16, 16, 16, 16, 16, 16, 16], [17, 17, 17, 17, 17, 17, 17, 17], [18, 18, 18, 18, 18, 18, 18, 18], [19, 19, 19, 19, 19, 19, 19, 19], [20, 20, 20, 20, 20, 20, 20, 20], [21, 21, 21, 21, 21, 21, 21, 21]]
noncomputable def cqSt (i : Nat) : List Nat := nthR cqS i [] id
noncomputable def cqN (i : Nat) : Nat := nthR cqs i 0 fun p => p.1
noncomputable def cqC (i : Nat) : List PV := nthR cqs i [] fun p => p.2
noncomputable def cqIx (i j : Nat) : Nat := nthR cqX i 0 fun r => nthR r j 0 id
noncomputable def cq (i : Nat) : PV := .agg [.lst false 3 (cqN i) (cqC i), .nilslice]
noncomputable def pqV (i : Nat) : PV := .tup [.agg [.nilslice, .lst true 2 1 [.lst false 3 (cqN i) (cqC i), .nilslice]], .int .i64 0]
def PQ (i : Nat) : Prop := runS K0 E0 X0 100000 19 [.str (cqSt i)] = some (pqV i, [])
end Go.MT
