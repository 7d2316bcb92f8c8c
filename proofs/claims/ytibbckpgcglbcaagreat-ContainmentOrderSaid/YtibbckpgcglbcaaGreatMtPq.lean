/-
  The parser's answers on the texts (1 of 4).
-/
import Derived.Test.YtibbckpgcglbcaaGreatMtTab
namespace Go.MT
theorem pq10 : PQ 10 := by unfold PQ; kernel_rfl
theorem pq11 : PQ 11 := by unfold PQ; kernel_rfl
theorem pq0 : PQ 0 := by unfold PQ; kernel_rfl
theorem pq1 : PQ 1 := by unfold PQ; kernel_rfl
theorem pq2 : PQ 2 := by unfold PQ; kernel_rfl
theorem pq20 : PQ 20 := by unfold PQ; kernel_rfl
end Go.MT

namespace Go.MT
theorem pq12 : PQ 12 := by unfold PQ; kernel_rfl
theorem pq13 : PQ 13 := by unfold PQ; kernel_rfl
theorem pq3 : PQ 3 := by unfold PQ; kernel_rfl
theorem pq4 : PQ 4 := by unfold PQ; kernel_rfl
theorem pq5 : PQ 5 := by unfold PQ; kernel_rfl
end Go.MT

namespace Go.MT
theorem pq14 : PQ 14 := by unfold PQ; kernel_rfl
theorem pq6 : PQ 6 := by unfold PQ; kernel_rfl
theorem pq7 : PQ 7 := by unfold PQ; kernel_rfl
theorem pq8 : PQ 8 := by unfold PQ; kernel_rfl
theorem pq16 : PQ 16 := by unfold PQ; kernel_rfl
theorem pq17 : PQ 17 := by unfold PQ; kernel_rfl
end Go.MT

namespace Go.MT
theorem pq15 : PQ 15 := by unfold PQ; kernel_rfl
theorem pq9 : PQ 9 := by unfold PQ; kernel_rfl
theorem pq18 : PQ 18 := by unfold PQ; kernel_rfl
theorem pq19 : PQ 19 := by unfold PQ; kernel_rfl
theorem pq21 : PQ 21 := by unfold PQ; kernel_rfl
end Go.MT
