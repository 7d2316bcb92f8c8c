/-
  What Contained answers over given disjuncts.
-/
import Derived.Test.YtibbckpgcglbcaaGreatMtLv3
namespace Go.MT
open Go Go.Proofs
theorem con1_1 (p0 q0 : El) : CON [p0] [q0] := by unfold CON; kernel_rfl
theorem con1_2 (p0 q0 q1 : El) : CON [p0] [q0, q1] := by unfold CON; kernel_rfl
theorem con1_3 (p0 q0 q1 q2 : El) : CON [p0] [q0, q1, q2] := by unfold CON; kernel_rfl
theorem con1_4 (p0 q0 q1 q2 q3 : El) : CON [p0] [q0, q1, q2, q3] := by unfold CON; kernel_rfl
theorem con1_5 (p0 q0 q1 q2 q3 q4 : El) : CON [p0] [q0, q1, q2, q3, q4] := by unfold CON; kernel_rfl
theorem con1_6 (p0 q0 q1 q2 q3 q4 q5 : El) : CON [p0] [q0, q1, q2, q3, q4, q5] := by unfold CON; kernel_rfl
theorem con2_1 (p0 p1 q0 : El) : CON [p0, p1] [q0] := by unfold CON; kernel_rfl
theorem con2_2 (p0 p1 q0 q1 : El) : CON [p0, p1] [q0, q1] := by unfold CON; kernel_rfl
theorem con2_3 (p0 p1 q0 q1 q2 : El) : CON [p0, p1] [q0, q1, q2] := by unfold CON; kernel_rfl
theorem con2_4 (p0 p1 q0 q1 q2 q3 : El) : CON [p0, p1] [q0, q1, q2, q3] := by unfold CON; kernel_rfl
theorem con2_5 (p0 p1 q0 q1 q2 q3 q4 : El) : CON [p0, p1] [q0, q1, q2, q3, q4] := by unfold CON; kernel_rfl
theorem con2_6 (p0 p1 q0 q1 q2 q3 q4 q5 : El) : CON [p0, p1] [q0, q1, q2, q3, q4, q5] := by unfold CON; kernel_rfl
theorem con3_1 (p0 p1 p2 q0 : El) : CON [p0, p1, p2] [q0] := by unfold CON; kernel_rfl
theorem con3_2 (p0 p1 p2 q0 q1 : El) : CON [p0, p1, p2] [q0, q1] := by unfold CON; kernel_rfl
theorem con3_3 (p0 p1 p2 q0 q1 q2 : El) : CON [p0, p1, p2] [q0, q1, q2] := by unfold CON; kernel_rfl
theorem con3_4 (p0 p1 p2 q0 q1 q2 q3 : El) : CON [p0, p1, p2] [q0, q1, q2, q3] := by unfold CON; kernel_rfl
theorem con3_5 (p0 p1 p2 q0 q1 q2 q3 q4 : El) : CON [p0, p1, p2] [q0, q1, q2, q3, q4] := by unfold CON; kernel_rfl
theorem con3_6 (p0 p1 p2 q0 q1 q2 q3 q4 q5 : El) : CON [p0, p1, p2] [q0, q1, q2, q3, q4, q5] := by unfold CON; kernel_rfl
theorem con4_1 (p0 p1 p2 p3 q0 : El) : CON [p0, p1, p2, p3] [q0] := by unfold CON; kernel_rfl
theorem con4_2 (p0 p1 p2 p3 q0 q1 : El) : CON [p0, p1, p2, p3] [q0, q1] := by unfold CON; kernel_rfl
theorem con4_3 (p0 p1 p2 p3 q0 q1 q2 : El) : CON [p0, p1, p2, p3] [q0, q1, q2] := by unfold CON; kernel_rfl
theorem con5_1 (p0 p1 p2 p3 p4 q0 : El) : CON [p0, p1, p2, p3, p4] [q0] := by unfold CON; kernel_rfl
theorem con5_2 (p0 p1 p2 p3 p4 q0 q1 : El) : CON [p0, p1, p2, p3, p4] [q0, q1] := by unfold CON; kernel_rfl
theorem con5_3 (p0 p1 p2 p3 p4 q0 q1 q2 : El) : CON [p0, p1, p2, p3, p4] [q0, q1, q2] := by unfold CON; kernel_rfl
theorem con6_1 (p0 p1 p2 p3 p4 p5 q0 : El) : CON [p0, p1, p2, p3, p4, p5] [q0] := by unfold CON; kernel_rfl
theorem con6_2 (p0 p1 p2 p3 p4 p5 q0 q1 : El) : CON [p0, p1, p2, p3, p4, p5] [q0, q1] := by unfold CON; kernel_rfl
theorem con6_3 (p0 p1 p2 p3 p4 p5 q0 q1 q2 : El) : CON [p0, p1, p2, p3, p4, p5] [q0, q1, q2] := by unfold CON; kernel_rfl
theorem conAll : ∀ ps qs : List El, 0 < ps.length → 0 < qs.length → ps.length ≤ 6 → qs.length ≤ 6 → (ps.length ≤ 3 ∨ qs.length ≤ 3) → CON ps qs
  | [p0], [q0], _, _, _, _, _ => con1_1 p0 q0
  | [p0], [q0, q1], _, _, _, _, _ => con1_2 p0 q0 q1
  | [p0], [q0, q1, q2], _, _, _, _, _ => con1_3 p0 q0 q1 q2
  | [p0], [q0, q1, q2, q3], _, _, _, _, _ => con1_4 p0 q0 q1 q2 q3
  | [p0], [q0, q1, q2, q3, q4], _, _, _, _, _ => con1_5 p0 q0 q1 q2 q3 q4
  | [p0], [q0, q1, q2, q3, q4, q5], _, _, _, _, _ => con1_6 p0 q0 q1 q2 q3 q4 q5
  | [p0, p1], [q0], _, _, _, _, _ => con2_1 p0 p1 q0
  | [p0, p1], [q0, q1], _, _, _, _, _ => con2_2 p0 p1 q0 q1
  | [p0, p1], [q0, q1, q2], _, _, _, _, _ => con2_3 p0 p1 q0 q1 q2
  | [p0, p1], [q0, q1, q2, q3], _, _, _, _, _ => con2_4 p0 p1 q0 q1 q2 q3
  | [p0, p1], [q0, q1, q2, q3, q4], _, _, _, _, _ => con2_5 p0 p1 q0 q1 q2 q3 q4
  | [p0, p1], [q0, q1, q2, q3, q4, q5], _, _, _, _, _ => con2_6 p0 p1 q0 q1 q2 q3 q4 q5
  | [p0, p1, p2], [q0], _, _, _, _, _ => con3_1 p0 p1 p2 q0
  | [p0, p1, p2], [q0, q1], _, _, _, _, _ => con3_2 p0 p1 p2 q0 q1
  | [p0, p1, p2], [q0, q1, q2], _, _, _, _, _ => con3_3 p0 p1 p2 q0 q1 q2
  | [p0, p1, p2], [q0, q1, q2, q3], _, _, _, _, _ => con3_4 p0 p1 p2 q0 q1 q2 q3
  | [p0, p1, p2], [q0, q1, q2, q3, q4], _, _, _, _, _ => con3_5 p0 p1 p2 q0 q1 q2 q3 q4
  | [p0, p1, p2], [q0, q1, q2, q3, q4, q5], _, _, _, _, _ => con3_6 p0 p1 p2 q0 q1 q2 q3 q4 q5
  | [p0, p1, p2, p3], [q0], _, _, _, _, _ => con4_1 p0 p1 p2 p3 q0
  | [p0, p1, p2, p3], [q0, q1], _, _, _, _, _ => con4_2 p0 p1 p2 p3 q0 q1
  | [p0, p1, p2, p3], [q0, q1, q2], _, _, _, _, _ => con4_3 p0 p1 p2 p3 q0 q1 q2
  | [p0, p1, p2, p3, p4], [q0], _, _, _, _, _ => con5_1 p0 p1 p2 p3 p4 q0
  | [p0, p1, p2, p3, p4], [q0, q1], _, _, _, _, _ => con5_2 p0 p1 p2 p3 p4 q0 q1
  | [p0, p1, p2, p3, p4], [q0, q1, q2], _, _, _, _, _ => con5_3 p0 p1 p2 p3 p4 q0 q1 q2
  | [p0, p1, p2, p3, p4, p5], [q0], _, _, _, _, _ => con6_1 p0 p1 p2 p3 p4 p5 q0
  | [p0, p1, p2, p3, p4, p5], [q0, q1], _, _, _, _, _ => con6_2 p0 p1 p2 p3 p4 p5 q0 q1
  | [p0, p1, p2, p3, p4, p5], [q0, q1, q2], _, _, _, _, _ => con6_3 p0 p1 p2 p3 p4 p5 q0 q1 q2
  | [], _, h, _, _, _, _ => absurd h (by simp)
  | _ :: _, [], _, h, _, _, _ => absurd h (by simp)
  | _ :: _ :: _ :: _ :: _ :: _ :: _ :: _, _, _, _, h, _, _ => absurd h (by simp)
  | _, _ :: _ :: _ :: _ :: _ :: _ :: _ :: _, _, _, _, h, _ => absurd h (by simp)
  | [_, _, _, _], [_, _, _, _], _, _, _, _, h => absurd h (by simp)
  | [_, _, _, _], [_, _, _, _, _], _, _, _, _, h => absurd h (by simp)
  | [_, _, _, _], [_, _, _, _, _, _], _, _, _, _, h => absurd h (by simp)
  | [_, _, _, _, _], [_, _, _, _], _, _, _, _, h => absurd h (by simp)
  | [_, _, _, _, _], [_, _, _, _, _], _, _, _, _, h => absurd h (by simp)
  | [_, _, _, _, _], [_, _, _, _, _, _], _, _, _, _, h => absurd h (by simp)
  | [_, _, _, _, _, _], [_, _, _, _], _, _, _, _, h => absurd h (by simp)
  | [_, _, _, _, _, _], [_, _, _, _, _], _, _, _, _, h => absurd h (by simp)
  | [_, _, _, _, _, _], [_, _, _, _, _, _], _, _, _, _, h => absurd h (by simp)
end Go.MT
