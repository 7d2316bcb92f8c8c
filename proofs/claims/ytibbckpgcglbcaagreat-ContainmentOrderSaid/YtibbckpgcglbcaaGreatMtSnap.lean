/-
  A call that answers a truth value is known where its arguments name live slices, from what is known of it over what they hold.
-/
import Derived.Test.YtibbckpgcglbcaaGreatMtOk
namespace Go.MT
theorem HR.shut {H : Hp} (hr : HR H) : HR (H.shut 0) where
  arr := fun id cs cap h => by simp [Hp.shut] at h
  mp := fun id es h => by simp [Hp.shut] at h
  inj := fun i j o o' h => by simp [Hp.shut] at h
  z := fun b hb => ⟨by
    simp only [Hp.shut] at hb
    rcases hb with hb | ⟨id, o, h1, h2, h3, h4⟩
    · exact (hr.z b hb).1
    · subst h4; exact hr.lt h2 h3, fun id o h => by simp [Hp.shut] at h⟩
theorem shut_none {H : Hp} (id : Nat) : (H.shut 0).τ id = none := by simp [Hp.shut]
theorem snap_sum {P : Program} {f : FuncId} {args args' : List PV} {σ : Store} {b : Bool} (hs : mapO (freezeA σ 0) args = some args') (h : SumOK P f args' (.bool b)) : SumAt P f args σ (.bool b) := by
  intro H as hsub hr hvs
  have hv1 : Vs (H.shut 0) args' as.toList := (mapO_spec hs hvs fun c d u _ hd hc => freezeA_spec hr hsub hd hc).1
  rcases h (H.shut 0) as hr.shut hv1 with ⟨fn, c, q1, q2, q3, q4⟩ | ⟨u, q1, q2⟩
  · refine .inl ⟨fn, c, q1, q2, q3, q4.mono ?_⟩
    rintro e w' ⟨u, H', rfl, rfl, p1, p2, p3, p4⟩
    have fr : ∀ k, k < H.w.heap.size → H'.w.heap[k]? = H.w.heap[k]? := fun k hk => (p3.frame k hk fun id o ho => by rw [shut_none] at ho; cases ho).1
    have v1 : VExt H { H with w := H'.w } := ⟨fun id o ho => ⟨o, ho, by cases o <;> simp [Obj.keeps], fun _ => rfl⟩, fun k hk => ⟨hk, fr k (hr.z k hk).1⟩⟩
    refine ⟨u, { H with w := H'.w }, rfl, rfl, by simpa only [V] using p1, ⟨fun id cs cap ho => ?_, fun id es ho => ?_, hr.inj, fun k hk => ⟨Nat.lt_of_lt_of_le (hr.z k hk).1 p3.size, (hr.z k hk).2⟩⟩,
      { v1 with os := p3.os, tape := p3.tape, output := p3.output, size := p3.size, frame := fun k hk _ => ⟨fr k hk, id⟩, img := fun id o ho hd _ hf => hf id o ho hd rfl }, rfl⟩
    · obtain ⟨c, e, f, h1, h2, h3, h4, h5, h6, h7⟩ := hr.arr id cs cap ho
      exact ⟨c, e, f, by rw [← h1]; exact fr _ (hr.lt ho (by simp)), h2, h3, h4, h5, h6, Vs_ext v1 h7⟩
    · obtain ⟨es', clk, h1, h2, h3⟩ := hr.mp id es ho
      exact ⟨es', clk, by rw [← h1]; exact fr _ (hr.lt ho (by simp)), Vs_ext v1 h2, Vs_ext v1 h3⟩
  · exact .inr ⟨u, q1, by simpa only [V] using q2⟩
end Go.MT
