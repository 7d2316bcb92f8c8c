/-
  From an answer of the evaluator: what is known of a call whatever the store; the call's contract in the model.
-/
import Derived.Test.YtibbckpgcglbcaaGreatMtCall
import Derived.Test.YtibbckpgcglbcaaGreatMtDraw
import Derived.Below
namespace Go.MT
open Go.RowKit

/-- an answer out of an empty store is the call's contract -/
theorem top {K : Cfg} {C : CallT} (hC : CallOK K C) (hF : FuncsOK K) {fl : Nat} {f : FuncId} {fn : Func} {c : Code} (hfn : K.P.funcs[f]? = some fn) (hb : fn.body = some c) {args : List PV} {v : PV} {σ' : Store}
    (h : C fl f args [] = some (v, σ')) (w : World) (Z : Nat → Prop) (hz : ∀ b, Z b → b < w.heap.size) (as : Array Value) (hv : Vs { τ := fun _ => none, ρ := fun _ => ⟨0, 0, 0⟩, Z := Z, w := w } args as.toList) :
    Calls K.P f as w fun e w' => ∃ u H', e = .returned u ∧ Hp.w H' = w' ∧ V H' v u ∧ Below w.heap.size w w' := by
  have hr : HR { τ := fun _ => none, ρ := fun _ => ⟨0, 0, 0⟩, Z := Z, w := w } :=
    ⟨fun _ _ _ e => by simp at e, fun _ _ e => by simp at e, fun _ _ _ _ e => by simp at e, fun b hb => ⟨hz b hb, fun _ _ e => by simp at e⟩⟩
  rcases (hC _ _ _ _ _ _ h).2 _ as (by rw [view_nil]) hr hv with ⟨fn, c, h1, h2, h3, h4⟩ | ⟨u, h1, h2, _⟩
  · refine Calls.mono h4 ?_
    rintro e w' ⟨u, H', rfl, rfl, q1, q2, q3, q4⟩
    exact ⟨u, H', rfl, rfl, q1, q3.os, q3.tape, q3.output, q3.size, fun k hk => (q3.frame k hk fun id o e => by simp at e).1⟩
  · have hng := (hF f fn c hfn hb).2
    simp [callFunc, hfn, hb, hng] at h1

theorem top_bool {K : Cfg} {C : CallT} (hC : CallOK K C) (hF : FuncsOK K) {fl : Nat} {f : FuncId} {fn : Func} {c : Code} (hfn : K.P.funcs[f]? = some fn) (hb : fn.body = some c) {args : List PV} {b : Bool} {σ' : Store}
    (h : C fl f args [] = some (.bool b, σ')) (w : World) (Z : Nat → Prop) (hz : ∀ b, Z b → b < w.heap.size) (as : Array Value) (hv : Vs { τ := fun _ => none, ρ := fun _ => ⟨0, 0, 0⟩, Z := Z, w := w } args as.toList) :
    Calls K.P f as w fun e w' => e = .returned (.bool b) ∧ Below w.heap.size w w' := by
  refine Calls.mono (top hC hF hfn hb h w Z hz as hv) ?_
  rintro e w' ⟨u, H', rfl, _, hv, hb⟩
  simp only [V] at hv
  exact ⟨by rw [hv], hb⟩

end Go.MT
