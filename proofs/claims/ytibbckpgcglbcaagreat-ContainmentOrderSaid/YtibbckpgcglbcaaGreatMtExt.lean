/-
  What is known of the function without a body that compares two strings.
-/
import Derived.Test.YtibbckpgcglbcaaGreatMtOk
import Derived.Lib.Bytealg
import Derived.Laws.Externs
namespace Go.MT
open Go Go.Lib
def cmpX (a b : List Nat) : Int := if strLess a b then -1 else if strEq a b then 0 else 1
theorem cmpX_bytes : ∀ (a b : List UInt8), compareBytes a b = cmpX (a.map UInt8.toNat) (b.map UInt8.toNat)
  | [], [] => rfl
  | [], _ :: _ => rfl
  | _ :: _, [] => rfl
  | a :: x, b :: y => by
    have ih := cmpX_bytes x y
    simp only [compareBytes, cmpX, strLess, strEq, List.map_cons]
    by_cases h1 : a < b
    · have : Nat.blt a.toNat b.toNat = true := by rw [Nat.blt_eq]; exact UInt8.lt_iff_toNat_lt.1 h1
      simp [h1, this]
    · have e1 : Nat.blt a.toNat b.toNat = false := by
        rw [Bool.eq_false_iff]; intro h; rw [Nat.blt_eq] at h; exact h1 (UInt8.lt_iff_toNat_lt.2 h)
      by_cases h2 : b < a
      · have hne : ¬ a.toNat = b.toNat := fun e => by have := UInt8.lt_iff_toNat_lt.1 h2; omega
        have e2 : Nat.beq a.toNat b.toNat = false := by rw [Bool.eq_false_iff]; intro h; exact hne (Nat.eq_of_beq_eq_true h)
        simp [h1, h2, e1, e2]
      · have he : a.toNat = b.toNat := by
          have h3 : ¬ a.toNat < b.toNat := fun h => h1 (UInt8.lt_iff_toNat_lt.2 h)
          have h4 : ¬ b.toNat < a.toNat := fun h => h2 (UInt8.lt_iff_toNat_lt.2 h)
          omega
        rw [he] at e1 ⊢
        simp only [h1, h2, e1, if_false, Nat.beq_refl, Bool.false_or, Bool.true_and]
        rw [ih]; rfl
theorem cmp_sum {P : Program} {f : FuncId} {fn : Func} (hf : P.funcs[f]? = some fn) (hname : (fn.name == "runtime.NumGoroutine") = false) (hb : fn.body.isNone = true) (hn : Extern.findNext fn = none)
    (he : Extern.find fn = some Extern.BytealgCompare.compare) (a b : List Nat) : SumOK P f [.str a, .str b] (.int .i64 (cmpX a b)) := by
  intro H as hr hv
  right
  simp only [Vs, V] at hv
  obtain ⟨u, r, h1, ⟨s, rfl, hs⟩, u', r', rfl, ⟨t, rfl, ht⟩, rfl⟩ := hv
  have ha : as = #[.string s, .string t] := by apply Array.ext'; simpa using h1
  subst ha
  refine ⟨_, by rw [run_callFunc_extern hf hname hb hn he, run_compareString]; rfl, ?_⟩
  simp only [V]
  rw [cmpX_bytes]
  unfold byteList at hs ht
  rw [hs, ht]
end Go.MT
