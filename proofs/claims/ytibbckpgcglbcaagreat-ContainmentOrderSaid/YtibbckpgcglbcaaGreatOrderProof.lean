/-
  'credencelaw15.ContainmentOrder' returns true, whatever the three lists of numbers: no condition beyond the row's own.
  (The frame of this text was written by the kit's proof-skeleton.mjs; the walk is the evaluator's run, MtLaw.)
-/
import Derived.Test.YtibbckpgcglbcaaGreatRows
import Derived.Test.YtibbckpgcglbcaaGreatMtLaw
import Derived.WalkKit
import Derived.ProofKit
import Derived.OpenShut
import Derived.ShutString
import Derived.ChangeOld
import Derived.Below
namespace Go.Proofs.YtibbckpgcglbcaaGreat.containmentOrder
open Go.ChangeShapes Go.WideShapes Go.ChangeAt Go.RowKit
open Go.ChangeMaps (open_string shut_string)
set_option linter.unusedVariables false

theorem own : ownKnob Tryz.prog.godebug = none := by kernel_rfl
theorem laidOut : laidOutB Tryz.prog = true := by kernel_rfl

/-- what is told of a slice of integers that came in: it is nil, or it leads to a row of 'cap' cells that hold the numbers 'zs' -/
def IsRow (k : IntKind) (w : World) (a : Option Addr) (len cap : Nat) (zs : List Int) : Prop :=
  (a = none ∧ len = 0 ∧ cap = 0 ∧ zs = []) ∨
  ∃ x, a = some x ∧ len ≤ cap ∧ cap ≤ maxLen ∧ zs.length = cap ∧ (∀ i, i < zs.length → w.cell? (x.add i) = some (.int k (zs.getD i 0))) ∧ (∀ n ∈ zs, (Lit.int k n).wf = true) ∧ x.spot = none

theorem spot_of {P : Program} {w : World} {r : Reach} {base : Nat} {t e : TypeId} {x : Addr} {len cap : Nat} (ht : P.underlying t = some (.slice e)) (h : Value.okWide P w r base t (.slice (some x) len cap)) : x.spot = none := by
  simp only [Value.okWide, ht, Cell.okWide, Cell.ok] at h
  exact h.2.2.2.1

open Go.MT in
/-- such a slice as the evaluator sees it -/
theorem row_pv {w : World} {a : Option Addr} {len cap : Nat} {zs : List Int} (h : IsRow .i64 w a len cap zs) : ∃ l z, IntsL l z ∧ V { τ := fun _ => none, ρ := fun _ => ⟨0, 0, 0⟩, Z := fun b => b < w.heap.size, w := w } l (.slice a len cap) := by
  rcases h with ⟨rfl, rfl, rfl, _⟩ | ⟨⟨b, o, sp⟩, rfl, hl, _, hz, hc, _, hs⟩
  · exact ⟨.nilslice, [], .inl ⟨rfl, rfl⟩, by simp only [V]⟩
  · simp only [] at hs
    subst hs
    have hlen : (zs.take len).length = len := by rw [List.length_take]; omega
    refine ⟨.lst false 1 (zs.take len).length ((zs.take len).map (.int .i64)), zs.take len, .inr rfl, ?_⟩
    rw [hlen]
    have hcell : ∀ k, k < len → w.cell? ⟨b, o + k, none⟩ = some (.int .i64 (zs.getD k 0)) := fun k hk => by
      have := hc k (by omega)
      rw [addr_add] at this
      exact this
    have hget : ∀ k, k < len → ((zs.take len).map (Value.int .i64))[k]? = some (.int .i64 (zs.getD k 0)) := fun k hk => by
      rw [List.getElem?_map, List.getElem?_take_of_lt hk]
      simp [List.getD, List.getElem?_eq_getElem (show k < zs.length by omega)]
    simp only [V]
    refine ⟨b, o, cap, (zs.take len).map (.int .i64), rfl, hl, by simp, by omega, by simp; omega, fun hne => ?_, fun c hcm => ?_, fun k hk => ?_, ?_⟩
    · have h0 : 0 < len := by
        rcases Nat.eq_zero_or_pos len with h0 | h0
        · subst h0; simp at hne
        · exact h0
      have := hcell 0 h0
      unfold World.cell? at this
      cases hb : w.heap[b]? with
      | none => simp only [hb] at this; cases this
      | some ob => exact (Array.getElem?_eq_some_iff.1 hb).1
    · simp only [List.mem_map] at hcm
      obtain ⟨z, _, rfl⟩ := hcm
      rfl
    · have hk' : k < len := by rw [List.length_map, hlen] at hk; exact hk
      rw [hcell k hk', hget k hk']
    · refine Vs_map _ _ _ fun x _ => ?_
      simp only [V]

open Go.MT in
theorem walk (a0 : Option Addr) (len0 cap0 : Nat) (z0 : List Int) (a1 : Option Addr) (len1 cap1 : Nat) (z1 : List Int) (a2 : Option Addr) (len2 cap2 : Nat) (z2 : List Int) (w : World) (w0 : IsRow .i64 w a0 len0 cap0 z0) (w1 : IsRow .i64 w a1 len1 cap1 z1) (w2 : IsRow .i64 w a2 len2 cap2 z2) :
    Calls Tryz.prog 3 #[.slice a0 len0 cap0, .slice a1 len1 cap1, .slice a2 len2 cap2] w fun e w' => e = .returned (.bool true) ∧ Below w.heap.size w w' := by
  obtain ⟨l0, y0, h0, v0⟩ := row_pv w0
  obtain ⟨l1, y1, h1, v1⟩ := row_pv w1
  obtain ⟨l2, y2, h2, v2⟩ := row_pv w2
  exact top_bool (K := K4) (call4 100000) funcs4 (f := 3) (fn := Tryz.f3) (c := bodyOf Tryz.f3) Tryz.func3 rfl (law_run h0 h1 h2) w (fun b => b < w.heap.size) (fun _ h => h) #[.slice a0 len0 cap0, .slice a1 len1 cap1, .slice a2 len2 cap2] (by
    simp only [Vs]
    exact ⟨_, _, rfl, v0, _, _, rfl, v1, _, _, rfl, v2, rfl⟩)

/-! ### THE ROW's STEP: WRITTEN OUT: LEAVE IT -/
set_option maxRecDepth 100000 in
theorem lifted (os : Os) (started : os.Started) (H : Type) (enc : TypeId × Value → H) :
    ReturnsInHanded {} Tryz.checked os 3 .any (Rows.containmentOrderSpec.pre6 enc Tryz.prog Tryz.f3 Rows.containmentOrderRow.domain false) (Rows.containmentOrderSpec.post enc Tryz.prog Tryz.f3 false true false false) := by
  refine returnsInHanded_of_change (C := Tryz.checked) own started (by kernel_rfl) Tryz.func3
    (ChangeSpec.witness6 (enc := enc) (C := Tryz.checked) false ⟨#[], #[.slice none 0 0, .slice none 0 0, .slice none 0 0], []⟩ 8 (by kernel_rfl) (by kernel_rfl) (by kernel_rfl) (by kernel_rfl)) ?_
  intro W base args ds gs before hval0 hW hcnd _
  have hval : ∀ (j : Nat) t v, Tryz.f3.params[j]? = some t → args[j]? = some v → Value.okWide Tryz.prog W .any base t v := hval0
  have hW' := hW
  obtain ⟨p, q, hA0, hV, rfl, hfz, hnd⟩ := hW
  have hA : DataW.TrodAll enc Tryz.prog W 0 (fun _ => true) true Tryz.f3.params.toList args.toList ds p := hA0
  rw [Tryz.params3] at hA hval
  obtain ⟨v0, vs0, d0, ds0, p0, q0, hargs, rfl, rfl, h0, r0⟩ := trodAll_cons hA
  obtain ⟨v1, vs1, d1, ds1, p1, q1, rfl, rfl, rfl, h1, r1⟩ := trodAll_cons r0
  obtain ⟨v2, vs2, d2, ds2, p2, q2, rfl, rfl, rfl, h2, r2⟩ := trodAll_cons r1
  obtain ⟨rfl, rfl, rfl⟩ := trodAll_nil r2
  obtain rfl : args = #[v0, v1, v2] := by cases args; simp_all
  obtain ⟨rfl, rfl⟩ := trodVars_none hV
  obtain ⟨a0, len0, cap0, rfl⟩ := okWide_slice Tryz.underlying22 (hval 0 22 v0 rfl rfl)
  have k0 := h0
  have lt0 : ∀ x ∈ p0, x.block < W.heap.size := by obtain ⟨m, hm⟩ := k0; exact DataW.trod_lt m _ _ _ hm
  have sp0 : ∀ x, a0 = some x → x.spot = none := fun x e => by
    subst e
    exact spot_of Tryz.underlying22 (hval 0 22 _ rfl rfl)
  obtain ⟨z0, w0⟩ : ∃ zs, IsRow .i64 W a0 len0 cap0 zs := by
    obtain ⟨fuel, hf⟩ := h0
    rcases open_ints Tryz.underlying22 Tryz.underlying3 (by kernel_rfl) hf with ⟨hcs, _⟩ | ⟨x, l, c, zs, hcs, _, hl, hm, hz, _, hcell, hwz⟩
    · simp [Value.cells] at hcs
      obtain ⟨rfl, rfl, rfl⟩ := hcs
      exact ⟨[], .inl ⟨rfl, rfl, rfl, rfl⟩⟩
    · simp [Value.cells] at hcs
      obtain ⟨rfl, rfl, rfl⟩ := hcs
      exact ⟨zs, .inr ⟨_, rfl, hl, hm, by simpa using hz, hcell, hwz, sp0 _ rfl⟩⟩
  obtain ⟨a1, len1, cap1, rfl⟩ := okWide_slice Tryz.underlying22 (hval 1 22 v1 rfl rfl)
  have k1 := h1
  have lt1 : ∀ x ∈ p1, x.block < W.heap.size := by obtain ⟨m, hm⟩ := k1; exact DataW.trod_lt m _ _ _ hm
  have sp1 : ∀ x, a1 = some x → x.spot = none := fun x e => by
    subst e
    exact spot_of Tryz.underlying22 (hval 1 22 _ rfl rfl)
  obtain ⟨z1, w1⟩ : ∃ zs, IsRow .i64 W a1 len1 cap1 zs := by
    obtain ⟨fuel, hf⟩ := h1
    rcases open_ints Tryz.underlying22 Tryz.underlying3 (by kernel_rfl) hf with ⟨hcs, _⟩ | ⟨x, l, c, zs, hcs, _, hl, hm, hz, _, hcell, hwz⟩
    · simp [Value.cells] at hcs
      obtain ⟨rfl, rfl, rfl⟩ := hcs
      exact ⟨[], .inl ⟨rfl, rfl, rfl, rfl⟩⟩
    · simp [Value.cells] at hcs
      obtain ⟨rfl, rfl, rfl⟩ := hcs
      exact ⟨zs, .inr ⟨_, rfl, hl, hm, by simpa using hz, hcell, hwz, sp1 _ rfl⟩⟩
  obtain ⟨a2, len2, cap2, rfl⟩ := okWide_slice Tryz.underlying22 (hval 2 22 v2 rfl rfl)
  have k2 := h2
  have lt2 : ∀ x ∈ p2, x.block < W.heap.size := by obtain ⟨m, hm⟩ := k2; exact DataW.trod_lt m _ _ _ hm
  have sp2 : ∀ x, a2 = some x → x.spot = none := fun x e => by
    subst e
    exact spot_of Tryz.underlying22 (hval 2 22 _ rfl rfl)
  obtain ⟨z2, w2⟩ : ∃ zs, IsRow .i64 W a2 len2 cap2 zs := by
    obtain ⟨fuel, hf⟩ := h2
    rcases open_ints Tryz.underlying22 Tryz.underlying3 (by kernel_rfl) hf with ⟨hcs, _⟩ | ⟨x, l, c, zs, hcs, _, hl, hm, hz, _, hcell, hwz⟩
    · simp [Value.cells] at hcs
      obtain ⟨rfl, rfl, rfl⟩ := hcs
      exact ⟨[], .inl ⟨rfl, rfl, rfl, rfl⟩⟩
    · simp [Value.cells] at hcs
      obtain ⟨rfl, rfl, rfl⟩ := hcs
      exact ⟨zs, .inr ⟨_, rfl, hl, hm, by simpa using hz, hcell, hwz, sp2 _ rfl⟩⟩
  clear hA0 hval0
  refine (walk a0 len0 cap0 z0 a1 len1 cap1 z1 a2 len2 cap2 z2 W w0 w1 w2).mono fun e W' ⟨he, bel⟩ => ?_
  subst he
  exact ⟨_, rfl, _, _, _, [], _, [], hW', trodAll_mk1 (shut_bool Tryz.underlying4 _), (trodAll_cons_mk (Below.trod laidOut (by kernel_rfl) (of_decide_eq_true (by kernel_rfl)) k0 bel lt0) (trodAll_cons_mk (Below.trod laidOut (by kernel_rfl) (of_decide_eq_true (by kernel_rfl)) k1 bel lt1) (trodAll_cons_mk (Below.trod laidOut (by kernel_rfl) (of_decide_eq_true (by kernel_rfl)) k2 bel lt2) trodAll_mk0))), rfl, bel.frame _, fun h => by cases h⟩

theorem over : Rows.containmentOrderRow.holds Tryz.pinned (OpenSpec.ofChange Rows.containmentOrderSpec) :=
  OpenClaim.holds_of_wide 3 Tryz.f3 rfl rfl rfl rfl rfl rfl rfl ⟨rfl, rfl, rfl, rfl, rfl⟩ rfl rfl rfl rfl rfl (by kernel_rfl) Tryz.func3 (by kernel_rfl)
    (of_decide_eq_true (by kernel_rfl)) (by unfold Func.isWrapper; first | (rw [if_pos (by decide +kernel)]; kernel_rfl) | (rw [if_neg (by decide +kernel)]; exact ⟨rfl, rfl⟩))
    (fun os started H enc _ => lifted os started H enc)

/-- ████ THE STATEMENT ████ -/
theorem proved : Rows.ContainmentOrderSaid := over
#print axioms proved
end Go.Proofs.YtibbckpgcglbcaaGreat.containmentOrder
