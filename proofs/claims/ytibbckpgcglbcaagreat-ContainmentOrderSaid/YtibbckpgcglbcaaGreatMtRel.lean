/-
  What an abstract value and an abstract store say of the model's memory; that it stays said while memory grows.
-/
import Derived.Test.YtibbckpgcglbcaaGreatMtDef
import Derived.Calls
import Derived.Below
namespace Go.MT

/-- where an object lies: its block, its first cell there, how many cells from there on are its own -/
structure Loc where
  blk : Nat
  base : Nat
  fin : Nat

/-- abstract objects (τ), where each lies (ρ), the blocks that nothing will write again (Z), memory -/
structure Hp where
  τ : Nat → Option Obj
  ρ : Nat → Loc
  Z : Nat → Prop
  w : World

def Hp.bare (H : Hp) : Hp := { H with τ := fun _ => none }

def cellsAt (w : World) (b o : Nat) (us : List Value) : Prop := ∀ k, k < us.length → w.cell? ⟨b, o + k, none⟩ = us[k]?

mutual
def V (H : Hp) : PV → Value → Prop
  | .int k n, v => v = .int k n
  | .bool b, v => v = .bool b
  | .str s, v => ∃ bs, v = .string bs ∧ byteList bs = s
  | .ptr id off, v => v.oneCell' = true ∧ ∃ o, H.τ id = some o ∧ (o ≠ .dead → (∃ cs cap, o = .arr cs cap) ∧ v = .pointer (some ⟨(H.ρ id).blk, (H.ρ id).base + off, none⟩))
  | .frz cs, v => ∃ b o us, v = .pointer (some ⟨b, o, none⟩) ∧ (cs ≠ [] → H.Z b) ∧ (∀ c ∈ cs, c.leaf = true) ∧ cellsAt H.w b o us ∧ Vs H.bare cs us
  | .nilptr, v => v = .pointer none
  | .ref id off len sz, v => v.oneCell' = true ∧ ∃ o, H.τ id = some o ∧ (o ≠ .dead → ∃ cs cp cap b a, o = .arr cs cp ∧ v = .slice (some ⟨b, a, none⟩) len cap ∧ len ≤ cap ∧ 0 < sz ∧
      off + cap * sz = (H.ρ id).fin ∧ (cap = 0 ∨ (b = (H.ρ id).blk ∧ a = (H.ρ id).base + off)))
  | .lst tight sz n cs, v => ∃ b a cap us, v = .slice (some ⟨b, a, none⟩) n cap ∧ n ≤ cap ∧ (tight = true → cap = n) ∧ 0 < sz ∧ cs.length = n * sz ∧
      (cs ≠ [] → H.Z b) ∧ (∀ c ∈ cs, c.leaf = true) ∧ cellsAt H.w b a us ∧ Vs H.bare cs us
  | .nilslice, v => v = .slice none 0 0
  | .fn f first cap, v => ∃ us us', v = .func (.func f) us us' ∧ Vs H first us.toList ∧ Vs H cap us'.toList
  | .nilfn, v => v = .nilFunc
  | .map id, v => v.oneCell' = true ∧ ∃ o, H.τ id = some o ∧ (o ≠ .dead → (∃ es, o = .mp es) ∧ v = .map (some (H.ρ id).blk))
  | .nilmap, v => v = .map none
  | .agg cs, v => ∃ us, v = .agg us ∧ Vs H cs us.toList
  | .tup cs, v => ∃ us, v = .tuple us ∧ Vs H cs us.toList
  | .undef, _ => True
  | .gone, v => v = Go.undef
def Vs (H : Hp) : List PV → List Value → Prop
  | [], us => us = []
  | c :: cs, us => ∃ u r, us = u :: r ∧ V H c u ∧ Vs H cs r
end

theorem Vs_length {H : Hp} : ∀ {cs us}, Vs H cs us → us.length = cs.length
  | [], us, h => by simp only [Vs] at h; simp [h]
  | c :: cs, us, h => by
    simp only [Vs] at h
    obtain ⟨u, r, rfl, _, hr⟩ := h
    simp [Vs_length hr]

theorem Vs_get {H : Hp} : ∀ {cs us}, Vs H cs us → ∀ k (h : k < cs.length), ∃ u, us[k]? = some u ∧ V H cs[k] u
  | [], us, h, k, hk => by simp at hk
  | c :: cs, us, h, k, hk => by
    simp only [Vs] at h
    obtain ⟨u, r, rfl, hu, hr⟩ := h
    cases k with
    | zero => exact ⟨u, by simp, hu⟩
    | succ k =>
      obtain ⟨u', h1, h2⟩ := Vs_get hr k (by simpa using hk)
      exact ⟨u', by simpa using h1, by simpa using h2⟩

theorem Vs_mk {H : Hp} : ∀ {cs us}, us.length = cs.length → (∀ k (h : k < cs.length), ∃ u, us[k]? = some u ∧ V H cs[k] u) → Vs H cs us
  | [], us, h, _ => by simp only [Vs]; simpa using h
  | c :: cs, [], h, _ => by simp at h
  | c :: cs, u :: r, h, hk => by
    simp only [Vs]
    refine ⟨u, r, rfl, ?_, Vs_mk (by simpa using h) fun k hlt => ?_⟩
    · obtain ⟨u', h1, h2⟩ := hk 0 (by simp)
      simp at h1; subst h1; simpa using h2
    · obtain ⟨u', h1, h2⟩ := hk (k + 1) (by simpa using hlt)
      exact ⟨u', by simpa using h1, by simpa using h2⟩

theorem Vs_append {H : Hp} {cs cs' us us'} (h : Vs H cs us) (h' : Vs H cs' us') : Vs H (cs ++ cs') (us ++ us') := by
  induction cs generalizing us with
  | nil => simp only [Vs] at h; subst h; simpa using h'
  | cons c cs ih =>
    simp only [Vs] at h
    obtain ⟨u, r, rfl, hu, hr⟩ := h
    simp only [List.cons_append, Vs]
    exact ⟨u, r ++ us', rfl, hu, ih hr⟩

theorem Vs_take {H : Hp} {cs us} (h : Vs H cs us) (n : Nat) : Vs H (cs.take n) (us.take n) := by
  refine Vs_mk (by simp [Vs_length h]) fun k hk => ?_
  simp at hk
  obtain ⟨u, h1, h2⟩ := Vs_get h k (by omega)
  exact ⟨u, by rw [List.getElem?_take_of_lt (by omega)]; exact h1, by simpa using h2⟩

theorem Vs_drop {H : Hp} {cs us} (h : Vs H cs us) (n : Nat) : Vs H (cs.drop n) (us.drop n) := by
  refine Vs_mk (by simp [Vs_length h]) fun k hk => ?_
  simp at hk
  obtain ⟨u, h1, h2⟩ := Vs_get h (n + k) (by omega)
  exact ⟨u, by rw [List.getElem?_drop]; exact h1, by simpa using h2⟩

theorem Vs_one {H : Hp} {c u} (h : V H c u) : Vs H [c] [u] := by simp only [Vs]; exact ⟨u, [], rfl, h, rfl⟩

theorem Vs_map {H : Hp} {α : Type} (f : α → PV) (g : α → Value) (l : List α) (h : ∀ x ∈ l, V H (f x) (g x)) : Vs H (l.map f) (l.map g) := by
  induction l with
  | nil => simp [Vs]
  | cons x l ih =>
    simp only [List.map_cons, Vs]
    exact ⟨_, _, rfl, h x (by simp), ih fun y hy => h y (by simp [hy])⟩

/-- an object stays what it is, or dies -/
def Obj.keeps : Obj → Obj → Prop
  | _, .dead => True
  | .arr _ c, .arr _ c' => c = c'
  | .mp _, .mp _ => True
  | _, _ => False

/-- enough that what was said of a value stays said -/
structure VExt (H H' : Hp) : Prop where
  keep : ∀ id o, H.τ id = some o → ∃ o', H'.τ id = some o' ∧ o.keeps o' ∧ (o' ≠ .dead → H'.ρ id = H.ρ id)
  z : ∀ b, H.Z b → H'.Z b ∧ H'.w.heap[b]? = H.w.heap[b]?

theorem VExt.refl (H : Hp) : VExt H H := ⟨fun id o h => ⟨o, h, by cases o <;> simp [Obj.keeps], fun _ => rfl⟩, fun b h => ⟨h, rfl⟩⟩

theorem Obj.keeps_trans {a b c : Obj} (h : a.keeps b) (h' : b.keeps c) : a.keeps c := by
  cases a <;> cases b <;> cases c <;> simp_all [Obj.keeps]

theorem Obj.keeps_live {a b : Obj} (h : a.keeps b) (hb : b ≠ .dead) : a ≠ .dead := by
  cases a <;> cases b <;> simp_all [Obj.keeps]

theorem VExt.trans {H H' H'' : Hp} (h : VExt H H') (h' : VExt H' H'') : VExt H H'' := by
  refine ⟨fun id o ho => ?_, fun b hb => ?_⟩
  · obtain ⟨o', h1, h2, h3⟩ := h.keep id o ho
    obtain ⟨o'', k1, k2, k3⟩ := h'.keep id o' h1
    exact ⟨o'', k1, Obj.keeps_trans h2 k2, fun hd => by rw [k3 hd, h3 (Obj.keeps_live k2 hd)]⟩
  · obtain ⟨z1, e1⟩ := h.z b hb
    obtain ⟨z2, e2⟩ := h'.z b z1
    exact ⟨z2, by rw [e2, e1]⟩

theorem VExt.bare {H H' : Hp} (h : VExt H H') : VExt H.bare H'.bare :=
  ⟨fun id o ho => by simp [Hp.bare] at ho, h.z⟩

theorem cell_of_heap {w w' : World} {b : Nat} (h : w'.heap[b]? = w.heap[b]?) (o : Nat) : w'.cell? ⟨b, o, none⟩ = w.cell? ⟨b, o, none⟩ := by
  simp [World.cell?, h]

theorem cellsAt_of_heap {w w' : World} {b o : Nat} {us : List Value} (h : w'.heap[b]? = w.heap[b]?) (hc : cellsAt w b o us) : cellsAt w' b o us :=
  fun k hk => by rw [cell_of_heap h]; exact hc k hk

mutual
theorem V_ext {H H' : Hp} (h : VExt H H') : ∀ {pv v}, V H pv v → V H' pv v
  | .int .., _, hv => by simpa only [V] using hv
  | .bool _, _, hv => by simpa only [V] using hv
  | .str _, _, hv => by simpa only [V] using hv
  | .nilptr, _, hv => by simpa only [V] using hv
  | .nilslice, _, hv => by simpa only [V] using hv
  | .nilfn, _, hv => by simpa only [V] using hv
  | .nilmap, _, hv => by simpa only [V] using hv
  | .undef, _, _ => by simp only [V]
  | .gone, _, hv => by simpa only [V] using hv
  | .ptr id off, v, hv => by
    simp only [V] at hv ⊢
    obtain ⟨h1c, o, ho, hl⟩ := hv
    obtain ⟨o', ho', hk, hr⟩ := h.keep id o ho
    refine ⟨h1c, o', ho', fun hd => ?_⟩
    obtain ⟨⟨cs, cap, rfl⟩, hv⟩ := hl (Obj.keeps_live hk hd)
    rw [hr hd]
    refine ⟨?_, hv⟩
    cases o' with
    | arr cs' cap' => exact ⟨cs', cap', rfl⟩
    | mp _ => simp [Obj.keeps] at hk
    | dead => exact (hd rfl).elim
  | .map id, v, hv => by
    simp only [V] at hv ⊢
    obtain ⟨h1c, o, ho, hl⟩ := hv
    obtain ⟨o', ho', hk, hr⟩ := h.keep id o ho
    refine ⟨h1c, o', ho', fun hd => ?_⟩
    obtain ⟨⟨es, rfl⟩, hv⟩ := hl (Obj.keeps_live hk hd)
    rw [hr hd]
    refine ⟨?_, hv⟩
    cases o' with
    | arr cs' cap' => simp [Obj.keeps] at hk
    | mp es' => exact ⟨es', rfl⟩
    | dead => exact (hd rfl).elim
  | .ref id off len sz, v, hv => by
    simp only [V] at hv ⊢
    obtain ⟨h1c, o, ho, hl⟩ := hv
    obtain ⟨o', ho', hk, hr⟩ := h.keep id o ho
    refine ⟨h1c, o', ho', fun hd => ?_⟩
    obtain ⟨cs, cp, cap, b, a, rfl, hv, hle, hsz, hC, hpl⟩ := hl (Obj.keeps_live hk hd)
    cases o' with
    | arr cs' cp' =>
      simp only [Obj.keeps] at hk
      subst hk
      rw [hr hd]
      exact ⟨cs', cp, cap, b, a, rfl, hv, hle, hsz, hC, hpl⟩
    | mp _ => simp [Obj.keeps] at hk
    | dead => exact (hd rfl).elim
  | .frz cs, v, hv => by
    simp only [V] at hv ⊢
    obtain ⟨b, o, us, hv, hz, hlf, hc, hs⟩ := hv
    refine ⟨b, o, us, hv, fun hn => (h.z b (hz hn)).1, hlf, ?_, Vs_ext h.bare hs⟩
    by_cases hn : cs = []
    · subst hn; simp only [Vs] at hs; subst hs; intro k hk; simp at hk
    · exact cellsAt_of_heap (h.z b (hz hn)).2 hc
  | .lst tight sz n cs, v, hv => by
    simp only [V] at hv ⊢
    obtain ⟨b, a, cap, us, hv, h1, h2, h3, h4, hz, hlf, hc, hs⟩ := hv
    refine ⟨b, a, cap, us, hv, h1, h2, h3, h4, fun hn => (h.z b (hz hn)).1, hlf, ?_, Vs_ext h.bare hs⟩
    by_cases hn : cs = []
    · subst hn; simp only [Vs] at hs; subst hs; intro k hk; simp at hk
    · exact cellsAt_of_heap (h.z b (hz hn)).2 hc
  | .fn f first cap, v, hv => by
    simp only [V] at hv ⊢
    obtain ⟨us, us', hv, h1, h2⟩ := hv
    exact ⟨us, us', hv, Vs_ext h h1, Vs_ext h h2⟩
  | .agg cs, v, hv => by
    simp only [V] at hv ⊢
    obtain ⟨us, hv, h1⟩ := hv
    exact ⟨us, hv, Vs_ext h h1⟩
  | .tup cs, v, hv => by
    simp only [V] at hv ⊢
    obtain ⟨us, hv, h1⟩ := hv
    exact ⟨us, hv, Vs_ext h h1⟩
theorem Vs_ext {H H' : Hp} (h : VExt H H') : ∀ {cs us}, Vs H cs us → Vs H' cs us
  | [], _, hv => by simpa only [Vs] using hv
  | c :: cs, us, hv => by
    simp only [Vs] at hv ⊢
    obtain ⟨u, r, e, h1, h2⟩ := hv
    exact ⟨u, r, e, V_ext h h1, Vs_ext h h2⟩
end

/-- the store's objects lie in memory, each in a block of its own -/
structure HR (H : Hp) : Prop where
  arr : ∀ id cs cap, H.τ id = some (.arr cs cap) → ∃ c e fr, H.w.heap[(H.ρ id).blk]? = some (.cells c e fr) ∧ cs.length ≤ (H.ρ id).fin ∧ (H.ρ id).base + (H.ρ id).fin ≤ c.size ∧
    (∀ C, cap = some C → (H.ρ id).fin = C) ∧ (∀ k, k < c.size → ¬ (fr.1 ≤ k ∧ k < fr.2)) ∧ (∀ x ∈ cs, x.leaf = true) ∧ Vs H cs ((c.toList.drop (H.ρ id).base).take cs.length)
  mp : ∀ id es, H.τ id = some (.mp es) → ∃ es' clk, H.w.heap[(H.ρ id).blk]? = some (.map es' clk) ∧ Vs H (es.map (·.1)) (es'.toList.map (·.key)) ∧ Vs H (es.map (·.2)) (es'.toList.map (·.val))
  inj : ∀ i j o o', H.τ i = some o → H.τ j = some o' → o ≠ .dead → o' ≠ .dead → (H.ρ i).blk = (H.ρ j).blk → i = j
  z : ∀ b, H.Z b → b < H.w.heap.size ∧ ∀ id o, H.τ id = some o → o ≠ .dead → (H.ρ id).blk ≠ b

/-- no live object lies in block b -/
def Hp.foreign (H : Hp) (b : Nat) : Prop := ∀ id o, H.τ id = some o → o ≠ .dead → (H.ρ id).blk ≠ b

structure Ext (H H' : Hp) : Prop extends VExt H H' where
  os : H'.w.os = H.w.os
  tape : H'.w.tape = H.w.tape
  output : H'.w.output = H.w.output
  size : H.w.heap.size ≤ H'.w.heap.size
  frame : ∀ b, b < H.w.heap.size → H.foreign b → H'.w.heap[b]? = H.w.heap[b]? ∧ (H'.Z b → H.Z b)
  img : ∀ id o, H'.τ id = some o → o ≠ .dead → (H'.ρ id).blk < H.w.heap.size → ¬ H.foreign (H'.ρ id).blk

theorem Ext.refl (H : Hp) : Ext H H :=
  { VExt.refl H with
    os := rfl, tape := rfl, output := rfl, size := Nat.le_refl _, frame := fun _ _ _ => ⟨rfl, id⟩
    img := fun id o h hd _ hf => hf id o h hd rfl }

theorem Ext.trans {H H' H'' : Hp} (h : Ext H H') (h' : Ext H' H'') : Ext H H'' :=
  { h.toVExt.trans h'.toVExt with
    os := by rw [h'.os, h.os]
    tape := by rw [h'.tape, h.tape]
    output := by rw [h'.output, h.output]
    size := Nat.le_trans h.size h'.size
    frame := fun b hb hf => by
      have hf' : H'.foreign b := fun id o ho hd e => by
        have := h.img id o ho hd (by rw [e]; exact hb)
        rw [e] at this
        exact this hf
      obtain ⟨e1, z1⟩ := h.frame b hb hf
      obtain ⟨e2, z2⟩ := h'.frame b (Nat.lt_of_lt_of_le hb h.size) hf'
      exact ⟨by rw [e2, e1], fun z => z1 (z2 z)⟩
    img := fun id o ho hd hlt hf => by
      refine h'.img id o ho hd (Nat.lt_of_lt_of_le hlt h.size) fun id' o' ho' hd' e => ?_
      have := h.img id' o' ho' hd' (by rw [e]; exact hlt)
      rw [e] at this
      exact this hf }

end Go.MT
