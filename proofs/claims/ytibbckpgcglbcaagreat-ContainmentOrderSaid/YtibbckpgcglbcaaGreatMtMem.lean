/-
  Steps of memory, each with what it does to what is said of it: a new block, cells written, an object that dies.
-/
import Derived.Test.YtibbckpgcglbcaaGreatMtRel
import Derived.Laws.IdiomCopy
import Derived.Laws.Cells
namespace Go.MT

def upd {α : Type} (f : Nat → α) (n : Nat) (x : α) : Nat → α := fun k => if k = n then x else f k
@[simp] theorem upd_same {α : Type} (f : Nat → α) (n : Nat) (x : α) : upd f n x n = x := by simp [upd]
theorem upd_other {α : Type} (f : Nat → α) {n k : Nat} (x : α) (h : k ≠ n) : upd f n x k = f k := by simp [upd, h]

/-- memory as it was, but for draws -/
structure SameMem (w w' : World) : Prop where
  heap : w'.heap = w.heap
  os : w'.os = w.os
  tape : w'.tape = w.tape
  output : w'.output = w.output

theorem V_world {H : Hp} {w' : World} (h : w'.heap = H.w.heap) : VExt H { H with w := w' } ∧ VExt { H with w := w' } H := by
  exact ⟨⟨fun id o ho => ⟨o, ho, by cases o <;> simp [Obj.keeps], fun _ => rfl⟩, fun b hb => ⟨hb, by simp [h]⟩⟩,
    ⟨fun id o ho => ⟨o, ho, by cases o <;> simp [Obj.keeps], fun _ => rfl⟩, fun b hb => ⟨hb, by simp [h]⟩⟩⟩

theorem step_same {H : Hp} {w' : World} (hr : HR H) (h : SameMem H.w w') : HR { H with w := w' } ∧ Ext H { H with w := w' } := by
  obtain ⟨he, h2, h3, h4⟩ := h
  have hx := (V_world (H := H) he).1
  refine ⟨⟨fun id cs cap ht => ?_, fun id es ht => ?_, hr.inj, fun b hb => ?_⟩, { hx with os := h2, tape := h3, output := h4, size := by simp [he], frame := fun b _ _ => ⟨by simp [he], fun z => z⟩, img := fun id o ho hd _ hf => hf id o ho hd rfl }⟩
  · obtain ⟨c, e, fr, k1, k2, k2', k3, k4, k5, k6⟩ := hr.arr id cs cap ht
    exact ⟨c, e, fr, by simpa [he] using k1, k2, k2', k3, k4, k5, Vs_ext hx k6⟩
  · obtain ⟨es', clk, k1, k2, k3⟩ := hr.mp id es ht
    exact ⟨es', clk, by simpa [he] using k1, Vs_ext hx k2, Vs_ext hx k3⟩
  · obtain ⟨k1, k2⟩ := hr.z b hb
    exact ⟨by simpa [he] using k1, k2⟩

theorem HR.lt {H : Hp} (hr : HR H) {id : Nat} {o : Obj} (h : H.τ id = some o) (hd : o ≠ .dead) : (H.ρ id).blk < H.w.heap.size := by
  cases o with
  | arr cs cap =>
    obtain ⟨c, e, fr, k1, _⟩ := hr.arr id cs cap h
    exact (Array.getElem?_eq_some_iff.1 k1).1
  | mp es =>
    obtain ⟨es', clk, k1, _⟩ := hr.mp id es h
    exact (Array.getElem?_eq_some_iff.1 k1).1
  | dead => exact (hd rfl).elim

/-- a new block behind all others holds the new object -/
theorem step_new {H : Hp} {n : Nat} {w' : World} {o : Obj} {blk : Go.Obj} (hr : HR H) (hn : H.τ n = none)
    (hw : w'.heap = H.w.heap.push blk) (h2 : w'.os = H.w.os) (h3 : w'.tape = H.w.tape) (h4 : w'.output = H.w.output)
    (fin : Nat) (harr : ∀ cs cap, o = .arr cs cap → ∃ c e fr, blk = .cells c e fr ∧ cs.length ≤ fin ∧ fin ≤ c.size ∧ (∀ C, cap = some C → fin = C) ∧ (∀ k, k < c.size → ¬ (fr.1 ≤ k ∧ k < fr.2)) ∧
      (∀ x ∈ cs, x.leaf = true) ∧ Vs H cs (c.toList.take cs.length))
    (hmp : ∀ es, o = .mp es → ∃ es' clk, blk = .map es' clk ∧ Vs H (es.map (·.1)) (es'.toList.map (·.key)) ∧ Vs H (es.map (·.2)) (es'.toList.map (·.val))) :
    HR { τ := upd H.τ n (some o), ρ := upd H.ρ n ⟨H.w.heap.size, 0, fin⟩, Z := H.Z, w := w' } ∧ Ext H { τ := upd H.τ n (some o), ρ := upd H.ρ n ⟨H.w.heap.size, 0, fin⟩, Z := H.Z, w := w' } := by
  have hnew : ∀ id o', H.τ id = some o' → id ≠ n := fun id o' h e => by rw [e, hn] at h; cases h
  have hold : ∀ b, b < H.w.heap.size → w'.heap[b]? = H.w.heap[b]? := fun b hb => by
    rw [hw, Array.getElem?_push]; simp [Nat.ne_of_lt hb]
  have hat : w'.heap[H.w.heap.size]? = some blk := by rw [hw]; simp
  have hx : VExt H { τ := upd H.τ n (some o), ρ := upd H.ρ n ⟨H.w.heap.size, 0, fin⟩, Z := H.Z, w := w' } := by
    refine ⟨fun id o' ho => ⟨o', ?_, by cases o' <;> simp [Obj.keeps], fun _ => ?_⟩, fun b hb => ⟨hb, hold b (hr.z b hb).1⟩⟩
    · simp only []; rw [upd_other _ _ (hnew id o' ho)]; exact ho
    · simp only []; rw [upd_other _ _ (hnew id o' ho)]
  have hne : ∀ id o', H.τ id = some o' → o' ≠ .dead → (H.ρ id).blk ≠ H.w.heap.size := fun id o' h1 h2 => Nat.ne_of_lt (hr.lt h1 h2)
  refine ⟨⟨fun id cs cap ht => ?_, fun id es ht => ?_, fun i j oi oj hi hj di dj hb => ?_, fun b hb => ⟨?_, fun id o' ho hd' => ?_⟩⟩, { hx with os := h2, tape := h3, output := h4, size := by simp [hw], frame := fun b hb _ => ⟨hold b hb, fun z => z⟩, img := fun id o' ho hd' hlt hf => ?_ }⟩
  · simp only [] at ht ⊢
    by_cases e : id = n
    · subst e
      rw [upd_same] at ht
      obtain ⟨c, e, fr, rfl, k2, k2', k3, k4, k5, k6⟩ := harr cs cap (Option.some.inj ht)
      exact ⟨c, e, fr, by rw [upd_same]; exact hat, by simpa using k2, by simpa using k2', by simpa using k3, k4, k5, by simpa using Vs_ext hx k6⟩
    · rw [upd_other _ _ e] at ht ⊢
      obtain ⟨c, e', fr, k1, k2, k2', k3, k4, k5, k6⟩ := hr.arr id cs cap ht
      exact ⟨c, e', fr, by rw [hold _ (Array.getElem?_eq_some_iff.1 k1).1]; exact k1, k2, k2', k3, k4, k5, Vs_ext hx k6⟩
  · simp only [] at ht ⊢
    by_cases e : id = n
    · subst e
      rw [upd_same] at ht
      obtain ⟨es', clk, rfl, k2, k3⟩ := hmp es (Option.some.inj ht)
      exact ⟨es', clk, by rw [upd_same]; exact hat, Vs_ext hx k2, Vs_ext hx k3⟩
    · rw [upd_other _ _ e] at ht ⊢
      obtain ⟨es', clk, k1, k2, k3⟩ := hr.mp id es ht
      exact ⟨es', clk, by rw [hold _ (Array.getElem?_eq_some_iff.1 k1).1]; exact k1, Vs_ext hx k2, Vs_ext hx k3⟩
  · simp only [] at hi hj hb
    by_cases ei : i = n <;> by_cases ej : j = n
    · rw [ei, ej]
    · rw [ei, upd_same, upd_other _ _ ej] at hb; rw [upd_other _ _ ej] at hj; exact (hne j oj hj dj hb.symm).elim
    · rw [ej, upd_same, upd_other _ _ ei] at hb; rw [upd_other _ _ ei] at hi; exact (hne i oi hi di hb).elim
    · rw [upd_other _ _ ei, upd_other _ _ ej] at hb; rw [upd_other _ _ ei] at hi; rw [upd_other _ _ ej] at hj; exact hr.inj i j oi oj hi hj di dj hb
  · have := (hr.z b hb).1; simp only [hw, Array.size_push]; omega
  · simp only [] at ho ⊢
    by_cases e : id = n
    · rw [e, upd_same]; have := (hr.z b hb).1; simp only []; omega
    · rw [upd_other _ _ e] at ho ⊢; exact (hr.z b hb).2 id o' ho hd'
  · simp only [] at ho hlt hf
    by_cases e : id = n
    · rw [e, upd_same] at hlt; simp at hlt
    · rw [upd_other _ _ e] at ho hf; exact hf id o' ho hd' rfl

/-- the cells of one live object are written: the same number of them, or more within its block -/
theorem step_set {H : Hp} {id : Nat} {w' : World} {cs cs' : List PV} {cap : Option Nat} {c c' : Array Value} {e : TypeId} {fr : Nat × Nat} (hr : HR H)
    (ht : H.τ id = some (.arr cs cap)) (hb : H.w.heap[(H.ρ id).blk]? = some (.cells c e fr)) (hb' : w'.heap[(H.ρ id).blk]? = some (.cells c' e fr)) (hsz : c'.size = c.size)
    (hold : ∀ b, b ≠ (H.ρ id).blk → w'.heap[b]? = H.w.heap[b]?) (hs : w'.heap.size = H.w.heap.size) (h2 : w'.os = H.w.os) (h3 : w'.tape = H.w.tape) (h4 : w'.output = H.w.output)
    (hlen : cs'.length ≤ (H.ρ id).fin) (hleaf : ∀ x ∈ cs', x.leaf = true) (hv : Vs H cs' ((c'.toList.drop (H.ρ id).base).take cs'.length)) :
    HR { H with τ := upd H.τ id (some (.arr cs' cap)), w := w' } ∧ Ext H { H with τ := upd H.τ id (some (.arr cs' cap)), w := w' } := by
  have hx : VExt H { H with τ := upd H.τ id (some (.arr cs' cap)), w := w' } := by
    refine ⟨fun i o ho => ?_, fun b hz => ⟨hz, hold b fun e => (hr.z b hz).2 id _ ht (by simp) e.symm⟩⟩
    · by_cases ei : i = id
      · subst ei
        rw [ht] at ho
        obtain rfl := Option.some.inj ho
        exact ⟨.arr cs' cap, by simp, by simp [Obj.keeps], fun _ => rfl⟩
      · exact ⟨o, by simp only []; rw [upd_other _ _ ei]; exact ho, by cases o <;> simp [Obj.keeps], fun _ => rfl⟩
  have hobj := hr.arr id cs cap ht
  obtain ⟨c0, e0, fr0, q1, q2, q2', q3, q4, q5, q6⟩ := hobj
  rw [hb] at q1
  obtain ⟨rfl, rfl, rfl⟩ : c = c0 ∧ e = e0 ∧ fr = fr0 := by simpa using q1
  refine ⟨⟨fun i ds dcap hi => ?_, fun i es hi => ?_, fun i j oi oj hi hj di dj hbb => ?_, fun b hz => ⟨?_, fun i o ho hd => ?_⟩⟩, { hx with os := h2, tape := h3, output := h4, size := by simp [hs], frame := fun b hlt hf => ⟨hold b fun e => hf id _ ht (by simp) e.symm, fun z => z⟩, img := fun i o ho hd hlt hf => ?_ }⟩
  · simp only [] at hi ⊢
    by_cases ei : i = id
    · subst ei
      rw [upd_same] at hi
      obtain ⟨rfl, rfl⟩ : cs' = ds ∧ cap = dcap := by simpa using hi
      exact ⟨c', e, fr, hb', hlen, by rw [hsz]; exact q2', q3, by rw [hsz]; exact q4, hleaf, Vs_ext hx hv⟩
    · rw [upd_other _ _ ei] at hi
      obtain ⟨c1, e1, fr1, k1, k2, k2', k3, k4, k5, k6⟩ := hr.arr i ds dcap hi
      have hne : (H.ρ i).blk ≠ (H.ρ id).blk := fun e => ei (hr.inj i id _ _ hi ht (by simp) (by simp) e)
      exact ⟨c1, e1, fr1, by rw [hold _ hne]; exact k1, k2, k2', k3, k4, k5, Vs_ext hx k6⟩
  · simp only [] at hi ⊢
    by_cases ei : i = id
    · subst ei; rw [upd_same] at hi; simp at hi
    · rw [upd_other _ _ ei] at hi
      obtain ⟨es', clk, k1, k2, k3⟩ := hr.mp i es hi
      have hne : (H.ρ i).blk ≠ (H.ρ id).blk := fun e => ei (hr.inj i id _ _ hi ht (by simp) (by simp) e)
      exact ⟨es', clk, by rw [hold _ hne]; exact k1, Vs_ext hx k2, Vs_ext hx k3⟩
  · simp only [] at hi hj hbb
    have back : ∀ i o, upd H.τ id (some (.arr cs' cap)) i = some o → o ≠ .dead → ∃ o', H.τ i = some o' ∧ o' ≠ .dead := fun i o hi hd => by
      by_cases ei : i = id
      · exact ⟨_, by rw [ei]; exact ht, by simp⟩
      · rw [upd_other _ _ ei] at hi; exact ⟨o, hi, hd⟩
    obtain ⟨oi', hi', di'⟩ := back i oi hi di
    obtain ⟨oj', hj', dj'⟩ := back j oj hj dj
    exact hr.inj i j oi' oj' hi' hj' di' dj' hbb
  · simp only [hs]; exact (hr.z b hz).1
  · simp only [] at ho ⊢
    by_cases ei : i = id
    · rw [ei]; exact (hr.z b hz).2 id _ ht (by simp)
    · rw [upd_other _ _ ei] at ho; exact (hr.z b hz).2 i o ho hd
  · simp only [] at ho hf
    by_cases ei : i = id
    · rw [ei] at hf; exact hf id _ ht (by simp) rfl
    · rw [upd_other _ _ ei] at ho; exact hf i o ho hd rfl

/-- a live map's entries are written -/
theorem step_map {H : Hp} {id : Nat} {w' : World} {es es' : List (PV × PV)} {ds : Array MapEntry} {clk : Nat} (hr : HR H)
    (ht : H.τ id = some (.mp es)) (hb' : w'.heap[(H.ρ id).blk]? = some (.map ds clk))
    (hold : ∀ b, b ≠ (H.ρ id).blk → w'.heap[b]? = H.w.heap[b]?) (hs : w'.heap.size = H.w.heap.size) (h2 : w'.os = H.w.os) (h3 : w'.tape = H.w.tape) (h4 : w'.output = H.w.output)
    (hk : Vs H (es'.map (·.1)) (ds.toList.map (·.key))) (hv : Vs H (es'.map (·.2)) (ds.toList.map (·.val))) :
    HR { H with τ := upd H.τ id (some (.mp es')), w := w' } ∧ Ext H { H with τ := upd H.τ id (some (.mp es')), w := w' } := by
  obtain ⟨es0, clk0, q1, q2, q3⟩ := hr.mp id es ht
  have hx : VExt H { H with τ := upd H.τ id (some (.mp es')), w := w' } := by
    refine ⟨fun i o ho => ?_, fun b hz => ⟨hz, hold b fun e => (hr.z b hz).2 id _ ht (by simp) e.symm⟩⟩
    · by_cases ei : i = id
      · subst ei
        rw [ht] at ho
        obtain rfl := Option.some.inj ho
        exact ⟨.mp es', by simp, by simp [Obj.keeps], fun _ => rfl⟩
      · exact ⟨o, by simp only []; rw [upd_other _ _ ei]; exact ho, by cases o <;> simp [Obj.keeps], fun _ => rfl⟩
  refine ⟨⟨fun i ds dcap hi => ?_, fun i fs hi => ?_, fun i j oi oj hi hj di dj hbb => ?_, fun b hz => ⟨?_, fun i o ho hd => ?_⟩⟩, { hx with os := h2, tape := h3, output := h4, size := by simp [hs], frame := fun b hlt hf => ⟨hold b fun e => hf id _ ht (by simp) e.symm, fun z => z⟩, img := fun i o ho hd hlt hf => ?_ }⟩
  · simp only [] at hi ⊢
    by_cases ei : i = id
    · subst ei; rw [upd_same] at hi; simp at hi
    · rw [upd_other _ _ ei] at hi
      obtain ⟨c1, e1, fr1, k1, k2, k2', k3, k4, k5, k6⟩ := hr.arr i ds dcap hi
      have hne : (H.ρ i).blk ≠ (H.ρ id).blk := fun e => ei (hr.inj i id _ _ hi ht (by simp) (by simp) e)
      exact ⟨c1, e1, fr1, by rw [hold _ hne]; exact k1, k2, k2', k3, k4, k5, Vs_ext hx k6⟩
  · simp only [] at hi ⊢
    by_cases ei : i = id
    · subst ei
      rw [upd_same] at hi
      obtain rfl : es' = fs := by simpa using hi
      exact ⟨ds, clk, hb', Vs_ext hx hk, Vs_ext hx hv⟩
    · rw [upd_other _ _ ei] at hi
      obtain ⟨es', clk, k1, k2, k3⟩ := hr.mp i fs hi
      have hne : (H.ρ i).blk ≠ (H.ρ id).blk := fun e => ei (hr.inj i id _ _ hi ht (by simp) (by simp) e)
      exact ⟨es', clk, by rw [hold _ hne]; exact k1, Vs_ext hx k2, Vs_ext hx k3⟩
  · simp only [] at hi hj hbb
    have back : ∀ i o, upd H.τ id (some (.mp es')) i = some o → o ≠ .dead → ∃ o', H.τ i = some o' ∧ o' ≠ .dead := fun i o hi hd => by
      by_cases ei : i = id
      · exact ⟨_, by rw [ei]; exact ht, by simp⟩
      · rw [upd_other _ _ ei] at hi; exact ⟨o, hi, hd⟩
    obtain ⟨oi', hi', di'⟩ := back i oi hi di
    obtain ⟨oj', hj', dj'⟩ := back j oj hj dj
    exact hr.inj i j oi' oj' hi' hj' di' dj' hbb
  · simp only [hs]; exact (hr.z b hz).1
  · simp only [] at ho ⊢
    by_cases ei : i = id
    · rw [ei]; exact (hr.z b hz).2 id _ ht (by simp)
    · rw [upd_other _ _ ei] at ho; exact (hr.z b hz).2 i o ho hd
  · simp only [] at ho hf
    by_cases ei : i = id
    · rw [ei] at hf; exact hf id _ ht (by simp) rfl
    · rw [upd_other _ _ ei] at ho; exact hf i o ho hd rfl

/-- an object dies: memory as it is -/
theorem step_kill {H : Hp} {id : Nat} {o : Obj} (hr : HR H) (ht : H.τ id = some o) :
    HR { H with τ := upd H.τ id (some .dead) } ∧ Ext H { H with τ := upd H.τ id (some .dead) } := by
  have hx : VExt H { H with τ := upd H.τ id (some .dead) } := by
    refine ⟨fun i o' ho => ?_, fun b hz => ⟨hz, rfl⟩⟩
    by_cases ei : i = id
    · subst ei; exact ⟨.dead, by simp, by cases o' <;> simp [Obj.keeps], fun h => (h rfl).elim⟩
    · exact ⟨o', by simp only []; rw [upd_other _ _ ei]; exact ho, by cases o' <;> simp [Obj.keeps], fun _ => rfl⟩
  have back : ∀ i o', upd H.τ id (some .dead) i = some o' → o' ≠ .dead → H.τ i = some o' := fun i o' hi hd => by
    by_cases ei : i = id
    · rw [ei, upd_same] at hi; exact (hd (Option.some.inj hi).symm).elim
    · rwa [upd_other _ _ ei] at hi
  refine ⟨⟨fun i ds dcap hi => ?_, fun i fs hi => ?_, fun i j oi oj hi hj di dj hbb => hr.inj i j oi oj (back i oi hi di) (back j oj hj dj) di dj hbb, fun b hz => ⟨(hr.z b hz).1, fun i o ho hd => (hr.z b hz).2 i o (back i o ho hd) hd⟩⟩, { hx with os := rfl, tape := rfl, output := rfl, size := Nat.le_refl _, frame := fun b hlt hf => ⟨rfl, fun z => z⟩, img := fun i o ho hd hlt hf => hf i o (back i o ho hd) hd rfl }⟩
  · obtain ⟨c1, e1, fr1, k1, k2, k2', k3, k4, k5, k6⟩ := hr.arr i ds dcap (back i _ hi (by simp))
    exact ⟨c1, e1, fr1, k1, k2, k2', k3, k4, k5, Vs_ext hx k6⟩
  · obtain ⟨es', clk, k1, k2, k3⟩ := hr.mp i fs (back i _ hi (by simp))
    exact ⟨es', clk, k1, Vs_ext hx k2, Vs_ext hx k3⟩

/-- an object dies and its block, from some cell on, is another object's -/
theorem step_rename {H : Hp} {id n off : Nat} {cs : List PV} {cap : Option Nat} (hr : HR H) (ht : H.τ id = some (.arr cs cap)) (hn : H.τ n = none) (ho : off ≤ cs.length) :
    HR { H with τ := upd (upd H.τ id (some .dead)) n (some (.arr (cs.drop off) none)), ρ := upd H.ρ n ⟨(H.ρ id).blk, (H.ρ id).base + off, (H.ρ id).fin - off⟩ } ∧
    Ext H { H with τ := upd (upd H.τ id (some .dead)) n (some (.arr (cs.drop off) none)), ρ := upd H.ρ n ⟨(H.ρ id).blk, (H.ρ id).base + off, (H.ρ id).fin - off⟩ } := by
  have hnid : id ≠ n := fun e => by rw [e, hn] at ht; cases ht
  have hx : VExt H { H with τ := upd (upd H.τ id (some .dead)) n (some (.arr (cs.drop off) none)), ρ := upd H.ρ n ⟨(H.ρ id).blk, (H.ρ id).base + off, (H.ρ id).fin - off⟩ } := by
    refine ⟨fun i o' hi => ?_, fun b hz => ⟨hz, rfl⟩⟩
    have hin : i ≠ n := fun e => by rw [e, hn] at hi; cases hi
    by_cases ei : i = id
    · subst ei; exact ⟨.dead, by simp only []; rw [upd_other _ _ hin, upd_same], by cases o' <;> simp [Obj.keeps], fun h => (h rfl).elim⟩
    · exact ⟨o', by simp only []; rw [upd_other _ _ hin, upd_other _ _ ei]; exact hi, by cases o' <;> simp [Obj.keeps], fun _ => by simp only []; rw [upd_other _ _ hin]⟩
  have back : ∀ i o', upd (upd H.τ id (some .dead)) n (some (.arr (cs.drop off) none)) i = some o' → o' ≠ .dead → (i = n ∧ o' = .arr (cs.drop off) none) ∨ (i ≠ n ∧ i ≠ id ∧ H.τ i = some o') := fun i o' hi hd => by
    by_cases en : i = n
    · rw [en, upd_same] at hi; exact .inl ⟨en, (Option.some.inj hi).symm⟩
    · rw [upd_other _ _ en] at hi
      by_cases ei : i = id
      · rw [ei, upd_same] at hi; exact (hd (Option.some.inj hi).symm).elim
      · rw [upd_other _ _ ei] at hi; exact .inr ⟨en, ei, hi⟩
  obtain ⟨c, e, fr, q1, q2, q2', q3, q4, q5, q6⟩ := hr.arr id cs cap ht
  refine ⟨⟨fun i ds dcap hi => ?_, fun i fs hi => ?_, fun i j oi oj hi hj di dj hbb => ?_, fun b hz => ⟨(hr.z b hz).1, fun i o hi hd => ?_⟩⟩, { hx with os := rfl, tape := rfl, output := rfl, size := Nat.le_refl _, frame := fun b hlt hf => ⟨rfl, fun z => z⟩, img := fun i o hi hd hlt hf => ?_ }⟩
  · rcases back i _ hi (by simp) with ⟨rfl, e1⟩ | ⟨en, ei, hi'⟩
    · obtain ⟨rfl, rfl⟩ : ds = cs.drop off ∧ dcap = none := by simpa using e1
      refine ⟨c, e, fr, by simp only []; rw [upd_same]; exact q1, ?_, ?_, by simp, q4, fun x hx => q5 x (List.mem_of_mem_drop hx), ?_⟩
      · simp only []; rw [upd_same]; simp; omega
      · simp only []; rw [upd_same]; simp only []; omega
      · simp only []; rw [upd_same]
        have := Vs_drop (Vs_ext hx q6) off
        rw [List.drop_take, List.drop_drop] at this
        simpa using this
    · simp only []; rw [upd_other _ _ en]
      obtain ⟨c1, e1, fr1, k1, k2, k2', k3, k4, k5, k6⟩ := hr.arr i ds dcap hi'
      exact ⟨c1, e1, fr1, k1, k2, k2', k3, k4, k5, Vs_ext hx k6⟩
  · rcases back i _ hi (by simp) with ⟨rfl, e1⟩ | ⟨en, ei, hi'⟩
    · simp at e1
    · simp only []; rw [upd_other _ _ en]
      obtain ⟨es', clk, k1, k2, k3⟩ := hr.mp i fs hi'
      exact ⟨es', clk, k1, Vs_ext hx k2, Vs_ext hx k3⟩
  · simp only [] at hbb
    rcases back i _ hi di with ⟨rfl, _⟩ | ⟨en, ei, hi'⟩ <;> rcases back j _ hj dj with ⟨rfl, _⟩ | ⟨em, ej, hj'⟩
    · rfl
    · rw [upd_same, upd_other _ _ em] at hbb; exact (ej (hr.inj id j _ _ ht hj' (by simp) dj hbb).symm).elim
    · rw [upd_same, upd_other _ _ en] at hbb; exact (ei (hr.inj i id _ _ hi' ht di (by simp) hbb)).elim
    · rw [upd_other _ _ en, upd_other _ _ em] at hbb; exact hr.inj i j _ _ hi' hj' di dj hbb
  · rcases back i _ hi hd with ⟨rfl, _⟩ | ⟨en, ei, hi'⟩
    · simp only []; rw [upd_same]; exact (hr.z b hz).2 id _ ht (by simp)
    · simp only []; rw [upd_other _ _ en]; exact (hr.z b hz).2 i _ hi' hd
  · simp only [] at hf
    rcases back i _ hi hd with ⟨rfl, _⟩ | ⟨en, ei, hi'⟩
    · rw [upd_same] at hf; exact hf id _ ht (by simp) rfl
    · rw [upd_other _ _ en] at hf; exact hf i _ hi' hd rfl

/-! ### Cells written one by one -/
theorem heap_setCell (w : World) (b o : Nat) (v : Value) (k : Nat) : (w.setCell ⟨b, o, none⟩ v).heap[k]? = if k = b then (w.heap[b]?).map fun
      | .cells c elem frozen => .cells (c.setIfInBounds o v) elem frozen
      | x => x
    else w.heap[k]? := by
  simp only [World.setCell, Array.getElem?_modify]
  by_cases h : k = b
  · subst h
    rw [if_pos rfl, if_pos rfl]
    congr 1
  · simp [h, Ne.symm h]

theorem setCells_spec {b : Nat} {e : TypeId} {fr : Nat × Nat} : ∀ (vs : List Value) (o : Nat) (w : World) (c : Array Value), w.heap[b]? = some (.cells c e fr) → o + vs.length ≤ c.size →
    (∃ c', (w.setCells b o vs).heap[b]? = some (.cells c' e fr) ∧ c'.size = c.size ∧ c'.toList = c.toList.take o ++ vs ++ c.toList.drop (o + vs.length)) ∧
    (∀ k, k ≠ b → (w.setCells b o vs).heap[k]? = w.heap[k]?) ∧ (w.setCells b o vs).heap.size = w.heap.size ∧
    (w.setCells b o vs).os = w.os ∧ (w.setCells b o vs).tape = w.tape ∧ (w.setCells b o vs).output = w.output
  | [], o, w, c, h, hl => by
    refine ⟨⟨c, h, rfl, ?_⟩, fun _ _ => rfl, rfl, rfl, rfl, rfl⟩
    simp
  | v :: vs, o, w, c, h, hl => by
    simp only [List.length_cons] at hl
    have h1 : (w.setCell ⟨b, o, none⟩ v).heap[b]? = some (.cells (c.setIfInBounds o v) e fr) := by rw [heap_setCell]; simp [h]
    obtain ⟨⟨c', k1, k2, k3⟩, k4, k5, k6, k7, k8⟩ := setCells_spec vs (o + 1) (w.setCell ⟨b, o, none⟩ v) _ h1 (by simp; omega)
    simp only [World.setCells]
    refine ⟨⟨c', k1, by rw [k2]; simp, ?_⟩, fun k hk => by rw [k4 k hk, heap_setCell]; simp [hk], by rw [k5]; simp [World.setCell], by rw [k6]; rfl, by rw [k7]; rfl, by rw [k8]; rfl⟩
    rw [k3]
    simp only [Array.toList_setIfInBounds, List.length_cons]
    rw [List.take_set, List.drop_set_of_lt (by omega), List.take_add_one]
    have hlt : o < c.toList.length := by simp; omega
    have e1 : (c.toList.take o ++ c.toList[o]?.toList).set o v = c.toList.take o ++ [v] := by
      rw [List.getElem?_eq_getElem hlt, Option.toList_some, List.set_append_right _ _ (by simp; omega)]
      simp at hlt
      simp [Nat.min_eq_left (Nat.le_of_lt hlt)]
    rw [e1]
    simp [Nat.add_assoc, Nat.add_comm 1]

end Go.MT
