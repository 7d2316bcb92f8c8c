/-
  The third level: what is known of At and Positive; what the law's PositiveQuery answers.
-/
import Derived.Test.YtibbckpgcglbcaaGreatMtLv1
namespace Go.MT
open Go Go.Proofs

/-- a slice of integers that came in -/
def IntsL (l : PV) (zs : List Int) : Prop := (l = .nilslice ∧ zs = []) ∨ l = .lst false 1 zs.length (zs.map (.int .i64))
def intOf (p : PV) : Int := match p with
  | .int _ z => z
  | _ => 0
def zsOf (l : PV) : List Int := match l with
  | .lst _ _ _ cs => cs.map intOf
  | _ => []
theorem zsOf_eq {l : PV} {zs : List Int} (h : IntsL l zs) : zsOf l = zs := by
  rcases h with ⟨rfl, rfl⟩ | rfl
  · rfl
  · simp only [zsOf, List.map_map]
    induction zs with
    | nil => rfl
    | cons z zs ih => simp only [List.map_cons]; rw [show (intOf ∘ PV.int .i64) z = z from rfl, ih]
def atP (l : PV) (i : Nat) : Nat := if zsOf l = [] then Nat.land i 65535 else atZ (zsOf l) i
open Classical in
noncomputable def okA (l : PV) (i : Nat) : Bool := decide ((∃ zs, IntsL l zs) ∧ i < 65536)
theorem at_sum {l : PV} {i : Nat} (h : okA l i = true) : SumOK Tryz.prog 7 [l, .int .i64 (.ofNat i)] (.int .i64 (.ofNat (atP l i))) := by
  have h : (∃ zs, IntsL l zs) ∧ i < 65536 := by simpa [okA] using h
  obtain ⟨⟨zs, hl⟩, hi⟩ := h
  unfold atP
  rw [zsOf_eq hl]
  refine lv_sum lv0 (m := 1) (fl := 0) ?_ (by rcases hl with ⟨rfl, _⟩ | rfl <;> rfl)
  by_cases hz : zs = []
  · rw [if_pos hz]
    refine at_empty (m := 0) ?_
    rcases hl with ⟨rfl, _⟩ | rfl
    · exact .inl rfl
    · subst hz; exact .inr ⟨_, rfl⟩
  · rw [if_neg hz]
    rcases hl with ⟨_, rfl⟩ | rfl
    · exact (hz rfl).elim
    · exact at_full hz hi

noncomputable def posE (args : List PV) : Option PV := match args with
  | [.int .i64 (.ofNat x)] => some (cq (posI x))
  | _ => none
noncomputable def atE (args : List PV) : Option PV := match args with
  | [l, .int .i64 (.ofNat i)] => if okA l i = true then some (.int .i64 (.ofNat (atP l i))) else none
  | _ => none
noncomputable def ext2 (f : FuncId) (vs : List PV) : Option PV := Bool.rec (motive := fun _ => Option PV) (Bool.rec (motive := fun _ => Option PV) (ext1 f vs) (posE vs) (Nat.beq f 8)) (atE vs) (Nat.beq f 7)
theorem ext2_sum {f : FuncId} {args : List PV} {v : PV} (h : ext2 f args = some v) : SumOK Tryz.prog f args v := by
  unfold ext2 at h
  cases hb : Nat.beq f 7 with
  | true =>
    rw [hb] at h
    obtain rfl := Nat.eq_of_beq_eq_true hb
    have h : atE args = some v := h
    unfold atE at h
    split at h
    · split at h
      · rename_i ho
        obtain rfl := Option.some.inj h
        exact at_sum ho
      · cases h
    · cases h
  | false =>
    rw [hb] at h
    cases hb : Nat.beq f 8 with
    | true =>
      rw [hb] at h
      obtain rfl := Nat.eq_of_beq_eq_true hb
      have h : posE args = some v := h
      unfold posE at h
      split at h
      · obtain rfl := Option.some.inj h
        exact pos_sum _
      · cases h
    | false => rw [hb] at h; exact ext1_sum h
theorem lv2 : ∀ f args (σ : Store) v, (fun f vs (_ : Store) => ext2 f vs) f args σ = some v → SumAt Tryz.prog f args σ v := fun _ _ σ _ h => (ext2_sum h).at σ
noncomputable def K2 : Cfg := ⟨Tryz.prog, pol, fun f vs _ => ext2 f vs⟩

section
variable {β : Type}
noncomputable def posX (args : List PV) (k : PV → Option β) (d : Option β) : Option β := match args with
  | [.int .i64 (.ofNat x)] => k (cq (posI x))
  | _ => d
noncomputable def atX (args : List PV) (k : PV → Option β) (d : Option β) : Option β := match args with
  | [l, .int .i64 (.ofNat i)] => Bool.rec (motive := fun _ => Option β) none (k (.int .i64 (.ofNat (atP l i)))) (okA l i)
  | _ => d
noncomputable def X2 : XF β := fun f args n rs k d => Bool.rec (motive := fun _ => Option β) (Bool.rec (motive := fun _ => Option β) (X1 f args n rs k d) (posX args k d) (Nat.beq f 8)) (atX args k d) (Nat.beq f 7)
theorem posX_ok {args : List PV} {k : PV → Option β} {d : Option β} {r : β} (h : posX args k d = some r) : (∃ v, posE args = some v ∧ k v = some r) ∨ (posE args = none ∧ d = some r) := by
  unfold posX at h
  unfold posE
  split at h
  · exact .inl ⟨_, rfl, h⟩
  · rename_i hne
    right
    refine ⟨rfl, h⟩
theorem atX_ok {args : List PV} {k : PV → Option β} {d : Option β} {r : β} (h : atX args k d = some r) : (∃ v, atE args = some v ∧ k v = some r) ∨ (atE args = none ∧ d = some r) := by
  unfold atX at h
  unfold atE
  split at h
  · rename_i l i
    cases ho : okA l i with
    | false => rw [ho] at h; cases h
    | true => rw [ho] at h; exact .inl ⟨_, by simp only [if_true], h⟩
  · exact .inr ⟨rfl, h⟩
theorem X2_ok : XOk (β := β) K2 X2 := fun f args rs k d r h => by
  have h : (Bool.rec (motive := fun _ => Option β) (Bool.rec (motive := fun _ => Option β) (X1 f args rs.length rs k d) (posX args k d) (Nat.beq f 8)) (atX args k d) (Nat.beq f 7)) = some r := h
  have e : K2.ext f args rs.reverse = (Bool.rec (motive := fun _ => Option PV) (Bool.rec (motive := fun _ => Option PV) (ext1 f args) (posE args) (Nat.beq f 8)) (atE args) (Nat.beq f 7)) := rfl
  rw [e]
  cases h7 : Nat.beq f 7 with
  | true => rw [h7] at h; exact atX_ok h
  | false =>
    rw [h7] at h
    cases h8 : Nat.beq f 8 with
    | true => rw [h8] at h; exact posX_ok h
    | false => rw [h8] at h; exact extX_ok (K := K1) (e := ext1) (fun _ _ _ => rfl) f args rs k d r h

/-! ### PositiveQuery -/
noncomputable def askA (l : PV) (i : Nat) (k : Nat → Option β) : Option β := Bool.rec (motive := fun _ => Option β) none (k (atP l i)) (okA l i)
noncomputable def headP (h : Nat) : PV := Nat.rec (motive := fun _ => PV) .nilslice (fun _ _ => .lst true 1 1 [.str [120]]) h
noncomputable def cellsQ (x : Nat) : List PV := [.lst false 3 (cqN (posI x)) (cqC (posI x)), .nilslice]
noncomputable def endQ (hd : PV) (i : Nat) (acc : List PV) : PV := .agg [hd, Nat.rec (motive := fun _ => PV) .nilslice (fun _ _ => .lst false 2 i acc) i]
noncomputable def loopQ (l hd : PV) (k : PV → Option β) (n : Nat) : Nat → List PV → Option β := Nat.rec (motive := fun _ => Nat → List PV → Option β) (fun _ _ => none)
  (fun _ ih i acc => askA l 1 fun a1 => spreadN 3 (Nat.mod a1 3) fun m => Bool.rec (motive := fun _ => Option β) (k (endQ hd i acc)) (askA l (Nat.add 2 i) fun x => ih (Nat.succ i) (acc ++ cellsQ x)) (Nat.ble i m)) n
noncomputable def treeQ (l : PV) (k : PV → Option β) : Option β := askA l 0 fun a0 => spreadN 2 (Nat.mod a0 2) fun h => loopQ l (headP h) k 4 0 []
end
theorem pq_tree (n : Nat) (cs : List PV) : runS K2 E0 X2 100000 4 [.lst false 1 n cs] = treeQ (.lst false 1 n cs) fun v => some (v, []) := by kernel_rfl
theorem pq_tree0 : runS K2 E0 X2 100000 4 [.nilslice] = treeQ .nilslice fun v => some (v, []) := by kernel_rfl

/-- which queries the law's PositiveQuery puts together -/
noncomputable def qL (l : PV) : List Nat := (List.range (Nat.mod (atP l 1) 3 + 1)).map fun i => posI (atP l (2 + i))
noncomputable def elem (j : Nat) : List PV := [.lst false 3 (cqN j) (cqC j), .nilslice]
noncomputable def qV (hd : PV) (js : List Nat) : PV := .agg [hd, .lst false 2 js.length (js.flatMap elem)]
theorem askA_ok {β : Type} {l : PV} {zs : List Int} (h : IntsL l zs) {i : Nat} (hi : i < 65536) (k : Nat → Option β) : askA l i k = k (atP l i) := by
  have : okA l i = true := by simpa [okA] using ⟨⟨zs, h⟩, hi⟩
  unfold askA; rw [this]
theorem treeQ_eq {β : Type} {l : PV} {zs : List Int} (h : IntsL l zs) (k : PV → Option β) : treeQ l k = k (qV (headP (Nat.mod (atP l 0) 2)) (qL l)) := by
  unfold treeQ
  rw [askA_ok h (by decide), spreadN_eq, if_pos (show Nat.mod (atP l 0) 2 < 2 from Nat.mod_lt _ (by decide))]
  have hm : Nat.mod (atP l 1) 3 < 3 := Nat.mod_lt _ (by decide)
  unfold qL
  generalize headP (Nat.mod (atP l 0) 2) = hd
  have step : ∀ (n i : Nat) (acc : List PV), loopQ l hd k (n + 1) i acc = if i ≤ Nat.mod (atP l 1) 3 then askA l (2 + i) fun x => loopQ l hd k n (i + 1) (acc ++ cellsQ x) else k (endQ hd i acc) := fun n i acc => by
    show (askA l 1 fun a1 => spreadN 3 (Nat.mod a1 3) fun m => Bool.rec (motive := fun _ => Option β) (k (endQ hd i acc)) (askA l (Nat.add 2 i) fun x => loopQ l hd k n (Nat.succ i) (acc ++ cellsQ x)) (Nat.ble i m)) = _
    rw [askA_ok h (by decide), spreadN_eq, if_pos hm]
    cases hb : Nat.ble i (Nat.mod (atP l 1) 3) with
    | true => rw [Nat.ble_eq] at hb; rw [if_pos hb]; rfl
    | false => rw [if_neg (fun e => by rw [← Nat.ble_eq, hb] at e; cases e)]
  generalize hmm : Nat.mod (atP l 1) 3 = m at hm step
  have : m = 0 ∨ m = 1 ∨ m = 2 := by omega
  rcases this with rfl | rfl | rfl
  · rw [step, if_pos (by decide), askA_ok h (by decide), step, if_neg (by decide)]
    rfl
  · rw [step, if_pos (by decide), askA_ok h (by decide), step, if_pos (by decide), askA_ok h (by decide), step, if_neg (by decide)]
    rfl
  · rw [step, if_pos (by decide), askA_ok h (by decide), step, if_pos (by decide), askA_ok h (by decide), step, if_pos (by decide), askA_ok h (by decide), step, if_neg (by decide)]
    rfl
theorem posq_sum {l : PV} {zs : List Int} (h : IntsL l zs) : SumOK Tryz.prog 4 [l] (qV (headP (Nat.mod (atP l 0) 2)) (qL l)) := by
  refine lv_sum lv2 (m := 100000) (fl := 0) (run_pcall (K := K2) (X := X2) X2_ok ?_) (by rcases h with ⟨rfl, _⟩ | rfl <;> rfl)
  have ht : runS K2 E0 X2 100000 4 [l] = treeQ l fun v => some (v, []) := by
    rcases h with ⟨rfl, _⟩ | rfl
    · exact pq_tree0
    · exact pq_tree _ _
  rw [ht, treeQ_eq h]
end Go.MT
