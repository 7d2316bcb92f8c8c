/-
  The law over the table: why every tree ends in 'true'.
-/
import Derived.Test.YtibbckpgcglbcaaGreatMtLv4
namespace Go.MT
open Go Go.Proofs

/-! ### the table -/
noncomputable def below22 (p : Nat → Bool) : Bool := Nat.rec (motive := fun _ => Bool) true (fun m ih => Bool.rec (motive := fun _ => Bool) false ih (p m)) 22
theorem below_go {p : Nat → Bool} : ∀ {n : Nat}, (Nat.rec (motive := fun _ => Bool) true (fun m ih => Bool.rec (motive := fun _ => Bool) false ih (p m)) n : Bool) = true → ∀ i, i < n → p i = true
  | 0, _, i, h => by omega
  | n + 1, h, i, hi => by
    have h : (Bool.rec (motive := fun _ => Bool) false (Nat.rec (motive := fun _ => Bool) true (fun m ih => Bool.rec (motive := fun _ => Bool) false ih (p m)) n) (p n) : Bool) = true := h
    cases hp : p n with
    | false => rw [hp] at h; cases h
    | true =>
      rw [hp] at h
      rcases Nat.lt_or_eq_of_le (Nat.le_of_lt_succ hi) with h1 | h1
      · exact below_go h i h1
      · subst h1; exact hp
theorem map_refl : ∀ i, i < 22 → mapB i i = true := below_go (show below22 (fun i => mapB i i) = true by kernel_rfl)
theorem map_trans_k : below22 (fun i => below22 fun j => Bool.rec (motive := fun _ => Bool) true (below22 fun k => Bool.rec (motive := fun _ => Bool) true (mapB i k) (mapB j k)) (mapB i j)) = true := by kernel_rfl
theorem map_trans {i j k : Nat} (hi : i < 22) (hj : j < 22) (hk : k < 22) (h1 : mapB i j = true) (h2 : mapB j k = true) : mapB i k = true := by
  have h := below_go (p := fun i => below22 fun j => Bool.rec (motive := fun _ => Bool) true (below22 fun k => Bool.rec (motive := fun _ => Bool) true (mapB i k) (mapB j k)) (mapB i j)) map_trans_k i hi
  have h := below_go (p := fun j => Bool.rec (motive := fun _ => Bool) true (below22 fun k => Bool.rec (motive := fun _ => Bool) true (mapB i k) (mapB j k)) (mapB i j)) h j hj
  rw [h1] at h
  have h := below_go (p := fun k => Bool.rec (motive := fun _ => Bool) true (mapB i k) (mapB j k)) h k hk
  rw [h2] at h
  exact h
theorem ix_small : ∀ i, i < 18 → ∀ j, j < 8 → cqIx i j < 22 := by
  have h : (Nat.rec (motive := fun _ => Bool) true (fun m ih => Bool.rec (motive := fun _ => Bool) false ih (Nat.rec (motive := fun _ => Bool) true (fun k ih => Bool.rec (motive := fun _ => Bool) false ih (Nat.blt (cqIx m k) 22)) 8)) 18 : Bool) = true := by kernel_rfl
  intro i hi j hj
  have := below_go (p := fun k => Nat.blt (cqIx i k) 22) (below_go (p := fun m => (Nat.rec (motive := fun _ => Bool) true (fun k ih => Bool.rec (motive := fun _ => Bool) false ih (Nat.blt (cqIx m k) 22)) 8 : Bool)) h i hi) j hj
  simpa [Nat.blt_eq] using this
theorem posI_small (x : Nat) : posI x < 22 := ix_small _ (Nat.mod_lt _ (by decide)) _ (Nat.lt_of_le_of_lt Nat.and_le_right (by decide))

/-! ### Contained is reflexive, transitive, and a disjunction contains its disjuncts -/
theorem CT_iff {is js : List Nat} : CT is js = true ↔ ∀ d ∈ is, ∃ c ∈ js, mapB c d = true := by
  unfold CT
  simp only [List.all_eq_true, List.any_eq_true]
theorem CT_sub {is js : List Nat} (h : Small is) (hs : ∀ d ∈ is, d ∈ js) : CT is js = true := CT_iff.2 fun d hd => ⟨d, hs d hd, map_refl d (h d hd)⟩
theorem CT_trans {p q r : List Nat} (hp : Small p) (hq : Small q) (hr : Small r) (h1 : CT p q = true) (h2 : CT q r = true) : CT p r = true := by
  rw [CT_iff] at h1 h2 ⊢
  intro d hd
  obtain ⟨c, hc, h3⟩ := h1 d hd
  obtain ⟨e, he, h4⟩ := h2 c hc
  exact ⟨e, he, map_trans (hr e he) (hq c hc) (hp d hd) h4 h3⟩
theorem CT_or {p q : List Nat} (hq : Small q) : CT (p ++ q) q = CT p q := by
  have h := CT_sub hq (js := q) fun d hd => hd
  unfold CT at h ⊢
  rw [List.all_append, h, Bool.and_true]

/-! ### the questions' answers -/
open Classical in
theorem okC_true {m m' : Nat} {cs cs' : List PV} {is js : List Nat} (h1 : Fits m cs is) (h2 : Fits m' cs' js) (h3 : is.length ≤ 3 ∨ js.length ≤ 3) : okC m cs m' cs' = true := by
  unfold okC; rw [decide_eq_true_eq]; exact ⟨is, js, h1, h2, h3⟩
theorem Fits_inj {m : Nat} {cs : List PV} {is js : List Nat} (h1 : Fits m cs is) (h2 : Fits m cs js) : is = js := cE_inj h1.1 h2.1 (h1.2.2.2.2.symm.trans h2.2.2.2.2)
open Classical in
theorem CC_eq {m m' : Nat} {cs cs' : List PV} {is js : List Nat} (h1 : Fits m cs is) (h2 : Fits m' cs' js) : CC m cs m' cs' = CT is js := by
  unfold CC
  rw [Bool.eq_iff_iff, decide_eq_true_eq]
  constructor
  · rintro ⟨a, b, q1, q2, q3⟩
    rw [Fits_inj h1 q1, Fits_inj h2 q2]; exact q3
  · intro h; exact ⟨is, js, h1, h2, h⟩
theorem askC_eq {β : Type} {m m' : Nat} {cs cs' : List PV} {is js : List Nat} (h1 : Fits m cs is) (h2 : Fits m' cs' js) (h3 : is.length ≤ 3 ∨ js.length ≤ 3) (yes no : Option β) : askC m cs m' cs' yes no = if CT is js = true then yes else no := by
  unfold askC
  rw [okC_true h1 h2 h3, CC_eq h1 h2]
  cases CT is js <;> rfl
theorem rest_eq {β : Type} {m m' : Nat} {cs cs' : List PV} {is js : List Nat} (h1 : Fits m cs is) (h2 : Fits m' cs' js) (h3 : is.length ≤ 3) (h4 : js.length ≤ 3) (T F : Option β) : rest m cs m' cs' T F = T := by
  have h5 : Fits (Nat.add m m') (cs ++ cs') (is ++ js) := by
    obtain ⟨a1, a2, a3, a4, a5⟩ := h1
    obtain ⟨b1, b2, b3, b4, b5⟩ := h2
    refine ⟨fun x hx => ?_, by simp; omega, by simp; omega, by rw [List.length_append, ← a4, ← b4]; rfl, by rw [a5, b5]; simp [els]⟩
    rcases List.mem_append.1 hx with hx | hx
    · exact a1 x hx
    · exact b1 x hx
  unfold rest
  rw [askC_eq h1 h1 (.inl h3), askC_eq h1 h5 (.inl h3), askC_eq h2 h5 (.inl h4), askC_eq h5 h2 (.inr h4), askC_eq h1 h2 (.inl h3), askC_eq h1 h2 (.inl h3)]
  rw [if_pos (CT_sub h1.1 fun d hd => hd), if_pos (CT_sub h1.1 fun d hd => by simp [hd]), if_pos (CT_sub h2.1 fun d hd => by simp [hd]), CT_or h2.1]
  split <;> rfl
open Classical in
theorem okL_true {l : PV} {zs : List Int} (h : IntsL l zs) : okL l = true := by unfold okL; rw [decide_eq_true_eq]; exact ⟨zs, h⟩
theorem askQ_eq {β : Type} {l : PV} {zs : List Int} (h : IntsL l zs) (k : Nat → Nat → Option β) : askQ l k = k (Nat.mod (atP l 0) 2) (Nat.mod (atP l 1) 3) := by
  unfold askQ
  rw [okL_true h]
  simp only []
  rw [spreadN_eq, if_pos (show Nat.mod (atP l 0) 2 < 2 from Nat.mod_lt _ (by decide)), spreadN_eq, if_pos (show Nat.mod (atP l 1) 3 < 3 from Nat.mod_lt _ (by decide))]
theorem qL_len (l : PV) : (qL l).length = Nat.mod (atP l 1) 3 + 1 := by simp [qL]
theorem flat_el (is : List Nat) : is.flatMap elem = (els is).flatMap cE := by
  simp only [els, List.flatMap_map]
  rfl
theorem qL_fits (l : PV) : Fits (Nat.succ (Nat.mod (atP l 1) 3)) (cellsM l (Nat.mod (atP l 1) 3)) (qL l) ∧ (qL l).length ≤ 3 := by
  have hm : Nat.mod (atP l 1) 3 < 3 := Nat.mod_lt _ (by decide)
  have hl := qL_len l
  refine ⟨⟨fun i hi => ?_, by omega, by omega, hl.symm, ?_⟩, by omega⟩
  · simp only [qL, List.mem_map] at hi
    obtain ⟨_, _, rfl⟩ := hi
    exact posI_small _
  · rw [← flat_el]; rfl
theorem lawT_eq {β : Type} {l1 l2 l3 : PV} {z1 z2 z3 : List Int} (h1 : IntsL l1 z1) (h2 : IntsL l2 z2) (h3 : IntsL l3 z3) (T F : Option β) : lawT l1 l2 l3 T F = T := by
  obtain ⟨f1, b1⟩ := qL_fits l1
  obtain ⟨f2, b2⟩ := qL_fits l2
  obtain ⟨f3, b3⟩ := qL_fits l3
  unfold lawT
  rw [askQ_eq h1, askQ_eq h2, askQ_eq h3]
  rw [askC_eq f1 f2 (.inl b1), askC_eq f2 f3 (.inl b2), askC_eq f1 f3 (.inl b1), rest_eq f1 f2 b1 b2]
  by_cases c1 : CT (qL l1) (qL l2) = true
  · rw [if_pos c1]
    by_cases c2 : CT (qL l2) (qL l3) = true
    · rw [if_pos c2, if_pos (CT_trans f1.1 f2.1 f3.1 c1 c2)]
    · rw [if_neg c2]
  · rw [if_neg c1]

/-! ### what is known at the last level is known rightly -/
theorem viewX_some {β : Type} {s : PV} {rs : List Obj} {k : Nat → List PV → Option β} {r : β} (h : viewX s rs.length rs k = some r) : ∃ m cs, viewO s rs.reverse = some (m, cs) ∧ k m cs = some r := by
  unfold viewX at h
  unfold viewO
  split at h
  · exact ⟨_, _, rfl, h⟩
  · obtain ⟨o, ho, h⟩ := getR_some rfl h
    split at h
    · exact ⟨_, _, by rw [ho], h⟩
    · cases h
  · cases h
theorem conX_ok {β : Type} {args : List PV} {rs : List Obj} {k : PV → Option β} {d : Option β} {r : β} (h : conX args rs.length rs k d = some r) : (∃ v, conE args rs.reverse = some v ∧ k v = some r) ∨ (conE args rs.reverse = none ∧ d = some r) := by
  unfold conX at h
  unfold conE
  split at h
  · obtain ⟨m, cs, h1, h⟩ := viewX_some h
    obtain ⟨m', cs', h2, h⟩ := viewX_some h
    left
    simp only [h1, h2]
    unfold askC at h
    cases ho : okC m cs m' cs' with
    | false => rw [ho] at h; cases h
    | true =>
      rw [ho] at h
      refine ⟨_, if_pos rfl, ?_⟩
      cases hc : CC m cs m' cs' <;> rw [hc] at h <;> exact h
  · exact .inr ⟨rfl, h⟩
theorem posqX_ok {β : Type} {args : List PV} {k : PV → Option β} {d : Option β} {r : β} (h : posqX args k d = some r) : (∃ v, posqE args = some v ∧ k v = some r) ∨ (posqE args = none ∧ d = some r) := by
  unfold posqX at h
  unfold posqE
  split at h
  · rename_i l _
    left
    unfold askQ at h
    cases ho : okL l with
    | false => rw [ho] at h; cases h
    | true =>
      rw [ho] at h
      refine ⟨_, if_pos rfl, ?_⟩
      simp only [] at h
      rw [spreadN_eq, if_pos (show Nat.mod (atP l 0) 2 < 2 from Nat.mod_lt _ (by decide)), spreadN_eq, if_pos (show Nat.mod (atP l 1) 3 < 3 from Nat.mod_lt _ (by decide))] at h
      unfold qV
      rw [qL_len]
      exact h
  · exact .inr ⟨rfl, h⟩
theorem X4_ok {β : Type} : XOk (β := β) K4 X4 := fun f args rs k d r h => by
  have h : (Bool.rec (motive := fun _ => Option β) (Bool.rec (motive := fun _ => Option β) (Bool.rec (motive := fun _ => Option β) (X0 f args rs.length rs k d) (knownX args k d) (Nat.beq f 6)) (conX args rs.length rs k d) (Nat.beq f 5)) (posqX args k d) (Nat.beq f 4)) = some r := h
  have e : K4.ext f args rs.reverse = (Bool.rec (motive := fun _ => Option PV) (Bool.rec (motive := fun _ => Option PV) (Bool.rec (motive := fun _ => Option PV) (ext0 f args) (knownE args) (Nat.beq f 6)) (conE args rs.reverse) (Nat.beq f 5)) (posqE args) (Nat.beq f 4)) := rfl
  rw [e]
  cases h4 : Nat.beq f 4 with
  | true => rw [h4] at h; exact posqX_ok h
  | false =>
    rw [h4] at h
    cases h5 : Nat.beq f 5 with
    | true => rw [h5] at h; exact conX_ok h
    | false =>
      rw [h5] at h
      cases h6 : Nat.beq f 6 with
      | true =>
        rw [h6] at h
        have h : knownX args k d = some r := h
        unfold knownX at h
        split at h
        · exact .inl ⟨_, rfl, h⟩
        · rename_i hne
          refine .inr ⟨?_, h⟩
          show knownE args = none
          unfold knownE
          split
          · exact (hne rfl).elim
          · rfl
      | false => rw [h6] at h; exact extX_ok (K := K0) (e := ext0) (fun _ _ _ => rfl) f args rs k d r h
theorem mapO_closed {σ : Store} {d : Nat} : ∀ {cs : List PV}, (∀ c ∈ cs, c.closedLeaf = true ∧ ∀ id off len sz, c ≠ .ref id off len sz) → mapO (freezeD σ 0 (d + 1)) cs = some cs
  | [], _ => rfl
  | c :: cs, h => by
    have h1 : freezeD σ 0 (d + 1) c = some c := by
      obtain ⟨hc, hr⟩ := h c (by simp)
      cases c with
      | ref id off len sz => exact (hr id off len sz rfl).elim
      | _ => simp only [freezeD, hc, if_true]
    have ih := mapO_closed (σ := σ) (d := d) (cs := cs) fun x hx => h x (List.mem_cons_of_mem _ hx)
    simp only [mapO, h1, ih]
theorem cE_closed {js : List El} : ∀ c ∈ js.flatMap cE, c.closedLeaf = true ∧ ∀ id off len sz, c ≠ .ref id off len sz := by
  intro c hc
  simp only [List.mem_flatMap, cE, List.mem_cons, List.not_mem_nil, or_false] at hc
  obtain ⟨p, _, rfl | rfl⟩ := hc
  · exact ⟨rfl, by intros; simp⟩
  · exact ⟨rfl, by intros; simp⟩
theorem view_freeze {s : PV} {σ : Store} {m : Nat} {cs : List PV} {is : List Nat} (h : viewO s σ = some (m, cs)) (hf : Fits m cs is) : freezeT σ 0 s = some (.lst false 2 m cs) := by
  unfold viewO at h
  split at h
  · obtain ⟨rfl, rfl⟩ : _ = m ∧ _ = cs := by simpa using h
    rfl
  · rename_i id m0
    split at h
    · rename_i cs0 hid
      obtain ⟨rfl, rfl⟩ : m0 = m ∧ cs0 = cs := by simpa using h
      obtain ⟨f1, f2, f3, f4, f5⟩ := hf
      have hlen : cs0.length = m0 * 2 := by
        rw [f5, f4]
        clear f1 f2 f3 f4 f5 h hid
        induction is with
        | nil => rfl
        | cons i is ih =>
          have : (els (i :: is)).flatMap cE = cE (el i) ++ (els is).flatMap cE := rfl
          rw [this, List.length_append, ih]
          simp [cE]; omega
      have hc := cE_closed (js := els is)
      rw [← f5] at hc
      have e1 : freezeT σ 0 (.ref id 0 m0 2) = freezeD σ 0 (19 + 1) (.ref id 0 m0 2) := by simp only [freezeT, Nat.not_lt_zero, if_false]
      have e2 : freezeD σ 0 (19 + 1) (.ref id 0 m0 2) = (if id < 0 then none else match σ[id]? with
        | some (.arr cs cap) => if 0 + m0 * 2 ≤ cs.length then match mapO (freezeD σ 0 (18 + 1)) ((cs.drop 0).take (m0 * 2)) with
          | some fs => some (.lst (cap == some (0 + m0 * 2)) 2 m0 fs)
          | none => none
          else none
        | _ => none) := rfl
      rw [e1, e2, if_neg (by omega), hid]
      simp only []
      rw [if_pos (by omega), List.drop_zero, ← hlen, List.take_length, mapO_closed hc]
      rfl
    · cases h
  · cases h
theorem ext4_sum {f : FuncId} {args : List PV} {σ : Store} {v : PV} (h : ext4 f args σ = some v) : SumAt Tryz.prog f args σ v := by
  unfold ext4 at h
  cases h4 : Nat.beq f 4 with
  | true =>
    rw [h4] at h
    obtain rfl := Nat.eq_of_beq_eq_true h4
    have h : posqE args = some v := h
    unfold posqE at h
    split at h
    · rename_i l hl
      split at h
      · rename_i ho
        obtain rfl := Option.some.inj h
        have : args = [l] := by
          unfold oneArg at hl
          split at hl
          · rw [Option.some.inj hl]
          · cases hl
        subst this
        have : ∃ zs, IntsL l zs := by
          classical
          unfold okL at ho
          simpa using ho
        obtain ⟨zs, hz⟩ := this
        exact (posq_sum hz).at σ
      · cases h
    · cases h
  | false =>
    rw [h4] at h
    cases h5 : Nat.beq f 5 with
    | true =>
      rw [h5] at h
      obtain rfl := Nat.eq_of_beq_eq_true h5
      have h : conE args σ = some v := h
      unfold conE at h
      split at h
      · rename_i s t hst
        split at h
        · rename_i m cs m' cs' h1 h2
          split at h
          · rename_i ho
            obtain rfl := Option.some.inj h
            have : ∃ is js, Fits m cs is ∧ Fits m' cs' js ∧ (is.length ≤ 3 ∨ js.length ≤ 3) := by
              classical
              unfold okC at ho
              simpa using ho
            obtain ⟨is, js, q1, q2, q3⟩ := this
            have ha : args = [.agg [.nilslice, s], .agg [.nilslice, t]] := by
              unfold twoQ at hst
              split at hst
              · obtain ⟨rfl, rfl⟩ : _ = s ∧ _ = t := by simpa using hst
                rfl
              · cases hst
            subst ha
            rw [CC_eq q1 q2]
            refine snap_sum (args' := [qE (els is), qE (els js)]) ?_ (con_sum q1.1 q2.1 q1.2.1 q2.2.1 q1.2.2.1 q2.2.2.1 q3)
            have e : ∀ {s : PV} {m : Nat} {cs : List PV} {is : List Nat}, viewO s σ = some (m, cs) → Fits m cs is → freezeA σ 0 (.agg [.nilslice, s]) = some (qE (els is)) := fun {s m cs is} hv hf => by
              have hm : (els is).length = m := by rw [hf.2.2.2.1]; simp [els]
              simp only [freezeA, mapO, view_freeze hv hf]
              have : freezeT σ 0 .nilslice = some .nilslice := rfl
              rw [this]
              simp only [Option.map_some, qE, hm, ← hf.2.2.2.2]
            simp only [mapO, e h1 q1, e h2 q2]
          · cases h
        · cases h
      · cases h
    | false =>
      rw [h5] at h
      cases h6 : Nat.beq f 6 with
      | true =>
        rw [h6] at h
        obtain rfl := Nat.eq_of_beq_eq_true h6
        have h : knownE args = some v := h
        unfold knownE at h
        split at h
        · obtain rfl := Option.some.inj h
          exact (sum0 known_run rfl).at σ
        · cases h
      | false => rw [h6] at h; exact (ext0_sum h).at σ

/-- the law's function answers true -/
theorem law_run {l1 l2 l3 : PV} {z1 z2 z3 : List Int} (h1 : IntsL l1 z1) (h2 : IntsL l2 z2) (h3 : IntsL l3 z3) : pcall K4 100000 0 3 [l1, l2, l3] [] = some (.bool true, []) := by
  refine run_pcall (K := K4) (X := X4) X4_ok ?_
  have : LAW l1 l2 l3 := by
    rcases h1 with ⟨rfl, _⟩ | rfl <;> rcases h2 with ⟨rfl, _⟩ | rfl <;> rcases h3 with ⟨rfl, _⟩ | rfl
    · exact law7
    · exact law3 _ _
    · exact law5 _ _
    · exact law1 _ _ _ _
    · exact law6 _ _
    · exact law2 _ _ _ _
    · exact law4 _ _ _ _
    · exact law0 _ _ _ _ _ _
  unfold LAW at this
  rw [this, lawT_eq h1 h2 h3]
theorem call4 (m : Nat) : CallOK K4 (pcall K4 m) := lv_ok (e := ext4) (fun _ _ _ _ h => ext4_sum h) m
theorem funcs4 : FuncsOK K4 := funcs_ok (K := K4) fq
end Go.MT
