/-
  The check of the tape's regions, quick for the kernel; all functions at once.
-/
import Derived.Test.YtibbckpgcglbcaaGreatMtFly3
namespace Go.MT

noncomputable def maskL (l : List Nat) : Nat := List.rec (motive := fun _ => Nat) 0 (fun t _ ih => Nat.lor ih (Nat.pow 2 t)) l
theorem maskL_mem {t : Nat} : ∀ {l : List Nat}, (maskL l).testBit t = false → t ∉ l
  | [], _, h => by cases h
  | a :: l, hm, h => by
    have hm : (Nat.lor (maskL l) (Nat.pow 2 a)).testBit t = false := hm
    have e : Nat.lor (maskL l) (Nat.pow 2 a) = maskL l ||| 2 ^ a := rfl
    rw [e, Nat.testBit_or, Bool.or_eq_false_iff] at hm
    rcases List.mem_cons.1 h with h | h
    · subst h
      have := hm.2
      rw [Nat.testBit_two_pow_self] at this
      cases this
    · exact maskL_mem hm.1 h

noncomputable def rowsQ (ops : Array Oper) (l : List Oper) : List (Option Nat × Nat) := List.rec (motive := fun _ => List (Option Nat × Nat)) [] (fun o _ ih => (o.dst, maskL (namesT ops o)) :: ih) l
noncomputable def hitQ (d : Option Nat) (m : Nat) : Bool := Option.rec (motive := fun _ => Bool) false (fun d => Nat.testBit m d) d
/-- the first ones against the j-th -/
noncomputable def rowQ (bj : Nat) (dj : Option Nat) (mj : Nat) (rows : List (Option Nat × Nat)) : Nat → Nat → Bool := List.rec (motive := fun _ => Nat → Nat → Bool) (fun _ _ => true)
  (fun r _ ih i j => Bool.rec (motive := fun _ => Bool) true
    (Bool.rec (motive := fun _ => Bool) (Bool.rec (motive := fun _ => Bool) (Bool.rec (motive := fun _ => Bool) (ih (Nat.succ i) j) false (hitQ dj r.2)) false (hitQ r.1 mj)) (ih (Nat.succ i) j) (Nat.testBit bj i)) (Nat.blt i j)) rows
noncomputable def allQ (rows0 : List (Option Nat × Nat)) (rows : List (Option Nat × Nat)) : List Nat → Nat → Bool := List.rec (motive := fun _ => List Nat → Nat → Bool) (fun _ _ => true)
  (fun r _ ih b j => List.rec (motive := fun _ => Bool) false (fun bj b' _ => Bool.rec (motive := fun _ => Bool) false (ih b' (Nat.succ j)) (rowQ bj r.1 r.2 rows0 0 j)) b) rows
noncomputable def edgesQ (l : List Oper) : Nat → Bool := List.rec (motive := fun _ => Nat → Bool) (fun _ => true) (fun o _ ih i => Bool.rec (motive := fun _ => Bool) false (ih (Nat.succ i))
  (List.rec (motive := fun _ => Bool) true (fun e _ ih => Bool.rec (motive := fun _ => Bool) ih (Bool.rec (motive := fun _ => Bool) false ih (Nat.blt e.on i)) (Region.binds .any e)) o.after.toList)) l
noncomputable def regionQ (ops : Array Oper) : Bool := Bool.rec (motive := fun _ => Bool) false (allQ (rowsQ ops ops.toList) (rowsQ ops ops.toList) (CheckFast.beforeL ops.toList 0 []) 0) (edgesQ ops.toList 0)

theorem rowsQ_get (ops : Array Oper) : ∀ (l : List Oper) (i : Nat), (rowsQ ops l)[i]? = (l[i]?).map fun o => (o.dst, maskL (namesT ops o))
  | [], _ => by simp [rowsQ]
  | o :: l, 0 => rfl
  | o :: l, i + 1 => by
    show (rowsQ ops l)[i]? = _
    rw [rowsQ_get ops l i]
    simp
theorem rowQ_mem {bj : Nat} {dj : Option Nat} {mj : Nat} : ∀ {rows : List (Option Nat × Nat)} {i j x : Nat} {r : Option Nat × Nat}, rowQ bj dj mj rows i j = true → rows[x]? = some r → i + x < j →
    bj.testBit (i + x) = true ∨ (hitQ dj r.2 = false ∧ hitQ r.1 mj = false)
  | [], _, _, _, _, _, h, _ => by simp at h
  | r0 :: rows, i, j, x, r, h, hx, hlt => by
    have h : (Bool.rec (motive := fun _ => Bool) true
      (Bool.rec (motive := fun _ => Bool) (Bool.rec (motive := fun _ => Bool) (Bool.rec (motive := fun _ => Bool) (rowQ bj dj mj rows (i + 1) j) false (hitQ dj r0.2)) false (hitQ r0.1 mj)) (rowQ bj dj mj rows (i + 1) j) (Nat.testBit bj i)) (Nat.blt i j) : Bool) = true := h
    rw [show Nat.blt i j = true by rw [Nat.blt_eq]; omega] at h
    simp only [] at h
    cases x with
    | zero =>
      obtain rfl : r0 = r := by simpa using hx
      cases hb : bj.testBit i with
      | true => exact .inl rfl
      | false =>
        rw [hb] at h
        cases h1 : hitQ r0.1 mj with
        | true => rw [h1] at h; cases h
        | false =>
          rw [h1] at h
          cases h2 : hitQ dj r0.2 with
          | true => rw [h2] at h; cases h
          | false => exact .inr ⟨rfl, rfl⟩
    | succ x =>
      have e : i + 1 + x = i + (x + 1) := by omega
      rw [← e]
      refine rowQ_mem (rows := rows) (j := j) ?_ (by simpa using hx) (by omega)
      cases hb : bj.testBit i with
      | true => rw [hb] at h; exact h
      | false =>
        rw [hb] at h
        cases h1 : hitQ r0.1 mj with
        | true => rw [h1] at h; cases h
        | false =>
          rw [h1] at h
          cases h2 : hitQ dj r0.2 with
          | true => rw [h2] at h; cases h
          | false => rw [h2] at h; exact h
theorem allQ_mem {rows0 : List (Option Nat × Nat)} : ∀ {rows : List (Option Nat × Nat)} {b : List Nat} {j x : Nat} {r : Option Nat × Nat}, allQ rows0 rows b j = true → rows[x]? = some r →
    ∃ bx, b[x]? = some bx ∧ rowQ bx r.1 r.2 rows0 0 (j + x) = true
  | [], _, _, _, _, _, h => by simp at h
  | r0 :: rows, b, j, x, r, h, hx => by
    cases b with
    | nil => cases h
    | cons b0 b =>
      have h : (Bool.rec (motive := fun _ => Bool) false (allQ rows0 rows b (j + 1)) (rowQ b0 r0.1 r0.2 rows0 0 j) : Bool) = true := h
      cases h1 : rowQ b0 r0.1 r0.2 rows0 0 j with
      | false => rw [h1] at h; cases h
      | true =>
        rw [h1] at h
        cases x with
        | zero =>
          obtain rfl : r0 = r := by simpa using hx
          exact ⟨b0, rfl, h1⟩
        | succ x =>
          obtain ⟨bx, h2, h3⟩ := allQ_mem (rows := rows) h (by simpa using hx)
          refine ⟨bx, by simpa using h2, ?_⟩
          rw [show j + (x + 1) = j + 1 + x by omega]
          exact h3
theorem edgesQ_mem : ∀ {l : List Oper} {i : Nat}, edgesQ l i = true → ∀ x o, l[x]? = some o → ∀ e ∈ o.after.toList, Region.binds .any e = true → e.on < i + x
  | [], _, _, x, o, h => by simp at h
  | o0 :: l, i, h, x, o, hx => by
    have h : (Bool.rec (motive := fun _ => Bool) false (edgesQ l (i + 1))
      (List.rec (motive := fun _ => Bool) true (fun e _ ih => Bool.rec (motive := fun _ => Bool) ih (Bool.rec (motive := fun _ => Bool) false ih (Nat.blt e.on i)) (Region.binds .any e)) o0.after.toList) : Bool) = true := h
    cases h1 : (List.rec (motive := fun _ => Bool) true (fun e _ ih => Bool.rec (motive := fun _ => Bool) ih (Bool.rec (motive := fun _ => Bool) false ih (Nat.blt e.on i)) (Region.binds .any e)) o0.after.toList : Bool) with
    | false => rw [h1] at h; cases h
    | true =>
      rw [h1] at h
      cases x with
      | zero =>
        obtain rfl : o0 = o := by simpa using hx
        generalize o0.after.toList = es at h1
        intro e he hbd
        induction es with
        | nil => cases he
        | cons e0 es ih =>
          have h1 : (Bool.rec (motive := fun _ => Bool) (List.rec (motive := fun _ => Bool) true (fun e _ ih => Bool.rec (motive := fun _ => Bool) ih (Bool.rec (motive := fun _ => Bool) false ih (Nat.blt e.on i)) (Region.binds .any e)) es)
            (Bool.rec (motive := fun _ => Bool) false (List.rec (motive := fun _ => Bool) true (fun e _ ih => Bool.rec (motive := fun _ => Bool) ih (Bool.rec (motive := fun _ => Bool) false ih (Nat.blt e.on i)) (Region.binds .any e)) es) (Nat.blt e0.on i)) (Region.binds .any e0) : Bool) = true := h1
          cases hb0 : Region.binds .any e0 with
          | false =>
            rw [hb0] at h1
            rcases List.mem_cons.1 he with rfl | he
            · rw [hb0] at hbd; cases hbd
            · exact ih h1 he
          | true =>
            rw [hb0] at h1
            cases hlt : Nat.blt e0.on i with
            | false => rw [hlt] at h1; cases h1
            | true =>
              rw [hlt] at h1
              rcases List.mem_cons.1 he with rfl | he
              · rw [Nat.blt_eq] at hlt; simpa using hlt
              · exact ih h1 he
      | succ x =>
        have := edgesQ_mem (l := l) h x o (by simpa using hx)
        intro e he hb
        have := this e he hb
        omega
theorem hitQ_false {d : Option Nat} {l : List Nat} (h : hitQ d (maskL l) = false) : (d.toList.all fun d => !l.contains d) = true := by
  cases d with
  | none => rfl
  | some d =>
    have := maskL_mem (t := d) (l := l) h
    simp [this]
theorem regionQ_ok {ops : Array Oper} (h : regionQ ops = true) : regionOk ops = true := by
  unfold regionQ at h
  cases he : edgesQ ops.toList 0 with
  | false => rw [he] at h; cases h
  | true =>
    rw [he] at h
    have h : allQ (rowsQ ops ops.toList) (rowsQ ops ops.toList) (CheckFast.beforeL ops.toList 0 []) 0 = true := h
    unfold regionOk
    rw [Bool.and_eq_true]
    constructor
    · rw [List.all_eq_true]
      rintro ⟨o, i⟩ ho
      rw [List.mem_zipIdx_iff_getElem?] at ho
      simp only [] at ho ⊢
      rw [← Array.all_toList, List.all_eq_true]
      intro e hm
      cases hb : Region.binds .any e with
      | false => rfl
      | true =>
        have := edgesQ_mem he i o ho e hm hb
        simp only [Nat.zero_add] at this
        simp [this]
    · rw [List.all_eq_true]
      rintro ⟨o, i⟩ ho
      rw [List.mem_zipIdx_iff_getElem?] at ho
      rw [List.all_eq_true]
      rintro ⟨p, j⟩ hp
      rw [List.mem_zipIdx_iff_getElem?] at hp
      simp only [] at ho hp ⊢
      by_cases hlt : i < j
      · have hi := rowsQ_get ops ops.toList i
        rw [ho] at hi
        have hj := rowsQ_get ops ops.toList j
        rw [hp] at hj
        obtain ⟨bj, h1, h2⟩ := allQ_mem h hj
        have hbj := beforeL_get ops j
        rw [h1] at hbj
        have hbj : bj = (Region.before ops).getD j 0 := hbj
        rcases rowQ_mem h2 hi (by omega) with h3 | ⟨h3, h4⟩
        · rw [Nat.zero_add] at h3
          rw [← hbj, h3]
          simp
        · rw [hitQ_false h3, hitQ_false h4]
          simp
      · simp [hlt]

noncomputable def codeQ (c : Code) : Bool := Code.rec (motive := fun _ => Bool) true (fun _ ops draw => Bool.rec (motive := fun _ => Bool) true (regionQ ops) draw)
  (fun _ _ a b => Bool.rec (motive := fun _ => Bool) false b a) (fun _ _ _ a b => Bool.rec (motive := fun _ => Bool) false b a) (fun _ _ a => a) (fun _ a => a) (fun _ _ _ _ _ _ => true) (fun _ => true) (fun _ _ => true) (fun _ => true) (fun _ => true) true (fun _ => true) c
theorem codeQ_ok : ∀ {c : Code}, codeQ c = true → codeOk c = true := by
  intro c
  induction c with
  | region id ops draw =>
    intro h
    cases draw with
    | false => rfl
    | true => simp only [codeOk, Bool.not_true, Bool.false_or]; exact regionQ_ok h
  | seq a b iha ihb =>
    intro h
    have h : (Bool.rec (motive := fun _ => Bool) false (codeQ b) (codeQ a) : Bool) = true := h
    cases ha : codeQ a with
    | false => rw [ha] at h; cases h
    | true => rw [ha] at h; simp only [codeOk, iha ha, ihb h, Bool.and_self]
  | cond c a b iha ihb =>
    intro h
    have h : (Bool.rec (motive := fun _ => Bool) false (codeQ b) (codeQ a) : Bool) = true := h
    cases ha : codeQ a with
    | false => rw [ha] at h; cases h
    | true => rw [ha] at h; simp only [codeOk, iha ha, ihb h, Bool.and_self]
  | block id b ih => intro h; exact ih h
  | loop b ih => intro h; exact ih h
  | _ => intro _; rfl

noncomputable def funcQ (fn : Func) : Bool := Option.rec (motive := fun _ => Bool) true (fun c => Bool.rec (motive := fun _ => Bool) false (!(fn.name == "runtime.NumGoroutine")) (codeQ c)) fn.body
noncomputable def funcsQ (l : List Func) : Bool := List.rec (motive := fun _ => Bool) true (fun fn _ ih => Bool.rec (motive := fun _ => Bool) false ih (funcQ fn)) l
theorem funcsQ_mem : ∀ {l : List Func}, funcsQ l = true → ∀ fn ∈ l, funcQ fn = true
  | [], _, fn, h => by cases h
  | f :: l, h, fn, hm => by
    have h : (Bool.rec (motive := fun _ => Bool) false (funcsQ l) (funcQ f) : Bool) = true := h
    cases hf : funcQ f with
    | false => rw [hf] at h; cases h
    | true =>
      rw [hf] at h
      rcases List.mem_cons.1 hm with rfl | hm
      · exact hf
      · exact funcsQ_mem h fn hm
theorem funcs_ok {K : Cfg} (h : funcsQ K.P.funcs.toList = true) : FuncsOK K := by
  intro f fn c hfn hb
  have hm : fn ∈ K.P.funcs.toList := by
    rw [Array.mem_toList_iff]
    exact Array.mem_of_getElem? hfn
  have := funcsQ_mem h fn hm
  unfold funcQ at this
  rw [hb] at this
  have this : (Bool.rec (motive := fun _ => Bool) false (!(fn.name == "runtime.NumGoroutine")) (codeQ c) : Bool) = true := this
  cases hc : codeQ c with
  | false => rw [hc] at this; cases this
  | true =>
    rw [hc] at this
    refine ⟨codeQ_ok hc, fun e => ?_⟩
    rw [e] at this
    simp at this
end Go.MT
