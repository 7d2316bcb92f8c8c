/-
  The evaluator for the kernel over short frames: operations, regions, code, calls.
-/
import Derived.Test.YtibbckpgcglbcaaGreatMtParts
namespace Go.MT

section
variable {β : Type}

abbrev OpF (β : Type) := Program → List Nat → List Nat → List PV → List PV → Nat → List Obj → (PV → Eff → Option β) → Option β

noncomputable def genS (op : Op) : OpF β := fun P loc esc fr st n rs k => Bool.rec (motive := fun _ => Option β) none (match primOpE P (getS n rs) n op (lookE loc esc fr st) with
  | some (v, e) => fV v fun v => fEff e fun e => k v e
  | none => none) (okOps loc esc op)
noncomputable def genQ (F : PrimF) (op : Op) : OpF β := fun P loc esc fr st n rs k => Bool.rec (motive := fun _ => Option β) none (match F P (getS n rs) n (lookE loc esc fr st) with
  | some (v, e) => fV v fun v => fEff e fun e => k v e
  | none => none) (okOps loc esc op)
noncomputable def moveS (x : Operand) : OpF β := fun _ loc esc fr st _ _ k => evE loc esc fr st x fun v => k v .none
noncomputable def pickS (c a b : Operand) : OpF β := fun _ loc esc fr st _ _ k => evE loc esc fr st c fun v => match v with
  | .bool true => evE loc esc fr st a fun v => k v .none
  | .bool false => evE loc esc fr st b fun v => k v .none
  | _ => none
noncomputable def loadS (t : TypeId) (a : Operand) : OpF β := fun P loc esc fr st n rs k => evE loc esc fr st a fun p => loadR P n rs t p fun v => k v .none
noncomputable def storeS (t : TypeId) (a x : Operand) : OpF β := fun P loc esc fr st n rs k => evE loc esc fr st a fun p => evE loc esc fr st x fun v => storeR P n rs t p v k
def isSym (op : BinOp) : Bool := match op with
  | .and | .rem | .shr => true
  | _ => false
/-- k m, by a test for each number below b: so the kernel goes on where m is open -/
noncomputable def spreadN (b m : Nat) (k : Nat → Option β) : Option β := Nat.rec (motive := fun _ => Nat → Option β) (fun _ => none) (fun _ ih i => Bool.rec (motive := fun _ => Option β) (ih (Nat.succ i)) (k i) (Nat.beq m i)) b 0
theorem spreadN_go (m : Nat) (k : Nat → Option β) : ∀ (b i : Nat), (Nat.rec (motive := fun _ => Nat → Option β) (fun _ => none) (fun _ ih i => Bool.rec (motive := fun _ => Option β) (ih (Nat.succ i)) (k i) (Nat.beq m i)) b i : Option β) = if i ≤ m ∧ m < i + b then k m else none
  | 0, i => by
    rw [if_neg (by omega)]
    rfl
  | b + 1, i => by
    show (Bool.rec (motive := fun _ => Option β) (Nat.rec (motive := fun _ => Nat → Option β) (fun _ => none) (fun _ ih i => Bool.rec (motive := fun _ => Option β) (ih (Nat.succ i)) (k i) (Nat.beq m i)) b (i + 1)) (k i) (Nat.beq m i)) = _
    cases h : Nat.beq m i with
    | true =>
      have := Nat.eq_of_beq_eq_true h
      subst this
      rw [if_pos (by omega)]
    | false =>
      have hne : m ≠ i := fun e => by rw [e] at h; simp at h
      simp only []
      rw [spreadN_go m k b (i + 1)]
      by_cases hc : i ≤ m ∧ m < i + (b + 1)
      · rw [if_pos hc, if_pos (by omega)]
      · rw [if_neg hc, if_neg (by omega)]
theorem spreadN_eq (b m : Nat) (k : Nat → Option β) : spreadN b m k = if m < b then k m else none := by
  unfold spreadN
  rw [spreadN_go]
  simp
theorem spreadN_some {b m : Nat} {k : Nat → Option β} {r : β} (h : spreadN b m k = some r) : k m = some r := by
  rw [spreadN_eq] at h
  split at h
  · exact h
  · cases h
/-- x & y, x % y, x >> y of natural numbers, the first of them open -/
noncomputable def natR (op : BinOp) (ka kb : IntKind) (x y : Nat) (d : Option β) (k : PV → Option β) : Option β := match op with
  | .and => Bool.rec (motive := fun _ => Option β) d (Bool.rec (motive := fun _ => Option β) d (Bool.rec (motive := fun _ => Option β) (k (.int ka (.ofNat (Nat.land x y)))) (spreadN (Nat.succ y) (Nat.land x y) fun m => k (.int ka (.ofNat m))) (Nat.blt y 16)) (Nat.blt y (kTop ka))) (Nat.beq (kIx ka) (kIx kb))
  | .rem => Bool.rec (motive := fun _ => Option β) d (Bool.rec (motive := fun _ => Option β) d (spreadN y (Nat.mod x y) fun m => k (.int ka (.ofNat m))) (Nat.blt y 32)) (Nat.beq (kIx ka) (kIx kb))
  | .shr => Bool.rec (motive := fun _ => Option β) d (k (.int ka (.ofNat (Nat.shiftRight x y)))) (Nat.ble y ka.bits)
  | _ => d
noncomputable def symR (op : BinOp) (a b : PV) (d : Option β) (k : PV → Option β) : Option β := match a with
  | .int ka (.ofNat x) => match b with
    | .int kb (.ofNat y) => natR op ka kb x y d k
    | _ => d
  | _ => d
theorem kTop_le (ka : IntKind) : kTop ka ≤ 2 ^ ka.bits := by cases ka <;> decide
theorem and_nat (ka : IntKind) (x y : Nat) (h : y < kTop ka) : intOp .and ka (Int.ofNat x) (Int.ofNat y) = some (.int ka (Int.ofNat (Nat.land x y))) := by
  have hk := kTop_le ka
  have e : (BitVec.ofInt ka.bits (Int.ofNat x) &&& BitVec.ofInt ka.bits (Int.ofNat y)).toNat = Nat.land x y := by
    rw [BitVec.toNat_and]
    have e1 : (BitVec.ofInt ka.bits (Int.ofNat x)).toNat = x % 2 ^ ka.bits := by
      show (BitVec.ofInt ka.bits (x : Int)).toNat = _
      rw [BitVec.ofInt_natCast, BitVec.toNat_ofNat]
    have e2 : (BitVec.ofInt ka.bits (Int.ofNat y)).toNat = y % 2 ^ ka.bits := by
      show (BitVec.ofInt ka.bits (y : Int)).toNat = _
      rw [BitVec.ofInt_natCast, BitVec.toNat_ofNat]
    rw [e1, e2, ← Nat.and_mod_two_pow]
    exact Nat.mod_eq_of_lt (Nat.lt_of_le_of_lt Nat.and_le_right (by omega))
  simp only [intOp, e]
  have : Nat.land x y < kTop ka := Nat.lt_of_le_of_lt Nat.and_le_right h
  have hw := wrap_top (k := ka) (n := Nat.land x y) (by rw [Nat.blt_eq]; exact this)
  show some (PV.int ka (ka.wrap (Int.ofNat (Nat.land x y)))) = _
  rw [hw]
theorem natR_some {P : Program} {t : TypeId} {op : BinOp} {ka kb : IntKind} {x y : Nat} {d : Option β} {k : PV → Option β} {r : β} (h : natR op ka kb x y d k = some r) : d = some r ∨ ∃ v, binT P op t (.int ka (.ofNat x)) (.int kb (.ofNat y)) = some v ∧ k v = some r := by
  unfold natR at h
  split at h
  · cases h1 : Nat.beq (kIx ka) (kIx kb) with
    | false => rw [h1] at h; exact .inl h
    | true =>
      rw [h1] at h
      obtain rfl := kIx_eq h1
      simp only [] at h
      cases h2 : Nat.blt y (kTop ka) with
      | false => rw [h2] at h; exact .inl h
      | true =>
        rw [h2] at h
        rw [Nat.blt_eq] at h2
        refine .inr ⟨_, by simp only [binT, if_true]; exact and_nat ka x y h2, ?_⟩
        simp only [] at h
        cases h3 : Nat.blt y 16 with
        | false => rw [h3] at h; exact h
        | true => rw [h3] at h; exact spreadN_some (k := fun m => k (.int ka (.ofNat m))) h
  · cases h1 : Nat.beq (kIx ka) (kIx kb) with
    | false => rw [h1] at h; exact .inl h
    | true =>
      rw [h1] at h
      obtain rfl := kIx_eq h1
      simp only [] at h
      cases h2 : Nat.blt y 32 with
      | false => rw [h2] at h; exact .inl h
      | true =>
        rw [h2] at h
        simp only [] at h
        have hlt : 0 < y := by
          rcases Nat.eq_zero_or_pos y with rfl | h0
          · rw [spreadN_eq] at h; simp at h
          · exact h0
        refine .inr ⟨_, ?_, spreadN_some (k := fun m => k (.int ka (.ofNat m))) h⟩
        simp only [binT, if_true, intOp]
        rw [if_neg (by intro e; have e : (y : Int) = 0 := e; omega)]
        rfl
  · cases h1 : Nat.ble y ka.bits with
    | false => rw [h1] at h; exact .inl h
    | true =>
      rw [h1] at h
      rw [Nat.ble_eq] at h1
      refine .inr ⟨_, ?_, h⟩
      simp only [binT, shiftOp]
      rw [if_neg (by have : (0 : Int) ≤ (y : Int) := by omega
                     show ¬ ((y : Int) < 0); omega)]
      have e : (Int.ofNat y).toNat = y := rfl
      rw [e, Nat.min_eq_left h1]
      congr 2
      show Int.fdiv (x : Int) (2 ^ y) = ((x >>> y : Nat) : Int)
      rw [Nat.shiftRight_eq_div_pow, Int.fdiv_eq_ediv_of_nonneg _ (by have : (0:Int) < 2 ^ y := Int.pow_pos (by decide); omega)]
      norm_cast
  · exact .inl h
theorem symR_some {P : Program} {t : TypeId} {op : BinOp} {a b : PV} {d : Option β} {k : PV → Option β} {r : β} (h : symR op a b d k = some r) : d = some r ∨ ∃ v, binT P op t a b = some v ∧ k v = some r := by
  unfold symR at h
  split at h
  · split at h
    · exact natR_some h
    · exact .inl h
  · exact .inl h
noncomputable def binS (op : BinOp) (t : TypeId) (x y : Operand) : OpF β := fun P loc esc fr st _ _ k => evE loc esc fr st x fun a => evE loc esc fr st y fun b =>
  Bool.rec (motive := fun _ => Option β) (binR P op t a b fun v => k v .none) (symR op a b (binR P op t a b fun v => k v .none) fun v => k v .none) (isSym op)
noncomputable def fieldAddrS (s : TypeId) (x : Operand) (f : Nat) : OpF β := fun P loc esc fr st n rs k => evE loc esc fr st x fun p => fieldAddrR P n rs s f p k
noncomputable def fieldS (s : TypeId) (x : Operand) (f : Nat) : OpF β := fun P loc esc fr st _ _ k => evE loc esc fr st x fun p => fieldR P s f p k
noncomputable def indexAddrS (t : TypeId) (x i : Operand) : OpF β := fun P loc esc fr st n rs k => evE loc esc fr st x fun p => evE loc esc fr st i fun i => indexAddrR P n rs t p i k
noncomputable def indexS (t : TypeId) (x i : Operand) : OpF β := fun P loc esc fr st n rs k => match P.underlying t with
  | some .string => evE loc esc fr st x fun p => evE loc esc fr st i fun i => strAtR P t p i k
  | _ => genS (.index t x i) P loc esc fr st n rs k
noncomputable def convS (s d : TypeId) (x : Operand) : OpF β := fun P loc esc fr st n rs k => evE loc esc fr st x fun v => match v with
  | .int _ a => match P.underlying s with
    | some _ => match P.underlying d with
      | some (.int kd) => wrapR kd a fun v => k v .none
      | _ => genS (.convert s d x) P loc esc fr st n rs k
    | none => none
  | _ => genS (.convert s d x) P loc esc fr st n rs k
noncomputable def extS (t : Operand) (i : Nat) : OpF β := fun _ loc esc fr st _ _ k => evE loc esc fr st t fun p => extR p i k
noncomputable def lenS (c : Call) : OpF β := fun P loc esc fr st n rs k => match c.args.toList with
  | [x] => match c.argTypes.toList with
    | t :: _ => match P.underlying t with
      | some .string => evE loc esc fr st x fun v => match v with
        | .str s => fNat s.length fun m => k (.int .i64 (.ofNat m)) .none
        | _ => none
      | some (.slice _) => evE loc esc fr st x fun v => match v with
        | .nilslice => k (.int .i64 (.ofNat 0)) .none
        | .lst _ _ m _ => k (.int .i64 (.ofNat m)) .none
        | .ref id _ len _ => getR n rs id fun o => match o with
          | .arr .. => k (.int .i64 (.ofNat len)) .none
          | _ => none
        | _ => none
      | _ => genS (.call c) P loc esc fr st n rs k
    | [] => none
  | _ => none
noncomputable def callS (c : Call) : OpF β := match c.callee with
  | .builtin .len => lenS c
  | .builtin .append => genQ (appendE c.args c.argTypes) (.call c)
  | .builtin .copy => genQ (copyE c.args c.argTypes) (.call c)
  | .builtin .delete => genQ (deleteE c.args c.argTypes) (.call c)
  | .builtin .cap => genQ (capE c.args c.argTypes) (.call c)
  | _ => genS (.call c)
noncomputable def opS (op : Op) : OpF β := match op with
  | .move x => moveS x
  | .assign x => moveS x
  | .pick c a b => pickS c a b
  | .load t a => loadS t a
  | .store t a x => storeS t a x
  | .binOp op t x y _ => binS op t x y
  | .fieldAddr s x f => fieldAddrS s x f
  | .field s x f => fieldS s x f
  | .indexAddr t x i => indexAddrS t x i
  | .index t x i => indexS t x i
  | .convert s d x => convS s d x
  | .extract t i => extS t i
  | .call c => callS c
  | .alloc e => genQ (allocE e) (.alloc e)
  | .box e x => genQ (boxE x) (.box e x)
  | .build t parts => genQ (buildE t parts) (.build t parts)
  | .buildSlice t len parts => genQ (buildSliceE t len parts) (.buildSlice t len parts)
  | .nilCheck x => genQ (nilCheckE x) (.nilCheck x)
  | .makeSlice t l c => genQ (makeSliceE t l c) (.makeSlice t l c)
  | .slice t x lo hi none => genQ (sliceE t x lo hi) (.slice t x lo hi none)
  | .lookup t x i ok => genQ (lookupE t x i ok) (.lookup t x i ok)
  | .mapUpdate t m k v => genQ (mapUpdateE t m k v) (.mapUpdate t m k v)
  | .makeFunc (.func f) first cap => genQ (makeFuncE f first cap) (.makeFunc (.func f) first cap)
  | .makeMap t none => genQ (makeMapE t) (.makeMap t none)
  | op => genS op

variable {N : Nat} {esc loc : List Nat} {fr st : List PV} {tm : Tmps} {P : Program} {n : Nat} {rs : List Obj}
theorem genS_some (hr : RelE N esc loc fr st tm) {op : Op} {k : PV → Eff → Option β} {r : β} (hn : n = rs.length) (h : genS op P loc esc fr st n rs k = some r) :
    ∃ v e, primOp P (fun id => rs.reverse[id]?) rs.length op tm = some (v, e) ∧ k v e = some r := by
  unfold genS at h
  cases ho : okOps loc esc op with
  | false => rw [ho] at h; cases h
  | true =>
    rw [ho] at h
    simp only [] at h
    rw [getS_eq hn, primOpE_congr (okOps_eq hr ho), ← primOp_E] at h
    subst hn
    split at h
    · rename_i v e he
      rw [fV_eq, fEff_eq] at h
      exact ⟨v, e, he, h⟩
    · cases h
theorem genQ_some (hr : RelE N esc loc fr st tm) {F : PrimF} {op : Op} {k : PV → Eff → Option β} {r : β} (hF : ∀ get n ρ, primOpE P get n op ρ = F P get n ρ) (hn : n = rs.length) (h : genQ F op P loc esc fr st n rs k = some r) :
    ∃ v e, primOp P (fun id => rs.reverse[id]?) rs.length op tm = some (v, e) ∧ k v e = some r := by
  refine genS_some hr hn ?_
  unfold genQ at h
  unfold genS
  rw [← hF] at h
  exact h
theorem lenS_some (hr : RelE N esc loc fr st tm) {args : Array Operand} {ats : Array TypeId} {k : PV → Eff → Option β} {r : β} (hn : n = rs.length) (h : lenS ⟨.builtin .len, args, ats⟩ P loc esc fr st n rs k = some r) :
    ∃ v e, primOp P (fun id => rs.reverse[id]?) rs.length (.call ⟨.builtin .len, args, ats⟩) tm = some (v, e) ∧ k v e = some r := by
  unfold lenS at h
  split at h
  · rename_i x hx
    simp only [] at hx h
    split at h
    · rename_i t ts ht
      split at h
      · rename_i hu
        have h := (evE_some hr h).1
        split at h
        · rename_i s hp
          rw [fNat_eq] at h
          exact ⟨_, _, by simp only [primOp, hx, ht, List.map_cons, hu, hp]; rfl, h⟩
        · cases h
      · rename_i hu
        have h := (evE_some hr h).1
        split at h
        · rename_i hp
          exact ⟨_, _, by simp only [primOp, hx, ht, List.map_cons, hu, hp]; rfl, h⟩
        · rename_i hp
          exact ⟨_, _, by simp only [primOp, hx, ht, List.map_cons, hu, hp]; rfl, h⟩
        · rename_i hp
          obtain ⟨o, ho, h⟩ := getR_some hn h
          split at h
          · exact ⟨_, _, by simp only [primOp, hx, ht, List.map_cons, List.map_nil, hu, hp]; rw [ho]; rfl, h⟩
          · cases h
        · cases h
      · exact genS_some hr hn h
    · cases h
  · cases h
theorem opS_some (hr : RelE N esc loc fr st tm) {op : Op} {k : PV → Eff → Option β} {r : β} (hn : n = rs.length) (h : opS op P loc esc fr st n rs k = some r) :
    ∃ v e, primOp P (fun id => rs.reverse[id]?) rs.length op tm = some (v, e) ∧ k v e = some r := by
  unfold opS at h
  split at h
  · exact ⟨_, _, rfl, (evE_some hr h).1⟩
  · exact ⟨_, _, rfl, (evE_some hr h).1⟩
  · have h := (evE_some hr h).1
    split at h
    · rename_i hc; exact ⟨_, _, by simp only [primOp, hc], (evE_some hr h).1⟩
    · rename_i hc; exact ⟨_, _, by simp only [primOp, hc], (evE_some hr h).1⟩
    · cases h
  · have h := (evE_some hr h).1
    obtain ⟨v, h1, h2⟩ := loadR_some hn h
    exact ⟨v, _, by simp only [primOp, h1]; rfl, h2⟩
  · have h := (evE_some hr (evE_some hr h).1).1
    exact storeR_some hn h
  · rename_i op t x y t'
    have h := (evE_some hr (evE_some hr h).1).1
    have gen : binR P op t (evalO tm x) (evalO tm y) (fun v => k v .none) = some r → ∃ v e, primOp P (fun id => rs.reverse[id]?) rs.length (.binOp op t x y t') tm = some (v, e) ∧ k v e = some r := fun h => by
      obtain ⟨v, h1, h2⟩ := binR_some h
      exact ⟨v, _, by simp only [primOp, h1]; rfl, h2⟩
    cases ha : isSym op with
    | false => rw [ha] at h; exact gen h
    | true =>
      rw [ha] at h
      rcases symR_some (P := P) (t := t) h with h | ⟨v, h1, h2⟩
      · exact gen h
      · exact ⟨v, _, by simp only [primOp, h1]; rfl, h2⟩
  · exact fieldAddrR_some hn (evE_some hr h).1
  · exact fieldR_some (evE_some hr h).1
  · exact indexAddrR_some hn (evE_some hr (evE_some hr h).1).1
  · rename_i t x i
    have h : (match P.underlying t with
      | some .string => evE loc esc fr st x fun p => evE loc esc fr st i fun i => strAtR P t p i k
      | _ => genS (.index t x i) P loc esc fr st n rs k) = some r := h
    split at h
    · exact strAtR_some (evE_some hr (evE_some hr h).1).1
    · exact genS_some hr hn h
  · have h := (evE_some hr h).1
    split at h
    · rename_i kd a hv
      split at h
      · rename_i u hs
        split at h
        · rename_i kd' hd
          rw [wrapR_eq] at h
          refine ⟨_, _, ?_, h⟩
          simp only [primOp, convT, hs, hd, hv]
        · exact genS_some hr hn h
      · cases h
    · exact genS_some hr hn h
  · exact extR_some (evE_some hr h).1
  · rename_i c
    obtain ⟨callee, args, ats⟩ := c
    cases callee with
    | builtin b =>
      cases b with
      | len => exact lenS_some hr hn h
      | append => exact genQ_some hr (fun get n ρ => appendE_eq args ats) hn h
      | copy => exact genQ_some hr (fun get n ρ => copyE_eq args ats) hn h
      | delete => exact genQ_some hr (fun get n ρ => deleteE_eq args ats) hn h
      | cap => exact genQ_some hr (fun get n ρ => capE_eq args ats) hn h
      | _ => exact genS_some hr hn h
    | _ => exact genS_some hr hn h
  · exact genQ_some hr (fun get n ρ => rfl) hn h
  · exact genQ_some hr (fun get n ρ => rfl) hn h
  · exact genQ_some hr (fun get n ρ => rfl) hn h
  · exact genQ_some hr (fun get n ρ => rfl) hn h
  · exact genQ_some hr (fun get n ρ => rfl) hn h
  · exact genQ_some hr (fun get n ρ => rfl) hn h
  · exact genQ_some hr (fun get n ρ => rfl) hn h
  · exact genQ_some hr (fun get n ρ => rfl) hn h
  · exact genQ_some hr (fun get n ρ => rfl) hn h
  · exact genQ_some hr (fun get n ρ => rfl) hn h
  · exact genQ_some hr (fun get n ρ => rfl) hn h
  · exact genS_some hr hn h

/-! ### one operation, with calls -/
noncomputable def touchE (loc esc : List Nat) (fr st : List PV) (op : Op) : List Nat := (lookers op).filterMap fun x => (lookE loc esc fr st x).objId
noncomputable def effFpE (loc esc : List Nat) (fr st : List PV) (op : Op) (n : Nat) (e : Eff) : Fp := match e with
  | .none => .quiet (touchE loc esc fr st op)
  | .new _ => .new n (touchE loc esc fr st op)
  | .upd id _ => .chg false fun i => !Nat.beq i id
  | .move id _ => .chg true fun i => !Nat.beq i id
theorem effFpE_eq (hr : RelE N esc loc fr st tm) {op : Op} {e : Eff} (h : okOps loc esc op = true) : effFpE loc esc fr st op n e = effFp tm op n e := by
  have : touchE loc esc fr st op = touches tm op := by
    unfold touchE touches
    have hl : ∀ x ∈ lookers op, lookE loc esc fr st x = evalO tm x := fun x hx => okOps_eq hr h x (lookers_sub x hx)
    generalize lookers op = l at hl
    induction l with
    | nil => rfl
    | cons a l ih => simp only [List.filterMap_cons, hl a (by simp), ih fun x hx => hl x (by simp [hx])]
  cases e <;> simp only [effFpE, effFp, this]

noncomputable def argsE (loc esc : List Nat) (fr st : List PV) (l : List Operand) : (List PV → Option β) → Option β := List.rec (motive := fun _ => (List PV → Option β) → Option β) (fun k => k []) (fun x _ ih k => evE loc esc fr st x fun v => ih fun vs => k (v :: vs)) l
theorem argsE_some (hr : RelE N esc loc fr st tm) : ∀ {l : List Operand} {k : List PV → Option β} {r : β}, argsE loc esc fr st l k = some r → k (l.map (evalO tm)) = some r
  | [], _, _, h => h
  | x :: l, k, r, h => by
    have h : (evE loc esc fr st x fun v => argsE loc esc fr st l fun vs => k (v :: vs)) = some r := h
    exact argsE_some hr (k := fun vs => k (evalO tm x :: vs)) (evE_some hr h).1

/-- surely still -/
def stillL : PV → Bool
  | .int .. | .bool _ | .str _ | .nilptr | .nilslice | .nilfn | .nilmap | .lst .. | .frz _ => true
  | _ => false
noncomputable def stillLs (l : List PV) : Bool := List.rec (motive := fun _ => Bool) true (fun x _ ih => Bool.rec (motive := fun _ => Bool) false ih (stillL x)) l
noncomputable def stillQ (v : PV) : Bool := match v with
  | .agg cs => stillLs cs
  | .fn _ a b => Bool.rec (motive := fun _ => Bool) false (stillLs b) (stillLs a)
  | v => stillL v
noncomputable def stillQs (l : List PV) : Bool := List.rec (motive := fun _ => Bool) true (fun x _ ih => Bool.rec (motive := fun _ => Bool) false ih (stillQ x)) l
/-- surely not still -/
def isLive (v : PV) : Bool := match v with
  | .ptr .. => true
  | .ref .. => true
  | .map _ => true
  | _ => false
noncomputable def liveQs (l : List PV) : Bool := List.rec (motive := fun _ => Bool) false (fun x _ ih => Bool.rec (motive := fun _ => Bool) ih true (isLive x)) l
noncomputable def stillB (l : List PV) : Bool := Bool.rec (motive := fun _ => Bool) (Bool.rec (motive := fun _ => Bool) (stills l) false (liveQs l)) true (stillQs l)
theorem stillL_still {v : PV} (h : stillL v = true) : v.still = true := by cases v <;> simp_all [stillL, PV.still]
theorem stillLs_stills : ∀ {l : List PV}, stillLs l = true → stills l = true
  | [], _ => by simp [stills]
  | x :: l, h => by
    have h : (Bool.rec (motive := fun _ => Bool) false (stillLs l) (stillL x) : Bool) = true := h
    cases hx : stillL x with
    | false => rw [hx] at h; cases h
    | true => rw [hx] at h; simp only [stills, stillL_still hx, stillLs_stills (l := l) h, Bool.and_self]
theorem stillQ_still {v : PV} (h : stillQ v = true) : v.still = true := by
  unfold stillQ at h
  split at h
  · simp only [PV.still]; exact stillLs_stills h
  · rename_i a b
    cases ha : stillLs a with
    | false => rw [ha] at h; cases h
    | true => rw [ha] at h; simp only [PV.still, stillLs_stills ha, stillLs_stills h, Bool.and_self]
  · exact stillL_still h
theorem stillQs_stills : ∀ {l : List PV}, stillQs l = true → stills l = true
  | [], _ => by simp [stills]
  | x :: l, h => by
    have h : (Bool.rec (motive := fun _ => Bool) false (stillQs l) (stillQ x) : Bool) = true := h
    cases hx : stillQ x with
    | false => rw [hx] at h; cases h
    | true => rw [hx] at h; simp only [stills, stillQ_still hx, stillQs_stills (l := l) h, Bool.and_self]
theorem liveQs_stills : ∀ {l : List PV}, liveQs l = true → stills l = false
  | [], h => by cases h
  | x :: l, h => by
    have h : (Bool.rec (motive := fun _ => Bool) (liveQs l) true (isLive x) : Bool) = true := h
    cases hx : isLive x with
    | false => rw [hx] at h; simp [stills, liveQs_stills h]
    | true =>
      have : x.still = false := by cases x <;> first | rfl | cases hx
      simp [stills, this]
theorem stillB_eq (l : List PV) : stillB l = stills l := by
  unfold stillB
  cases h : stillQs l with
  | true => simp [stillQs_stills h]
  | false =>
    cases h2 : liveQs l with
    | true => simp [liveQs_stills h2]
    | false => rfl

abbrev KF (β : Type) := PV → Fp → Nat → List Obj → Option β
noncomputable def primS (op : Op) (K : Cfg) (floor : Nat) (loc esc : List Nat) (fr st : List PV) (n : Nat) (rs : List Obj) (k : KF β) : Option β :=
  opS op K.P loc esc fr st n rs fun v e => effR floor n rs e fun n' rs' => k v (effFpE loc esc fr st op n e) n' rs'
noncomputable def valS (f : Operand) (args : Array Operand) (K : Cfg) (CR : CallR β) (floor : Nat) (loc esc : List Nat) (fr st : List PV) (n : Nat) (rs : List Obj) (k : KF β) : Option β :=
  evE loc esc fr st f fun fv => match fv with
    | .fn g first cap => argsE loc esc fr st args.toList fun vs => appR vs cap fun vs => appR first vs fun vs =>
      Nat.rec (motive := fun _ => Option β) (Bool.rec (motive := fun _ => Option β) (goR K CR floor g vs n rs k) (stillR CR floor g vs n rs k) (stillB vs)) (fun _ _ => goR K CR floor g vs n rs k) (K.pol g)
    | _ => none
noncomputable def operS (o : Oper) (K : Cfg) (CR : CallR β) (floor : Nat) (loc esc : List Nat) (fr st : List PV) (n : Nat) (rs : List Obj) (k : KF β) : Option β := match o.op with
  | .call c => match c.callee with
    | .value f => valS f c.args K CR floor loc esc fr st n rs k
    | _ => primS (.call c) K floor loc esc fr st n rs k
  | op => primS op K floor loc esc fr st n rs k

variable {K : Cfg} {CR : CallR β} {C : CallT} {floor : Nat}
theorem primS_some (hr : RelE N esc loc fr st tm) {o : Oper} {k : KF β} {r : β} (hno : ∀ f args ats, o.op ≠ .call ⟨.value f, args, ats⟩) (h : primS o.op K floor loc esc fr st rs.length rs k = some r) :
    ∃ v rs' fp, operX K C floor o tm rs.reverse = some (v, rs'.reverse) ∧ (okOps loc esc o.op = true → fp = fpX K o tm rs.reverse rs'.reverse) ∧ k v fp rs'.length rs' = some r := by
  unfold primS at h
  obtain ⟨v, e, h1, h2⟩ := opS_some hr rfl h
  obtain ⟨h3, rs', h4, h5⟩ := effR_some rfl h2
  refine ⟨v, rs', _, ?_, fun ho => ?_, h5⟩
  · unfold operX
    split
    · rename_i f args ats hop; exact (hno _ _ _ hop).elim
    · rw [List.length_reverse, h1]
      simp only []
      rw [if_pos h3, h4]
  · unfold fpX
    split
    · rename_i f args ats hop; exact (hno _ _ _ hop).elim
    · rw [List.length_reverse, h1]
      exact effFpE_eq hr ho
theorem operS_some (hC : CRok C CR) (hr : RelE N esc loc fr st tm) {o : Oper} {k : KF β} {r : β} (h : operS o K CR floor loc esc fr st rs.length rs k = some r) :
    ∃ v rs' fp, operX K C floor o tm rs.reverse = some (v, rs'.reverse) ∧ (okOps loc esc o.op = true → fp = fpX K o tm rs.reverse rs'.reverse) ∧ k v fp rs'.length rs' = some r := by
  unfold operS at h
  split at h
  · rename_i c hop
    split at h
    · rename_i f hc
      obtain ⟨callee, args, ats⟩ := c
      simp only [] at hc
      subst hc
      unfold valS at h
      have h := (evE_some hr h).1
      split at h
      · rename_i g first cap hf
        have h := argsE_some hr h
        rw [appR_eq, appR_eq] at h
        rw [← List.append_assoc] at h
        generalize hvs : first ++ args.toList.map (evalO tm) ++ cap = vs at h
        have go : ¬ (K.pol g = 0 ∧ stills vs = true) → goR K CR floor g vs rs.length rs k = some r → ∃ v rs' fp, operX K C floor o tm rs.reverse = some (v, rs'.reverse) ∧ (okOps loc esc o.op = true → fp = fpX K o tm rs.reverse rs'.reverse) ∧ k v fp rs'.length rs' = some r := fun hst h => by
          obtain ⟨v, rs', h1, h2⟩ := hC _ _ _ _ _ _ h
          refine ⟨v, rs', _, ?_, fun _ => ?_, h2⟩
          · unfold operX
            rw [hop]
            simp only [hf, hvs]
            rw [if_neg hst]; exact h1
          · unfold fpX
            rw [hop]
            simp only [hf, hvs]
            rw [getS_eq rfl, getS_eq rfl]
            rw [if_neg hst]
        cases hp : K.pol g with
        | succ p => rw [hp] at h; exact go (by omega) h
        | zero =>
          rw [hp, stillB_eq] at h
          cases hs : stills vs with
          | false => rw [hs] at h; exact go (by simp [hs]) h
          | true =>
            rw [hs] at h
            have h : stillR CR floor g vs rs.length rs k = some r := h
            obtain ⟨v, rs', h1, h2⟩ := hC _ _ _ [] _ _ h
            split at h2
            · refine ⟨v, rs, _, ?_, fun _ => ?_, h2⟩
              · unfold operX
                rw [hop]
                simp only [hf, hvs]
                rw [if_pos ⟨hp, hs⟩]
                have h1' : C floor g vs [] = some (v, []) := h1
                rw [h1']
              · unfold fpX
                rw [hop]
                simp only [hf, hvs]
                rw [if_pos ⟨hp, hs⟩]
            · cases h2
      · cases h
    · rename_i hc
      rw [← hop] at h
      refine primS_some hr (fun f args ats e => ?_) h
      rw [hop] at e
      simp only [Op.call.injEq] at e
      subst e
      exact hc _ rfl
  · rename_i hno
    refine primS_some hr (fun f args ats e => hno _ e) h
end
end Go.MT
