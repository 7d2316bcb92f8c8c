/-
  The evaluator for the kernel: operations, regions, code, calls.
-/
import Derived.Test.YtibbckpgcglbcaaGreatMtFast
namespace Go.MT

section
variable {β : Type}

/-- an operand -/
noncomputable def evR (tm : Tmps) (x : Operand) (k : PV → β) : β := match x with
  | .tmp t => nthR tm t (k .undef) k
  | .const v => k (absV v)
  | .global _ => k .undef
  | .func f => k (.fn f [] [])
theorem evR_eq (tm : Tmps) (x : Operand) (k : PV → β) : evR tm x k = k (evalO tm x) := by
  cases x with
  | tmp t => simp only [evR, nthR_eq, evalO, List.getD]; cases tm[t]? <;> rfl
  | _ => rfl

/-! ### numbers -/
def kIx : IntKind → Nat
  | .i8 => 0 | .i16 => 1 | .i32 => 2 | .i64 => 3 | .u8 => 4 | .u16 => 5 | .u32 => 6 | .u64 => 7
theorem kIx_eq {a b : IntKind} (h : Nat.beq (kIx a) (kIx b) = true) : a = b := by
  cases a <;> cases b <;> first | rfl | (simp [kIx] at h)
/-- below it a number stays as it is -/
def kTop : IntKind → Nat
  | .i8 => 128 | .i16 => 32768 | .i32 => 2147483648 | .i64 => 9223372036854775808 | .u8 => 256 | .u16 => 65536 | .u32 => 4294967296 | .u64 => 18446744073709551616
theorem wrap_top {k : IntKind} {n : Nat} (h : Nat.blt n (kTop k) = true) : k.wrap (Int.ofNat n) = Int.ofNat n := by
  rw [Nat.blt_eq] at h
  have h' : (n : Int) < (kTop k : Int) := by exact_mod_cast h
  have h0 : (0 : Int) ≤ (n : Int) := by omega
  show k.wrap (n : Int) = (n : Int)
  cases k <;> simp only [kTop] at h' <;> simp only [IntKind.wrap, IntKind.bits, IntKind.signed] <;> simp <;> omega
noncomputable def wrapR (kd : IntKind) (n : Int) (k : PV → β) : β :=
  Int.rec (motive := fun _ => β) (fun m => fNat m fun m => Bool.rec (motive := fun _ => β) (fInt (kd.wrap (.ofNat m)) fun r => k (.int kd r)) (k (.int kd (.ofNat m))) (Nat.blt m (kTop kd)))
    (fun m => fInt (kd.wrap (.negSucc m)) fun r => k (.int kd r)) n
theorem wrapR_eq (kd : IntKind) (n : Int) (k : PV → β) : wrapR kd n k = k (.int kd (kd.wrap n)) := by
  cases n with
  | ofNat m =>
    simp only [wrapR, fNat_eq]
    cases h : Nat.blt m (kTop kd) with
    | true => simp only []; rw [wrap_top h]
    | false => simp only [fInt_eq]
  | negSucc m => simp only [wrapR, fInt_eq]

/-- Int.add and others, quick where both are natural -/
noncomputable def natsR (x y : Int) (g : Unit → β) (k : Nat → Nat → β) : β :=
  Int.rec (motive := fun _ => β) (fun a => Int.rec (motive := fun _ => β) (fun b => k a b) (fun _ => g ()) y) (fun _ => g ()) x

noncomputable def boolR (b : Bool) (k : PV → β) : β := Bool.rec (motive := fun _ => β) (k (.bool false)) (k (.bool true)) b
theorem boolR_eq (b : Bool) (k : PV → β) : boolR b k = k (.bool b) := by cases b <;> rfl

noncomputable def intG (op : BinOp) (kd : IntKind) (x y : Int) (k : PV → Option β) : Option β := match intOp op kd x y with
  | some v => fV v k
  | none => none
noncomputable def intR (op : BinOp) (kd : IntKind) (x y : Int) (k : PV → Option β) : Option β := match op with
  | .add => natsR x y (fun _ => wrapR kd (Int.add x y) k) fun a b => wrapR kd (Int.ofNat (Nat.add a b)) k
  | .sub => wrapR kd (Int.sub x y) k
  | .mul => natsR x y (fun _ => wrapR kd (Int.mul x y) k) fun a b => wrapR kd (Int.ofNat (Nat.mul a b)) k
  | .eql => natsR x y (fun _ => intG .eql kd x y k) fun a b => boolR (Nat.beq a b) k
  | .lss => natsR x y (fun _ => intG .lss kd x y k) fun a b => boolR (Nat.blt a b) k
  | .leq => natsR x y (fun _ => intG .leq kd x y k) fun a b => boolR (Nat.ble a b) k
  | .gtr => natsR x y (fun _ => intG .gtr kd x y k) fun a b => boolR (Nat.blt b a) k
  | .geq => natsR x y (fun _ => intG .geq kd x y k) fun a b => boolR (Nat.ble b a) k
  | op => intG op kd x y k
theorem intG_eq (op : BinOp) (kd : IntKind) (x y : Int) (k : PV → Option β) : intG op kd x y k = (intOp op kd x y).bind k := by
  unfold intG; cases intOp op kd x y <;> simp [fV_eq]
theorem natsR_eq (x y : Int) (c : β) (g : Unit → β) (k : Nat → Nat → β) (hg : g () = c) (hk : ∀ a b, x = Int.ofNat a → y = Int.ofNat b → k a b = c) : natsR x y g k = c := by
  cases x <;> cases y <;> simp only [natsR]
  · exact hk _ _ rfl rfl
  all_goals exact hg
theorem intR_eq (op : BinOp) (kd : IntKind) (x y : Int) (k : PV → Option β) : intR op kd x y k = (intOp op kd x y).bind k := by
  cases op <;> simp only [intR] <;> try exact intG_eq _ _ _ _ _
  · refine natsR_eq _ _ _ _ _ (by rw [wrapR_eq]; rfl) ?_
    rintro a b rfl rfl
    rw [wrapR_eq]; rfl
  · rw [wrapR_eq]; rfl
  · refine natsR_eq _ _ _ _ _ (by rw [wrapR_eq]; rfl) ?_
    rintro a b rfl rfl
    rw [wrapR_eq]; rfl
  · refine natsR_eq _ _ _ _ _ (intG_eq _ _ _ _ _) ?_
    rintro a b rfl rfl
    rw [boolR_eq]
    simp only [intOp, Option.bind_some]
    congr 2
    by_cases h : a = b
    · subst h; simp
    · have h2 : Nat.beq a b = false := by rw [Bool.eq_false_iff]; exact fun e => h (Nat.eq_of_beq_eq_true e)
      rw [h2]; simp
      exact fun e => h (by exact_mod_cast e)
  all_goals
    refine natsR_eq _ _ _ _ _ (intG_eq _ _ _ _ _) ?_
    rintro a b rfl rfl
    rw [boolR_eq]
    simp only [intOp, Option.bind_some]
    congr 2
    first
      | (rw [Bool.eq_iff_iff, Nat.blt_eq, decide_eq_true_eq]; exact ⟨fun h => by simp; omega, fun h => by simp at h; omega⟩)
      | (rw [Bool.eq_iff_iff, Nat.ble_eq, decide_eq_true_eq]; exact ⟨fun h => by simp; omega, fun h => by simp at h; omega⟩)

/-! ### strings, other comparisons -/
noncomputable def strR (op : BinOp) (x y : List Nat) (k : PV → Option β) : Option β := match op with
  | .eql => boolR (strEq x y) k
  | .neq => boolR (!strEq x y) k
  | .lss => boolR (strLess x y) k
  | op => match strOp op x y with
    | some v => fV v k
    | none => none
theorem strR_eq (op : BinOp) (x y : List Nat) (k : PV → Option β) : strR op x y k = (strOp op x y).bind k := by
  cases op <;> simp only [strR, boolR_eq] <;> first
    | (cases strOp _ x y <;> simp [fV_eq] ; done)
    | rfl
/-! equality once more, by plain recursion -/
noncomputable def eqFsK (P : Program) (ih : TypeId → PV → PV → Option Bool) (xs ys : List PV) (fs : List Field) : Option Bool := List.rec (motive := fun _ => Option Bool) (some true)
  (fun f _ r => if f.name = "_" then r else match partT P f.type xs f.offset, partT P f.type ys f.offset with
    | some a, some b => match ih f.type a b with
      | some true => r
      | o => o
    | _, _ => none) fs
noncomputable def eqTK (P : Program) (d : Nat) : TypeId → PV → PV → Option Bool := Nat.rec (motive := fun _ => TypeId → PV → PV → Option Bool) (fun _ _ _ => none)
  (fun _ ih t x y => match P.underlying t, x, y with
    | some .bool, .bool a, .bool b => some (a == b)
    | some (.int _), .int k a, .int k' b => if k = k' then some (a == b) else none
    | some .string, .str a, .str b => some (strEq a b)
    | some (.pointer _), .nilptr, .nilptr => some true
    | some (.pointer _), .nilptr, .frz _ | some (.pointer _), .frz _, .nilptr => some false
    | some (.slice _), .nilslice, .nilslice => some true
    | some (.slice _), .nilslice, .lst .. | some (.slice _), .lst .., .nilslice => some false
    | some (.func ..), .nilfn, .nilfn => some true
    | some (.func ..), .nilfn, .fn .. | some (.func ..), .fn .., .nilfn => some false
    | some (.struct fs), .agg xs, .agg ys => if P.stoodInHeld t then none else eqFsK P ih xs ys fs.toList
    | _, _, _ => none) d
theorem eqFsK_eq {P : Program} {d : Nat} {xs ys : List PV} (ih : ∀ t x y, eqTK P d t x y = eqT P d t x y) : ∀ fs : List Field, eqFsK P (eqTK P d) xs ys fs = eqFs P d fs xs ys
  | [] => by simp [eqFsK, eqFs]
  | f :: fs => by
    have e : eqFsK P (eqTK P d) xs ys (f :: fs) = (if f.name = "_" then eqFsK P (eqTK P d) xs ys fs else match partT P f.type xs f.offset, partT P f.type ys f.offset with
      | some a, some b => match eqTK P d f.type a b with
        | some true => eqFsK P (eqTK P d) xs ys fs
        | o => o
      | _, _ => none) := rfl
    rw [e, eqFsK_eq ih fs]
    simp only [ih]
    conv => rhs; rw [eqFs]
    rfl
theorem eqTK_eq (P : Program) : ∀ (d : Nat) (t : TypeId) (x y : PV), eqTK P d t x y = eqT P d t x y
  | 0, t, x, y => by rw [eqT]; rfl
  | d + 1, t, x, y => by
    have ih := eqTK_eq P d
    have e : ∀ fs xs ys, eqFsK P (eqTK P d) xs ys fs = eqFs P d fs xs ys := fun fs xs ys => eqFsK_eq ih fs
    rw [eqT.eq_def]
    simp only []
    show (match P.underlying t, x, y with
    | some .bool, .bool a, .bool b => some (a == b)
    | some (.int _), .int k a, .int k' b => if k = k' then some (a == b) else none
    | some .string, .str a, .str b => some (strEq a b)
    | some (.pointer _), .nilptr, .nilptr => some true
    | some (.pointer _), .nilptr, .frz _ | some (.pointer _), .frz _, .nilptr => some false
    | some (.slice _), .nilslice, .nilslice => some true
    | some (.slice _), .nilslice, .lst .. | some (.slice _), .lst .., .nilslice => some false
    | some (.func ..), .nilfn, .nilfn => some true
    | some (.func ..), .nilfn, .fn .. | some (.func ..), .fn .., .nilfn => some false
    | some (.struct fs), .agg xs, .agg ys => if P.stoodInHeld t then none else eqFsK P (eqTK P d) xs ys fs.toList
    | _, _, _ => none) = _
    simp only [e]
    rfl
noncomputable def binK (P : Program) (op : BinOp) (t : TypeId) (x y : PV) : Option PV :=
  match op, x, y with
  | .shl, .int k a, .int _ b => shiftOp .shl k a b
  | .shr, .int k a, .int _ b => shiftOp .shr k a b
  | op, .int k a, .int k' b => if k = k' then intOp op k a b else none
  | op, .str a, .str b => strOp op a b
  | .eql, .agg a, .agg b => if P.eqGuardType P.depth t then none else (eqTK P 10000 t (.agg a) (.agg b)).map .bool
  | .neq, .agg a, .agg b => if P.eqGuardType P.depth t then none else (eqTK P 10000 t (.agg a) (.agg b)).map fun r => .bool !r
  | .eql, x, y => (eqTK P 10000 t x y).map .bool
  | .neq, x, y => (eqTK P 10000 t x y).map fun r => .bool !r
  | _, _, _ => none
theorem binK_eq (P : Program) (op : BinOp) (t : TypeId) (x y : PV) : binK P op t x y = binT P op t x y := by
  unfold binK binT
  simp only [eqTK_eq]
  rfl
noncomputable def binG (P : Program) (op : BinOp) (t : TypeId) (x y : PV) (k : PV → Option β) : Option β := match binK P op t x y with
  | some v => fV v k
  | none => none
theorem binG_eq (P : Program) (op : BinOp) (t : TypeId) (x y : PV) (k : PV → Option β) : binG P op t x y k = (binT P op t x y).bind k := by
  unfold binG; rw [binK_eq]; cases binT P op t x y <;> simp [fV_eq]
def isShift : BinOp → Bool
  | .shl | .shr => true
  | _ => false
noncomputable def binR (P : Program) (op : BinOp) (t : TypeId) (x y : PV) (k : PV → Option β) : Option β := match x with
  | .int kd a => match y with
    | .int kd' b => Bool.rec (motive := fun _ => Option β) (Bool.rec (motive := fun _ => Option β) none (intR op kd a b k) (Nat.beq (kIx kd) (kIx kd'))) (binG P op t (.int kd a) (.int kd' b) k) (isShift op)
    | _ => none
  | .str a => match y with
    | .str b => strR op a b k
    | _ => none
  | x => binG P op t x y k
theorem binR_some {P : Program} {op : BinOp} {t : TypeId} {x y : PV} {k : PV → Option β} {r : β} (h : binR P op t x y k = some r) : ∃ v, binT P op t x y = some v ∧ k v = some r := by
  have gen : ∀ x y, binG P op t x y k = some r → ∃ v, binT P op t x y = some v ∧ k v = some r := fun x y h => by
    rw [binG_eq] at h
    cases hb : binT P op t x y with
    | none => rw [hb] at h; cases h
    | some v => rw [hb] at h; exact ⟨v, rfl, h⟩
  unfold binR at h
  split at h
  · rename_i kd a
    split at h
    · rename_i kd' b
      cases hs : isShift op with
      | true => rw [hs] at h; exact gen _ _ h
      | false =>
        rw [hs] at h
        simp only [] at h
        cases hk : Nat.beq (kIx kd) (kIx kd') with
        | false => rw [hk] at h; cases h
        | true =>
          rw [hk] at h
          simp only [] at h
          obtain rfl := kIx_eq hk
          rw [intR_eq] at h
          cases hb : intOp op kd a b with
          | none => rw [hb] at h; cases h
          | some v =>
            rw [hb] at h
            refine ⟨v, ?_, h⟩
            cases op <;> first | (simp [isShift] at hs; done) | (simp only [binT, if_true]; exact hb)
    · cases h
  · rename_i a
    split at h
    · rename_i b
      rw [strR_eq] at h
      cases hb : strOp op a b with
      | none => rw [hb] at h; cases h
      | some v =>
        rw [hb] at h
        refine ⟨v, ?_, h⟩
        cases op <;> first | exact hb | (simp [strOp] at hb; done)
    · cases h
  · exact gen _ _ h

/-! ### the store, newest first -/
noncomputable def getR (n : Nat) (rs : List Obj) (id : Nat) (k : Obj → Option β) : Option β :=
  Bool.rec (motive := fun _ => Option β) none (nthR rs (Nat.sub (Nat.sub n 1) id) none k) (Nat.blt id n)
theorem getR_some {n : Nat} {rs : List Obj} {id : Nat} {k : Obj → Option β} {r : β} (hn : n = rs.length) (h : getR n rs id k = some r) : ∃ o, rs.reverse[id]? = some o ∧ k o = some r := by
  unfold getR at h
  cases hb : Nat.blt id n with
  | false => rw [hb] at h; cases h
  | true =>
    rw [hb] at h
    simp only [] at h
    rw [nthR_eq] at h
    rw [Nat.blt_eq] at hb
    split at h
    · rename_i o ho
      refine ⟨o, ?_, h⟩
      rw [List.getElem?_reverse (by omega), ← hn]
      exact ho
    · cases h
def getS (n : Nat) (rs : List Obj) (id : Nat) : Option Obj := if Nat.blt id n then rs[n - 1 - id]? else none
theorem getS_eq {n : Nat} {rs : List Obj} (hn : n = rs.length) : getS n rs = fun id => rs.reverse[id]? := by
  funext id
  unfold getS
  split
  · rename_i h
    rw [Nat.blt_eq] at h
    rw [List.getElem?_reverse (by omega), ← hn]
  · rename_i h
    rw [Nat.blt_eq] at h
    rw [List.getElem?_eq_none (by simp; omega)]

noncomputable def genR (P : Program) (n : Nat) (rs : List Obj) (op : Op) (tm : Tmps) (k : PV → Eff → Option β) : Option β := match primOp P (getS n rs) n op tm with
  | some (v, e) => fV v fun v => fEff e fun e => k v e
  | none => none
theorem genR_some {P : Program} {n : Nat} {rs : List Obj} {op : Op} {tm : Tmps} {k : PV → Eff → Option β} {r : β} (hn : n = rs.length) (h : genR P n rs op tm k = some r) :
    ∃ v e, primOp P (fun id => rs.reverse[id]?) rs.length op tm = some (v, e) ∧ k v e = some r := by
  unfold genR at h
  rw [getS_eq hn] at h
  subst hn
  split at h
  · rename_i v e he
    rw [fV_eq, fEff_eq] at h
    exact ⟨v, e, he, h⟩
  · cases h

/-! ### operations -/
noncomputable def ldR (P : Program) (t : TypeId) (l : List PV) (k : PV → Option β) : Option β := match aggT P t with
  | some true => match sizeT P t with
    | some m => takeR l m none fun l' => k (.agg l')
    | none => none
  | some false => match sizeT P t with
    | some _ => match l with
      | x :: _ => k x
      | [] => none
    | none => none
  | none => none
noncomputable def loadR (P : Program) (n : Nat) (rs : List Obj) (t : TypeId) (p : PV) (k : PV → Option β) : Option β := match p with
  | .ptr id off => getR n rs id fun o => match o with
    | .arr cs _ => dropR cs off none fun l => ldR P t l k
    | _ => none
  | .frz cs => ldR P t cs k
  | _ => none
theorem ldR_some {P : Program} {get : Nat → Option Obj} {t : TypeId} {l : List PV} {k : PV → Option β} {r : β} {p : PV} (hp : ∀ m, m ≤ l.length → readCells get p m = some (l.take m)) (h : ldR P t l k = some r) : ∃ v, loadT P get t p = some v ∧ k v = some r := by
  unfold ldR at h
  unfold loadT
  split at h
  · rename_i ha
    split at h
    · rename_i m hm
      rw [takeR_eq] at h
      split at h
      · rename_i hl
        refine ⟨_, ?_, h⟩
        rw [ha, hm]
        simp [hp m hl]
      · cases h
    · cases h
  · rename_i ha
    split at h
    · rename_i m hm
      split at h
      · rename_i x l'
        refine ⟨x, ?_, h⟩
        rw [ha, hm]
        simp [hp 1 (by simp)]
      · cases h
    · cases h
  · cases h
theorem loadR_some {P : Program} {n : Nat} {rs : List Obj} {t : TypeId} {p : PV} {k : PV → Option β} {r : β} (hn : n = rs.length) (h : loadR P n rs t p k = some r) : ∃ v, loadT P (fun id => rs.reverse[id]?) t p = some v ∧ k v = some r := by
  unfold loadR at h
  split at h
  · rename_i id off
    obtain ⟨o, ho, h⟩ := getR_some hn h
    split at h
    · rename_i cs cap
      rw [dropR_eq] at h
      split at h
      · rename_i hl
        refine ldR_some (fun m hm => ?_) h
        simp only [readCells, ho]
        rw [if_pos (by rw [List.length_drop] at hm; omega)]
      · cases h
    · cases h
  · rename_i cs
    refine ldR_some (fun m hm => ?_) h
    simp only [readCells]
    rw [if_pos hm]
  · cases h

/-- m cells, all of them leaves? -/
noncomputable def leavesR (cs : List PV) : Nat → Bool := List.rec (motive := fun _ => Nat → Bool) (fun m => Nat.rec (motive := fun _ => Bool) true (fun _ _ => false) m) (fun c _ ih m => Nat.rec (motive := fun _ => Bool) false (fun j _ => Bool.rec (motive := fun _ => Bool) false (ih j) c.leaf) m) cs
theorem leavesR_eq : ∀ (cs : List PV) (m : Nat), leavesR cs m = true → cs.length = m ∧ cs.all PV.leaf = true
  | [], 0, _ => ⟨rfl, rfl⟩
  | [], m + 1, h => by cases h
  | c :: cs, 0, h => by cases h
  | c :: cs, m + 1, h => by
    have h' : Bool.rec (motive := fun _ => Bool) false (leavesR cs m) c.leaf = true := h
    cases hc : c.leaf with
    | false => rw [hc] at h'; cases h'
    | true =>
      rw [hc] at h'
      obtain ⟨h1, h2⟩ := leavesR_eq cs m h'
      exact ⟨by simp [h1], by simp [hc, h2]⟩
noncomputable def storeR (P : Program) (n : Nat) (rs : List Obj) (t : TypeId) (p x : PV) (k : PV → Eff → Option β) : Option β := match p with
  | .ptr id off => match sizeT P t with
    | some m => Bool.rec (motive := fun _ => Option β) none (getR n rs id fun o => match o with
      | .arr cs cap => splR cs off x.cells none fun cs' => k .undef (.upd id (.arr cs' cap))
      | _ => none) (leavesR x.cells m)
    | none => none
  | _ => none
theorem storeR_some {P : Program} {n : Nat} {rs : List Obj} {t : TypeId} {a x : Operand} {tm : Tmps} {k : PV → Eff → Option β} {r : β} (hn : n = rs.length) (h : storeR P n rs t (evalO tm a) (evalO tm x) k = some r) :
    ∃ v e, primOp P (fun id => rs.reverse[id]?) rs.length (.store t a x) tm = some (v, e) ∧ k v e = some r := by
  unfold storeR at h
  split at h
  · rename_i id off hp
    split at h
    · rename_i m hm
      cases hl : leavesR (evalO tm x).cells m with
      | false => rw [hl] at h; cases h
      | true =>
        rw [hl] at h
        simp only [] at h
        obtain ⟨h1, h2⟩ := leavesR_eq _ _ hl
        obtain ⟨o, ho, h⟩ := getR_some hn h
        split at h
        · rename_i cs cap
          rw [splR_eq] at h
          split at h
          · rename_i hle
            refine ⟨_, _, ?_, h⟩
            simp only [primOp, hp]
            rw [if_pos ⟨by rw [hm, h1], h2⟩]
            simp [writeCells, ho, hle]
          · cases h
        · cases h
    · cases h
  · cases h

/-- where a field lies -/
def fieldOff (P : Program) (s : TypeId) (f : Nat) : Option Nat := match P.underlying s with
  | some (.struct fs) => match fs[f]? with
    | some f => match sizeT P f.type with
      | some (_ + 1) => some f.offset
      | _ => none
    | none => none
  | _ => none
noncomputable def fieldAddrR (P : Program) (n : Nat) (rs : List Obj) (s : TypeId) (f : Nat) (p : PV) (k : PV → Eff → Option β) : Option β := match fieldOff P s f with
  | some off => match p with
    | .ptr id o => getR n rs id fun ob => match ob with
      | .arr .. => fNat (Nat.add o off) fun o' => k (.ptr id o') .none
      | _ => none
    | .frz cs => dropR cs off none fun l => k (.frz l) .none
    | _ => none
  | none => none
theorem fieldAddrR_some {P : Program} {n : Nat} {rs : List Obj} {s : TypeId} {f : Nat} {x : Operand} {tm : Tmps} {k : PV → Eff → Option β} {r : β} (hn : n = rs.length) (h : fieldAddrR P n rs s f (evalO tm x) k = some r) :
    ∃ v e, primOp P (fun id => rs.reverse[id]?) rs.length (.fieldAddr s x f) tm = some (v, e) ∧ k v e = some r := by
  unfold fieldAddrR at h
  split at h
  · rename_i off ho
    unfold fieldOff at ho
    simp only [primOp]
    split at ho
    · rename_i fs hs
      rw [hs]
      split at ho
      · rename_i fl hf
        simp only [hf]
        split at ho
        · rename_i m hm
          obtain rfl := Option.some.inj ho
          rw [hm]
          split at h
          · rename_i id o hp
            obtain ⟨ob, hob, h⟩ := getR_some hn h
            split at h
            · rw [fNat_eq] at h
              refine ⟨_, _, ?_, h⟩
              simp only [hp, hob]
              rfl
            · cases h
          · rename_i cs hp
            rw [dropR_eq] at h
            split at h
            · refine ⟨_, _, ?_, h⟩
              simp only [hp]
            · cases h
          · cases h
        · cases ho
      · cases ho
    · cases ho
  · cases h

noncomputable def indexAddrR (P : Program) (n : Nat) (rs : List Obj) (t : TypeId) (p i : PV) (k : PV → Eff → Option β) : Option β := match i with
  | .int _ (.ofNat i) => match P.underlying t with
    | some (.slice e) => match sizeT P e with
      | some sz => match p with
        | .ref id off len s => Bool.rec (motive := fun _ => Option β) none (getR n rs id fun ob => match ob with
          | .arr .. => fNat (Nat.add off (Nat.mul i sz)) fun o' => k (.ptr id o') .none
          | _ => none) (and (Nat.beq s sz) (Nat.blt i len))
        | .lst _ s m cs => Bool.rec (motive := fun _ => Option β) none (dropR cs (Nat.mul i sz) none fun l => k (.frz l) .none) (and (Nat.beq s sz) (Nat.blt i m))
        | _ => none
      | none => none
    | _ => none
  | _ => none
theorem indexAddrR_some {P : Program} {n : Nat} {rs : List Obj} {t : TypeId} {x i : Operand} {tm : Tmps} {k : PV → Eff → Option β} {r : β} (hn : n = rs.length) (h : indexAddrR P n rs t (evalO tm x) (evalO tm i) k = some r) :
    ∃ v e, primOp P (fun id => rs.reverse[id]?) rs.length (.indexAddr t x i) tm = some (v, e) ∧ k v e = some r := by
  unfold indexAddrR at h
  simp only [primOp]
  split at h
  · rename_i kd i' hi
    simp only [hi, asInt?]
    split at h
    · rename_i e hu
      rw [hu]
      simp only []
      split at h
      · rename_i sz hz
        simp only [hz]
        split at h
        · rename_i id off len s hp
          cases hb : and (Nat.beq s sz) (Nat.blt i' len) with
          | false => rw [hb] at h; cases h
          | true =>
            rw [hb] at h
            simp only [] at h
            rw [Bool.and_eq_true, Nat.blt_eq] at hb
            obtain ⟨ob, hob, h⟩ := getR_some hn h
            split at h
            · rw [fNat_eq] at h
              refine ⟨_, _, ?_, h⟩
              simp only [hp, hob]
              rw [if_pos ⟨Nat.eq_of_beq_eq_true hb.1, by simp, by simp; omega⟩]
              rfl
            · cases h
        · rename_i tg s m cs hp
          cases hb : and (Nat.beq s sz) (Nat.blt i' m) with
          | false => rw [hb] at h; cases h
          | true =>
            rw [hb] at h
            simp only [] at h
            rw [Bool.and_eq_true, Nat.blt_eq] at hb
            rw [dropR_eq] at h
            split at h
            · refine ⟨_, _, ?_, h⟩
              simp only [hp]
              rw [if_pos ⟨Nat.eq_of_beq_eq_true hb.1, by simp, by simp; omega⟩]
              rfl
            · cases h
        · cases h
      · cases h
    · cases h
  · cases h

noncomputable def strAtR (P : Program) (t : TypeId) (p i : PV) (k : PV → Eff → Option β) : Option β := match i with
  | .int _ (.ofNat i) => match P.underlying t with
    | some .string => match p with
      | .str s => nthR s i none fun b => k (.int .u8 (.ofNat b)) .none
      | _ => none
    | _ => none
  | _ => none
theorem strAtR_some {P : Program} {get : Nat → Option Obj} {n : Nat} {t : TypeId} {x i : Operand} {tm : Tmps} {k : PV → Eff → Option β} {r : β} (h : strAtR P t (evalO tm x) (evalO tm i) k = some r) :
    ∃ v e, primOp P get n (.index t x i) tm = some (v, e) ∧ k v e = some r := by
  unfold strAtR at h
  simp only [primOp]
  split at h
  · rename_i kd i' hi
    simp only [hi, asInt?]
    split at h
    · rename_i hu
      split at h
      · rename_i s hp
        rw [nthR_eq] at h
        split at h
        · rename_i b hb
          refine ⟨_, _, ?_, h⟩
          simp only [hu, hp]
          rw [if_pos (by simp)]
          simp [hb]
        · cases h
      · cases h
    · cases h
  · cases h

noncomputable def convR (P : Program) (n : Nat) (rs : List Obj) (s d : TypeId) (x : Operand) (tm : Tmps) (v : PV) (k : PV → Eff → Option β) : Option β := match v with
  | .int _ a => match P.underlying s with
    | some _ => match P.underlying d with
      | some (.int kd) => wrapR kd a fun v => k v .none
      | _ => genR P n rs (.convert s d x) tm k
    | none => none
  | _ => genR P n rs (.convert s d x) tm k
theorem convR_some {P : Program} {n : Nat} {rs : List Obj} {s d : TypeId} {x : Operand} {tm : Tmps} {k : PV → Eff → Option β} {r : β} (hn : n = rs.length) (h : convR P n rs s d x tm (evalO tm x) k = some r) :
    ∃ v e, primOp P (fun id => rs.reverse[id]?) rs.length (.convert s d x) tm = some (v, e) ∧ k v e = some r := by
  unfold convR at h
  split at h
  · rename_i kd a hv
    split at h
    · rename_i u hs
      split at h
      · rename_i kd' hd
        rw [wrapR_eq] at h
        refine ⟨_, _, ?_, h⟩
        simp only [primOp, convT, hs, hd, hv]
      · exact genR_some hn h
    · cases h
  · exact genR_some hn h

noncomputable def extR (p : PV) (i : Nat) (k : PV → Eff → Option β) : Option β := match p with
  | .tup vs => nthR vs i none fun v => k v .none
  | _ => none
theorem extR_some {P : Program} {get : Nat → Option Obj} {n : Nat} {t : Operand} {i : Nat} {tm : Tmps} {k : PV → Eff → Option β} {r : β} (h : extR (evalO tm t) i k = some r) :
    ∃ v e, primOp P get n (.extract t i) tm = some (v, e) ∧ k v e = some r := by
  unfold extR at h
  split at h
  · rename_i vs hp
    rw [nthR_eq] at h
    split at h
    · rename_i v hv
      exact ⟨v, _, by simp only [primOp, hp]; simp [hv], h⟩
    · cases h
  · cases h

noncomputable def fieldR (P : Program) (s : TypeId) (f : Nat) (p : PV) (k : PV → Eff → Option β) : Option β := match P.underlying s with
  | some (.struct fs) => match p with
    | .agg cs => match fs[f]? with
      | some f => dropR cs f.offset none fun l => ldR P f.type l fun v => k v .none
      | none => none
    | _ => none
  | _ => none
theorem fieldR_some {P : Program} {get : Nat → Option Obj} {n : Nat} {s : TypeId} {f : Nat} {x : Operand} {tm : Tmps} {k : PV → Eff → Option β} {r : β} (h : fieldR P s f (evalO tm x) k = some r) :
    ∃ v e, primOp P get n (.field s x f) tm = some (v, e) ∧ k v e = some r := by
  unfold fieldR at h
  split at h
  · rename_i fs hs
    split at h
    · rename_i cs hp
      split at h
      · rename_i fl hf
        rw [dropR_eq] at h
        split at h
        · rename_i hle
          simp only [primOp, hs, hp, hf]
          unfold partT
          unfold ldR at h
          split at h
          · rename_i ha
            split at h
            · rename_i m hm
              rw [takeR_eq] at h
              split at h
              · refine ⟨_, _, ?_, h⟩
                rw [ha, hm]
                rfl
              · cases h
            · cases h
          · rename_i ha
            split at h
            · rename_i m hm
              split at h
              · rename_i y l' hl
                refine ⟨_, _, ?_, h⟩
                rw [ha, hm]
                have : cs[fl.offset]? = some y := by
                  have := congrArg (fun l => l[0]?) hl
                  simpa using this
                simp [this]
              · cases h
            · cases h
          · cases h
        · cases h
      · cases h
    · cases h
  · cases h

noncomputable def lenR (P : Program) (n : Nat) (rs : List Obj) (c : Call) (tm : Tmps) (k : PV → Eff → Option β) : Option β := match c.args.toList with
  | [x] => match c.argTypes.toList with
    | t :: _ => match P.underlying t with
      | some .string => evR tm x fun v => match v with
        | .str s => fNat s.length fun m => k (.int .i64 (.ofNat m)) .none
        | _ => none
      | some (.slice _) => evR tm x fun v => match v with
        | .nilslice => k (.int .i64 (.ofNat 0)) .none
        | .lst _ _ m _ => k (.int .i64 (.ofNat m)) .none
        | .ref id _ len _ => getR n rs id fun o => match o with
          | .arr .. => k (.int .i64 (.ofNat len)) .none
          | _ => none
        | _ => none
      | _ => genR P n rs (.call c) tm k
    | [] => none
  | _ => none
theorem lenR_some {P : Program} {n : Nat} {rs : List Obj} {args : Array Operand} {ats : Array TypeId} {tm : Tmps} {k : PV → Eff → Option β} {r : β} (hn : n = rs.length) (h : lenR P n rs ⟨.builtin .len, args, ats⟩ tm k = some r) :
    ∃ v e, primOp P (fun id => rs.reverse[id]?) rs.length (.call ⟨.builtin .len, args, ats⟩) tm = some (v, e) ∧ k v e = some r := by
  unfold lenR at h
  split at h
  · rename_i x hx
    simp only [] at hx h
    split at h
    · rename_i t ts ht
      split at h
      · rename_i hu
        rw [evR_eq] at h
        split at h
        · rename_i s hp
          rw [fNat_eq] at h
          exact ⟨_, _, by simp only [primOp, hx, ht, List.map_cons, hu, hp]; rfl, h⟩
        · cases h
      · rename_i hu
        rw [evR_eq] at h
        split at h
        · rename_i hp
          exact ⟨_, _, by simp only [primOp, hx, ht, List.map_cons, hu, hp]; rfl, h⟩
        · rename_i hp
          exact ⟨_, _, by simp only [primOp, hx, ht, List.map_cons, hu, hp]; rfl, h⟩
        · rename_i hp
          obtain ⟨o, ho, h⟩ := getR_some hn h
          split at h
          · exact ⟨_, _, by simp only [primOp, hx, ht, List.map_cons, List.map_nil, hu, hp]; rw [ho]; rfl, h⟩
          · cases h
        · cases h
      · exact genR_some hn h
    · cases h
  · cases h

noncomputable def callR (P : Program) (n : Nat) (rs : List Obj) (c : Call) (tm : Tmps) (k : PV → Eff → Option β) : Option β := match c.callee with
  | .builtin .len => lenR P n rs c tm k
  | _ => genR P n rs (.call c) tm k

noncomputable def opR (P : Program) (n : Nat) (rs : List Obj) (op : Op) (tm : Tmps) (k : PV → Eff → Option β) : Option β := match op with
  | .move x => evR tm x fun v => k v .none
  | .assign x => evR tm x fun v => k v .none
  | .pick c a b => evR tm c fun v => match v with
    | .bool true => evR tm a fun v => k v .none
    | .bool false => evR tm b fun v => k v .none
    | _ => none
  | .load t a => evR tm a fun p => loadR P n rs t p fun v => k v .none
  | .store t a x => evR tm a fun p => evR tm x fun v => storeR P n rs t p v k
  | .binOp op t x y _ => evR tm x fun a => evR tm y fun b => binR P op t a b fun v => k v .none
  | .fieldAddr s x f => evR tm x fun p => fieldAddrR P n rs s f p k
  | .field s x f => evR tm x fun p => fieldR P s f p k
  | .indexAddr t x i => evR tm x fun p => evR tm i fun i => indexAddrR P n rs t p i k
  | .index t x i => match P.underlying t with
    | some .string => evR tm x fun p => evR tm i fun i => strAtR P t p i k
    | _ => genR P n rs (.index t x i) tm k
  | .convert s d x => evR tm x fun v => convR P n rs s d x tm v k
  | .extract t i => evR tm t fun p => extR p i k
  | .call c => callR P n rs c tm k
  | op => genR P n rs op tm k
theorem opR_some {P : Program} {n : Nat} {rs : List Obj} {op : Op} {tm : Tmps} {k : PV → Eff → Option β} {r : β} (hn : n = rs.length) (h : opR P n rs op tm k = some r) :
    ∃ v e, primOp P (fun id => rs.reverse[id]?) rs.length op tm = some (v, e) ∧ k v e = some r := by
  unfold opR at h
  split at h
  · rw [evR_eq] at h; exact ⟨_, _, rfl, h⟩
  · rw [evR_eq] at h; exact ⟨_, _, rfl, h⟩
  · rw [evR_eq] at h
    split at h
    · rename_i hc; rw [evR_eq] at h; exact ⟨_, _, by simp only [primOp, hc], h⟩
    · rename_i hc; rw [evR_eq] at h; exact ⟨_, _, by simp only [primOp, hc], h⟩
    · cases h
  · rw [evR_eq] at h
    obtain ⟨v, h1, h2⟩ := loadR_some hn h
    exact ⟨v, _, by simp only [primOp, h1]; rfl, h2⟩
  · rw [evR_eq, evR_eq] at h
    exact storeR_some hn h
  · rw [evR_eq, evR_eq] at h
    obtain ⟨v, h1, h2⟩ := binR_some h
    exact ⟨v, _, by simp only [primOp, h1]; rfl, h2⟩
  · rw [evR_eq] at h
    exact fieldAddrR_some hn h
  · rw [evR_eq] at h
    exact fieldR_some h
  · rw [evR_eq, evR_eq] at h
    exact indexAddrR_some hn h
  · split at h
    · rw [evR_eq, evR_eq] at h
      exact strAtR_some h
    · exact genR_some hn h
  · rw [evR_eq] at h
    exact convR_some hn h
  · rw [evR_eq] at h
    exact extR_some h
  · rename_i c
    obtain ⟨callee, args, ats⟩ := c
    unfold callR at h
    split at h
    · rename_i hc
      simp only [] at hc
      subst hc
      exact lenR_some hn h
    · exact genR_some hn h
  · exact genR_some hn h
end
end Go.MT
