/-
  The evaluator once more, for the kernel: in continuations, every value forced as it is made, each operation by a small function of its own.
-/
import Derived.Test.YtibbckpgcglbcaaGreatMtTop
namespace Go.MT

section
variable {α β : Type}

/-! ### forcing -/
noncomputable def fNat (n : Nat) (k : Nat → β) : β := Nat.rec (motive := fun _ => β) (k Nat.zero) (fun m _ => k (Nat.succ m)) n
theorem fNat_eq (n : Nat) (k : Nat → β) : fNat n k = k n := by cases n <;> rfl
noncomputable def fInt (n : Int) (k : Int → β) : β := Int.rec (motive := fun _ => β) (fun m => fNat m fun m' => k (Int.ofNat m')) (fun m => fNat m fun m' => k (Int.negSucc m')) n
theorem fInt_eq (n : Int) (k : Int → β) : fInt n k = k n := by cases n <;> simp [fInt, fNat_eq]
noncomputable def fBool (b : Bool) (k : Bool → β) : β := Bool.rec (motive := fun _ => β) (k false) (k true) b
theorem fBool_eq (b : Bool) (k : Bool → β) : fBool b k = k b := by cases b <;> rfl
noncomputable def fNats (l : List Nat) : (List Nat → β) → β := List.rec (motive := fun _ => (List Nat → β) → β) (fun k => k []) (fun a _ ih k => fNat a fun a' => ih fun l' => k (a' :: l')) l
theorem fNats_eq : ∀ (l : List Nat) (k : List Nat → β), fNats l k = k l
  | [], _ => rfl
  | a :: l, k => by
    show (fNat a fun a' => fNats l fun l' => k (a' :: l')) = _
    rw [fNat_eq, fNats_eq l]

/-- a cell: its head, and a number -/
noncomputable def fE (v : PV) (k : PV → β) : β := match v with
  | .int kd n => fInt n fun n' => k (.int kd n')
  | .bool b => fBool b fun b' => k (.bool b')
  | .str s => k (.str s)
  | .ptr id off => k (.ptr id off)
  | .frz cs => k (.frz cs)
  | .nilptr => k .nilptr
  | .ref id off len sz => k (.ref id off len sz)
  | .lst t sz n cs => k (.lst t sz n cs)
  | .nilslice => k .nilslice
  | .fn f a b => k (.fn f a b)
  | .nilfn => k .nilfn
  | .map id => k (.map id)
  | .nilmap => k .nilmap
  | .agg cs => k (.agg cs)
  | .tup vs => k (.tup vs)
  | .undef => k .undef
  | .gone => k .gone
theorem fE_eq (v : PV) (k : PV → β) : fE v k = k v := by cases v <;> simp [fE, fInt_eq, fBool_eq]
noncomputable def fSp (l : List PV) : (List PV → β) → β := List.rec (motive := fun _ => (List PV → β) → β) (fun k => k []) (fun a _ ih k => fE a fun a' => ih fun l' => k (a' :: l')) l
theorem fSp_eq : ∀ (l : List PV) (k : List PV → β), fSp l k = k l
  | [], _ => rfl
  | a :: l, k => by
    show (fE a fun a' => fSp l fun l' => k (a' :: l')) = _
    rw [fE_eq, fSp_eq l]
/-- a value that was made anew -/
noncomputable def fV (v : PV) (k : PV → β) : β := match v with
  | .int kd n => fInt n fun n' => k (.int kd n')
  | .bool b => fBool b fun b' => k (.bool b')
  | .str s => fNats s fun s' => k (.str s')
  | .ptr id off => fNat id fun id => fNat off fun off => k (.ptr id off)
  | .frz cs => fSp cs fun cs => k (.frz cs)
  | .nilptr => k .nilptr
  | .ref id off len sz => fNat id fun id => fNat off fun off => fNat len fun len => fNat sz fun sz => k (.ref id off len sz)
  | .lst t sz n cs => fBool t fun t => fNat sz fun sz => fNat n fun n => fSp cs fun cs => k (.lst t sz n cs)
  | .nilslice => k .nilslice
  | .fn f a b => fNat f fun f => fSp a fun a => fSp b fun b => k (.fn f a b)
  | .nilfn => k .nilfn
  | .map id => fNat id fun id => k (.map id)
  | .nilmap => k .nilmap
  | .agg cs => fSp cs fun cs => k (.agg cs)
  | .tup vs => fSp vs fun vs => k (.tup vs)
  | .undef => k .undef
  | .gone => k .gone
theorem fV_eq (v : PV) (k : PV → β) : fV v k = k v := by cases v <;> simp [fV, fInt_eq, fBool_eq, fNat_eq, fSp_eq, fNats_eq]
noncomputable def fEs (l : List (PV × PV)) : (List (PV × PV) → β) → β := List.rec (motive := fun _ => (List (PV × PV) → β) → β) (fun k => k []) (fun a _ ih k => fE a.1 fun x => fE a.2 fun y => ih fun l' => k ((x, y) :: l')) l
theorem fEs_eq : ∀ (l : List (PV × PV)) (k : List (PV × PV) → β), fEs l k = k l
  | [], _ => rfl
  | a :: l, k => by
    show (fE a.1 fun x => fE a.2 fun y => fEs l fun l' => k ((x, y) :: l')) = _
    rw [fE_eq, fE_eq, fEs_eq l]
noncomputable def fCap (c : Option Nat) (k : Option Nat → β) : β := match c with | none => k none | some n => fNat n fun n => k (some n)
theorem fCap_eq (c : Option Nat) (k : Option Nat → β) : fCap c k = k c := by cases c <;> simp [fCap, fNat_eq]
noncomputable def fObj (o : Obj) (k : Obj → β) : β := match o with
  | .arr cs cap => fSp cs fun cs => fCap cap fun cap => k (.arr cs cap)
  | .mp es => fEs es fun es => k (.mp es)
  | .dead => k .dead
theorem fObj_eq (o : Obj) (k : Obj → β) : fObj o k = k o := by cases o <;> simp [fObj, fSp_eq, fCap_eq, fEs_eq]
noncomputable def fEff (e : Eff) (k : Eff → β) : β := match e with
  | .none => k .none
  | .new o => fObj o fun o => k (.new o)
  | .upd id o => fNat id fun id => fObj o fun o => k (.upd id o)
  | .move id o => fNat id fun id => fObj o fun o => k (.move id o)
theorem fEff_eq (e : Eff) (k : Eff → β) : fEff e k = k e := by cases e <;> simp [fEff, fObj_eq, fNat_eq]

/-! ### lists -/
noncomputable def nthR (l : List α) : Nat → β → (α → β) → β := List.rec (motive := fun _ => Nat → β → (α → β) → β) (fun _ d _ => d) (fun x _ ih i d k => Nat.rec (motive := fun _ => β) (k x) (fun j _ => ih j d k) i) l
theorem nthR_eq : ∀ (l : List α) (i : Nat) (d : β) (k : α → β), nthR l i d k = match l[i]? with | some x => k x | none => d
  | [], _, _, _ => by simp [nthR]
  | x :: l, 0, d, k => by show k x = _; simp
  | x :: l, i + 1, d, k => by
    show nthR l i d k = _
    rw [nthR_eq l i d k]
    simp
noncomputable def setR (l : List α) : Nat → α → (List α → β) → β := List.rec (motive := fun _ => Nat → α → (List α → β) → β) (fun _ _ k => k []) (fun x xs ih i v k => Nat.rec (motive := fun _ => β) (k (v :: xs)) (fun j _ => ih j v fun l' => k (x :: l')) i) l
theorem setR_eq : ∀ (l : List α) (i : Nat) (v : α) (k : List α → β), setR l i v k = k (l.set i v)
  | [], _, _, _ => rfl
  | x :: l, 0, v, k => rfl
  | x :: l, i + 1, v, k => by
    show setR l i v (fun l' => k (x :: l')) = _
    rw [setR_eq l i v]
    rfl
noncomputable def appR (l : List α) : List α → (List α → β) → β := List.rec (motive := fun _ => List α → (List α → β) → β) (fun m k => k m) (fun x _ ih m k => ih m fun l' => k (x :: l')) l
theorem appR_eq : ∀ (l m : List α) (k : List α → β), appR l m k = k (l ++ m)
  | [], _, _ => rfl
  | x :: l, m, k => by
    show appR l m (fun l' => k (x :: l')) = _
    rw [appR_eq l m]
    rfl
/-- the first i off -/
noncomputable def dropR (l : List α) : Nat → β → (List α → β) → β := List.rec (motive := fun _ => Nat → β → (List α → β) → β) (fun i d k => Nat.rec (motive := fun _ => β) (k []) (fun _ _ => d) i) (fun x xs ih i d k => Nat.rec (motive := fun _ => β) (k (x :: xs)) (fun j _ => ih j d k) i) l
theorem dropR_eq : ∀ (l : List α) (i : Nat) (d : β) (k : List α → β), dropR l i d k = if i ≤ l.length then k (l.drop i) else d
  | [], 0, d, k => by show k [] = _; simp
  | [], i + 1, d, k => by show d = _; simp
  | x :: l, 0, d, k => by show k (x :: l) = _; simp
  | x :: l, i + 1, d, k => by
    show dropR l i d k = _
    rw [dropR_eq l i d k]
    simp
noncomputable def takeR (l : List α) : Nat → β → (List α → β) → β := List.rec (motive := fun _ => Nat → β → (List α → β) → β) (fun i d k => Nat.rec (motive := fun _ => β) (k []) (fun _ _ => d) i) (fun x _ ih i d k => Nat.rec (motive := fun _ => β) (k []) (fun j _ => ih j d fun l' => k (x :: l')) i) l
theorem takeR_eq : ∀ (l : List α) (i : Nat) (d : β) (k : List α → β), takeR l i d k = if i ≤ l.length then k (l.take i) else d
  | [], 0, d, k => by show k [] = _; simp
  | [], i + 1, d, k => by show d = _; simp
  | x :: l, 0, d, k => by show k [] = _; simp
  | x :: l, i + 1, d, k => by
    show takeR l i d (fun l' => k (x :: l')) = _
    rw [takeR_eq l i d]
    simp
/-- vs laid over the head of cs -/
noncomputable def overR (vs : List α) : List α → β → (List α → β) → β := List.rec (motive := fun _ => List α → β → (List α → β) → β) (fun cs _ k => k cs) (fun v _ ih cs d k => List.rec (motive := fun _ => β) d (fun _ cs' _ => ih cs' d fun l => k (v :: l)) cs) vs
theorem overR_eq : ∀ (vs cs : List α) (d : β) (k : List α → β), overR vs cs d k = if vs.length ≤ cs.length then k (vs ++ cs.drop vs.length) else d
  | [], cs, d, k => by simp [overR]
  | v :: vs, [], d, k => by simp [overR]
  | v :: vs, c :: cs, d, k => by
    show overR vs cs d (fun l => k (v :: l)) = _
    rw [overR_eq vs cs d]
    simp
noncomputable def splR (cs : List PV) : Nat → List PV → β → (List PV → β) → β := List.rec (motive := fun _ => Nat → List PV → β → (List PV → β) → β)
  (fun off vs d k => Nat.rec (motive := fun _ => β) (overR vs [] d k) (fun _ _ => d) off) (fun c cs' ih off vs d k => Nat.rec (motive := fun _ => β) (overR vs (c :: cs') d k) (fun j _ => ih j vs d fun l => k (c :: l)) off) cs
theorem splR_eq : ∀ (cs : List PV) (off : Nat) (vs : List PV) (d : β) (k : List PV → β), splR cs off vs d k = if off + vs.length ≤ cs.length then k (splice cs off vs) else d
  | cs, 0, vs, d, k => by
    have : splR cs 0 vs d k = overR vs cs d k := by cases cs <;> rfl
    rw [this, overR_eq]
    simp [splice]
  | [], off + 1, vs, d, k => by
    rw [if_neg (by simp)]
    rfl
  | c :: cs, off + 1, vs, d, k => by
    show splR cs off vs d (fun l => k (c :: l)) = _
    rw [splR_eq cs off vs d]
    by_cases h : off + vs.length ≤ cs.length
    · rw [if_pos h, if_pos (by simp; omega)]
      congr 1
      simp only [splice, List.take_succ_cons, List.cons_append, List.append_assoc]
      rw [show off + 1 + vs.length = off + vs.length + 1 by omega, List.drop_succ_cons]
    · rw [if_neg h, if_neg (by simp; omega)]
end
end Go.MT
