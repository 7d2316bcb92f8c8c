/-
  The evaluator for the kernel over short frames (2): regions, code, calls.
-/
import Derived.Test.YtibbckpgcglbcaaGreatMtFly
namespace Go.MT

/-- it changes no object that was there -/
def calm (op : Op) : Bool := match op with
  | .move _ | .assign _ | .pick .. | .alloc _ | .box .. | .build .. | .buildSlice .. | .load .. | .nilCheck _ | .binOp .. | .unOp .. | .convert .. | .makeFunc .. | .makeMap .. | .makeSlice .. | .slice .. | .fieldAddr .. | .field .. | .indexAddr .. | .index .. | .lookup .. | .extract .. => true
  | .call c => match c.callee with
    | .builtin .len => true
    | .builtin .cap => true
    | .builtin .min => true
    | .builtin .max => true
    | _ => false
  | _ => false

def Eff.calm : Eff → Prop
  | .none | .new _ => True
  | _ => False
def CalmO (o : Option (PV × Eff)) : Prop := ∀ v e, o = some (v, e) → e.calm
theorem CalmO.none : CalmO none := fun _ _ h => by cases h
theorem CalmO.mk {v : PV} {e : Eff} (h : e.calm) : CalmO (some (v, e)) := fun v' e' h' => by
  injection h' with h'; injection h' with _ h'; rw [← h']; exact h
theorem CalmO.map {α : Type} {o : Option α} {f : α → PV × Eff} (h : ∀ a, (f a).2.calm) : CalmO (o.map f) := fun v e h' => by
  cases o with
  | none => cases h'
  | some a =>
    simp only [Option.map_some, Option.some.injEq] at h'
    have := h a
    rw [h'] at this; exact this
theorem CalmO.ite {c : Prop} [Decidable c] {a b : Option (PV × Eff)} (ha : CalmO a) (hb : CalmO b) : CalmO (if c then a else b) := by
  split
  · exact ha
  · exact hb
theorem convT_calm {P : Program} {get : Nat → Option Obj} {n : Nat} {s d : TypeId} {x : PV} : CalmO (convT P get n s d x) := by
  unfold convT
  repeat' split
  all_goals first
    | exact CalmO.none
    | exact CalmO.mk trivial
    | exact CalmO.map fun _ => trivial
theorem calm_eff {P : Program} {get : Nat → Option Obj} {n : Nat} {op : Op} {tm : Tmps} (hc : calm op = true) : CalmO (primOp P get n op tm) := by
  cases op with
  | call c =>
    obtain ⟨callee, args, ats⟩ := c
    cases callee with
    | builtin b =>
      cases b with
      | len =>
        simp only [primOp]
        repeat' split
        all_goals first
          | exact CalmO.none
          | exact CalmO.mk trivial
          | exact CalmO.map fun _ => trivial
          | contradiction
          | simp_all
      | cap =>
        simp only [primOp]
        repeat' split
        all_goals first
          | exact CalmO.none
          | exact CalmO.mk trivial
          | exact CalmO.map fun _ => trivial
          | contradiction
          | simp_all
      | max =>
        simp only [primOp]
        repeat' split
        all_goals first
          | exact CalmO.none
          | exact CalmO.mk trivial
          | exact CalmO.map fun _ => trivial
          | contradiction
          | simp_all
      | min =>
        simp only [primOp]
        repeat' split
        all_goals first
          | exact CalmO.none
          | exact CalmO.mk trivial
          | exact CalmO.map fun _ => trivial
          | contradiction
          | simp_all
      | _ => cases hc
    | _ => cases hc
  | convert s d x => simp only [primOp]; exact convT_calm
  | makeFunc f a b =>
    cases f <;> simp only [primOp]
    · exact CalmO.mk trivial
    all_goals exact CalmO.none
  | makeMap t r =>
    cases r <;> simp only [primOp]
    · repeat' split
      all_goals first
        | exact CalmO.none
        | exact CalmO.mk trivial
    · exact CalmO.none
  | slice t x lo hi mx =>
    cases mx <;> simp only [primOp]
    · repeat' split
      all_goals first
        | exact CalmO.none
        | exact CalmO.mk trivial
    · exact CalmO.none
  | lookup t x i ok =>
    simp only [primOp]
    repeat' split
    all_goals first
      | exact CalmO.none
      | exact CalmO.mk trivial
      | simp_all
  | _ =>
    first
      | (simp [calm] at hc; done)
      | (simp only [primOp]
         repeat' split
         all_goals first
          | exact CalmO.none
          | exact CalmO.mk trivial
          | exact CalmO.map fun _ => trivial
          | (dsimp only; exact CalmO.map fun _ => trivial))

def Fp.calm : Fp → Prop
  | .quiet _ | .new _ _ => True
  | _ => False
theorem Fp.calm_apart {f g : Fp} (hf : f.calm) (hg : g.calm) : f.apart g = true := by
  cases f <;> cases g <;> first | rfl | exact False.elim hf | exact False.elim hg
theorem fpX_calm {K : Cfg} {C : CallT} {floor : Nat} {o : Oper} {tm : Tmps} {σ σ' : Store} {v : PV} (hc : calm o.op = true) (h : operX K C floor o tm σ = some (v, σ')) : (fpX K o tm σ σ').calm := by
  unfold operX at h
  unfold fpX
  split
  · rename_i f args ats hop
    rw [hop] at hc
    cases hc
  · rename_i hno
    split at h
    · rename_i f args ats hop; exact (hno _ _ _ hop).elim
    · split at h
      · rename_i v' e he
        have := calm_eff (P := K.P) (get := fun id => σ[id]?) (n := σ.length) (tm := tm) hc v' e he
        cases e <;> first | exact this | exact trivial
      · cases h

/-! ### the pairs to be looked at -/
noncomputable def calmAt (ops : List Oper) (i : Nat) : Bool := nthR ops i true fun o => calm o.op
/-- the unordered pairs with an operation that may change what was there -/
noncomputable def stormR (l : List Oper) : Nat → List Nat := List.rec (motive := fun _ => Nat → List Nat) (fun _ => []) (fun o _ ih i => Bool.rec (motive := fun _ => List Nat) (i :: ih (Nat.succ i)) (ih (Nat.succ i)) (calm o.op)) l
/-- c with all others; b: what lies before each -/
noncomputable def pairsR (bc c : Nat) (l : List Nat) : Nat → List (Nat × Nat) → List (Nat × Nat) := List.rec (motive := fun _ => Nat → List (Nat × Nat) → List (Nat × Nat)) (fun _ acc => acc)
  (fun bx _ ih x acc => Bool.rec (motive := fun _ => List (Nat × Nat))
    (Bool.rec (motive := fun _ => List (Nat × Nat)) (ih (Nat.succ x) acc) (Bool.rec (motive := fun _ => List (Nat × Nat)) ((c, x) :: ih (Nat.succ x) acc) (ih (Nat.succ x) acc) (Nat.testBit bx c)) (Nat.blt c x))
    (Bool.rec (motive := fun _ => List (Nat × Nat)) ((x, c) :: ih (Nat.succ x) acc) (ih (Nat.succ x) acc) (Nat.testBit bc x)) (Nat.blt x c)) l
noncomputable def looseS (ops : Array Oper) : List (Nat × Nat) := List.rec (motive := fun _ => List (Nat × Nat)) [] (fun c _ ih => pairsR (nthR (CheckFast.beforeL ops.toList 0 []) c 0 id) c (CheckFast.beforeL ops.toList 0 []) 0 ih) (stormR ops.toList 0)
noncomputable def watchR (l : List (Nat × Nat)) (i : Nat) : Bool := List.rec (motive := fun _ => Bool) false (fun p _ ih => Bool.rec (motive := fun _ => Bool) (Bool.rec (motive := fun _ => Bool) ih true (Nat.beq p.2 i)) true (Nat.beq p.1 i)) l

theorem stormR_mem : ∀ {l : List Oper} {i j : Nat} {o : Oper}, l[j]? = some o → calm o.op = false → i + j ∈ stormR l i
  | [], _, _, _, h, _ => by simp at h
  | a :: l, i, j, o, h, hc => by
    show i + j ∈ (Bool.rec (motive := fun _ => List Nat) (i :: stormR l (i + 1)) (stormR l (i + 1)) (calm a.op))
    cases j with
    | zero =>
      obtain rfl : a = o := by simpa using h
      rw [hc]
      exact List.mem_cons_self
    | succ j =>
      have := stormR_mem (i := i + 1) (by simpa using h : l[j]? = some o) hc
      have e : i + 1 + j = i + (j + 1) := by omega
      rw [e] at this
      cases calm a.op with
      | true => exact this
      | false => exact List.mem_cons_of_mem _ this
theorem pairsR_cons (bc c bx : Nat) (l : List Nat) (x : Nat) (acc : List (Nat × Nat)) : pairsR bc c (bx :: l) x acc =
    if x < c then (if Nat.testBit bc x then pairsR bc c l (x + 1) acc else (x, c) :: pairsR bc c l (x + 1) acc)
    else if c < x then (if Nat.testBit bx c then pairsR bc c l (x + 1) acc else (c, x) :: pairsR bc c l (x + 1) acc) else pairsR bc c l (x + 1) acc := by
  show (Bool.rec (motive := fun _ => List (Nat × Nat))
    (Bool.rec (motive := fun _ => List (Nat × Nat)) (pairsR bc c l (x + 1) acc) (Bool.rec (motive := fun _ => List (Nat × Nat)) ((c, x) :: pairsR bc c l (x + 1) acc) (pairsR bc c l (x + 1) acc) (Nat.testBit bx c)) (Nat.blt c x))
    (Bool.rec (motive := fun _ => List (Nat × Nat)) ((x, c) :: pairsR bc c l (x + 1) acc) (pairsR bc c l (x + 1) acc) (Nat.testBit bc x)) (Nat.blt x c)) = _
  rw [blt_if, blt_if]
  cases Nat.testBit bc x <;> cases Nat.testBit bx c <;> rfl
theorem pairsR_acc {bc c : Nat} {p : Nat × Nat} {acc : List (Nat × Nat)} (hp : p ∈ acc) : ∀ {l : List Nat} {x : Nat}, p ∈ pairsR bc c l x acc
  | [], _ => hp
  | bx :: l, x => by
    have ih := pairsR_acc (bc := bc) (c := c) hp (l := l) (x := x + 1)
    rw [pairsR_cons]
    repeat' split
    all_goals first | exact ih | exact List.mem_cons_of_mem _ ih
theorem pairsR_lt {bc c : Nat} {acc : List (Nat × Nat)} : ∀ {l : List Nat} {x j : Nat}, j < l.length → x + j < c → Nat.testBit bc (x + j) = false → (x + j, c) ∈ pairsR bc c l x acc
  | [], _, _, h, _, _ => by simp at h
  | bx :: l, x, j, h, hlt, hb => by
    rw [pairsR_cons]
    cases j with
    | zero =>
      rw [if_pos (by simpa using hlt), if_neg (by simpa using hb)]
      exact List.mem_cons_self
    | succ j =>
      have e : x + 1 + j = x + (j + 1) := by omega
      have ih := pairsR_lt (bc := bc) (c := c) (acc := acc) (l := l) (x := x + 1) (j := j) (by simpa using h) (by omega) (by rw [e]; exact hb)
      rw [e] at ih
      repeat' split
      all_goals first | exact ih | exact List.mem_cons_of_mem _ ih
theorem pairsR_gt {bc c : Nat} {acc : List (Nat × Nat)} : ∀ {l : List Nat} {x j bx : Nat}, l[j]? = some bx → c < x + j → Nat.testBit bx c = false → (c, x + j) ∈ pairsR bc c l x acc
  | [], _, _, _, h, _, _ => by simp at h
  | b0 :: l, x, j, bx, h, hlt, hb => by
    rw [pairsR_cons]
    cases j with
    | zero =>
      obtain rfl : b0 = bx := by simpa using h
      rw [if_neg (by omega), if_pos (by simpa using hlt), if_neg (by simpa using hb)]
      exact List.mem_cons_self
    | succ j =>
      have e : x + 1 + j = x + (j + 1) := by omega
      have ih := pairsR_gt (bc := bc) (c := c) (acc := acc) (l := l) (x := x + 1) (j := j) (bx := bx) (by simpa using h) (by omega) hb
      rw [e] at ih
      repeat' split
      all_goals first | exact ih | exact List.mem_cons_of_mem _ ih
theorem beforeL_get (ops : Array Oper) (i : Nat) : ((CheckFast.beforeL ops.toList 0 [])[i]?).getD 0 = (Region.before ops).getD i 0 := by
  rw [← CheckFast.beforeF_eq]
  unfold CheckFast.beforeF
  simp only [Array.getD_eq_getD_getElem?, List.getElem?_toArray]
theorem beforeL_len (ops : Array Oper) : (CheckFast.beforeL ops.toList 0 []).length = ops.size := by
  have := CheckFast.beforeL_eq ops.toList #[]
  simp only [Array.size_empty, List.reverse_nil] at this
  rw [this]
  have : ∀ (l : List Oper) (A : Array Nat), (l.foldl (fun acc o => acc.push (CheckFast.one (fun i => acc.getD i 0) o)) A).size = A.size + l.length := by
    intro l
    induction l with
    | nil => intro A; simp
    | cons a l ih => intro A; rw [List.foldl_cons, ih]; simp; omega
  rw [Array.length_toList, this]
  simp
theorem looseS_mem {ops : Array Oper} {i j : Nat} {oi oj : Oper} (hi : ops.toList[i]? = some oi) (hj : ops.toList[j]? = some oj) (hlt : i < j) (hb : ((Region.before ops).getD j 0).testBit i = false) (hc : calm oi.op = false ∨ calm oj.op = false) :
    (i, j) ∈ looseS ops := by
  have step : ∀ (c : Nat), ((∀ ih, (i, j) ∈ pairsR (nthR (CheckFast.beforeL ops.toList 0 []) c 0 id) c (CheckFast.beforeL ops.toList 0 []) 0 ih)) → ∀ l : List Nat, c ∈ l →
      (i, j) ∈ (List.rec (motive := fun _ => List (Nat × Nat)) [] (fun c _ ih => pairsR (nthR (CheckFast.beforeL ops.toList 0 []) c 0 id) c (CheckFast.beforeL ops.toList 0 []) 0 ih) l : List (Nat × Nat)) := by
    intro c h l
    induction l with
    | nil => intro hl; cases hl
    | cons a l ih =>
      intro hl
      show (i, j) ∈ pairsR (nthR (CheckFast.beforeL ops.toList 0 []) a 0 id) a (CheckFast.beforeL ops.toList 0 []) 0 _
      rcases List.mem_cons.1 hl with rfl | hl
      · exact h _
      · exact pairsR_acc (ih hl)
  have li : i < ops.size := by have := (List.getElem?_eq_some_iff.1 hi).1; simpa using this
  have lj : j < ops.size := by have := (List.getElem?_eq_some_iff.1 hj).1; simpa using this
  have hbj := beforeL_get ops j
  rcases hc with hc | hc
  · have hm := stormR_mem (i := 0) hi hc
    rw [Nat.zero_add] at hm
    refine step i (fun ih => ?_) _ hm
    cases hx : (CheckFast.beforeL ops.toList 0 [])[j]? with
    | none => rw [List.getElem?_eq_none_iff, beforeL_len] at hx; omega
    | some bx =>
      rw [hx] at hbj
      have := pairsR_gt (bc := nthR (CheckFast.beforeL ops.toList 0 []) i 0 id) (c := i) (acc := ih) (x := 0) hx (by omega) (by rw [show bx = (Region.before ops).getD j 0 from hbj]; exact hb)
      rw [Nat.zero_add] at this
      exact this
  · have hm := stormR_mem (i := 0) hj hc
    rw [Nat.zero_add] at hm
    refine step j (fun ih => ?_) _ hm
    have e : nthR (CheckFast.beforeL ops.toList 0 []) j 0 id = (Region.before ops).getD j 0 := by
      rw [nthR_eq, ← hbj]
      cases (CheckFast.beforeL ops.toList 0 [])[j]? <;> rfl
    have := pairsR_lt (bc := nthR (CheckFast.beforeL ops.toList 0 []) j 0 id) (c := j) (acc := ih) (l := CheckFast.beforeL ops.toList 0 []) (x := 0) (j := i) (by rw [beforeL_len]; exact li) (by omega) (by rw [Nat.zero_add, e]; exact hb)
    rw [Nat.zero_add] at this
    exact this
theorem watchR_mem : ∀ {l : List (Nat × Nat)} {i j : Nat}, (i, j) ∈ l → watchR l i = true ∧ watchR l j = true
  | [], _, _, h => by cases h
  | (a, b) :: l, i, j, h => by
    have e : ∀ x, watchR ((a, b) :: l) x = (Bool.rec (motive := fun _ => Bool) (Bool.rec (motive := fun _ => Bool) (watchR l x) true (Nat.beq b x)) true (Nat.beq a x)) := fun _ => rfl
    rw [e, e]
    rcases List.mem_cons.1 h with h | h
    · injection h with h1 h2
      subst h1; subst h2
      refine ⟨by simp, ?_⟩
      cases Nat.beq i j <;> simp
    · have ih := watchR_mem h
      rw [ih.1, ih.2]
      constructor
      · cases Nat.beq a i <;> cases Nat.beq b i <;> rfl
      · cases Nat.beq a j <;> cases Nat.beq b j <;> rfl
end Go.MT
