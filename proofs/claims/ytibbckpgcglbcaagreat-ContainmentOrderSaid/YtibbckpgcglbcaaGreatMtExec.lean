/-
  The evaluator over code: regions, loops, calls.
-/
import Derived.Test.YtibbckpgcglbcaaGreatMtThere
namespace Go.MT

mutual
/-- no live object is named inside -/
def PV.still : PV → Bool
  | .ptr .. | .ref .. | .map _ => false
  | .fn _ a b => stills a && stills b
  | .agg cs | .tup cs => stills cs
  | _ => true
def stills : List PV → Bool
  | [] => true
  | c :: cs => c.still && stills cs
end


structure Cfg where
  P : Program
  /-- 0: writes nothing that was there, its result is frozen where it can be; 1: writes nothing that was there; else: may write -/
  pol : FuncId → Nat
  /-- what is known of a call beforehand -/
  ext : FuncId → List PV → Store → Option PV

mutual
def eqPV : PV → PV → Bool
  | .int k a, .int k' b => decide (k = k') && a == b
  | .bool a, .bool b => a == b
  | .str a, .str b => strEq a b
  | .ptr a b, .ptr c d => Nat.beq a c && Nat.beq b d
  | .frz a, .frz b => eqPVs a b
  | .nilptr, .nilptr => true
  | .ref a b c d, .ref a' b' c' d' => Nat.beq a a' && Nat.beq b b' && Nat.beq c c' && Nat.beq d d'
  | .lst t a b c, .lst t' a' b' c' => t == t' && Nat.beq a a' && Nat.beq b b' && eqPVs c c'
  | .nilslice, .nilslice => true
  | .fn f a b, .fn f' a' b' => Nat.beq f f' && eqPVs a a' && eqPVs b b'
  | .nilfn, .nilfn => true
  | .map a, .map b => Nat.beq a b
  | .nilmap, .nilmap => true
  | .agg a, .agg b => eqPVs a b
  | .tup a, .tup b => eqPVs a b
  | .undef, .undef => true
  | .gone, .gone => true
  | _, _ => false
def eqPVs : List PV → List PV → Bool
  | [], [] => true
  | a :: l, b :: m => eqPV a b && eqPVs l m
  | _, _ => false
end
theorem strEq_eq' : ∀ {a b : List Nat}, strEq a b = true → a = b
  | [], [], _ => rfl
  | a :: l, b :: m, h => by
    simp only [strEq, Bool.and_eq_true] at h
    rw [Nat.eq_of_beq_eq_true h.1, strEq_eq' h.2]
  | [], _ :: _, h => by simp [strEq] at h
  | _ :: _, [], h => by simp [strEq] at h
mutual
theorem eqPV_eq : ∀ {a b : PV}, eqPV a b = true → a = b := by
  intro a b h
  cases a <;> cases b <;> first
    | rfl
    | (simp [eqPV] at h; done)
    | (simp only [eqPV, Bool.and_eq_true, decide_eq_true_eq, beq_iff_eq] at h
       first
        | rw [h]
        | rw [h.1, h.2]
        | rw [strEq_eq' h]
        | rw [Nat.eq_of_beq_eq_true h]
        | rw [Nat.eq_of_beq_eq_true h.1, Nat.eq_of_beq_eq_true h.2]
        | rw [eqPVs_eq h]
        | rw [Nat.eq_of_beq_eq_true h.1.1.1, Nat.eq_of_beq_eq_true h.1.1.2, Nat.eq_of_beq_eq_true h.1.2, Nat.eq_of_beq_eq_true h.2]
        | rw [h.1.1.1, Nat.eq_of_beq_eq_true h.1.1.2, Nat.eq_of_beq_eq_true h.1.2, eqPVs_eq h.2]
        | rw [Nat.eq_of_beq_eq_true h.1.1, eqPVs_eq h.1.2, eqPVs_eq h.2])
theorem eqPVs_eq : ∀ {a b : List PV}, eqPVs a b = true → a = b
  | [], [], _ => rfl
  | a :: l, b :: m, h => by
    simp only [eqPVs, Bool.and_eq_true] at h
    rw [eqPV_eq h.1, eqPVs_eq h.2]
  | [], _ :: _, h => by simp [eqPVs] at h
  | _ :: _, [], h => by simp [eqPVs] at h
end
def eqEs : List (PV × PV) → List (PV × PV) → Bool
  | [], [] => true
  | a :: l, b :: m => eqPV a.1 b.1 && eqPV a.2 b.2 && eqEs l m
  | _, _ => false
theorem eqEs_eq : ∀ {a b : List (PV × PV)}, eqEs a b = true → a = b
  | [], [], _ => rfl
  | (a, c) :: l, (b, d) :: m, h => by
    simp only [eqEs, Bool.and_eq_true] at h
    rw [eqPV_eq h.1.1, eqPV_eq h.1.2, eqEs_eq h.2]
  | [], _ :: _, h => by simp [eqEs] at h
  | _ :: _, [], h => by simp [eqEs] at h
/-- surely the same object -/
def sameO : Option Obj → Option Obj → Bool
  | none, none => true
  | some (.arr cs cap), some (.arr cs' cap') => eqPVs cs cs' && cap == cap'
  | some (.mp es), some (.mp es') => eqEs es es'
  | some .dead, some .dead => true
  | _, _ => false
theorem sameO_eq {a b : Option Obj} (h : sameO a b = true) : a = b := by
  rcases a with _ | a <;> rcases b with _ | b
  · rfl
  · simp [sameO] at h
  · simp [sameO] at h
  · cases a <;> cases b <;> first
      | rfl
      | (simp [sameO] at h; done)
      | (simp only [sameO, Bool.and_eq_true, beq_iff_eq] at h; rw [eqPVs_eq h.1, h.2])
      | (simp only [sameO] at h; rw [eqEs_eq h])

/-- what an operation has to do with the store: it looks at objects; or it changes it (and which objects it surely leaves alone) -/
inductive Fp where
  | quiet (ids : List Nat)
  /-- it makes one new object (n), no more -/
  | new (n : Nat) (ids : List Nat)
  /-- free: an append that moves its array: it may stand anywhere among those that make objects -/
  | chg (free : Bool) (keeps : Nat → Bool)

def effFp (tm : Tmps) (op : Op) (n : Nat) : Eff → Fp
  | .none => .quiet (touches tm op)
  | .new _ => .new n (touches tm op)
  | .upd id _ => .chg false fun i => !Nat.beq i id
  | .move id _ => .chg true fun i => !Nat.beq i id

/-- a call: which floor, function, arguments, store -/
abbrev CallT := Nat → FuncId → List PV → Store → Option (PV × Store)

def put (dst : Option Tmp) (v : PV) (tm : Tmps) : Tmps := match dst with | some d => tm.set d v | none => tm

/-- is the operation carried out? none: it can't be told -/
def wantedX (ops : Array Oper) (o : Oper) (tm : Tmps) : Option Bool :=
  match o.guard with
  | none => some true
  | some (j, want) => match (ops[j]?).bind (·.dst) with
    | some t => match tm[t]? with
      | some (.bool b) => some (b == want)
      | some .gone => some false
      | _ => none
    | none => none

inductive Ex where
  | normal | ret
  | exit (id : Nat)

section
variable (K : Cfg) (C : CallT) (floor : Nat)

def operX (o : Oper) (tm : Tmps) (σ : Store) : Option (PV × Store) :=
  match o.op with
  | .call { callee := .value f, args := args, argTypes := _ } =>
    match evalO tm f with
    | .fn f first cap => if K.pol f = 0 ∧ stills (first ++ args.toList.map (evalO tm) ++ cap) = true then match C floor f (first ++ args.toList.map (evalO tm) ++ cap) [] with
        | some (v, []) => some (v, σ)
        | _ => none
      else C floor f (first ++ args.toList.map (evalO tm) ++ cap) σ
    | _ => none
  | op => match primOp K.P (fun id => σ[id]?) σ.length op tm with
    | some (v, eff) => if eff.okFloor floor σ.length then some (v, σ.app eff) else none
    | none => none

/-- what operX has to do with the store; σ': the store behind it -/
def fpX (o : Oper) (tm : Tmps) (σ σ' : Store) : Fp :=
  match o.op with
  | .call { callee := .value f, args := args, argTypes := _ } =>
    match evalO tm f with
    | .fn f first cap => if K.pol f = 0 ∧ stills (first ++ args.toList.map (evalO tm) ++ cap) = true then .quiet [] else .chg false (if K.pol f = 0 ∨ K.pol f = 1 then fun _ => true else fun i => sameO σ[i]? σ'[i]?)
    | _ => .chg false fun _ => false
  | op => match primOp K.P (fun id => σ[id]?) σ.length op tm with
    | some (_, eff) => effFp tm op σ.length eff
    | none => .chg false fun _ => false

def opsX (ops : Array Oper) : List Oper → Tmps → Store → Option (Tmps × Store)
  | [], tm, σ => some (tm, σ)
  | o :: rest, tm, σ =>
    match wantedX ops o tm with
    | some true => match operX K C floor o tm σ with
      | some (v, σ') => opsX ops rest (put o.dst v tm) σ'
      | none => none
    | some false => opsX ops rest (put o.dst .gone tm) σ
    | none => none

/-- the trace of a region: which operations were carried out, and what each had to do with the store -/
def traceX (ops : Array Oper) : List Oper → Nat → Tmps → Store → List (Nat × Fp)
  | [], _, _, _ => []
  | o :: rest, i, tm, σ =>
    match wantedX ops o tm with
    | some true => match operX K C floor o tm σ with
      | some (v, σ') => (i, fpX K o tm σ σ') :: traceX ops rest (i + 1) (put o.dst v tm) σ'
      | none => []
    | some false => traceX ops rest (i + 1) (put o.dst .gone tm) σ
    | none => []
end

/-- two operations that no edge orders do not meet -/
def Fp.apart : Fp → Fp → Bool
  | .quiet _, .quiet _ => true
  | .quiet _, .new _ _ => true
  | .new _ _, .quiet _ => true
  | .new _ _, .new _ _ => true
  | .new n ids, .chg fr ks => fr && ks n && ids.all ks
  | .chg fr ks, .new n ids => fr && ks n && ids.all ks
  | .quiet ids, .chg _ ks => ids.all ks
  | .chg _ ks, .quiet ids => ids.all ks
  | .chg _ _, .chg _ _ => false

def traceOk (b : Array Nat) : List (Nat × Fp) → Bool
  | [] => true
  | (i, fp) :: r => (r.all fun p => (b.getD p.1 0).testBit i || fp.apart p.2) && traceOk b r

def iter (body : Tmps → Store → Option (Ex × Tmps × Store)) : Nat → Tmps → Store → Option (Ex × Tmps × Store)
  | 0, _, _ => none
  | n + 1, tm, σ => match body tm σ with
    | some (.normal, tm', σ') => iter body n tm' σ'
    | r => r

section
variable (K : Cfg) (C : CallT) (n floor : Nat)
def exec : Code → Tmps → Store → Option (Ex × Tmps × Store)
  | .skip, tm, σ => some (.normal, tm, σ)
  | .region _ ops draw, tm, σ =>
    match opsX K C floor ops ops.toList tm σ with
    | some (tm', σ') => if draw && !traceOk (Region.before ops) (traceX K C floor ops ops.toList 0 tm σ) then none else some (.normal, tm', σ')
    | none => none
  | .seq a b, tm, σ => match exec a tm σ with
    | some (.normal, tm', σ') => exec b tm' σ'
    | r => r
  | .cond c a b, tm, σ => match evalO tm c with
    | .bool true => exec a tm σ
    | .bool false => exec b tm σ
    | _ => none
  | .block id b, tm, σ => match exec b tm σ with
    | some (.exit j, tm', σ') => if j = id then some (.normal, tm', σ') else some (.exit j, tm', σ')
    | r => r
  | .loop b, tm, σ => iter (exec b) n tm σ
  | .exit id, tm, σ => some (.exit id, tm, σ)
  | .ret, tm, σ => some (.ret, tm, σ)
  | _, _, _ => none
end

def mapO {α β : Type} (f : α → Option β) : List α → Option (List β)
  | [] => some []
  | x :: l => match f x, mapO f l with
    | some y, some r => some (y :: r)
    | _, _ => none

/-- a slice of the call's own becomes a list, and all that it holds -/
def freezeD (σ : Store) (n0 : Nat) : Nat → PV → Option PV
  | 0, _ => none
  | d + 1, v => match v with
    | .ref id off len sz => if id < n0 then none else
      match σ[id]? with
      | some (.arr cs cap) =>
        if off + len * sz ≤ cs.length then
          match mapO (freezeD σ n0 d) ((cs.drop off).take (len * sz)) with
          | some fs => some (.lst (cap == some (off + len * sz)) sz len fs)
          | none => none
        else none
      | _ => none
    | v => if v.closedLeaf then some v else none
def freezeT (σ : Store) (n0 : Nat) (v : PV) : Option PV :=
  match v with
  | .ref id off len sz => if id < n0 then some v else freezeD σ n0 20 (.ref id off len sz)
  | .ptr id _ => if id < n0 then some v else none
  | .map id => if id < n0 then some v else none
  | v => if v.closedLeaf then some v else none
def freezeA (σ : Store) (n0 : Nat) : PV → Option PV
  | .agg cs => (mapO (freezeT σ n0) cs).map .agg
  | v => freezeT σ n0 v
def freezeR (σ : Store) (n0 : Nat) : PV → Option PV
  | .tup vs => (mapO (freezeA σ n0) vs).map .tup
  | v => freezeA σ n0 v

/-- what a call hands back -/
def finish (mode n0 : Nat) (σ : Store) (v : PV) : PV × Store :=
  if mode = 0 then match freezeR σ n0 v with
    | some v' => (v', σ.take n0)
    | none => (v, σ)
  else (v, σ)

def resultsX (P : Program) (fn : Func) (tm : Tmps) (σ : Store) : Option PV :=
  match mapO (fun | .tmp t => some (tm.getD t .undef) | .cell a t => loadT P (fun id => σ[id]?) t (tm.getD a .undef)) fn.results.toList with
  | some [v] => some v
  | some vs => some (.tup vs)
  | none => none

def pcall (K : Cfg) : Nat → CallT
  | 0 => fun _ _ _ _ => none
  | k + 1 => fun floor f args σ =>
    match K.ext f args σ with
    | some v => some (v, σ)
    | none => match K.P.funcs[f]? with
    | none => none
    | some fn => match fn.body with
      | none => none
      | some c =>
        let fl := if K.pol f = 0 ∨ K.pol f = 1 then σ.length else floor
        match exec K (pcall K k) k fl c (args ++ List.replicate (fn.ntmps - args.length) .undef) σ with
        | some (.exit _, _, _) => none
        | some (_, tm, σ') => match resultsX K.P fn tm σ' with
          | some v => some (finish (K.pol f) σ.length σ' v)
          | none => none
        | none => none

/-- the tape's regions: edges go backward; operations that share a temporary, one writing it, are ordered -/
def namesT (ops : Array Oper) (o : Oper) : List Tmp :=
  o.dst.toList ++ (o.op.operands.toList.filterMap fun | .tmp t => some t | _ => none) ++ (match o.guard with | some (g, _) => ((ops[g]?).bind (·.dst)).toList | none => [])
def regionOk (ops : Array Oper) : Bool :=
  (ops.toList.zipIdx.all fun (o, i) => o.after.all fun e => !Region.binds .any e || decide (e.on < i)) &&
  (ops.toList.zipIdx.all fun (o, i) => ops.toList.zipIdx.all fun (p, j) => !decide (i < j) || ((Region.before ops).getD j 0).testBit i ||
    ((o.dst.toList.all fun d => !(namesT ops p).contains d) && (p.dst.toList.all fun d => !(namesT ops o).contains d)))
def codeOk : Code → Bool
  | .region _ ops draw => !draw || regionOk ops
  | .seq a b => codeOk a && codeOk b
  | .cond _ a b => codeOk a && codeOk b
  | .block _ b => codeOk b
  | .loop b => codeOk b
  | _ => true
end Go.MT
