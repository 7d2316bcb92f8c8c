/-
  A deterministic evaluator over the loaded program's code, with abstract values: what is frozen is a plain list, what lives is an object of a store that is a list.
  It draws no tape: an order that Go leaves open is run in the text's order (and the region's trace is checked), an append whose capacity is open makes a new object and kills the old one.
  Plain definitions; nothing here is about memory as the model has it.
-/
import GoSem.Dispatch
namespace Go.MT

inductive PV where
  | int (k : IntKind) (n : Int)
  | bool (b : Bool)
  | str (s : List Nat)
  | ptr (id off : Nat)
  | frz (cs : List PV)
  | nilptr
  | ref (id off len sz : Nat)
  | lst (tight : Bool) (sz n : Nat) (cs : List PV)
  | nilslice
  | fn (f : FuncId) (first cap : List PV)
  | nilfn
  | map (id : Nat)
  | nilmap
  | agg (cs : List PV)
  | tup (vs : List PV)
  | undef
  /-- what a skipped operation leaves -/
  | gone
  deriving Inhabited

inductive Obj where
  | arr (cells : List PV) (cap : Option Nat)
  | mp (es : List (PV × PV))
  | dead
  deriving Inhabited

abbrev Store := List Obj

/-- what an operation does to the store -/
inductive Eff where
  | none
  | new (o : Obj)
  | upd (id : Nat) (o : Obj)
  | move (id : Nat) (o : Obj)

def Store.app (σ : Store) : Eff → Store
  | .none => σ
  | .new o => σ ++ [o]
  | .upd id o => σ.set id o
  | .move id o => σ.set id .dead ++ [o]

def Eff.okFloor (floor n : Nat) : Eff → Bool
  | .none | .new _ => true
  | .upd id _ | .move id _ => floor ≤ id && id < n

def byteList (s : ByteArray) : List Nat := s.data.toList.map UInt8.toNat

def absLeaf : Value → PV
  | .bool b => .bool b
  | .int k n => .int k n
  | .string s => .str (byteList s)
  | .pointer none => .nilptr
  | .slice none 0 0 => .nilslice
  | .map none => .nilmap
  | .nilFunc => .nilfn
  | .func (.func f) ⟨[]⟩ ⟨[]⟩ => .fn f [] []
  | _ => .undef
def absV : Value → PV
  | .agg cs => .agg (cs.toList.map absLeaf)
  | v => absLeaf v

def PV.cells : PV → List PV
  | .agg cs => cs
  | v => [v]

/-- a value of one cell -/
def PV.leaf : PV → Bool
  | .agg _ | .tup _ | .undef | .gone => false
  | _ => true

abbrev Tmps := List PV
def evalO (tm : Tmps) : Operand → PV
  | .tmp t => tm.getD t .undef
  | .const v => absV v
  | .global _ => .undef
  | .func f => .fn f [] []

/-- no live object is named inside (what is frozen names none) -/
def PV.closedLeaf : PV → Bool
  | .int .. | .bool _ | .str _ | .nilptr | .nilslice | .nilfn | .nilmap | .lst .. | .frz _ => true
  | .fn _ [] [] => true
  | _ => false

section
variable (P : Program)

def sizeT (t : TypeId) : Option Nat := (P.info? t).map (·.size)
def bytesT (t : TypeId) : Option Nat := (P.info? t).map (·.bytes)
def zeroT (t : TypeId) : Option PV := match P.info? t with
  | some { zero := some v, .. } => if (absV v).cells.all PV.leaf then some (absV v) else none
  | _ => none
def aggT (t : TypeId) : Option Bool := (P.underlying t).map fun | .struct _ | .array .. => true | _ => false

/-- n cells from a pointer on -/
def readCells (get : Nat → Option Obj) : PV → Nat → Option (List PV)
  | .ptr id off, n => match get id with
    | some (.arr cs _) => if off + n ≤ cs.length then some ((cs.drop off).take n) else none
    | _ => none
  | .frz cs, n => if n ≤ cs.length then some (cs.take n) else none
  | _, _ => none

def loadT (get : Nat → Option Obj) (t : TypeId) (p : PV) : Option PV :=
  match aggT P t, sizeT P t with
  | some true, some n => (readCells get p n).map .agg
  | some false, some _ => match readCells get p 1 with
    | some [v] => some v
    | _ => none
  | _, _ => none

def splice (cs : List PV) (off : Nat) (vs : List PV) : List PV := cs.take off ++ vs ++ cs.drop (off + vs.length)

def writeCells (get : Nat → Option Obj) (id off : Nat) (vs : List PV) : Option Eff :=
  match get id with
  | some (.arr cs cap) => if off + vs.length ≤ cs.length then some (.upd id (.arr (splice cs off vs) cap)) else none
  | _ => none

/-- a slice's elements as cells; their number -/
def sliceCells (get : Nat → Option Obj) (sz : Nat) : PV → Option (List PV × Nat)
  | .nilslice => some ([], 0)
  | .lst _ s n cs => if s = sz ∧ cs.length = n * sz then some (cs, n) else none
  | .ref id off len s => if s = sz then match get id with
      | some (.arr cs _) => if off + len * sz ≤ cs.length then some ((cs.drop off).take (len * sz), len) else none
      | _ => none
    else none
  | .str s => if sz = 1 then some (s.map fun (b : Nat) => PV.int .u8 (b : Int), s.length) else none
  | _ => none

def strLess : List Nat → List Nat → Bool
  | _, [] => false
  | [], _ :: _ => true
  | a :: x, b :: y => Nat.blt a b || (Nat.beq a b && strLess x y)
def strEq : List Nat → List Nat → Bool
  | [], [] => true
  | a :: x, b :: y => Nat.beq a b && strEq x y
  | _, _ => false

def intOp (op : BinOp) (k : IntKind) (x y : Int) : Option PV :=
  match op with
  | .add => some (.int k (k.wrap (x + y)))
  | .sub => some (.int k (k.wrap (x - y)))
  | .mul => some (.int k (k.wrap (x * y)))
  | .quo => if y = 0 then none else some (.int k (k.wrap (x.tdiv y)))
  | .rem => if y = 0 then none else some (.int k (x.tmod y))
  | .and => some (.int k (k.wrap ((BitVec.ofInt k.bits x &&& BitVec.ofInt k.bits y).toNat)))
  | .or => some (.int k (k.wrap ((BitVec.ofInt k.bits x ||| BitVec.ofInt k.bits y).toNat)))
  | .xor => some (.int k (k.wrap ((BitVec.ofInt k.bits x ^^^ BitVec.ofInt k.bits y).toNat)))
  | .andNot => some (.int k (k.wrap ((BitVec.ofInt k.bits x &&& ~~~(BitVec.ofInt k.bits y)).toNat)))
  | .eql => some (.bool (x == y))
  | .neq => some (.bool (x != y))
  | .lss => some (.bool (decide (x < y)))
  | .leq => some (.bool (decide (x ≤ y)))
  | .gtr => some (.bool (decide (x > y)))
  | .geq => some (.bool (decide (x ≥ y)))
  | _ => none
def shiftOp (op : BinOp) (k : IntKind) (x y : Int) : Option PV :=
  if y < 0 then none else
  match op with
  | .shl => some (.int k (k.wrap (x * 2 ^ (min y.toNat k.bits))))
  | .shr => some (.int k (x.fdiv (2 ^ (min y.toNat k.bits))))
  | _ => none
def strOp (op : BinOp) (x y : List Nat) : Option PV :=
  match op with
  | .add => if (x.length : Int) + y.length ≤ 4611686018427387904 then some (.str (x ++ y)) else none
  | .eql => some (.bool (strEq x y))
  | .neq => some (.bool !(strEq x y))
  | .lss => some (.bool (strLess x y))
  | .leq => some (.bool (strLess x y || strEq x y))
  | .gtr => some (.bool !(strLess x y || strEq x y))
  | .geq => some (.bool !(strLess x y))
  | _ => none

/-- a part of an aggregate -/
def partT (t : TypeId) (cs : List PV) (off : Nat) : Option PV :=
  match aggT P t, sizeT P t with
  | some true, some n => some (.agg ((cs.drop off).take n))
  | some false, some _ => cs[off]?
  | _, _ => none

mutual
def eqT : Nat → TypeId → PV → PV → Option Bool
  | 0, _, _, _ => none
  | d + 1, t, x, y =>
    match P.underlying t, x, y with
    | some .bool, .bool a, .bool b => some (a == b)
    | some (.int _), .int k a, .int k' b => if k = k' then some (a == b) else none
    | some .string, .str a, .str b => some (strEq a b)
    | some (.pointer _), .nilptr, .nilptr => some true
    | some (.pointer _), .nilptr, .frz _ | some (.pointer _), .frz _, .nilptr => some false
    | some (.slice _), .nilslice, .nilslice => some true
    | some (.slice _), .nilslice, .lst .. | some (.slice _), .lst .., .nilslice => some false
    | some (.func ..), .nilfn, .nilfn => some true
    | some (.func ..), .nilfn, .fn .. | some (.func ..), .fn .., .nilfn => some false
    | some (.struct fs), .agg xs, .agg ys => if P.stoodInHeld t then none else eqFs d fs.toList xs ys
    | _, _, _ => none
def eqFs : Nat → List Field → List PV → List PV → Option Bool
  | _, [], _, _ => some true
  | d, f :: fs, xs, ys =>
    if f.name = "_" then eqFs d fs xs ys else
    match partT P f.type xs f.offset, partT P f.type ys f.offset with
    | some a, some b => match eqT d f.type a b with
      | some true => eqFs d fs xs ys
      | r => r
    | _, _ => none
end

def binT (op : BinOp) (t : TypeId) (x y : PV) : Option PV :=
  match op, x, y with
  | .shl, .int k a, .int _ b => shiftOp .shl k a b
  | .shr, .int k a, .int _ b => shiftOp .shr k a b
  | op, .int k a, .int k' b => if k = k' then intOp op k a b else none
  | op, .str a, .str b => strOp op a b
  | .eql, .agg a, .agg b => if P.eqGuardType P.depth t then none else (eqT P 10000 t (.agg a) (.agg b)).map .bool
  | .neq, .agg a, .agg b => if P.eqGuardType P.depth t then none else (eqT P 10000 t (.agg a) (.agg b)).map fun r => .bool !r
  | .eql, x, y => (eqT P 10000 t x y).map .bool
  | .neq, x, y => (eqT P 10000 t x y).map fun r => .bool !r
  | _, _, _ => none

def bytesOf? : List PV → Option (List Nat)
  | [] => some []
  | .int .u8 n :: r => if 0 ≤ n ∧ n < 256 then (bytesOf? r).map (n.toNat :: ·) else none
  | _ => none

def convT (get : Nat → Option Obj) (n : Nat) (src dst : TypeId) (x : PV) : Option (PV × Eff) :=
  match P.underlying src, P.underlying dst, x with
  | some _, some (.int k), .int _ a => some (.int k (k.wrap a), .none)
  | some _, some .string, .str s => some (.str s, .none)
  | some (.slice e), some .string, x => match P.underlying e with
    | some (.int .u8) => match sliceCells get 1 x with
      | some (cs, _) => (bytesOf? cs).map fun l => (.str l, .none)
      | none => none
    | _ => none
  | some .string, some (.slice e), .str s => match P.underlying e, sizeT P e with
    | some (.int .u8), some 1 => some (.ref n 0 s.length 1, .new (.arr (s.map fun (b : Nat) => PV.int .u8 (b : Int)) none))
    | _, _ => none
  | _, _, _ => none

/-- parts laid into cells: each (place, size, value) -/
def setParts (place : Nat → Option (Nat × Nat)) (cells : List PV) : List (Nat × PV) → Option (List PV)
  | [] => some cells
  | (i, v) :: rest => match place i with
    | none => none
    | some (off, size) => if v.cells.length = size ∧ off + v.cells.length ≤ cells.length ∧ v.cells.all PV.leaf = true then setParts place (splice cells off v.cells) rest else none

/-- what is held under a key -/
def keyEq : PV → PV → Option Bool
  | .int k a, .int k' b => if k = k' then some (a == b) else none
  | .str a, .str b => some (strEq a b)
  | .bool a, .bool b => some (a == b)
  | _, _ => none
def keyOk : TypeDesc → PV → Bool
  | .int _, .int .. => true
  | .string, .str _ => true
  | .bool, .bool _ => true
  | _, _ => false
def findKey (k : PV) : List (PV × PV) → Option (Option PV)
  | [] => some none
  | (a, v) :: r => match keyEq k a with | some true => some (some v) | some false => findKey k r | none => none
def putKey (k v : PV) : List (PV × PV) → List (PV × PV)
  | [] => [(k, v)]
  | (a, u) :: r => match keyEq k a with | some true => (k, v) :: r | _ => (a, u) :: putKey k v r
def delKey (k : PV) : List (PV × PV) → List (PV × PV)
  | [] => []
  | (a, u) :: r => match keyEq k a with | some true => r | _ => (a, u) :: delKey k r

/-- append: s of elements of sz cells and by bytes, k further elements ys -/
def appendT (get : Nat → Option Obj) (n : Nat) (sz by_ : Nat) (s : PV) (ys : List PV) (k : Nat) : Option (PV × Eff) :=
  if k = 0 then match s with
    | .nilslice | .lst .. => some (s, .none)
    | .ref id _ _ _ => match get id with | some (.arr ..) => some (s, .none) | _ => none
    | _ => none
  else match s with
  | .nilslice => if k * by_ ≤ 70368744177664 ∧ k ≤ 70368744177664 then some (.ref n 0 k sz, .new (.arr ys none)) else none
  | .lst true s' m xs =>
    if s' = sz ∧ xs.length = m * sz ∧ (m + k) * by_ ≤ 70368744177664 ∧ m + k ≤ 70368744177664 then some (.ref n 0 (m + k) sz, .new (.arr (xs ++ ys) none)) else none
  | .ref id off len s' =>
    if s' = sz ∧ (len + k) * by_ ≤ 70368744177664 ∧ len + k ≤ 70368744177664 then
      match get id with
      | some (.arr cs cap) =>
        if off + (len + k) * sz ≤ cs.length then some (.ref id off (len + k) sz, .upd id (.arr (splice cs (off + len * sz) ys) cap))
        else if off + len * sz = cs.length then
          match cap with
          | some c => if off + (len + k) * sz ≤ c then some (.ref id off (len + k) sz, .upd id (.arr (cs ++ ys) cap))
            else some (.ref n 0 (len + k) sz, .new (.arr (cs.drop off ++ ys) none))
          | none => some (.ref n 0 (len + k) sz, .move id (.arr (cs.drop off ++ ys) none))
        else none
      | _ => none
    else none
  | _ => none

def asInt? : PV → Option Int
  | .int _ n => some n
  | _ => none
def bound? (tm : Tmps) (dflt : Int) : Option Operand → Option Int
  | none => some dflt
  | some o => asInt? (evalO tm o)

def minMax (isMax : Bool) : PV → List PV → Option PV
  | v, [] => some v
  | .int k x, .int _ y :: r => minMax isMax (.int k (if isMax then (if x < y then y else x) else (if y < x then y else x))) r
  | _, _ => none

/-- where a struct's fields lie, and how many cells each has -/
def placesT : List Field → Option (List (Nat × Nat))
  | [] => some []
  | f :: fs => match sizeT P f.type, placesT fs with
    | some s, some r => some ((f.offset, s) :: r)
    | _, _ => none

/-- one operation that calls no Go function: its value and what it does to the store; n: the next object's number -/
def primOp (get : Nat → Option Obj) (n : Nat) (op : Op) (tm : Tmps) : Option (PV × Eff) :=
  let ρ := evalO tm
  match op with
  | .move x | .assign x => some (ρ x, .none)
  | .pick c a b => match ρ c with | .bool true => some (ρ a, .none) | .bool false => some (ρ b, .none) | _ => none
  | .alloc e => (zeroT P e).map fun z => (.ptr n 0, .new (.arr z.cells none))
  | .box _ x => if (ρ x).cells.all PV.leaf then some (.ptr n 0, .new (.arr (ρ x).cells none)) else none
  | .build t parts =>
    match P.underlying t, zeroT P t with
    | some (.struct fs), some z => match placesT P fs.toList with
      | some pl => (setParts (fun i => pl[i]?) z.cells (parts.toList.map fun p => (p.1, ρ p.2))).map fun cs => (.agg cs, .none)
      | none => none
    | some (.array _ e), some z => match sizeT P e with
      | some s => (setParts (fun i => some (i * s, s)) z.cells (parts.toList.map fun p => (p.1, ρ p.2))).map fun cs => (.agg cs, .none)
      | none => none
    | _, _ => none
  | .buildSlice t len parts =>
    match P.underlying t with
    | some (.slice e) => match sizeT P e, zeroT P e with
      | some sz, some z =>
        if z.cells.length = sz ∧ 0 < sz ∧ len * sz ≤ 65536 then
          match setParts (fun i => some (i * sz, sz)) ((List.replicate len z.cells).flatten) (parts.toList.map fun p => (p.1, ρ p.2)) with
          | some cs =>
            if cs.all PV.closedLeaf then some (.lst true sz len cs, .none)
            else if cs.all PV.leaf then some (.ref n 0 len sz, .new (.arr cs (some (len * sz)))) else none
          | none => none
        else none
      | _, _ => none
    | _ => none
  | .load t a => (loadT P get t (ρ a)).map (·, .none)
  | .store t a x =>
    match ρ a with
    | .ptr id off => if sizeT P t = some (ρ x).cells.length ∧ (ρ x).cells.all PV.leaf = true then (writeCells get id off (ρ x).cells).map (.undef, ·) else none
    | _ => none
  | .nilCheck x => match ρ x with
    | .ptr i o => match get i with | some (.arr ..) => some (.ptr i o, .none) | _ => none
    | .frz c => some (.frz c, .none)
    | .fn f a b => some (.fn f a b, .none)
    | _ => none
  | .binOp op t x y _ => (binT P op t (ρ x) (ρ y)).map (·, .none)
  | .unOp op _ x => match op, ρ x with
    | .not, .bool b => some (.bool !b, .none)
    | .neg, .int k a => some (.int k (k.wrap (0 - a)), .none)
    | _, _ => none
  | .convert s d x => convT P get n s d (ρ x)
  | .makeFunc (.func f) first cap => some (.fn f (first.toList.map ρ) (cap.toList.map ρ), .none)
  | .makeMap t none => match P.underlying t with | some (.map ..) => some (.map n, .new (.mp [])) | _ => none
  | .makeSlice t l c =>
    match P.underlying t, ρ l, ρ c with
    | some (.slice e), .int _ a, .int _ m => match sizeT P e, bytesT P e, zeroT P e with
      | some sz, some by_, some z =>
        if 0 ≤ a ∧ a ≤ m ∧ m * by_ ≤ 70368744177664 ∧ m ≤ 70368744177664 ∧ z.cells.length = sz ∧ 0 < sz then
          some (.ref n 0 a.toNat sz, .new (.arr ((List.replicate a.toNat z.cells).flatten) (some (m.toNat * sz))))
        else none
      | _, _, _ => none
    | _, _, _ => none
  | .slice t x lo hi none =>
    match bound? tm 0 lo, P.underlying t with
    | some l, some u =>
      match u, ρ x with
      | .string, .str s => match bound? tm s.length hi with
        | some h => if 0 ≤ l ∧ l ≤ h ∧ h ≤ s.length then some (.str ((s.drop l.toNat).take (h - l).toNat), .none) else none
        | none => none
      | .slice e, x => match sizeT P e with
        | some sz => match x with
          | .nilslice => match bound? tm 0 hi with
            | some h => if l = 0 ∧ h = 0 then some (.nilslice, .none) else none
            | none => none
          | .lst tight s m cs => match bound? tm m hi with
            | some h => if s = sz ∧ 0 ≤ l ∧ l ≤ h ∧ h ≤ m ∧ cs.length = m * sz then
                some (.lst (tight && decide (h = m)) sz (h - l).toNat ((cs.drop (l.toNat * sz)).take ((h - l).toNat * sz)), .none) else none
            | none => none
          | .ref id off len s => match bound? tm len hi with
            | some h => match get id with
              | some (.arr ..) => if s = sz ∧ 0 ≤ l ∧ l ≤ h ∧ h ≤ len then some (.ref id (off + l.toNat * sz) (h - l).toNat sz, .none) else none
              | _ => none
            | none => none
          | _ => none
        | none => none
      | _, _ => none
    | _, _ => none
  | .fieldAddr s x f =>
    match P.underlying s with
    | some (.struct fs) => match fs[f]? with
      | some f => match sizeT P f.type with
        | some (_ + 1) => match ρ x with
          | .ptr id off => match get id with | some (.arr ..) => some (.ptr id (off + f.offset), .none) | _ => none
          | .frz cs => some (.frz (cs.drop f.offset), .none)
          | _ => none
        | _ => none
      | none => none
    | _ => none
  | .field s x f =>
    match P.underlying s, ρ x with
    | some (.struct fs), .agg cs => match fs[f]? with
      | some f => (partT P f.type cs f.offset).map (·, .none)
      | none => none
    | _, _ => none
  | .indexAddr t x i =>
    match asInt? (ρ i), P.underlying t with
    | some i, some (.slice e) => match sizeT P e with
      | some sz => match ρ x with
        | .ref id off len s => match get id with
          | some (.arr ..) => if s = sz ∧ 0 ≤ i ∧ i < len then some (.ptr id (off + i.toNat * sz), .none) else none
          | _ => none
        | .lst _ s m cs => if s = sz ∧ 0 ≤ i ∧ i < m then some (.frz (cs.drop (i.toNat * sz)), .none) else none
        | _ => none
      | none => none
    | some i, some (.array len e) => match sizeT P e with
      | some sz => match ρ x with
        | .ptr id off => match get id with
          | some (.arr ..) => if 0 ≤ i ∧ i < len ∧ 2 ≤ len then some (.ptr id (off + i.toNat * sz), .none) else none
          | _ => none
        | .frz cs => if 0 ≤ i ∧ i < len ∧ 2 ≤ len then some (.frz (cs.drop (i.toNat * sz)), .none) else none
        | _ => none
      | none => none
    | _, _ => none
  | .index t x i =>
    match asInt? (ρ i), P.underlying t, ρ x with
    | some i, some .string, .str s => if 0 ≤ i then (s[i.toNat]?).map fun (b : Nat) => (PV.int .u8 (b : Int), Eff.none) else none
    | some i, some (.array len e), .agg cs => match sizeT P e with
      | some sz => if 0 ≤ i ∧ i < len then (partT P e cs (i.toNat * sz)).map (·, .none) else none
      | none => none
    | _, _, _ => none
  | .lookup t x i ok =>
    match P.underlying t with
    | some (.map k e) =>
      match P.underlying k, zeroT P e with
      | some kd, some z =>
        if keyOk kd (ρ i) then
          let r := match ρ x with
            | .nilmap => some none
            | .map id => match get id with | some (.mp es) => findKey (ρ i) es | _ => none
            | _ => none
          match r with
          | some (some v) => some (if ok then .tup [v, .bool true] else v, .none)
          | some none => some (if ok then .tup [z, .bool false] else z, .none)
          | none => none
        else none
      | _, _ => none
    | _ => none
  | .mapUpdate t m k v =>
    match P.underlying t, ρ m with
    | some (.map kt _), .map id => match P.underlying kt, get id with
      | some kd, some (.mp es) =>
        if keyOk kd (ρ k) then
          match findKey (ρ k) es with
          | some _ => some (.undef, .upd id (.mp (putKey (ρ k) (ρ v) es)))
          | none => none
        else none
      | _, _ => none
    | _, _ => none
  | .extract t i => match ρ t with | .tup vs => (vs[i]?).map (·, .none) | _ => none
  | .call { callee := .builtin b, args, argTypes } =>
    match b, args.toList.map ρ with
    | .len, [x] => match argTypes.toList.map P.underlying with
      | some .string :: _ => match x with | .str s => some (.int .i64 s.length, .none) | _ => none
      | some (.slice _) :: _ => match x with
        | .nilslice => some (.int .i64 0, .none)
        | .lst _ _ m _ => some (.int .i64 m, .none)
        | .ref id _ len _ => match get id with | some (.arr ..) => some (.int .i64 len, .none) | _ => none
        | _ => none
      | some (.map ..) :: _ => match x with
        | .nilmap => some (.int .i64 0, .none)
        | .map id => match get id with | some (.mp es) => some (.int .i64 es.length, .none) | _ => none
        | _ => none
      | some (.array m _) :: _ => match x with
        | .ref .. | .ptr .. | .map _ => none
        | _ => some (.int .i64 m, .none)
      | _ => none
    | .cap, [x] => match argTypes.toList.map P.underlying, x with
      | some (.slice _) :: _, .nilslice => some (.int .i64 0, .none)
      | some (.slice _) :: _, .lst true _ m _ => some (.int .i64 m, .none)
      | _, _ => none
    | .append, [s, x] =>
      match argTypes.toList.map P.underlying with
      | [some (.slice e), some u] => match sizeT P e, bytesT P e, zeroT P e with
        | some sz, some by_, some z =>
          if z.cells.length = sz ∧ 0 < sz then
            match u, x with
            | .int _, .int .i64 m =>
              if 0 ≤ m ∧ m ≤ 70368744177664 then appendT get n sz by_ s ((List.replicate m.toNat z.cells).flatten) m.toNat else none
            | .int _, _ => none
            | _, _ => match sliceCells get sz x with
              | some (ys, k) => appendT get n sz by_ s ys k
              | none => none
          else none
        | _, _, _ => none
      | _ => none
    | .delete, [.map id, k] => match argTypes.toList.map P.underlying, get id with
      | some (.map kt _) :: _, some (.mp es) => match P.underlying kt with
        | some kd => if keyOk kd k then
            match findKey k es with
            | some _ => some (.tup [], .upd id (.mp (delKey k es)))
            | none => none
          else none
        | none => none
      | _, _ => none
    | .copy, [.ref id off len s, x] => match argTypes.toList.map P.underlying with
      | some (.slice e) :: _ => match sizeT P e with
        | some sz => if s = sz then match sliceCells get sz x with
            | some (ys, k) => let m := min k len; (writeCells get id off (ys.take (m * sz))).map fun eff => (.int .i64 m, eff)
            | none => none
          else none
        | none => none
      | _ => none
    | .clear, [.ref id off len s] => match argTypes.toList.map P.underlying with
      | some (.slice e) :: _ => match sizeT P e, zeroT P e with
        | some sz, some z => if s = sz ∧ z.cells.length = sz ∧ 0 < sz then
            (writeCells get id off ((List.replicate len z.cells).flatten)).map fun eff => (.tup [], eff)
          else none
        | _, _ => none
      | _ => none
    | .clear, [.nilslice] => match argTypes.toList.map P.underlying with | some (.slice _) :: _ => some (.tup [], .none) | _ => none
    | .max, x :: r => (minMax true x r).map (·, .none)
    | .min, x :: r => (minMax false x r).map (·, .none)
    | _, _ => none
  | _ => none
end
end Go.MT
