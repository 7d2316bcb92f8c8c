/-
  The plain operations, one definition each (so that the kernel has less to carry).
-/
import Derived.Test.YtibbckpgcglbcaaGreatMtEnv
namespace Go.MT

abbrev PrimF := Program → (Nat → Option Obj) → Nat → (Operand → PV) → Option (PV × Eff)
def allocE (e : TypeId) : PrimF := fun P _ n _ =>
  (zeroT P e).map fun z => (.ptr n 0, .new (.arr z.cells none))

def boxE (x : Operand) : PrimF := fun _ _ n ρ =>
  if (ρ x).cells.all PV.leaf then some (.ptr n 0, .new (.arr (ρ x).cells none)) else none

def buildE (t : TypeId) (parts : Array (Nat × Operand)) : PrimF := fun P _ _ ρ =>
    match P.underlying t, zeroT P t with
    | some (.struct fs), some z => match placesT P fs.toList with
      | some pl => (setParts (fun i => pl[i]?) z.cells (parts.toList.map fun p => (p.1, ρ p.2))).map fun cs => (.agg cs, .none)
      | none => none
    | some (.array _ e), some z => match sizeT P e with
      | some s => (setParts (fun i => some (i * s, s)) z.cells (parts.toList.map fun p => (p.1, ρ p.2))).map fun cs => (.agg cs, .none)
      | none => none
    | _, _ => none

def buildSliceE (t : TypeId) (len : Nat) (parts : Array (Nat × Operand)) : PrimF := fun P _ n ρ =>
    match P.underlying t with
    | some (.slice e) => match sizeT P e, zeroT P e with
      | some sz, some z =>
        if z.cells.length = sz ∧ 0 < sz ∧ len * sz ≤ 65536 then
          match setParts (fun i => some (i * sz, sz)) ((List.replicate len z.cells).flatten) (parts.toList.map fun p => (p.1, ρ p.2)) with
          | some cs =>
            if cs.all PV.closedLeaf then some (.lst true sz len cs, .none)
            else if cs.all PV.leaf then some (.ref n 0 len sz, .new (.arr cs (some (len * sz)))) else none
          | none => none
        else none
      | _, _ => none
    | _ => none

def nilCheckE (x : Operand) : PrimF := fun _ get _ ρ =>
  match ρ x with
    | .ptr i o => match get i with | some (.arr ..) => some (.ptr i o, .none) | _ => none
    | .frz c => some (.frz c, .none)
    | .fn f a b => some (.fn f a b, .none)
    | _ => none

def makeFuncE (f : FuncId) (first cap : Array Operand) : PrimF := fun _ _ _ ρ =>
  some (.fn f (first.toList.map ρ) (cap.toList.map ρ), .none)

def makeMapE (t : TypeId) : PrimF := fun P _ n _ =>
  match P.underlying t with | some (.map ..) => some (.map n, .new (.mp [])) | _ => none

def makeSliceE (t : TypeId) (l c : Operand) : PrimF := fun P _ n ρ =>
    match P.underlying t, ρ l, ρ c with
    | some (.slice e), .int _ a, .int _ m => match sizeT P e, bytesT P e, zeroT P e with
      | some sz, some by_, some z =>
        if 0 ≤ a ∧ a ≤ m ∧ m * by_ ≤ 70368744177664 ∧ m ≤ 70368744177664 ∧ z.cells.length = sz ∧ 0 < sz then
          some (.ref n 0 a.toNat sz, .new (.arr ((List.replicate a.toNat z.cells).flatten) (some (m.toNat * sz))))
        else none
      | _, _, _ => none
    | _, _, _ => none

def sliceE (t : TypeId) (x : Operand) (lo hi : Option Operand) : PrimF := fun P get _ ρ =>
    match boundE ρ 0 lo, P.underlying t with
    | some l, some u =>
      match u, ρ x with
      | .string, .str s => match boundE ρ s.length hi with
        | some h => if 0 ≤ l ∧ l ≤ h ∧ h ≤ s.length then some (.str ((s.drop l.toNat).take (h - l).toNat), .none) else none
        | none => none
      | .slice e, x => match sizeT P e with
        | some sz => match x with
          | .nilslice => match boundE ρ 0 hi with
            | some h => if l = 0 ∧ h = 0 then some (.nilslice, .none) else none
            | none => none
          | .lst tight s m cs => match boundE ρ m hi with
            | some h => if s = sz ∧ 0 ≤ l ∧ l ≤ h ∧ h ≤ m ∧ cs.length = m * sz then
                some (.lst (tight && decide (h = m)) sz (h - l).toNat ((cs.drop (l.toNat * sz)).take ((h - l).toNat * sz)), .none) else none
            | none => none
          | .ref id off len s => match boundE ρ len hi with
            | some h => match get id with
              | some (.arr ..) => if s = sz ∧ 0 ≤ l ∧ l ≤ h ∧ h ≤ len then some (.ref id (off + l.toNat * sz) (h - l).toNat sz, .none) else none
              | _ => none
            | none => none
          | _ => none
        | none => none
      | _, _ => none
    | _, _ => none

def lookupE (t : TypeId) (x i : Operand) (ok : Bool) : PrimF := fun P get _ ρ =>
    match P.underlying t with
    | some (.map k e) =>
      match P.underlying k, zeroT P e with
      | some kd, some z =>
        if keyOk kd (ρ i) then
          let r := match ρ x with
            | .nilmap => some none
            | .map id => match get id with | some (.mp es) => findKey (ρ i) es | _ => none
            | _ => none
          match r with
          | some (some v) => some (if ok then .tup [v, .bool true] else v, .none)
          | some none => some (if ok then .tup [z, .bool false] else z, .none)
          | none => none
        else none
      | _, _ => none
    | _ => none

def mapUpdateE (t : TypeId) (m k v : Operand) : PrimF := fun P get _ ρ =>
    match P.underlying t, ρ m with
    | some (.map kt _), .map id => match P.underlying kt, get id with
      | some kd, some (.mp es) =>
        if keyOk kd (ρ k) then
          match findKey (ρ k) es with
          | some _ => some (.undef, .upd id (.mp (putKey (ρ k) (ρ v) es)))
          | none => none
        else none
      | _, _ => none
    | _, _ => none

def appendE (args : Array Operand) (argTypes : Array TypeId) : PrimF := fun P get n ρ =>
  match args.toList.map ρ with
  | [s, x] =>
      match argTypes.toList.map P.underlying with
      | [some (.slice e), some u] => match sizeT P e, bytesT P e, zeroT P e with
        | some sz, some by_, some z =>
          if z.cells.length = sz ∧ 0 < sz then
            match u, x with
            | .int _, .int .i64 m =>
              if 0 ≤ m ∧ m ≤ 70368744177664 then appendT get n sz by_ s ((List.replicate m.toNat z.cells).flatten) m.toNat else none
            | .int _, _ => none
            | _, _ => match sliceCells get sz x with
              | some (ys, k) => appendT get n sz by_ s ys k
              | none => none
          else none
        | _, _, _ => none
      | _ => none
  | _ => none

def copyE (args : Array Operand) (argTypes : Array TypeId) : PrimF := fun P get _ ρ =>
  match args.toList.map ρ with
  | [.ref id off len s, x] => match argTypes.toList.map P.underlying with
      | some (.slice e) :: _ => match sizeT P e with
        | some sz => if s = sz then match sliceCells get sz x with
            | some (ys, k) => let m := min k len; (writeCells get id off (ys.take (m * sz))).map fun eff => (.int .i64 m, eff)
            | none => none
          else none
        | none => none
      | _ => none
  | _ => none

def deleteE (args : Array Operand) (argTypes : Array TypeId) : PrimF := fun P get _ ρ =>
  match args.toList.map ρ with
  | [.map id, k] => match argTypes.toList.map P.underlying, get id with
      | some (.map kt _) :: _, some (.mp es) => match P.underlying kt with
        | some kd => if keyOk kd k then
            match findKey k es with
            | some _ => some (.tup [], .upd id (.mp (delKey k es)))
            | none => none
          else none
        | none => none
      | _, _ => none
  | _ => none

def capE (args : Array Operand) (argTypes : Array TypeId) : PrimF := fun P _ _ ρ =>
  match args.toList.map ρ with
  | [x] => match argTypes.toList.map P.underlying, x with
      | some (.slice _) :: _, .nilslice => some (.int .i64 0, .none)
      | some (.slice _) :: _, .lst true _ m _ => some (.int .i64 m, .none)
      | _, _ => none
  | _ => none

variable {P : Program} {get : Nat → Option Obj} {n : Nat} {ρ : Operand → PV}
theorem allocE_eq (e : TypeId) : primOpE P get n (.alloc e) ρ = allocE e P get n ρ := rfl
theorem boxE_eq {e0 : TypeId} (x : Operand) : primOpE P get n (.box e0 x) ρ = boxE x P get n ρ := rfl
theorem buildE_eq (t : TypeId) (parts : Array (Nat × Operand)) : primOpE P get n (.build t parts) ρ = buildE t parts P get n ρ := rfl
theorem buildSliceE_eq (t : TypeId) (len : Nat) (parts : Array (Nat × Operand)) : primOpE P get n (.buildSlice t len parts) ρ = buildSliceE t len parts P get n ρ := rfl
theorem nilCheckE_eq (x : Operand) : primOpE P get n (.nilCheck x) ρ = nilCheckE x P get n ρ := rfl
theorem makeFuncE_eq (f : FuncId) (first cap : Array Operand) : primOpE P get n (.makeFunc (.func f) first cap) ρ = makeFuncE f first cap P get n ρ := rfl
theorem makeMapE_eq (t : TypeId) : primOpE P get n (.makeMap t none) ρ = makeMapE t P get n ρ := rfl
theorem makeSliceE_eq (t : TypeId) (l c : Operand) : primOpE P get n (.makeSlice t l c) ρ = makeSliceE t l c P get n ρ := rfl
theorem sliceE_eq (t : TypeId) (x : Operand) (lo hi : Option Operand) : primOpE P get n (.slice t x lo hi none) ρ = sliceE t x lo hi P get n ρ := rfl
theorem lookupE_eq (t : TypeId) (x i : Operand) (ok : Bool) : primOpE P get n (.lookup t x i ok) ρ = lookupE t x i ok P get n ρ := rfl
theorem mapUpdateE_eq (t : TypeId) (m k v : Operand) : primOpE P get n (.mapUpdate t m k v) ρ = mapUpdateE t m k v P get n ρ := rfl
theorem appendE_eq (args : Array Operand) (ats : Array TypeId) : primOpE P get n (.call ⟨.builtin .append, args, ats⟩) ρ = appendE args ats P get n ρ := by
  simp only [primOpE, appendE]
  rcases args.toList.map ρ with _ | ⟨a, _ | ⟨b, _ | ⟨c, l⟩⟩⟩ <;> rfl
theorem copyE_eq (args : Array Operand) (ats : Array TypeId) : primOpE P get n (.call ⟨.builtin .copy, args, ats⟩) ρ = copyE args ats P get n ρ := by
  simp only [primOpE, copyE]
  rcases args.toList.map ρ with _ | ⟨a, _ | ⟨b, _ | ⟨c, l⟩⟩⟩ <;> first | rfl | (cases a <;> rfl)
theorem deleteE_eq (args : Array Operand) (ats : Array TypeId) : primOpE P get n (.call ⟨.builtin .delete, args, ats⟩) ρ = deleteE args ats P get n ρ := by
  simp only [primOpE, deleteE]
  rcases args.toList.map ρ with _ | ⟨a, _ | ⟨b, _ | ⟨c, l⟩⟩⟩ <;> first | rfl | (cases a <;> rfl)
theorem capE_eq (args : Array Operand) (ats : Array TypeId) : primOpE P get n (.call ⟨.builtin .cap, args, ats⟩) ρ = capE args ats P get n ρ := by
  simp only [primOpE, capE]
  rcases args.toList.map ρ with _ | ⟨a, _ | ⟨b, _ | ⟨c, l⟩⟩⟩ <;> rfl
end Go.MT
