/-
  Operands looked up in a short frame and a stack of the region's own, in place of the list of all temporaries; the plain operations over any such look-up.
-/
import Derived.Test.YtibbckpgcglbcaaGreatMtKern
import Derived.CheckFast
namespace Go.MT

def boundE (ρ : Operand → PV) (dflt : Int) : Option Operand → Option Int
  | none => some dflt
  | some o => asInt? (ρ o)

/-- the same operations, over any way to look an operand up -/
def primOpE (P : Program) (get : Nat → Option Obj) (n : Nat) (op : Op) (ρ : Operand → PV) : Option (PV × Eff) :=
  match op with
  | .move x | .assign x => some (ρ x, .none)
  | .pick c a b => match ρ c with | .bool true => some (ρ a, .none) | .bool false => some (ρ b, .none) | _ => none
  | .alloc e => (zeroT P e).map fun z => (.ptr n 0, .new (.arr z.cells none))
  | .box _ x => if (ρ x).cells.all PV.leaf then some (.ptr n 0, .new (.arr (ρ x).cells none)) else none
  | .build t parts =>
    match P.underlying t, zeroT P t with
    | some (.struct fs), some z => match placesT P fs.toList with
      | some pl => (setParts (fun i => pl[i]?) z.cells (parts.toList.map fun p => (p.1, ρ p.2))).map fun cs => (.agg cs, .none)
      | none => none
    | some (.array _ e), some z => match sizeT P e with
      | some s => (setParts (fun i => some (i * s, s)) z.cells (parts.toList.map fun p => (p.1, ρ p.2))).map fun cs => (.agg cs, .none)
      | none => none
    | _, _ => none
  | .buildSlice t len parts =>
    match P.underlying t with
    | some (.slice e) => match sizeT P e, zeroT P e with
      | some sz, some z =>
        if z.cells.length = sz ∧ 0 < sz ∧ len * sz ≤ 65536 then
          match setParts (fun i => some (i * sz, sz)) ((List.replicate len z.cells).flatten) (parts.toList.map fun p => (p.1, ρ p.2)) with
          | some cs =>
            if cs.all PV.closedLeaf then some (.lst true sz len cs, .none)
            else if cs.all PV.leaf then some (.ref n 0 len sz, .new (.arr cs (some (len * sz)))) else none
          | none => none
        else none
      | _, _ => none
    | _ => none
  | .load t a => (loadT P get t (ρ a)).map (·, .none)
  | .store t a x =>
    match ρ a with
    | .ptr id off => if sizeT P t = some (ρ x).cells.length ∧ (ρ x).cells.all PV.leaf = true then (writeCells get id off (ρ x).cells).map (.undef, ·) else none
    | _ => none
  | .nilCheck x => match ρ x with
    | .ptr i o => match get i with | some (.arr ..) => some (.ptr i o, .none) | _ => none
    | .frz c => some (.frz c, .none)
    | .fn f a b => some (.fn f a b, .none)
    | _ => none
  | .binOp op t x y _ => (binT P op t (ρ x) (ρ y)).map (·, .none)
  | .unOp op _ x => match op, ρ x with
    | .not, .bool b => some (.bool !b, .none)
    | .neg, .int k a => some (.int k (k.wrap (0 - a)), .none)
    | _, _ => none
  | .convert s d x => convT P get n s d (ρ x)
  | .makeFunc (.func f) first cap => some (.fn f (first.toList.map ρ) (cap.toList.map ρ), .none)
  | .makeMap t none => match P.underlying t with | some (.map ..) => some (.map n, .new (.mp [])) | _ => none
  | .makeSlice t l c =>
    match P.underlying t, ρ l, ρ c with
    | some (.slice e), .int _ a, .int _ m => match sizeT P e, bytesT P e, zeroT P e with
      | some sz, some by_, some z =>
        if 0 ≤ a ∧ a ≤ m ∧ m * by_ ≤ 70368744177664 ∧ m ≤ 70368744177664 ∧ z.cells.length = sz ∧ 0 < sz then
          some (.ref n 0 a.toNat sz, .new (.arr ((List.replicate a.toNat z.cells).flatten) (some (m.toNat * sz))))
        else none
      | _, _, _ => none
    | _, _, _ => none
  | .slice t x lo hi none =>
    match boundE ρ 0 lo, P.underlying t with
    | some l, some u =>
      match u, ρ x with
      | .string, .str s => match boundE ρ s.length hi with
        | some h => if 0 ≤ l ∧ l ≤ h ∧ h ≤ s.length then some (.str ((s.drop l.toNat).take (h - l).toNat), .none) else none
        | none => none
      | .slice e, x => match sizeT P e with
        | some sz => match x with
          | .nilslice => match boundE ρ 0 hi with
            | some h => if l = 0 ∧ h = 0 then some (.nilslice, .none) else none
            | none => none
          | .lst tight s m cs => match boundE ρ m hi with
            | some h => if s = sz ∧ 0 ≤ l ∧ l ≤ h ∧ h ≤ m ∧ cs.length = m * sz then
                some (.lst (tight && decide (h = m)) sz (h - l).toNat ((cs.drop (l.toNat * sz)).take ((h - l).toNat * sz)), .none) else none
            | none => none
          | .ref id off len s => match boundE ρ len hi with
            | some h => match get id with
              | some (.arr ..) => if s = sz ∧ 0 ≤ l ∧ l ≤ h ∧ h ≤ len then some (.ref id (off + l.toNat * sz) (h - l).toNat sz, .none) else none
              | _ => none
            | none => none
          | _ => none
        | none => none
      | _, _ => none
    | _, _ => none
  | .fieldAddr s x f =>
    match P.underlying s with
    | some (.struct fs) => match fs[f]? with
      | some f => match sizeT P f.type with
        | some (_ + 1) => match ρ x with
          | .ptr id off => match get id with | some (.arr ..) => some (.ptr id (off + f.offset), .none) | _ => none
          | .frz cs => some (.frz (cs.drop f.offset), .none)
          | _ => none
        | _ => none
      | none => none
    | _ => none
  | .field s x f =>
    match P.underlying s, ρ x with
    | some (.struct fs), .agg cs => match fs[f]? with
      | some f => (partT P f.type cs f.offset).map (·, .none)
      | none => none
    | _, _ => none
  | .indexAddr t x i =>
    match asInt? (ρ i), P.underlying t with
    | some i, some (.slice e) => match sizeT P e with
      | some sz => match ρ x with
        | .ref id off len s => match get id with
          | some (.arr ..) => if s = sz ∧ 0 ≤ i ∧ i < len then some (.ptr id (off + i.toNat * sz), .none) else none
          | _ => none
        | .lst _ s m cs => if s = sz ∧ 0 ≤ i ∧ i < m then some (.frz (cs.drop (i.toNat * sz)), .none) else none
        | _ => none
      | none => none
    | some i, some (.array len e) => match sizeT P e with
      | some sz => match ρ x with
        | .ptr id off => match get id with
          | some (.arr ..) => if 0 ≤ i ∧ i < len ∧ 2 ≤ len then some (.ptr id (off + i.toNat * sz), .none) else none
          | _ => none
        | .frz cs => if 0 ≤ i ∧ i < len ∧ 2 ≤ len then some (.frz (cs.drop (i.toNat * sz)), .none) else none
        | _ => none
      | none => none
    | _, _ => none
  | .index t x i =>
    match asInt? (ρ i), P.underlying t, ρ x with
    | some i, some .string, .str s => if 0 ≤ i then (s[i.toNat]?).map fun (b : Nat) => (PV.int .u8 (b : Int), Eff.none) else none
    | some i, some (.array len e), .agg cs => match sizeT P e with
      | some sz => if 0 ≤ i ∧ i < len then (partT P e cs (i.toNat * sz)).map (·, .none) else none
      | none => none
    | _, _, _ => none
  | .lookup t x i ok =>
    match P.underlying t with
    | some (.map k e) =>
      match P.underlying k, zeroT P e with
      | some kd, some z =>
        if keyOk kd (ρ i) then
          let r := match ρ x with
            | .nilmap => some none
            | .map id => match get id with | some (.mp es) => findKey (ρ i) es | _ => none
            | _ => none
          match r with
          | some (some v) => some (if ok then .tup [v, .bool true] else v, .none)
          | some none => some (if ok then .tup [z, .bool false] else z, .none)
          | none => none
        else none
      | _, _ => none
    | _ => none
  | .mapUpdate t m k v =>
    match P.underlying t, ρ m with
    | some (.map kt _), .map id => match P.underlying kt, get id with
      | some kd, some (.mp es) =>
        if keyOk kd (ρ k) then
          match findKey (ρ k) es with
          | some _ => some (.undef, .upd id (.mp (putKey (ρ k) (ρ v) es)))
          | none => none
        else none
      | _, _ => none
    | _, _ => none
  | .extract t i => match ρ t with | .tup vs => (vs[i]?).map (·, .none) | _ => none
  | .call { callee := .builtin b, args, argTypes } =>
    match b, args.toList.map ρ with
    | .len, [x] => match argTypes.toList.map P.underlying with
      | some .string :: _ => match x with | .str s => some (.int .i64 s.length, .none) | _ => none
      | some (.slice _) :: _ => match x with
        | .nilslice => some (.int .i64 0, .none)
        | .lst _ _ m _ => some (.int .i64 m, .none)
        | .ref id _ len _ => match get id with | some (.arr ..) => some (.int .i64 len, .none) | _ => none
        | _ => none
      | some (.map ..) :: _ => match x with
        | .nilmap => some (.int .i64 0, .none)
        | .map id => match get id with | some (.mp es) => some (.int .i64 es.length, .none) | _ => none
        | _ => none
      | some (.array m _) :: _ => match x with
        | .ref .. | .ptr .. | .map _ => none
        | _ => some (.int .i64 m, .none)
      | _ => none
    | .cap, [x] => match argTypes.toList.map P.underlying, x with
      | some (.slice _) :: _, .nilslice => some (.int .i64 0, .none)
      | some (.slice _) :: _, .lst true _ m _ => some (.int .i64 m, .none)
      | _, _ => none
    | .append, [s, x] =>
      match argTypes.toList.map P.underlying with
      | [some (.slice e), some u] => match sizeT P e, bytesT P e, zeroT P e with
        | some sz, some by_, some z =>
          if z.cells.length = sz ∧ 0 < sz then
            match u, x with
            | .int _, .int .i64 m =>
              if 0 ≤ m ∧ m ≤ 70368744177664 then appendT get n sz by_ s ((List.replicate m.toNat z.cells).flatten) m.toNat else none
            | .int _, _ => none
            | _, _ => match sliceCells get sz x with
              | some (ys, k) => appendT get n sz by_ s ys k
              | none => none
          else none
        | _, _, _ => none
      | _ => none
    | .delete, [.map id, k] => match argTypes.toList.map P.underlying, get id with
      | some (.map kt _) :: _, some (.mp es) => match P.underlying kt with
        | some kd => if keyOk kd k then
            match findKey k es with
            | some _ => some (.tup [], .upd id (.mp (delKey k es)))
            | none => none
          else none
        | none => none
      | _, _ => none
    | .copy, [.ref id off len s, x] => match argTypes.toList.map P.underlying with
      | some (.slice e) :: _ => match sizeT P e with
        | some sz => if s = sz then match sliceCells get sz x with
            | some (ys, k) => let m := min k len; (writeCells get id off (ys.take (m * sz))).map fun eff => (.int .i64 m, eff)
            | none => none
          else none
        | none => none
      | _ => none
    | .clear, [.ref id off len s] => match argTypes.toList.map P.underlying with
      | some (.slice e) :: _ => match sizeT P e, zeroT P e with
        | some sz, some z => if s = sz ∧ z.cells.length = sz ∧ 0 < sz then
            (writeCells get id off ((List.replicate len z.cells).flatten)).map fun eff => (.tup [], eff)
          else none
        | _, _ => none
      | _ => none
    | .clear, [.nilslice] => match argTypes.toList.map P.underlying with | some (.slice _) :: _ => some (.tup [], .none) | _ => none
    | .max, x :: r => (minMax true x r).map (·, .none)
    | .min, x :: r => (minMax false x r).map (·, .none)
    | _, _ => none
  | _ => none

theorem boundE_eq (tm : Tmps) (d : Int) (o : Option Operand) : boundE (evalO tm) d o = bound? tm d o := by cases o <;> rfl
theorem primOp_E {P : Program} {get : Nat → Option Obj} {n : Nat} {op : Op} {tm : Tmps} : primOp P get n op tm = primOpE P get n op (evalO tm) := by
  cases op <;> first | rfl | (simp only [primOp, primOpE, boundE_eq]; done)
theorem primOpE_congr {P : Program} {get : Nat → Option Obj} {n : Nat} {op : Op} {ρ ρ' : Operand → PV} (h : ∀ x ∈ op.operands.toList, ρ x = ρ' x) : primOpE P get n op ρ = primOpE P get n op ρ' := by
  cases op with
  | build t parts =>
    have : (parts.toList.map fun p => (p.1, ρ p.2)) = parts.toList.map fun p => (p.1, ρ' p.2) := List.map_congr_left fun p hp => by
      rw [h p.2 (by simp [Op.operands]; exact ⟨p.1, by simpa using hp⟩)]
    simp only [primOpE, this]
  | buildSlice t l parts =>
    have : (parts.toList.map fun p => (p.1, ρ p.2)) = parts.toList.map fun p => (p.1, ρ' p.2) := List.map_congr_left fun p hp => by
      rw [h p.2 (by simp [Op.operands]; exact ⟨p.1, by simpa using hp⟩)]
    simp only [primOpE, this]
  | makeFunc f first cap =>
    have h1 : first.toList.map ρ = first.toList.map ρ' := List.map_congr_left fun p hp => h p (by simp [Op.operands]; exact .inl (by simpa using hp))
    have h2 : cap.toList.map ρ = cap.toList.map ρ' := List.map_congr_left fun p hp => h p (by simp [Op.operands]; exact .inr (by simpa using hp))
    cases f <;> simp only [primOpE, h1, h2]
  | slice t x lo hi mx =>
    have hx := h x (by simp [Op.operands])
    have h1 : ∀ d, boundE ρ d lo = boundE ρ' d lo := fun d => by cases lo with | none => rfl | some y => simp only [boundE]; rw [h y (by simp [Op.operands])]
    have h2 : ∀ d, boundE ρ d hi = boundE ρ' d hi := fun d => by cases hi with | none => rfl | some y => simp only [boundE]; rw [h y (by simp [Op.operands])]
    cases mx <;> simp only [primOpE, hx, h1, h2]
  | call c =>
    obtain ⟨callee, args, ats⟩ := c
    cases callee with
    | builtin b =>
      have h1 : args.toList.map ρ = args.toList.map ρ' := List.map_congr_left fun p hp => h p (by simpa [Op.operands, Call.operands] using hp)
      simp only [primOpE, h1]
    | _ => rfl
  | makeMap t r => cases r <;> rfl
  | move x => simp only [primOpE, h x (by simp [Op.operands])]
  | assign x => simp only [primOpE, h x (by simp [Op.operands])]
  | pick c x y => simp only [primOpE, h c (by simp [Op.operands]), h x (by simp [Op.operands]), h y (by simp [Op.operands])]
  | box e x => simp only [primOpE, h x (by simp [Op.operands])]
  | load t x => simp only [primOpE, h x (by simp [Op.operands])]
  | store t x y => simp only [primOpE, h x (by simp [Op.operands]), h y (by simp [Op.operands])]
  | nilCheck x => simp only [primOpE, h x (by simp [Op.operands])]
  | binOp op t x y t' => simp only [primOpE, h x (by simp [Op.operands]), h y (by simp [Op.operands])]
  | unOp op t x => simp only [primOpE, h x (by simp [Op.operands])]
  | convert s d x => simp only [primOpE, h x (by simp [Op.operands])]
  | makeSlice t x y => simp only [primOpE, h x (by simp [Op.operands]), h y (by simp [Op.operands])]
  | fieldAddr s x f => simp only [primOpE, h x (by simp [Op.operands])]
  | field s x f => simp only [primOpE, h x (by simp [Op.operands])]
  | indexAddr t x i => simp only [primOpE, h x (by simp [Op.operands]), h i (by simp [Op.operands])]
  | index t x i => simp only [primOpE, h x (by simp [Op.operands]), h i (by simp [Op.operands])]
  | lookup t x i ok => simp only [primOpE, h x (by simp [Op.operands]), h i (by simp [Op.operands])]
  | mapUpdate t m k x => simp only [primOpE, h m (by simp [Op.operands]), h k (by simp [Op.operands]), h x (by simp [Op.operands])]
  | extract x i => simp only [primOpE, h x (by simp [Op.operands])]
  | _ => rfl

/-! ### looking up -/
inductive SLoc where
  | st (i : Nat) | fr (i : Nat) | no
section
variable {β : Type}

/-- the first place of t -/
noncomputable def idxR (t : Nat) (l : List Nat) : Nat → Option Nat := List.rec (motive := fun _ => Nat → Option Nat) (fun _ => none) (fun a _ ih i => Bool.rec (motive := fun _ => Option Nat) (ih (Nat.succ i)) (some i) (Nat.beq t a)) l
noncomputable def slot (loc esc : List Nat) (t : Nat) : SLoc := Option.rec (motive := fun _ => SLoc) (Option.rec (motive := fun _ => SLoc) .no .fr (idxR t esc 0)) .st (idxR t loc 0)
noncomputable def lookE (loc esc : List Nat) (fr st : List PV) (x : Operand) : PV := match x with
  | .tmp t => SLoc.rec (motive := fun _ => PV) (fun i => nthR st i .undef id) (fun i => nthR fr i .undef id) .undef (slot loc esc t)
  | .const v => absV v
  | .global _ => .undef
  | .func f => .fn f [] []
noncomputable def evE (loc esc : List Nat) (fr st : List PV) (x : Operand) (k : PV → Option β) : Option β := match x with
  | .tmp t => SLoc.rec (motive := fun _ => Option β) (fun i => nthR st i none k) (fun i => nthR fr i none k) none (slot loc esc t)
  | .const v => k (absV v)
  | .global _ => k .undef
  | .func f => k (.fn f [] [])

theorem idxR_nil (t i : Nat) : idxR t [] i = none := rfl
theorem idxR_cons (t a : Nat) (l : List Nat) (i : Nat) : idxR t (a :: l) i = if t = a then some i else idxR t l (i + 1) := by
  show (Bool.rec (motive := fun _ => Option Nat) (idxR t l (i + 1)) (some i) (Nat.beq t a)) = _
  cases h : Nat.beq t a with
  | true => rw [if_pos (Nat.eq_of_beq_eq_true h)]
  | false => rw [if_neg (fun e => by rw [e] at h; simp at h)]
theorem idxR_succ (t : Nat) : ∀ (l : List Nat) (i : Nat), idxR t l (i + 1) = (idxR t l i).map (· + 1)
  | [], _ => rfl
  | a :: l, i => by
    rw [idxR_cons, idxR_cons]
    split
    · rfl
    · exact idxR_succ t l (i + 1)
theorem idxR_some {t : Nat} : ∀ {l : List Nat} {i : Nat}, idxR t l 0 = some i → l[i]? = some t
  | [], _, h => by cases h
  | a :: l, i, h => by
    rw [idxR_cons] at h
    split at h
    · rename_i e
      obtain rfl := Option.some.inj h
      simp [e]
    · rw [idxR_succ] at h
      cases hx : idxR t l 0 with
      | none => rw [hx] at h; cases h
      | some j =>
        rw [hx] at h
        obtain rfl := Option.some.inj h
        simpa using idxR_some hx

structure RelE (N : Nat) (esc loc : List Nat) (fr st : List PV) (tm : Tmps) : Prop where
  len : N ≤ tm.length
  sl : st.length = loc.length
  fl : fr.length = esc.length
  hloc : ∀ t i v, idxR t loc 0 = some i → st[i]? = some v → tm[t]? = some v
  hesc : ∀ t i v, idxR t loc 0 = none → idxR t esc 0 = some i → fr[i]? = some v → tm[t]? = some v

variable {N : Nat} {esc loc : List Nat} {fr st : List PV} {tm : Tmps}
theorem evE_some (hr : RelE N esc loc fr st tm) {x : Operand} {k : PV → Option β} {r : β} (h : evE loc esc fr st x k = some r) : k (evalO tm x) = some r ∧ lookE loc esc fr st x = evalO tm x := by
  cases x with
  | tmp t =>
    have h : (SLoc.rec (motive := fun _ => Option β) (fun i => nthR st i none k) (fun i => nthR fr i none k) none (slot loc esc t)) = some r := h
    show _ ∧ (SLoc.rec (motive := fun _ => PV) (fun i => nthR st i .undef id) (fun i => nthR fr i .undef id) .undef (slot loc esc t)) = _
    unfold slot at h ⊢
    cases h1 : idxR t loc 0 with
    | some i =>
      rw [h1] at h
      simp only [nthR_eq] at h ⊢
      cases h2 : st[i]? with
      | none => rw [h2] at h; cases h
      | some v =>
        rw [h2] at h
        have := hr.hloc t i v h1 h2
        simp only [evalO, List.getD, this]
        exact ⟨h, rfl⟩
    | none =>
      rw [h1] at h
      simp only [] at h ⊢
      cases h3 : idxR t esc 0 with
      | none => rw [h3] at h; cases h
      | some i =>
        rw [h3] at h
        simp only [nthR_eq] at h ⊢
        cases h2 : fr[i]? with
        | none => rw [h2] at h; cases h
        | some v =>
          rw [h2] at h
          have := hr.hesc t i v h1 h3 h2
          simp only [evalO, List.getD, this]
          exact ⟨h, rfl⟩
  | const v => exact ⟨h, rfl⟩
  | «global» v => exact ⟨h, rfl⟩
  | func f => exact ⟨h, rfl⟩

/-- all operands of an operation are found -/
noncomputable def foundE (loc esc : List Nat) (x : Operand) : Bool := match x with
  | .tmp t => SLoc.rec (motive := fun _ => Bool) (fun _ => true) (fun _ => true) false (slot loc esc t)
  | _ => true
noncomputable def okOps (loc esc : List Nat) (op : Op) : Bool := List.rec (motive := fun _ => Bool) true (fun x _ ih => Bool.rec (motive := fun _ => Bool) false ih (foundE loc esc x)) op.operands.toList
theorem idxR_lt {t : Nat} {l : List Nat} {i : Nat} (h : idxR t l 0 = some i) : i < l.length := by
  have := idxR_some h
  rw [List.getElem?_eq_some_iff] at this
  exact this.1
theorem foundE_eq (hr : RelE N esc loc fr st tm) {x : Operand} (h : foundE loc esc x = true) : lookE loc esc fr st x = evalO tm x := by
  cases x with
  | tmp t =>
    have h : (SLoc.rec (motive := fun _ => Bool) (fun _ => true) (fun _ => true) false (slot loc esc t) : Bool) = true := h
    refine (evE_some (β := PV) (k := some) (r := lookE loc esc fr st (.tmp t)) hr ?_).2
    show (SLoc.rec (motive := fun _ => Option PV) (fun i => nthR st i none some) (fun i => nthR fr i none some) none (slot loc esc t)) = some (SLoc.rec (motive := fun _ => PV) (fun i => nthR st i .undef id) (fun i => nthR fr i .undef id) .undef (slot loc esc t))
    unfold slot at h ⊢
    cases h1 : idxR t loc 0 with
    | some i =>
      have := idxR_lt h1
      rw [← hr.sl] at this
      simp only [nthR_eq, List.getElem?_eq_getElem this, id]
    | none =>
      rw [h1] at h
      simp only [] at h ⊢
      cases h3 : idxR t esc 0 with
      | none => rw [h3] at h; cases h
      | some i =>
        have := idxR_lt h3
        rw [← hr.fl] at this
        simp only [nthR_eq, List.getElem?_eq_getElem this, id]
  | const v => rfl
  | «global» v => rfl
  | func f => rfl
theorem okOps_eq (hr : RelE N esc loc fr st tm) {op : Op} (h : okOps loc esc op = true) : ∀ x ∈ op.operands.toList, lookE loc esc fr st x = evalO tm x := by
  unfold okOps at h
  generalize op.operands.toList = l at h
  induction l with
  | nil => intro x hx; cases hx
  | cons a l ih =>
    have h : (Bool.rec (motive := fun _ => Bool) false (List.rec (motive := fun _ => Bool) true (fun x _ ih => Bool.rec (motive := fun _ => Bool) false ih (foundE loc esc x)) l) (foundE loc esc a) : Bool) = true := h
    intro x hx
    cases hf : foundE loc esc a with
    | false => rw [hf] at h; cases h
    | true =>
      rw [hf] at h
      rcases List.mem_cons.1 hx with rfl | hx
      · exact foundE_eq hr hf
      · exact ih h x hx

/-! ### the stack and the frame -/
theorem RelE.push (hr : RelE N esc loc fr st tm) {d : Nat} {v : PV} (hd : d < N) : RelE N esc (d :: loc) fr (v :: st) (tm.set d v) where
  len := by rw [List.length_set]; exact hr.len
  sl := by simp [hr.sl]
  fl := hr.fl
  hloc := fun t i w h1 h2 => by
    rw [idxR_cons] at h1
    split at h1
    · rename_i e
      subst e
      obtain rfl := Option.some.inj h1
      have hl : t < tm.length := Nat.lt_of_lt_of_le hd hr.len
      rw [List.getElem?_set_self hl]
      simpa using h2
    · rename_i e
      rw [idxR_succ] at h1
      cases hx : idxR t loc 0 with
      | none => rw [hx] at h1; cases h1
      | some j =>
        rw [hx] at h1
        obtain rfl := Option.some.inj h1
        rw [List.getElem?_set_ne (fun e' => e e'.symm)]
        exact hr.hloc t j w hx (by simpa using h2)
  hesc := fun t i w h1 h2 h3 => by
    rw [idxR_cons] at h1
    split at h1
    · cases h1
    · rename_i e
      rw [idxR_succ] at h1
      have hx : idxR t loc 0 = none := by
        cases hx : idxR t loc 0 with
        | none => rfl
        | some j => rw [hx] at h1; cases h1
      rw [List.getElem?_set_ne (fun e' => e e'.symm)]
      exact hr.hesc t i w hx h2 h3

/-- which stack places go to the frame -/
noncomputable def planR (loc esc : List Nat) : List (Option Nat) := List.rec (motive := fun _ => List (Option Nat)) [] (fun t _ ih => Option.rec (motive := fun _ => List (Option Nat))
  (List.rec (motive := fun _ => List (Option Nat)) [] (fun o l _ => none :: o :: l) ih) (fun i => some i :: ih) (idxR t loc 0)) esc
theorem planR_cons (loc : List Nat) (t : Nat) (esc : List Nat) : planR loc (t :: esc) = match idxR t loc 0 with
  | some i => some i :: planR loc esc
  | none => match planR loc esc with | [] => [] | l => none :: l := by
  show (Option.rec (motive := fun _ => List (Option Nat)) (List.rec (motive := fun _ => List (Option Nat)) [] (fun o l _ => none :: o :: l) (planR loc esc)) (fun i => some i :: planR loc esc) (idxR t loc 0)) = _
  cases idxR t loc 0 with
  | some i => rfl
  | none => cases planR loc esc <;> rfl
theorem planR_get {loc : List Nat} : ∀ {esc : List Nat} {i t : Nat}, esc[i]? = some t → ((planR loc esc)[i]?).getD none = idxR t loc 0
  | [], _, _, h => by simp at h
  | a :: esc, i, t, h => by
    rw [planR_cons]
    cases i with
    | zero =>
      obtain rfl : a = t := by simpa using h
      cases idxR a loc 0 with
      | some j => rfl
      | none => cases planR loc esc <;> rfl
    | succ i =>
      have ih := planR_get (loc := loc) (esc := esc) (i := i) (t := t) (by simpa using h)
      cases idxR a loc 0 with
      | some j => simpa using ih
      | none =>
        cases hp : planR loc esc with
        | nil => rw [hp] at ih; simpa using ih
        | cons o l => rw [hp] at ih; simpa using ih

noncomputable def wbR (st : List PV) (p : List (Option Nat)) : List PV → (List PV → Option β) → Option β := List.rec (motive := fun _ => List PV → (List PV → Option β) → Option β) (fun fr k => k fr)
  (fun o _ ih fr k => List.rec (motive := fun _ => Option β) none (fun x fr' _ => Option.rec (motive := fun _ => Option β) (ih fr' fun l => k (x :: l)) (fun i => nthR st i none fun v => ih fr' fun l => k (v :: l)) o) fr) p
theorem wbR_some {st : List PV} : ∀ {p : List (Option Nat)} {fr : List PV} {k : List PV → Option β} {r : β}, wbR st p fr k = some r →
    ∃ fr' : List PV, k fr' = some r ∧ fr'.length = fr.length ∧ ∀ (i : Nat) (v : PV), fr'[i]? = some v → (match (p[i]?).getD none with | some (j : Nat) => st[j]? = some v | none => fr[i]? = some v)
  | [], fr, k, r, h => ⟨fr, h, rfl, fun i v hv => by simpa using hv⟩
  | o :: p, [], k, r, h => by cases h
  | o :: p, x :: fr, k, r, h => by
    have h : (Option.rec (motive := fun _ => Option β) (wbR st p fr fun l => k (x :: l)) (fun i => nthR st i none fun v => wbR st p fr fun l => k (v :: l)) o) = some r := h
    cases o with
    | none =>
      obtain ⟨fr', h1, h2, h3⟩ := wbR_some (k := fun l => k (x :: l)) h
      refine ⟨x :: fr', h1, by simp [h2], fun i v hv => ?_⟩
      cases i with
      | zero => simpa using hv
      | succ i => simpa using h3 i v (by simpa using hv)
    | some j =>
      simp only [nthR_eq] at h
      cases hj : st[j]? with
      | none => rw [hj] at h; cases h
      | some w =>
        rw [hj] at h
        obtain ⟨fr', h1, h2, h3⟩ := wbR_some (k := fun l => k (w :: l)) h
        refine ⟨w :: fr', h1, by simp [h2], fun i v hv => ?_⟩
        cases i with
        | zero =>
          obtain rfl : w = v := by simpa using hv
          simpa using hj
        | succ i => simpa using h3 i v (by simpa using hv)
theorem RelE.back (hr : RelE N esc loc fr st tm) {k : List PV → Option β} {r : β} (h : wbR st (planR loc esc) fr k = some r) : ∃ fr', k fr' = some r ∧ RelE N esc [] fr' [] tm := by
  obtain ⟨fr', h1, h2, h3⟩ := wbR_some h
  refine ⟨fr', h1, hr.len, rfl, by rw [h2, hr.fl], fun t i v h => by simp [idxR_nil] at h, fun t i v _ hi hv => ?_⟩
  have := h3 i v hv
  rw [planR_get (idxR_some hi)] at this
  cases hl : idxR t loc 0 with
  | some j => rw [hl] at this; exact hr.hloc t j v hl this
  | none => rw [hl] at this; exact hr.hesc t i v hl hi this

/-- a call's first frame -/
noncomputable def initR (N : Nat) (args : List PV) (esc : List Nat) : (List PV → Option β) → Option β := List.rec (motive := fun _ => (List PV → Option β) → Option β) (fun k => k [])
  (fun t _ ih k => Bool.rec (motive := fun _ => Option β) none (nthR args t (ih fun l => k (.undef :: l)) fun v => ih fun l => k (v :: l)) (Nat.blt t N)) esc
theorem initR_some {N : Nat} {args : List PV} : ∀ {esc : List Nat} {k : List PV → Option β} {r : β}, initR N args esc k = some r →
    ∃ fr : List PV, k fr = some r ∧ fr.length = esc.length ∧ ∀ (i t : Nat) (v : PV), esc[i]? = some t → fr[i]? = some v → (args ++ List.replicate (N - args.length) .undef)[t]? = some v
  | [], k, r, h => ⟨[], h, rfl, fun i t v h => by simp at h⟩
  | a :: esc, k, r, h => by
    have h : (Bool.rec (motive := fun _ => Option β) none (nthR args a (initR N args esc fun l => k (.undef :: l)) fun v => initR N args esc fun l => k (v :: l)) (Nat.blt a N)) = some r := h
    cases hb : Nat.blt a N with
    | false => rw [hb] at h; cases h
    | true =>
      rw [hb] at h
      rw [Nat.blt_eq] at hb
      simp only [nthR_eq] at h
      have : ∃ w, (args ++ List.replicate (N - args.length) .undef)[a]? = some w ∧ (initR N args esc fun l => k (w :: l)) = some r := by
        cases ha : args[a]? with
        | none =>
          rw [ha] at h
          rw [List.getElem?_eq_none_iff] at ha
          refine ⟨.undef, ?_, h⟩
          rw [List.getElem?_append_right ha, List.getElem?_replicate]
          rw [if_pos (by omega)]
        | some w =>
          rw [ha] at h
          refine ⟨w, ?_, h⟩
          have := (List.getElem?_eq_some_iff.1 ha).1
          rw [List.getElem?_append_left this]; exact ha
      obtain ⟨w, hw, h⟩ := this
      obtain ⟨fr, h1, h2, h3⟩ := initR_some (k := fun l => k (w :: l)) h
      refine ⟨w :: fr, h1, by simp [h2], fun i t v ht hv => ?_⟩
      cases i with
      | zero =>
        obtain rfl : a = t := by simpa using ht
        obtain rfl : w = v := by simpa using hv
        exact hw
      | succ i => exact h3 i t v (by simpa using ht) (by simpa using hv)
theorem RelE.init {args : List PV} {k : List PV → Option β} {r : β} (h : initR N args esc k = some r) : ∃ fr, k fr = some r ∧ RelE N esc [] fr [] (args ++ List.replicate (N - args.length) .undef) := by
  obtain ⟨fr, h1, h2, h3⟩ := initR_some h
  refine ⟨fr, h1, by simp; omega, rfl, h2, fun t i v h => by simp [idxR_nil] at h, fun t i v _ hi hv => h3 i t v (idxR_some hi) hv⟩
end
end Go.MT
