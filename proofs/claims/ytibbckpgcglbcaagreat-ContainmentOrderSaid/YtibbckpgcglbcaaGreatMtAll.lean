/-
  All operations that call no function, together; and that they look only at the objects that their operands name.
-/
import Derived.Test.YtibbckpgcglbcaaGreatMtOps8
namespace Go.MT

def PV.objId : PV → Option Nat
  | .ptr id _ => some id
  | .ref id _ _ _ => some id
  | .map id => some id
  | _ => none

section
variable {P : Program} {H : Hp} {o : Oper} {a : Act} {tm : Tmps} {n : Nat} {v : PV} {eff : Eff}

theorem prim_sound (hr : HR H) (hn : H.τ n = none) (hv : Opnds H tm a o.op) (h : primOp P H.τ n o.op tm = some (v, eff)) : OpOk P H o a n v eff := by
  generalize hop : o.op = op at h hv
  have mem : ∀ x, x ∈ op.operands.toList → V H (evalO tm x) (a.eval x) := hv
  cases op with
  | move x =>
    obtain ⟨rfl, rfl⟩ : _ = v ∧ _ = eff := by simpa [primOp] using h
    exact ok_move (.inl hop) hr (mem x (by simp [Op.operands]))
  | assign x =>
    obtain ⟨rfl, rfl⟩ : _ = v ∧ _ = eff := by simpa [primOp] using h
    exact ok_move (.inr hop) hr (mem x (by simp [Op.operands]))
  | pick c x y => exact ok_pick hop hr (mem c (by simp [Op.operands])) (mem x (by simp [Op.operands])) (mem y (by simp [Op.operands])) h
  | alloc e => exact ok_alloc hop hr hn h
  | box e x => exact ok_box hop hr hn (mem x (by simp [Op.operands])) h
  | build t parts => exact ok_build hop hr (fun i x hx => mem x (by simp [Op.operands]; exact ⟨i, by simpa using hx⟩)) h
  | buildSlice t len parts => exact ok_buildSlice hop hr hn (fun i x hx => mem x (by simp [Op.operands]; exact ⟨i, by simpa using hx⟩)) h
  | load t x => exact ok_load hop hr (mem x (by simp [Op.operands])) h
  | store t x y => exact ok_store hop hr (mem x (by simp [Op.operands])) (mem y (by simp [Op.operands])) h
  | nilCheck x => exact ok_nilCheck hop hr (mem x (by simp [Op.operands])) h
  | binOp op t x y t' => exact ok_binOp hop hr (mem x (by simp [Op.operands])) (mem y (by simp [Op.operands])) h
  | unOp op t x => exact ok_unOp hop hr (mem x (by simp [Op.operands])) h
  | convert s d x => exact ok_convert hop hr hn (mem x (by simp [Op.operands])) h
  | makeFunc f first cap =>
    cases f with
    | func f => exact ok_makeFunc hop hr (fun x hx => mem x (by simp [Op.operands]; exact .inl (by simpa using hx))) (fun x hx => mem x (by simp [Op.operands]; exact .inr (by simpa using hx))) h
    | _ => simp [primOp] at h
  | makeMap t r => exact ok_makeMap hop hr hn h
  | makeSlice t x y => exact ok_makeSlice hop hr hn (mem x (by simp [Op.operands])) (mem y (by simp [Op.operands])) h
  | slice t x lo hi mx => exact ok_slice hop hr (mem x (by simp [Op.operands])) (fun y hy => mem y (by simp [Op.operands, hy])) (fun y hy => mem y (by simp [Op.operands, hy])) h
  | fieldAddr s x f => exact ok_fieldAddr hop hr (mem x (by simp [Op.operands])) h
  | field s x f => exact ok_field hop hr (mem x (by simp [Op.operands])) h
  | indexAddr t x i => exact ok_indexAddr hop hr (mem x (by simp [Op.operands])) (mem i (by simp [Op.operands])) h
  | index t x i => exact ok_index hop hr (mem x (by simp [Op.operands])) (mem i (by simp [Op.operands])) h
  | lookup t x i ok => exact ok_lookup hop hr (mem x (by simp [Op.operands])) (mem i (by simp [Op.operands])) h
  | mapUpdate t m k x => exact ok_mapUpdate hop hr (mem m (by simp [Op.operands])) (mem k (by simp [Op.operands])) (mem x (by simp [Op.operands])) h
  | extract x i => exact ok_extract hop hr (mem x (by simp [Op.operands])) h
  | call c =>
    obtain ⟨callee, args, ats⟩ := c
    cases callee with
    | builtin b => exact ok_builtin hop hr hn (fun x hx => mem x (by simpa [Op.operands, Call.operands] using hx)) h
    | value f => simp [primOp] at h
    | invoke r m => simp [primOp] at h
  | _ => simp [primOp] at h

/-- the operands whose objects an operation looks at -/
def lookers (op : Op) : List Operand := match op with
  | .load _ a | .nilCheck a | .store _ a _ | .fieldAddr _ a _ | .indexAddr _ a _ | .slice _ a _ _ _ | .convert _ _ a | .lookup _ a _ _ | .mapUpdate _ a _ _ => [a]
  | .call c => match c.callee with
    | .builtin .len | .builtin .append | .builtin .copy | .builtin .delete | .builtin .clear => c.args.toList
    | _ => []
  | _ => []
theorem lookers_sub {op : Op} : ∀ x ∈ lookers op, x ∈ op.operands.toList := by
  intro x hx
  cases op with
  | call c =>
    obtain ⟨callee, args, ats⟩ := c
    cases callee with
    | builtin b => cases b <;> simp [lookers] at hx <;> simpa [Op.operands, Call.operands] using hx
    | _ => simp [lookers] at hx
  | _ => simp [lookers] at hx <;> simp [Op.operands, hx]
/-- the objects that an operation looks at -/
def touches (tm : Tmps) (op : Op) : List Nat := (lookers op).filterMap fun x => (evalO tm x).objId

variable {get get' : Nat → Option Obj}

theorem readCells_local {p : PV} {m : Nat} (h : ∀ id, p.objId = some id → get id = get' id) : readCells get p m = readCells get' p m := by
  cases p <;> simp only [readCells]
  rw [h _ rfl]
theorem loadT_local {t : TypeId} {p : PV} (h : ∀ id, p.objId = some id → get id = get' id) : loadT P get t p = loadT P get' t p := by
  unfold loadT
  simp only [readCells_local h]
theorem writeCells_local {id off : Nat} {vs : List PV} (h : get id = get' id) : writeCells get id off vs = writeCells get' id off vs := by
  unfold writeCells; rw [h]
theorem sliceCells_local {sz : Nat} {p : PV} (h : ∀ id, p.objId = some id → get id = get' id) : sliceCells get sz p = sliceCells get' sz p := by
  cases p with
  | ref id off len s => unfold sliceCells; simp only [h id rfl]
  | _ => rfl
theorem appendT_local {sz by_ k : Nat} {s : PV} {ys : List PV} (h : ∀ id, s.objId = some id → get id = get' id) : appendT get n sz by_ s ys k = appendT get' n sz by_ s ys k := by
  cases s with
  | ref id off len s => unfold appendT; simp only [h id rfl]
  | lst tight sz n cs => cases tight <;> rfl
  | _ => rfl
theorem convT_local {s d : TypeId} {x : PV} (h : ∀ id, x.objId = some id → get id = get' id) : convT P get n s d x = convT P get' n s d x := by
  have hs := sliceCells_local (sz := 1) h
  unfold convT
  rcases P.underlying s with _ | u1
  · rfl
  · rcases P.underlying d with _ | u2
    · rfl
    · cases u1 <;> cases u2 <;> first
        | rfl
        | (cases x <;> first | rfl | (simp only [hs]))

theorem prim_local {op : Op} (h : ∀ id, id ∈ touches tm op → get id = get' id) : primOp P get n op tm = primOp P get' n op tm := by
  have mem : ∀ x, x ∈ lookers op → ∀ id, (evalO tm x).objId = some id → get id = get' id := fun x hx id hid => h id (by simp only [touches, List.mem_filterMap]; exact ⟨x, hx, hid⟩)
  clear h
  cases op with
  | load t x => simp only [primOp]; rw [loadT_local (mem x (by simp [lookers]))]
  | store t x y =>
    have := mem x (by simp [lookers])
    simp only [primOp]
    cases hx : evalO tm x with
    | ptr id off => rw [hx] at this; simp only [writeCells_local (this id rfl)]
    | _ => rfl
  | nilCheck x =>
    have := mem x (by simp [lookers])
    simp only [primOp]
    cases hx : evalO tm x with
    | ptr id off => rw [hx] at this; simp only [this id rfl]
    | _ => rfl
  | convert s d x => simp only [primOp]; rw [convT_local (mem x (by simp [lookers]))]
  | makeFunc f _ _ => cases f <;> rfl
  | makeMap _ r => cases r <;> rfl
  | slice t x lo hi mx =>
    cases mx with
    | some _ => rfl
    | none =>
      have := mem x (by simp [lookers])
      simp only [primOp]
      rcases bound? tm 0 lo with _ | l
      · rfl
      · rcases P.underlying t with _ | u
        · rfl
        · cases u <;> first
            | rfl
            | (cases hx : evalO tm x with
               | ref id off len s => have h2 := this id (by rw [hx]; rfl); first | rfl | simp only [h2]
               | _ => rfl)
  | fieldAddr s x f =>
    have := mem x (by simp [lookers])
    simp only [primOp]
    cases hx : evalO tm x with
    | ptr id off => rw [hx] at this; simp only [this id rfl]
    | _ => rfl
  | indexAddr t x i =>
    have := mem x (by simp [lookers])
    simp only [primOp]
    cases hx : evalO tm x with
    | ptr id off => rw [hx] at this; simp only [this id rfl]
    | ref id off len s => rw [hx] at this; simp only [this id rfl]
    | _ => rfl
  | lookup t x i ok =>
    have := mem x (by simp [lookers])
    simp only [primOp]
    cases hx : evalO tm x with
    | map id => rw [hx] at this; simp only [this id rfl]
    | _ => rfl
  | mapUpdate t m k x =>
    have := mem m (by simp [lookers])
    simp only [primOp]
    rcases P.underlying t with _ | u
    · rfl
    · cases u <;> first
        | rfl
        | (cases hx : evalO tm m with
           | map id => have h2 := this id (by rw [hx]; rfl); first | rfl | simp only [h2]
           | _ => rfl)
  | call c =>
    obtain ⟨callee, args, ats⟩ := c
    cases callee with
    | value f => rfl
    | invoke r m => rfl
    | builtin b =>
      have key : ∀ b : Builtin, (∀ p, p ∈ args.toList.map (evalO tm) → ∀ id, p.objId = some id → get id = get' id) → primOp P get n (.call ⟨.builtin b, args, ats⟩) tm = primOp P get' n (.call ⟨.builtin b, args, ats⟩) tm := by
        clear mem
        intro b mem'
        simp only [primOp]
        generalize args.toList.map (evalO tm) = l at mem'
        cases l with
        | nil => cases b <;> rfl
        | cons p l =>
          cases l with
          | nil =>
            have h1 := mem' p (by simp)
            cases b <;> first
              | rfl
              | (cases p with
                 | ref id off len s => simp only [h1 id rfl, writeCells_local (h1 id rfl)]
                 | map id => simp only [h1 id rfl]
                 | _ => rfl)
          | cons q l =>
            have h1 := mem' p (by simp)
            have h2 := mem' q (by simp)
            have e1 := fun sz by_ k ys => appendT_local (n := n) (sz := sz) (by_ := by_) (k := k) (ys := ys) h1
            have e2 := fun sz => sliceCells_local (sz := sz) h2
            cases l with
            | nil =>
              cases b <;> first
                | rfl
                | (simp only [e1, e2])
                | (cases p with
                   | ref id off len s => simp only [writeCells_local (h1 id rfl), e2]
                   | map id => simp only [h1 id rfl]
                   | _ => rfl)
            | cons _ _ => cases b <;> first | rfl | (cases p <;> rfl)
      have arg : (∀ x ∈ args.toList, x ∈ lookers (.call ⟨.builtin b, args, ats⟩)) → ∀ p, p ∈ args.toList.map (evalO tm) → ∀ id, p.objId = some id → get id = get' id := fun hl p hp id hid => by
        simp only [List.mem_map] at hp
        obtain ⟨x, hx, rfl⟩ := hp
        exact mem x (hl x hx) id hid
      cases b <;> first
        | rfl
        | exact key _ (arg fun x hx => by simpa [lookers] using hx)
        | (simp only [primOp]
           generalize args.toList.map (evalO tm) = l
           cases l with
           | nil => rfl
           | cons p l => cases l <;> cases p <;> rfl)
  | _ => rfl

/-- a light operation looks at nothing that is not there -/
theorem readCells_there {p : PV} {m : Nat} {cs : List PV} (h : readCells get p m = some cs) {id : Nat} (hid : p.objId = some id) : ∃ o, get id = some o := by
  cases p <;> simp only [PV.objId] at hid <;> try cases hid
  · simp only [readCells] at h
    split at h
    · rename_i hg; exact ⟨_, hg⟩
    · cases h
  all_goals simp [readCells] at h
theorem loadT_there {t : TypeId} {p : PV} {v : PV} (h : loadT P get t p = some v) {id : Nat} (hid : p.objId = some id) : ∃ o, get id = some o := by
  unfold loadT at h
  split at h
  · cases hc : readCells get p _ with
    | none => rw [hc] at h; cases h
    | some cs => exact readCells_there hc hid
  · split at h
    · rename_i hc; exact readCells_there hc hid
    · cases h
  · cases h
theorem sliceCells_there {sz : Nat} {p : PV} {r : List PV × Nat} (h : sliceCells get sz p = some r) {id : Nat} (hid : p.objId = some id) : ∃ o, get id = some o := by
  cases p <;> simp only [PV.objId] at hid <;> try cases hid
  · simp [sliceCells] at h
  · simp only [sliceCells] at h
    split at h
    · split at h
      · rename_i hg; exact ⟨_, hg⟩
      · cases h
    · cases h
  · simp [sliceCells] at h
theorem appendT_there {sz by_ k : Nat} {s : PV} {ys : List PV} {r : PV × Eff} (h : appendT get n sz by_ s ys k = some r) {id : Nat} (hid : s.objId = some id) : ∃ o, get id = some o := by
  cases s <;> simp only [PV.objId] at hid <;> try cases hid
  · unfold appendT at h; split at h <;> cases h
  · unfold appendT at h
    split at h
    · simp only [] at h
      split at h
      · rename_i hg; exact ⟨_, hg⟩
      · cases h
    · simp only [] at h
      split at h
      · split at h
        · rename_i hg; exact ⟨_, hg⟩
        · cases h
      · cases h
  · unfold appendT at h; split at h <;> cases h
end
end Go.MT
