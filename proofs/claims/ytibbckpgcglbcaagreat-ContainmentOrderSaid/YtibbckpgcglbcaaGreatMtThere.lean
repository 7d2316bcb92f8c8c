/-
  A light operation looks at nothing that is not there.
-/
import Derived.Test.YtibbckpgcglbcaaGreatMtAll
namespace Go.MT
section
variable {P : Program} {tm : Tmps} {n : Nat} {v : PV} {eff : Eff} {get : Nat → Option Obj}
def lookB : Builtin → Bool
  | .len | .append | .copy | .delete | .clear => true
  | _ => false
def Eff.light : Eff → Bool
  | .none | .new _ | .move _ _ => true
  | _ => false

theorem wc_upd {i o : Nat} {z : List PV} {w : PV} (h : (writeCells get i o z).map (fun e => (w, e)) = some (v, eff)) (he : eff.light = true) : False := by
  cases hw : writeCells get i o z with
  | none => rw [hw] at h; cases h
  | some e =>
    rw [hw] at h
    obtain ⟨_, rfl⟩ : _ ∧ e = eff := by simpa using h
    unfold writeCells at hw
    split at hw
    · split at hw
      · obtain rfl := Option.some.inj hw; simp [Eff.light] at he
      · cases hw
    · cases hw

theorem prim_there {op : Op} (h : primOp P get n op tm = some (v, eff)) (he : eff.light = true) : ∀ id ∈ touches tm op, ∃ o, get id = some o := by
  intro id hid
  simp only [touches, List.mem_filterMap] at hid
  obtain ⟨x, hx, hxo⟩ := hid
  cases op with
  | load t a =>
    obtain rfl : x = a := by simpa [lookers] using hx
    simp only [primOp] at h
    cases hl : loadT P get t (evalO tm x) with
    | none => rw [hl] at h; cases h
    | some v => exact loadT_there hl hxo
  | store t a y =>
    simp only [primOp] at h
    split at h
    · split at h
      · rename_i id' off _ _
        cases hw : writeCells get id' off (evalO tm y).cells with
        | none => rw [hw] at h; cases h
        | some e =>
          rw [hw] at h
          obtain ⟨_, rfl⟩ : _ ∧ e = eff := by simpa using h
          unfold writeCells at hw
          split at hw
          · split at hw
            · obtain rfl := Option.some.inj hw; simp [Eff.light] at he
            · cases hw
          · cases hw
      · cases h
    · cases h
  | nilCheck a =>
    obtain rfl : x = a := by simpa [lookers] using hx
    simp only [primOp] at h
    cases hp : evalO tm x <;> rw [hp] at h hxo <;> simp only [PV.objId] at hxo <;> try cases hxo
    · simp only [] at h
      split at h
      · rename_i hg; exact ⟨_, hg⟩
      · cases h
    all_goals cases h
  | fieldAddr s a f =>
    obtain rfl : x = a := by simpa [lookers] using hx
    simp only [primOp] at h
    split at h
    · split at h
      · split at h
        · cases hp : evalO tm x <;> rw [hp] at h hxo <;> simp only [PV.objId] at hxo <;> try cases hxo
          · simp only [] at h
            split at h
            · rename_i hg; exact ⟨_, hg⟩
            · cases h
          all_goals cases h
        · cases h
      · cases h
    · cases h
  | indexAddr t a i =>
    obtain rfl : x = a := by simpa [lookers] using hx
    simp only [primOp] at h
    split at h
    · split at h
      · cases hp : evalO tm x <;> rw [hp] at h hxo <;> simp only [PV.objId] at hxo <;> try cases hxo
        · cases h
        · simp only [] at h
          split at h
          · rename_i hg; exact ⟨_, hg⟩
          · cases h
        · cases h
      · cases h
    · split at h
      · cases hp : evalO tm x <;> rw [hp] at h hxo <;> simp only [PV.objId] at hxo <;> try cases hxo
        · simp only [] at h
          split at h
          · rename_i hg; exact ⟨_, hg⟩
          · cases h
        all_goals cases h
      · cases h
    · cases h
  | slice t a lo hi mx =>
    obtain rfl : x = a := by simpa [lookers] using hx
    cases mx with
    | some _ => simp [primOp] at h
    | none =>
      simp only [primOp] at h
      split at h
      · split at h
        · rename_i hp _; rw [hp] at hxo; simp [PV.objId] at hxo
        · split at h
          · split at h
            · rename_i hp; rw [hp] at hxo; simp [PV.objId] at hxo
            · rename_i hp; rw [hp] at hxo; simp [PV.objId] at hxo
            · rename_i hp
              rw [hp] at hxo
              simp only [PV.objId, Option.some.injEq] at hxo
              subst hxo
              split at h
              · split at h
                · rename_i hg; exact ⟨_, hg⟩
                · cases h
              · cases h
            · cases h
          · cases h
        · cases h
      · cases h
  | convert s d a =>
    obtain rfl : x = a := by simpa [lookers] using hx
    simp only [primOp] at h
    unfold convT at h
    split at h
    · rename_i hp; rw [hp] at hxo; simp [PV.objId] at hxo
    · rename_i hp; rw [hp] at hxo; simp [PV.objId] at hxo
    · split at h
      · split at h
        · rename_i hc; exact sliceCells_there hc hxo
        · cases h
      · cases h
    · rename_i hp; rw [hp] at hxo; simp [PV.objId] at hxo
    · cases h
  | lookup t a i ok =>
    obtain rfl : x = a := by simpa [lookers] using hx
    simp only [primOp] at h
    split at h
    · split at h
      · split at h
        · cases hp : evalO tm x <;> rw [hp] at h hxo <;> simp only [PV.objId] at hxo <;> try cases hxo
          · cases h
          · cases h
          · cases hg : get id with
            | none => simp [hg] at h
            | some o => exact ⟨o, rfl⟩
        · cases h
      · cases h
    · cases h
  | mapUpdate t a k y =>
    simp only [primOp] at h
    split at h
    · split at h
      · split at h
        · split at h
          · obtain ⟨_, rfl⟩ : _ ∧ _ = eff := by simpa using h
            simp [Eff.light] at he
          · cases h
        · cases h
      · cases h
    · cases h
  | call c =>
    obtain ⟨callee, args, ats⟩ := c
    cases callee with
    | value f => simp [lookers] at hx
    | invoke r m => simp [lookers] at hx
    | builtin b =>
      have harg : evalO tm x ∈ args.toList.map (evalO tm) := by
        have : x ∈ args.toList := by cases b <;> simp [lookers] at hx <;> simpa using hx
        exact List.mem_map.2 ⟨x, this, rfl⟩
      simp only [primOp] at h
      generalize evalO tm x = p at hxo harg
      generalize args.toList.map (evalO tm) = l at h harg
      have hb : lookB b = true := by cases b <;> simp [lookers] at hx <;> rfl
      clear hx
      cases l with
      | nil => cases harg
      | cons q l => cases l with
        | nil =>
          obtain rfl : p = q := by simpa using harg
          cases b with
          | len =>
            simp only [] at h
            split at h
            all_goals first
              | (cases h; done)
              | (cases p <;> simp only [PV.objId] at hxo <;> try cases hxo
                 all_goals first
                  | (cases h; done)
                  | (simp only [] at h
                     split at h
                     · rename_i hg; exact ⟨_, hg⟩
                     · cases h))
          | clear =>
            cases p <;> simp only [PV.objId] at hxo <;> try cases hxo
            · cases h
            · rename_i off len s
              simp only [] at h
              split at h
              · split at h
                · split at h
                  · cases hw : writeCells get id off (List.replicate len _).flatten with
                    | none => rw [hw] at h; cases h
                    | some e =>
                      unfold writeCells at hw
                      split at hw
                      · rename_i hg; exact ⟨_, hg⟩
                      · cases hw
                  · cases h
                · cases h
              · cases h
            · cases h
          | append => cases h
          | copy => cases p <;> cases h
          | delete => cases p <;> cases h
          | _ => cases hb
        | cons r l => cases l with
          | cons _ _ => cases b <;> first | (cases hb; done) | (cases h; done) | (cases q <;> (cases h; done))
          | nil =>
            have hpq : p = q ∨ p = r := by simpa using harg
            cases b with
            | append =>
              simp only [] at h
              split at h
              · split at h
                · split at h
                  · split at h
                    · split at h
                      · rcases hpq with rfl | rfl
                        · exact appendT_there h hxo
                        · simp [PV.objId] at hxo
                      · cases h
                    · cases h
                    · split at h
                      · rename_i hc
                        rcases hpq with rfl | rfl
                        · exact appendT_there h hxo
                        · exact sliceCells_there hc hxo
                      · cases h
                  · cases h
                · cases h
              · cases h
            | len => cases h
            | clear => cases q <;> cases h
            | copy =>
              cases q <;> try (cases h; done)
              simp only [] at h
              split at h
              · split at h
                · split at h
                  · split at h
                    · exact (wc_upd h he).elim
                    · cases h
                  · cases h
                · cases h
              · cases h
            | delete =>
              cases q <;> try (cases h; done)
              simp only [] at h
              split at h
              · split at h
                · split at h
                  · split at h
                    · obtain ⟨_, rfl⟩ : _ ∧ _ = eff := by simpa using h
                      simp [Eff.light] at he
                    · cases h
                  · cases h
                · cases h
              · cases h
            | _ => cases hb
  | _ => simp [lookers] at hx
end
end Go.MT
