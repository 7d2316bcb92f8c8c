/-
  What the evaluator says of code is what the model does (2): code.
-/
import Derived.Test.YtibbckpgcglbcaaGreatMtSound
namespace Go.MT

def Ex.toExit : Ex → Exit
  | .normal => .normal
  | .ret => .ret
  | .exit id => .exit id

/-- what is asked of a region that draws its order -/
def DrawOK (K : Cfg) : Prop := ∀ (C : CallT) (floor : Nat), CallOK K C → ∀ (id : Nat) (ops : Array Oper) (tm tm' : Tmps) (σ σ' : Store) (H : Hp) (a : Act), regionOk ops = true →
  opsX K C floor ops ops.toList tm σ = some (tm', σ') → traceOk (Region.before ops) (traceX K C floor ops ops.toList 0 tm σ) = true → RS H tm σ a →
  ∀ (Q : Exit → Act → World → Prop), (∀ a' H', RS H' tm' σ' a' → Ext H H' → Q .normal a' H'.w) → (Code.region id ops true).wp K.P Q a H.w

section
variable {K : Cfg} {C : CallT} {n floor : Nat}

theorem iter_keeps {body : Tmps → Store → Option (Ex × Tmps × Store)} (hb : ∀ tm σ ex tm' σ', body tm σ = some (ex, tm', σ') → σ.length ≤ σ'.length ∧ ∀ id, id < floor → id < σ.length → σ'[id]? = σ[id]?) :
    ∀ (m : Nat) {tm tm' : Tmps} {σ σ' : Store} {ex : Ex}, iter body m tm σ = some (ex, tm', σ') → σ.length ≤ σ'.length ∧ ∀ id, id < floor → id < σ.length → σ'[id]? = σ[id]?
  | 0, _, _, _, _, _, h => by simp [iter] at h
  | m + 1, tm, tm', σ, σ', ex, h => by
    simp only [iter] at h
    split at h
    · rename_i tm1 σ1 h1
      obtain ⟨p1, p2⟩ := hb _ _ _ _ _ h1
      obtain ⟨q1, q2⟩ := iter_keeps hb m h
      exact ⟨Nat.le_trans p1 q1, fun id hf hl => by rw [q2 id hf (Nat.lt_of_lt_of_le hl p1), p2 id hf hl]⟩
    · exact hb _ _ _ _ _ h

theorem exec_keeps (hC : CallOK K C) : ∀ (c : Code) {tm tm' : Tmps} {σ σ' : Store} {ex : Ex}, exec K C n floor c tm σ = some (ex, tm', σ') →
    σ.length ≤ σ'.length ∧ ∀ id, id < floor → id < σ.length → σ'[id]? = σ[id]? := by
  intro c
  have refl : ∀ {ex ex' : Ex} {tm tm' : Tmps} {σ σ' : Store}, some (ex, tm, σ) = some (ex', tm', σ') → σ.length ≤ σ'.length ∧ ∀ id, id < floor → id < σ.length → σ'[id]? = σ[id]? := by
    intro ex ex' tm tm' σ σ' h
    obtain ⟨rfl, rfl, rfl⟩ : ex = ex' ∧ tm = tm' ∧ σ = σ' := by simpa using h
    exact ⟨Nat.le_refl _, fun _ _ _ => rfl⟩
  induction c with
  | skip => intro tm tm' σ σ' ex h; simp only [exec] at h; exact refl h
  | region id ops draw =>
    intro tm tm' σ σ' ex h
    simp only [exec] at h
    split at h
    · rename_i tm1 σ1 h1
      split at h
      · cases h
      · obtain ⟨rfl, rfl, rfl⟩ : _ = ex ∧ tm1 = tm' ∧ σ1 = σ' := by simpa using h
        exact opsX_keeps hC _ h1
    · cases h
  | seq x y ihx ihy =>
    intro tm tm' σ σ' ex h
    simp only [exec] at h
    split at h
    · rename_i tm1 σ1 h1
      obtain ⟨p1, p2⟩ := ihx h1
      obtain ⟨q1, q2⟩ := ihy h
      exact ⟨Nat.le_trans p1 q1, fun id hf hl => by rw [q2 id hf (Nat.lt_of_lt_of_le hl p1), p2 id hf hl]⟩
    · exact ihx h
  | cond c x y ihx ihy =>
    intro tm tm' σ σ' ex h
    simp only [exec] at h
    split at h
    · exact ihx h
    · exact ihy h
    · cases h
  | block id b ih =>
    intro tm tm' σ σ' ex h
    simp only [exec] at h
    split at h
    · rename_i j tm1 σ1 h1
      split at h
      · obtain ⟨rfl, rfl, rfl⟩ : _ = ex ∧ tm1 = tm' ∧ σ1 = σ' := by simpa using h
        exact ih h1
      · obtain ⟨rfl, rfl, rfl⟩ : _ = ex ∧ tm1 = tm' ∧ σ1 = σ' := by simpa using h
        exact ih h1
    · exact ih h
  | loop b ih => intro tm tm' σ σ' ex h; simp only [exec] at h; exact iter_keeps (fun _ _ _ _ _ h => ih h) n h
  | exit id => intro tm tm' σ σ' ex h; simp only [exec] at h; exact refl h
  | ret => intro tm tm' σ σ' ex h; simp only [exec] at h; exact refl h
  | _ => intro tm tm' σ σ' ex h; simp [exec] at h

theorem exec_wp (hC : CallOK K C) (hD : DrawOK K) : ∀ (c : Code), codeOk c = true → ∀ {tm tm' : Tmps} {σ σ' : Store} {ex : Ex} {H : Hp} {a : Act}, exec K C n floor c tm σ = some (ex, tm', σ') → RS H tm σ a →
    ∀ (Q : Exit → Act → World → Prop), (∀ a' H', RS H' tm' σ' a' → Ext H H' → Q ex.toExit a' H'.w) → c.wp K.P Q a H.w := by
  intro c
  induction c with
  | skip =>
    intro _ tm tm' σ σ' ex H a h hs Q hq
    simp only [exec] at h
    obtain ⟨rfl, rfl, rfl⟩ : _ = ex ∧ tm = tm' ∧ σ = σ' := by simpa using h
    exact wp_skip (hq a H hs (Ext.refl H))
  | region id ops draw =>
    intro hok tm tm' σ σ' ex H a h hs Q hq
    simp only [exec] at h
    split at h
    · rename_i tm1 σ1 h1
      split at h
      · cases h
      · rename_i hdt
        obtain ⟨rfl, rfl, rfl⟩ : _ = ex ∧ tm1 = tm' ∧ σ1 = σ' := by simpa using h
        cases draw with
        | false => exact wp_region_list (opsX_wp hC _ h1 hs hq)
        | true =>
          simp only [codeOk, Bool.not_true, Bool.false_or] at hok
          simp only [Bool.true_and, Bool.not_eq_true', Bool.not_eq_false] at hdt
          exact hD C floor hC id ops tm tm1 σ σ1 H a hok h1 hdt hs Q hq
    · cases h
  | seq x y ihx ihy =>
    intro hok tm tm' σ σ' ex H a h hs Q hq
    simp only [codeOk, Bool.and_eq_true] at hok
    simp only [exec] at h
    split at h
    · rename_i tm1 σ1 h1
      refine wp_seq (ihx hok.1 h1 hs _ fun a1 H1 hs1 hx1 => ?_)
      exact ihy hok.2 h hs1 Q fun a2 H2 hs2 hx2 => hq a2 H2 hs2 (hx1.trans hx2)
    · rename_i hn
      refine wp_seq (ihx hok.1 h hs _ fun a1 H1 hs1 hx1 => ?_)
      have := hq a1 H1 hs1 hx1
      cases ex with
      | normal => exact (hn _ _ h).elim
      | ret => exact this
      | exit j => exact this
  | cond c x y ihx ihy =>
    intro hok tm tm' σ σ' ex H a h hs Q hq
    simp only [codeOk, Bool.and_eq_true] at hok
    simp only [exec] at h
    have hc := V_evalO hs.tms c
    split at h
    · rename_i hb
      rw [hb] at hc; simp only [V] at hc
      exact wp_cond_true hc (ihx hok.1 h hs Q hq)
    · rename_i hb
      rw [hb] at hc; simp only [V] at hc
      exact wp_cond_false hc (ihy hok.2 h hs Q hq)
    · cases h
  | block id b ih =>
    intro hok tm tm' σ σ' ex H a h hs Q hq
    simp only [codeOk] at hok
    simp only [exec] at h
    split at h
    · rename_i j tm1 σ1 h1
      refine wp_block (ih hok h1 hs _ fun a1 H1 hs1 hx1 => ?_)
      simp only [Ex.toExit, Exit.inBlock]
      split at h
      · rename_i hj
        obtain ⟨rfl, rfl, rfl⟩ : _ = ex ∧ tm1 = tm' ∧ σ1 = σ' := by simpa using h
        rw [if_pos hj]
        exact hq a1 H1 hs1 hx1
      · rename_i hj
        obtain ⟨rfl, rfl, rfl⟩ : _ = ex ∧ tm1 = tm' ∧ σ1 = σ' := by simpa using h
        rw [if_neg hj]
        exact hq a1 H1 hs1 hx1
    · rename_i hn
      refine wp_block (ih hok h hs _ fun a1 H1 hs1 hx1 => ?_)
      have := hq a1 H1 hs1 hx1
      cases ex with
      | normal => exact this
      | ret => exact this
      | exit j => exact (hn _ _ _ h).elim
  | loop b ih =>
    intro hok tm tm' σ σ' ex H a h hs Q hq
    simp only [codeOk] at hok
    simp only [exec] at h
    intro fb k cs
    have key : ∀ (m : Nat) {tm : Tmps} {σ : Store} {H1 : Hp} {a : Act}, iter (exec K C n floor b) m tm σ = some (ex, tm', σ') → RS H1 tm σ a → Ext H H1 →
        ∃ e a' w', Q e a' w' ∧ Arrives K.P (lone (fb.at a (.code b :: .inLoop b :: k)) cs H1.w) fb k cs e a' w' := by
      intro m
      induction m with
      | zero => intro tm σ H1 a h; simp [iter] at h
      | succ m ihm =>
        intro tm σ H1 a h hs1 hx
        simp only [iter] at h
        split at h
        · rename_i tm1 σ1 h1
          have hw := ih hok h1 hs1 (fun e a' w' => e = .normal ∧ ∃ H2, RS H2 tm1 σ1 a' ∧ Ext H1 H2 ∧ w' = H2.w) (fun a' H' q1 q2 => ⟨rfl, H', q1, q2, rfl⟩)
          obtain ⟨e, a1, w1, ⟨rfl, H2, q1, q2, rfl⟩, harr⟩ := hw fb (.inLoop b :: k) cs
          obtain ⟨e2, a2, w2, hq2, harr2⟩ := ihm h q1 (hx.trans q2)
          exact ⟨e2, a2, w2, hq2, .of_steps (Steps.trans harr (.one step_inLoop)) harr2⟩
        · rename_i hn
          have hw := ih hok h hs1 (fun e a' w' => e = ex.toExit ∧ Q e a' w') (fun a' H' q1 q2 => ⟨rfl, hq a' H' q1 (hx.trans q2)⟩)
          obtain ⟨e, a1, w1, ⟨he, hq1⟩, harr⟩ := hw fb (.inLoop b :: k) cs
          cases ex with
          | normal => exact (hn _ _ h).elim
          | ret => subst he; exact ⟨_, a1, w1, hq1, .pass (x := .inLoop b) rfl (fun _ _ => .inl (by simp [Ex.toExit])) harr⟩
          | exit j => subst he; exact ⟨_, a1, w1, hq1, .pass (x := .inLoop b) rfl (fun _ _ => .inl (by simp [Ex.toExit])) harr⟩
    obtain ⟨e, a', w', q, r⟩ := key n h hs (Ext.refl H)
    exact ⟨e, a', w', q, .of_steps (.one step_loop) r⟩
  | exit id =>
    intro _ tm tm' σ σ' ex H a h hs Q hq
    simp only [exec] at h
    obtain ⟨rfl, rfl, rfl⟩ : _ = ex ∧ tm = tm' ∧ σ = σ' := by simpa using h
    exact wp_exit (hq a H hs (Ext.refl H))
  | ret =>
    intro _ tm tm' σ σ' ex H a h hs Q hq
    simp only [exec] at h
    obtain ⟨rfl, rfl, rfl⟩ : _ = ex ∧ tm = tm' ∧ σ = σ' := by simpa using h
    exact wp_ret (hq a H hs (Ext.refl H))
  | _ => intro _ tm tm' σ σ' ex H a h; simp [exec] at h

end
end Go.MT
