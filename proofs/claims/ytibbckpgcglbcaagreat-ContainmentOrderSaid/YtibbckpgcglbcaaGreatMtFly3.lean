/-
  The evaluator for the kernel over short frames (3): regions, code, calls.
-/
import Derived.Test.YtibbckpgcglbcaaGreatMtFly2
namespace Go.MT

section
variable {β : Type}

noncomputable def wantedS (o : Oper) (ops : Array Oper) (loc esc : List Nat) (fr st : List PV) (yes no : Option β) : Option β := match o.guard with
  | none => yes
  | some (j, want) => match (ops[j]?).bind (·.dst) with
    | some t => evE loc esc fr st (.tmp t) fun v => match v with
      | .bool b => Bool.rec (motive := fun _ => Option β) (Bool.rec (motive := fun _ => Option β) yes no want) (Bool.rec (motive := fun _ => Option β) no yes want) b
      | .gone => no
      | _ => none
    | none => none
noncomputable def pushS (dst : Option Tmp) (N : Nat) (v : PV) (loc : List Nat) (st : List PV) (k : List Nat → List PV → Option β) : Option β := match dst with
  | none => k loc st
  | some d => Bool.rec (motive := fun _ => Option β) none (k (d :: loc) (v :: st)) (Nat.blt d N)

abbrev RegF (β : Type) := Cfg → CallR β → Nat → Array Oper → Nat → List Nat → List Nat → List PV → List PV → Nat → List Obj → (List Nat → List PV → Nat → List Obj → Option β) → Option β
noncomputable def stepS (o : Oper) (ih : RegF β) : RegF β := fun K CR floor ops N esc loc fr st n rs k =>
  wantedS o ops loc esc fr st (operS o K CR floor loc esc fr st n rs fun v _ n' rs' => pushS o.dst N v loc st fun loc' st' => ih K CR floor ops N esc loc' fr st' n' rs' k)
    (pushS o.dst N .gone loc st fun loc' st' => ih K CR floor ops N esc loc' fr st' n rs k)
noncomputable def endS : RegF β := fun _ _ _ _ _ _ loc _ st n rs k => k loc st n rs
noncomputable def opsS (l : List Oper) : RegF β := List.rec (motive := fun _ => RegF β) endS (fun o _ ih => stepS o ih) l

abbrev RegD (β : Type) := Cfg → CallR β → Nat → Array Oper → List (Nat × Nat) → Nat → List Nat → Nat → List (Nat × Fp) → List Nat → List PV → List PV → Nat → List Obj → (List (Nat × Fp) → List Nat → List PV → Nat → List Obj → Option β) → Option β
noncomputable def stepD (o : Oper) (ih : RegD β) : RegD β := fun K CR floor ops ps N esc i acc loc fr st n rs k =>
  wantedS o ops loc esc fr st (operS o K CR floor loc esc fr st n rs fun v fp n' rs' => pushS o.dst N v loc st fun loc' st' =>
      Bool.rec (motive := fun _ => Option β) (ih K CR floor ops ps N esc (Nat.succ i) acc loc' fr st' n' rs' k)
        (Bool.rec (motive := fun _ => Option β) none (ih K CR floor ops ps N esc (Nat.succ i) ((i, fp) :: acc) loc' fr st' n' rs' k) (okOps loc esc o.op)) (watchR ps i))
    (pushS o.dst N .gone loc st fun loc' st' => ih K CR floor ops ps N esc (Nat.succ i) acc loc' fr st' n rs k)
noncomputable def endD : RegD β := fun _ _ _ _ _ _ _ _ acc loc _ st n rs k => k acc loc st n rs
noncomputable def opsDS (l : List Oper) : RegD β := List.rec (motive := fun _ => RegD β) endD (fun o _ ih => stepD o ih) l

variable {N : Nat} {esc loc : List Nat} {fr st : List PV} {tm : Tmps} {K : Cfg} {CR : CallR β} {C : CallT} {floor : Nat}
theorem wantedS_some (hr : RelE N esc loc fr st tm) {ops : Array Oper} {o : Oper} {yes no : Option β} {r : β} (h : wantedS o ops loc esc fr st yes no = some r) : (wantedX ops o tm = some true ∧ yes = some r) ∨ (wantedX ops o tm = some false ∧ no = some r) := by
  unfold wantedS at h
  refine wantedR_some ?_
  unfold wantedR
  split at h
  · rename_i hg; simp only [hg]; exact h
  · rename_i j want hg
    simp only [hg]
    split at h
    · rename_i t ht
      simp only [ht]
      have h1 := (evE_some hr h).1
      rw [nthR_eq]
      simp only [evalO, List.getD] at h1
      cases hx : tm[t]? with
      | none => rw [hx] at h1; simp at h1
      | some v => rw [hx] at h1; exact h1
    · cases h
theorem pushS_some (hr : RelE N esc loc fr st tm) {dst : Option Tmp} {v : PV} {k : List Nat → List PV → Option β} {r : β} (h : pushS dst N v loc st k = some r) :
    ∃ loc' st', RelE N esc loc' fr st' (put dst v tm) ∧ k loc' st' = some r := by
  unfold pushS at h
  split at h
  · exact ⟨loc, st, hr, h⟩
  · rename_i d
    cases hb : Nat.blt d N with
    | false => rw [hb] at h; cases h
    | true =>
      rw [hb] at h
      rw [Nat.blt_eq] at hb
      exact ⟨_, _, hr.push hb, h⟩
theorem opsS_some (hC : CRok C CR) {ops : Array Oper} : ∀ (l : List Oper) {loc : List Nat} {st : List PV} {tm : Tmps} {rs : List Obj} {k : List Nat → List PV → Nat → List Obj → Option β} {r : β}, RelE N esc loc fr st tm →
    opsS l K CR floor ops N esc loc fr st rs.length rs k = some r →
    ∃ loc' st' tm' rs', RelE N esc loc' fr st' tm' ∧ opsX K C floor ops l tm rs.reverse = some (tm', rs'.reverse) ∧ k loc' st' rs'.length rs' = some r
  | [], loc, st, tm, rs, k, r, hr, h => ⟨loc, st, tm, rs, hr, rfl, h⟩
  | o :: l, loc, st, tm, rs, k, r, hr, h => by
    have h : wantedS o ops loc esc fr st (operS o K CR floor loc esc fr st rs.length rs fun v _ n' rs' => pushS o.dst N v loc st fun loc' st' => opsS l K CR floor ops N esc loc' fr st' n' rs' k)
      (pushS o.dst N .gone loc st fun loc' st' => opsS l K CR floor ops N esc loc' fr st' rs.length rs k) = some r := h
    rcases wantedS_some hr h with ⟨hw, h⟩ | ⟨hw, h⟩
    · obtain ⟨v, rs', fp, h1, _, h2⟩ := operS_some hC hr h
      obtain ⟨loc', st', hr', h2⟩ := pushS_some hr h2
      obtain ⟨loc'', st'', tm', rs'', h3, h4, h5⟩ := opsS_some hC l hr' h2
      exact ⟨loc'', st'', tm', rs'', h3, by simp only [opsX, hw, h1, h4], h5⟩
    · obtain ⟨loc', st', hr', h2⟩ := pushS_some hr h
      obtain ⟨loc'', st'', tm', rs'', h3, h4, h5⟩ := opsS_some hC l hr' h2
      exact ⟨loc'', st'', tm', rs'', h3, by simp only [opsX, hw, h4], h5⟩
theorem opsDS_some (hC : CRok C CR) {ops : Array Oper} {ps : List (Nat × Nat)} : ∀ (l : List Oper) {i : Nat} {acc : List (Nat × Fp)} {loc : List Nat} {st : List PV} {tm : Tmps} {rs : List Obj} {k : List (Nat × Fp) → List Nat → List PV → Nat → List Obj → Option β} {r : β}, RelE N esc loc fr st tm →
    opsDS l K CR floor ops ps N esc i acc loc fr st rs.length rs k = some r →
    ∃ loc' st' tm' rs', RelE N esc loc' fr st' tm' ∧ opsX K C floor ops l tm rs.reverse = some (tm', rs'.reverse) ∧
      k (((traceX K C floor ops l i tm rs.reverse).filter fun p => watchR ps p.1).reverse ++ acc) loc' st' rs'.length rs' = some r
  | [], i, acc, loc, st, tm, rs, k, r, hr, h => ⟨loc, st, tm, rs, hr, rfl, by
    have h' : k acc loc st rs.length rs = some r := h
    simpa [traceX] using h'⟩
  | o :: l, i, acc, loc, st, tm, rs, k, r, hr, h => by
    have h : wantedS o ops loc esc fr st (operS o K CR floor loc esc fr st rs.length rs fun v fp n' rs' => pushS o.dst N v loc st fun loc' st' =>
      Bool.rec (motive := fun _ => Option β) (opsDS l K CR floor ops ps N esc (i + 1) acc loc' fr st' n' rs' k)
        (Bool.rec (motive := fun _ => Option β) none (opsDS l K CR floor ops ps N esc (i + 1) ((i, fp) :: acc) loc' fr st' n' rs' k) (okOps loc esc o.op)) (watchR ps i))
      (pushS o.dst N .gone loc st fun loc' st' => opsDS l K CR floor ops ps N esc (i + 1) acc loc' fr st' rs.length rs k) = some r := h
    rcases wantedS_some hr h with ⟨hw, h⟩ | ⟨hw, h⟩
    · obtain ⟨v, rs', fp, h1, hfp, h2⟩ := operS_some hC hr h
      obtain ⟨loc', st', hr', h2⟩ := pushS_some hr h2
      cases hwa : watchR ps i with
      | false =>
        rw [hwa] at h2
        obtain ⟨loc'', st'', tm', rs'', h3, h4, h5⟩ := opsDS_some hC l hr' h2
        refine ⟨loc'', st'', tm', rs'', h3, by simp only [opsX, hw, h1, h4], ?_⟩
        simp only [traceX, hw, h1, List.filter_cons, hwa]
        exact h5
      | true =>
        rw [hwa] at h2
        cases ho : okOps loc esc o.op with
        | false => rw [ho] at h2; cases h2
        | true =>
          rw [ho] at h2
          obtain ⟨loc'', st'', tm', rs'', h3, h4, h5⟩ := opsDS_some hC l hr' h2
          refine ⟨loc'', st'', tm', rs'', h3, by simp only [opsX, hw, h1, h4], ?_⟩
          simp only [traceX, hw, h1, List.filter_cons, hwa, if_true, List.reverse_cons, List.append_assoc, List.cons_append, List.nil_append]
          rw [hfp ho] at h5
          exact h5
    · obtain ⟨loc', st', hr', h2⟩ := pushS_some hr h
      obtain ⟨loc'', st'', tm', rs'', h3, h4, h5⟩ := opsDS_some hC l hr' h2
      refine ⟨loc'', st'', tm', rs'', h3, by simp only [opsX, hw, h4], ?_⟩
      simp only [traceX, hw]
      exact h5

theorem traceX_calm {ops : Array Oper} : ∀ (l : List Oper) (i : Nat) (tm : Tmps) (σ : Store), ∀ p ∈ traceX K C floor ops l i tm σ, ∃ o, l[p.1 - i]? = some o ∧ (calm o.op = true → p.2.calm)
  | [], _, _, _, p, h => by simp [traceX] at h
  | o :: l, i, tm, σ, p, h => by
    have next : ∀ tm σ, p ∈ traceX K C floor ops l (i + 1) tm σ → ∃ o', (o :: l)[p.1 - i]? = some o' ∧ (calm o'.op = true → p.2.calm) := fun tm σ h => by
      obtain ⟨o', h1, h2⟩ := traceX_calm l (i + 1) tm σ p h
      have := (traceX_mem l _ _ _ p h).1
      refine ⟨o', ?_, h2⟩
      have e : p.1 - i = (p.1 - (i + 1)) + 1 := by omega
      rw [e]
      simpa using h1
    simp only [traceX] at h
    split at h
    · split at h
      · rename_i v σ' hx
        rcases List.mem_cons.1 h with rfl | h
        · refine ⟨o, by simp, fun hc => fpX_calm hc hx⟩
        · exact next _ _ h
      · cases h
    · exact next _ _ h
    · cases h
theorem traceS_ok {ops : Array Oper} {tm : Tmps} {σ : Store} (h : looseOk (((traceX K C floor ops ops.toList 0 tm σ).filter fun p => watchR (looseS ops) p.1).reverse ++ []) (looseS ops) = true) : traceOk (Region.before ops) (traceX K C floor ops ops.toList 0 tm σ) = true := by
  refine traceOk_of ?_
  have hs := traceX_sorted (K := K) (C := C) (floor := floor) (ops := ops) ops.toList 0 tm σ
  have hm := traceX_mem (K := K) (C := C) (floor := floor) (ops := ops) ops.toList 0 tm σ
  have hcalm := traceX_calm (K := K) (C := C) (floor := floor) (ops := ops) ops.toList 0 tm σ
  generalize traceX K C floor ops ops.toList 0 tm σ = t at h hs hm hcalm
  refine List.Pairwise.imp_of_mem ?_ hs
  rintro ⟨i, f⟩ ⟨j, g⟩ hp hq hlt
  simp only [] at hlt ⊢
  cases hb : ((Region.before ops).getD j 0).testBit i with
  | true => exact .inl rfl
  | false =>
    right
    obtain ⟨oi, hoi, hci⟩ := hcalm _ hp
    obtain ⟨oj, hoj, hcj⟩ := hcalm _ hq
    simp only [Nat.sub_zero] at hoi hoj hci hcj
    by_cases hcc : calm oi.op = true ∧ calm oj.op = true
    · exact Fp.calm_apart (hci hcc.1) (hcj hcc.2)
    · have hl : (i, j) ∈ looseS ops := looseS_mem hoi hoj hlt hb (by
        cases h1 : calm oi.op with
        | false => exact .inl rfl
        | true => cases h2 : calm oj.op with
          | false => exact .inr rfl
          | true => exact (hcc ⟨h1, h2⟩).elim)
      have fnd : ∀ i f, (i, f) ∈ t → watchR (looseS ops) i = true → findFp i ((t.filter fun p => watchR (looseS ops) p.1).reverse ++ []) = some f := fun i f h hw => findFp_mem (by simpa using ⟨h, hw⟩) fun g hg => by
        have hg : (i, g) ∈ t := by
          have : (i, g) ∈ t.filter fun p => watchR (looseS ops) p.1 := by simpa using hg
          exact (List.mem_filter.1 this).1
        exact sorted_unique hs h hg
      have hw := watchR_mem hl
      exact looseOk_mem h hl (fnd _ _ hp hw.1) (fnd _ _ hq hw.2)

/-! ### code -/
abbrev CodeS (β : Type) := Cfg → CallR β → Nat → Nat → Nat → List Nat → List PV → Nat → List Obj → (Ex → List PV → Nat → List Obj → Option β) → Option β
noncomputable def regN (ops : Array Oper) : CodeS β := fun K CR _ floor N esc fr n rs k =>
  opsS ops.toList K CR floor ops N esc [] fr [] n rs fun loc st n rs => wbR st (planR loc esc) fr fun fr => k .normal fr n rs
noncomputable def regD (ops : Array Oper) : CodeS β := fun K CR _ floor N esc fr n rs k =>
  List.rec (motive := fun _ => Option β) (opsS ops.toList K CR floor ops N esc [] fr [] n rs fun loc st n rs => wbR st (planR loc esc) fr fun fr => k .normal fr n rs)
    (fun _ _ _ => opsDS ops.toList K CR floor ops (looseS ops) N esc 0 [] [] fr [] n rs fun acc loc st n rs => Bool.rec (motive := fun _ => Option β) none (wbR st (planR loc esc) fr fun fr => k .normal fr n rs) (looseOk acc (looseS ops))) (looseS ops)
noncomputable def regS (ops : Array Oper) (draw : Bool) : CodeS β := Bool.rec (motive := fun _ => CodeS β) (regN ops) (regD ops) draw
noncomputable def skipS : CodeS β := fun _ _ _ _ _ _ fr n rs k => k .normal fr n rs
noncomputable def seqS (a b : CodeS β) : CodeS β := fun K CR fuel floor N esc fr n rs k => a K CR fuel floor N esc fr n rs fun ex fr n rs => exR ex (b K CR fuel floor N esc fr n rs k) fun ex => k ex fr n rs
noncomputable def condS (c : Operand) (a b : CodeS β) : CodeS β := fun K CR fuel floor N esc fr n rs k => evE [] esc fr [] c fun v => match v with
  | .bool v => Bool.rec (motive := fun _ => Option β) (b K CR fuel floor N esc fr n rs k) (a K CR fuel floor N esc fr n rs k) v
  | _ => none
noncomputable def blockS (id : Nat) (b : CodeS β) : CodeS β := fun K CR fuel floor N esc fr n rs k => b K CR fuel floor N esc fr n rs fun ex fr n rs => match ex with
  | .exit j => Bool.rec (motive := fun _ => Option β) (k (.exit j) fr n rs) (k .normal fr n rs) (Nat.beq j id)
  | .normal => k .normal fr n rs
  | .ret => k .ret fr n rs
noncomputable def iterS (b : CodeS β) (m : Nat) : CodeS β := Nat.rec (motive := fun _ => CodeS β) (fun _ _ _ _ _ _ _ _ _ _ => none)
  (fun _ ih K CR fuel floor N esc fr n rs k => b K CR fuel floor N esc fr n rs fun ex fr n rs => exR ex (ih K CR fuel floor N esc fr n rs k) fun ex => k ex fr n rs) m
noncomputable def loopS (b : CodeS β) : CodeS β := fun K CR fuel => iterS b fuel K CR fuel
noncomputable def exitS (id : Nat) : CodeS β := fun _ _ _ _ _ _ fr n rs k => k (.exit id) fr n rs
noncomputable def retS : CodeS β := fun _ _ _ _ _ _ fr n rs k => k .ret fr n rs
noncomputable def noS : CodeS β := fun _ _ _ _ _ _ _ _ _ _ => none
noncomputable def execS (c : Code) : CodeS β := Code.rec (motive := fun _ => CodeS β)
  skipS
  (fun _ ops draw => regS ops draw)
  (fun _ _ iha ihb => seqS iha ihb)
  (fun c _ _ iha ihb => condS c iha ihb)
  (fun id _ ih => blockS id ih)
  (fun _ ih => loopS ih)
  (fun _ _ _ _ _ _ => noS)
  (fun id => exitS id)
  (fun _ _ => noS)
  (fun _ => noS)
  (fun _ => noS)
  retS
  (fun _ => noS)
  c

theorem iterS_some {body : CodeS β} {b : Tmps → Store → Option (Ex × Tmps × Store)} {fuel : Nat}
    (hb : ∀ fr tm (rs : List Obj) k r, RelE N esc [] fr [] tm → body K CR fuel floor N esc fr rs.length rs k = some r → ∃ ex fr' tm' rs', RelE N esc [] fr' [] tm' ∧ b tm rs.reverse = some (ex, tm', rs'.reverse) ∧ k ex fr' rs'.length rs' = some r) :
    ∀ (m : Nat) (fr : List PV) (tm : Tmps) (rs : List Obj) (k : Ex → List PV → Nat → List Obj → Option β) (r : β), RelE N esc [] fr [] tm → iterS body m K CR fuel floor N esc fr rs.length rs k = some r →
      ∃ ex fr' tm' rs', RelE N esc [] fr' [] tm' ∧ iter b m tm rs.reverse = some (ex, tm', rs'.reverse) ∧ k ex fr' rs'.length rs' = some r
  | 0, fr, tm, rs, k, r, _, h => by cases h
  | m + 1, fr, tm, rs, k, r, hr, h => by
    have h : (body K CR fuel floor N esc fr rs.length rs fun ex fr n rs => exR ex (iterS body m K CR fuel floor N esc fr n rs k) fun ex => k ex fr n rs) = some r := h
    obtain ⟨ex, fr', tm', rs', hr', h1, h2⟩ := hb _ _ _ _ _ hr h
    cases ex with
    | normal =>
      simp only [exR] at h2
      obtain ⟨ex, fr'', tm'', rs'', hr'', h3, h4⟩ := iterS_some hb m _ _ _ _ _ hr' h2
      exact ⟨ex, fr'', tm'', rs'', hr'', by simp only [iter, h1, h3], h4⟩
    | ret => exact ⟨.ret, fr', tm', rs', hr', by simp only [iter, h1], h2⟩
    | exit j => exact ⟨.exit j, fr', tm', rs', hr', by simp only [iter, h1], h2⟩

theorem execS_some (hC : CRok C CR) {fuel : Nat} : ∀ (c : Code) (fr : List PV) (tm : Tmps) (rs : List Obj) (k : Ex → List PV → Nat → List Obj → Option β) (r : β), RelE N esc [] fr [] tm → execS c K CR fuel floor N esc fr rs.length rs k = some r →
    ∃ ex fr' tm' rs', RelE N esc [] fr' [] tm' ∧ exec K C fuel floor c tm rs.reverse = some (ex, tm', rs'.reverse) ∧ k ex fr' rs'.length rs' = some r := by
  intro c
  induction c with
  | skip => intro fr tm rs k r hr h; exact ⟨.normal, fr, tm, rs, hr, rfl, h⟩
  | region id ops draw =>
    intro fr tm rs k r hr h
    have h : regS ops draw K CR fuel floor N esc fr rs.length rs k = some r := h
    cases draw with
    | false =>
      obtain ⟨loc', st', tm', rs', hr', h1, h2⟩ := opsS_some hC _ hr h
      obtain ⟨fr', h3, hr''⟩ := hr'.back h2
      exact ⟨.normal, fr', tm', rs', hr'', by simp only [exec, h1]; simp, h3⟩
    | true =>
      have h : (List.rec (motive := fun _ => Option β) (opsS ops.toList K CR floor ops N esc [] fr [] rs.length rs fun loc st n rs => wbR st (planR loc esc) fr fun fr => k .normal fr n rs)
        (fun _ _ _ => opsDS ops.toList K CR floor ops (looseS ops) N esc 0 [] [] fr [] rs.length rs fun acc loc st n rs => Bool.rec (motive := fun _ => Option β) none (wbR st (planR loc esc) fr fun fr => k .normal fr n rs) (looseOk acc (looseS ops))) (looseS ops)) = some r := h
      cases hl : looseS ops with
      | nil =>
        rw [hl] at h
        obtain ⟨loc', st', tm', rs', hr', h1, h2⟩ := opsS_some hC _ hr h
        obtain ⟨fr', h3, hr''⟩ := hr'.back h2
        have := traceS_ok (K := K) (C := C) (floor := floor) (ops := ops) (tm := tm) (σ := rs.reverse) (by rw [hl]; rfl)
        exact ⟨.normal, fr', tm', rs', hr'', by simp only [exec, h1, this]; simp, h3⟩
      | cons a l =>
        rw [hl] at h
        simp only [] at h
        rw [← hl] at h
        obtain ⟨loc', st', tm', rs', hr', h1, h2⟩ := opsDS_some hC _ hr h
        cases ho : looseOk (((traceX K C floor ops ops.toList 0 tm rs.reverse).filter fun p => watchR (looseS ops) p.1).reverse ++ []) (looseS ops) with
        | false => rw [ho] at h2; cases h2
        | true =>
          rw [ho] at h2
          obtain ⟨fr', h3, hr''⟩ := hr'.back h2
          exact ⟨.normal, fr', tm', rs', hr'', by simp only [exec, h1, traceS_ok ho]; simp, h3⟩
  | seq a b iha ihb =>
    intro fr tm rs k r hr h
    have h : (execS a K CR fuel floor N esc fr rs.length rs fun ex fr n rs => exR ex (execS b K CR fuel floor N esc fr n rs k) fun ex => k ex fr n rs) = some r := h
    obtain ⟨ex, fr', tm', rs', hr', h1, h2⟩ := iha _ _ _ _ _ hr h
    cases ex with
    | normal =>
      simp only [exR] at h2
      obtain ⟨ex, fr'', tm'', rs'', hr'', h3, h4⟩ := ihb _ _ _ _ _ hr' h2
      exact ⟨ex, fr'', tm'', rs'', hr'', by simp only [exec, h1, h3], h4⟩
    | ret => exact ⟨.ret, fr', tm', rs', hr', by simp only [exec, h1], h2⟩
    | exit j => exact ⟨.exit j, fr', tm', rs', hr', by simp only [exec, h1], h2⟩
  | cond c a b iha ihb =>
    intro fr tm rs k r hr h
    have h : (evE [] esc fr [] c fun v => match v with
      | .bool v => Bool.rec (motive := fun _ => Option β) (execS b K CR fuel floor N esc fr rs.length rs k) (execS a K CR fuel floor N esc fr rs.length rs k) v
      | _ => none) = some r := h
    have h := (evE_some hr h).1
    split at h
    · rename_i b' hv
      cases b' with
      | true => obtain ⟨ex, fr', tm', rs', hr', h1, h2⟩ := iha _ _ _ _ _ hr h; exact ⟨ex, fr', tm', rs', hr', by simp only [exec, hv, h1], h2⟩
      | false => obtain ⟨ex, fr', tm', rs', hr', h1, h2⟩ := ihb _ _ _ _ _ hr h; exact ⟨ex, fr', tm', rs', hr', by simp only [exec, hv, h1], h2⟩
    · cases h
  | block id b ih =>
    intro fr tm rs k r hr h
    have h : (execS b K CR fuel floor N esc fr rs.length rs fun ex fr n rs => match ex with
      | .exit j => Bool.rec (motive := fun _ => Option β) (k (.exit j) fr n rs) (k .normal fr n rs) (Nat.beq j id)
      | .normal => k .normal fr n rs
      | .ret => k .ret fr n rs) = some r := h
    obtain ⟨ex, fr', tm', rs', hr', h1, h2⟩ := ih _ _ _ _ _ hr h
    cases ex with
    | normal => exact ⟨.normal, fr', tm', rs', hr', by simp only [exec, h1], h2⟩
    | ret => exact ⟨.ret, fr', tm', rs', hr', by simp only [exec, h1], h2⟩
    | exit j =>
      simp only [] at h2
      cases hb : Nat.beq j id with
      | true =>
        rw [hb] at h2
        obtain rfl := Nat.eq_of_beq_eq_true hb
        exact ⟨.normal, fr', tm', rs', hr', by simp only [exec, h1, if_true], h2⟩
      | false =>
        rw [hb] at h2
        exact ⟨.exit j, fr', tm', rs', hr', by simp only [exec, h1]; rw [if_neg (fun e => by subst e; simp at hb)], h2⟩
  | loop b ih =>
    intro fr tm rs k r hr h
    have h : iterS (execS b) fuel K CR fuel floor N esc fr rs.length rs k = some r := h
    exact iterS_some (b := exec K C fuel floor b) (fun fr tm rs k r hr h => ih fr tm rs k r hr h) fuel fr tm rs k r hr h
  | exit id => intro fr tm rs k r hr h; exact ⟨.exit id, fr, tm, rs, hr, rfl, h⟩
  | ret => intro fr tm rs k r hr h; exact ⟨.ret, fr, tm, rs, hr, rfl, h⟩
  | _ => intro fr tm rs k r hr h; cases h

/-! ### results, calls -/
noncomputable def resOneS (P : Program) (esc : List Nat) (fr : List PV) (n : Nat) (rs : List Obj) (v : ResultVar) (k : PV → Option β) : Option β := match v with
  | .tmp t => evE [] esc fr [] (.tmp t) k
  | .cell a t => evE [] esc fr [] (.tmp a) fun p => loadR P n rs t p k
noncomputable def resAllS (P : Program) (esc : List Nat) (fr : List PV) (n : Nat) (rs : List Obj) (l : List ResultVar) : (List PV → Option β) → Option β := List.rec (motive := fun _ => (List PV → Option β) → Option β) (fun k => k [])
  (fun v _ ih k => resOneS P esc fr n rs v fun x => ih fun xs => k (x :: xs)) l
noncomputable def resS (fn : Func) (P : Program) (esc : List Nat) (fr : List PV) (n : Nat) (rs : List Obj) (k : PV → Option β) : Option β := resAllS P esc fr n rs fn.results.toList fun vs => match vs with
  | [v] => k v
  | vs => k (.tup vs)
theorem resAllS_some {P : Program} (hr : RelE N esc [] fr [] tm) {rs : List Obj} : ∀ {l : List ResultVar} {k : List PV → Option β} {r : β}, resAllS P esc fr rs.length rs l k = some r →
    ∃ vs, mapO (fun | .tmp t => some (tm.getD t .undef) | .cell a t => loadT P (fun id => rs.reverse[id]?) t (tm.getD a .undef)) l = some vs ∧ k vs = some r
  | [], k, r, h => ⟨[], rfl, h⟩
  | v :: l, k, r, h => by
    have h : (resOneS P esc fr rs.length rs v fun x => resAllS P esc fr rs.length rs l fun xs => k (x :: xs)) = some r := h
    have : ∃ x, (match v with | .tmp t => some (tm.getD t .undef) | .cell a t => loadT P (fun id => rs.reverse[id]?) t (tm.getD a .undef)) = some x ∧ (resAllS P esc fr rs.length rs l fun xs => k (x :: xs)) = some r := by
      cases v with
      | tmp t =>
        have h : (evE [] esc fr [] (.tmp t) fun x => resAllS P esc fr rs.length rs l fun xs => k (x :: xs)) = some r := h
        exact ⟨_, rfl, (evE_some hr h).1⟩
      | cell a t =>
        have h : (evE [] esc fr [] (.tmp a) fun p => loadR P rs.length rs t p fun x => resAllS P esc fr rs.length rs l fun xs => k (x :: xs)) = some r := h
        obtain ⟨x, h1, h2⟩ := loadR_some rfl (evE_some hr h).1
        exact ⟨x, h1, h2⟩
    obtain ⟨x, h1, h2⟩ := this
    obtain ⟨xs, h3, h4⟩ := resAllS_some hr h2
    refine ⟨x :: xs, ?_, h4⟩
    simp only [mapO, h1, h3]
theorem resS_some {P : Program} (hr : RelE N esc [] fr [] tm) {fn : Func} {rs : List Obj} {k : PV → Option β} {r : β} (h : resS fn P esc fr rs.length rs k = some r) : ∃ v, resultsX P fn tm rs.reverse = some v ∧ k v = some r := by
  obtain ⟨vs, h1, h2⟩ := resAllS_some hr h
  have e : resultsX P fn tm rs.reverse = (match (some vs : Option (List PV)) with | some [v] => some v | some vs => some (.tup vs) | none => none) :=
    congrArg (fun o : Option (List PV) => match o with | some [v] => some v | some vs => some (.tup vs) | none => none) h1
  rw [e]
  split at h2
  · exact ⟨_, rfl, h2⟩
  · rename_i hne
    refine ⟨.tup vs, ?_, h2⟩
    split
    · rename_i v e
      obtain rfl := Option.some.inj e
      exact (hne _ rfl).elim
    · rename_i vs' _ e
      rw [Option.some.inj e]
    · rename_i e; cases e

noncomputable def leaveS (fn : Func) (P : Program) (esc : List Nat) (k : PV → Nat → List Obj → Option β) (ex : Ex) (fr : List PV) (n : Nat) (rs : List Obj) : Option β := match ex with
  | .exit _ => none
  | .normal => resS fn P esc fr n rs fun v => k v n rs
  | .ret => resS fn P esc fr n rs fun v => k v n rs
noncomputable def enterS (K : Cfg) (E : FuncId → List Nat) (CR : CallR β) (m floor f : Nat) (fn : Func) (c : Code) (args : List PV) (n : Nat) (rs : List Obj) (k : PV → Nat → List Obj → Option β) : Option β :=
  initR fn.ntmps args (E f) fun fr => execS c K CR m floor fn.ntmps (E f) fr n rs (leaveS fn K.P (E f) k)
theorem enterS_some {E : FuncId → List Nat} {f : Nat} (hC : CRok C CR) {m floor : Nat} {fn : Func} {c : Code} {args : List PV} {rs : List Obj} {k : PV → Nat → List Obj → Option β} {r : β} (h : enterS K E CR m floor f fn c args rs.length rs k = some r) :
    ∃ ex tm' rs' v, (∀ j, ex ≠ .exit j) ∧ exec K C m floor c (args ++ List.replicate (fn.ntmps - args.length) .undef) rs.reverse = some (ex, tm', rs'.reverse) ∧ resultsX K.P fn tm' rs'.reverse = some v ∧ k v rs'.length rs' = some r := by
  unfold enterS at h
  obtain ⟨fr, h, hr⟩ := RelE.init h
  obtain ⟨ex, fr', tm', rs', hr', h1, h2⟩ := execS_some hC _ _ _ _ _ _ hr h
  unfold leaveS at h2
  cases ex with
  | exit j => cases h2
  | normal => obtain ⟨v, h3, h4⟩ := resS_some hr' h2; exact ⟨_, tm', rs', v, by simp, h1, h3, h4⟩
  | ret => obtain ⟨v, h3, h4⟩ := resS_some hr' h2; exact ⟨_, tm', rs', v, by simp, h1, h3, h4⟩

/-- what is known of a call beforehand, branching in the kernel where it has to -/
abbrev XF (β : Type) := FuncId → List PV → Nat → List Obj → (PV → Option β) → Option β → Option β
def XOk (K : Cfg) (X : XF β) : Prop := ∀ f args (rs : List Obj) k d r, X f args rs.length rs k d = some r → (∃ v, K.ext f args rs.reverse = some v ∧ k v = some r) ∨ (K.ext f args rs.reverse = none ∧ d = some r)
noncomputable def extX (e : FuncId → List PV → Option PV) : XF β := fun f args _ _ k d => match e f args with
  | some v => fV v k
  | none => d
theorem extX_ok {K : Cfg} {e : FuncId → List PV → Option PV} (he : ∀ f args σ, K.ext f args σ = e f args) : XOk (β := β) K (extX e) := fun f args rs k d r h => by
  rw [he]
  unfold extX at h
  split at h
  · rename_i v hv; rw [fV_eq] at h; exact .inl ⟨v, hv, h⟩
  · rename_i hx; exact .inr ⟨hx, h⟩

noncomputable def pcallS (K : Cfg) (E : FuncId → List Nat) (X : XF β) (m : Nat) : CallR β := Nat.rec (motive := fun _ => CallR β) (fun _ _ _ _ _ _ => none)
  (fun m ih floor f args n rs k => X f args n rs (fun v => k v n rs) (match K.P.funcs[f]? with
      | none => none
      | some fn => match fn.body with
        | none => none
        | some c => Nat.rec (motive := fun _ => Option β) (enterS K E ih m n f fn c args n rs (doneR n k)) (fun p _ => Nat.rec (motive := fun _ => Option β) (enterS K E ih m n f fn c args n rs k) (fun _ _ => enterS K E ih m floor f fn c args n rs k) p) (K.pol f))) m

theorem pcallS_some {K : Cfg} {E : FuncId → List Nat} {X : XF β} (hX : XOk K X) : ∀ (m : Nat), CRok (pcall K m) (pcallS K E X m)
  | 0 => fun _ _ _ _ _ _ h => by cases h
  | m + 1 => fun fl f args rs k r h => by
    have ih := pcallS_some (E := E) hX m
    have h : X f args rs.length rs (fun v => k v rs.length rs) (match K.P.funcs[f]? with
        | none => none
        | some fn => match fn.body with
          | none => none
          | some c => (Nat.rec (motive := fun _ => Option β) (enterS K E (pcallS K E X m) m rs.length f fn c args rs.length rs (doneR rs.length k)) (fun p _ => Nat.rec (motive := fun _ => Option β) (enterS K E (pcallS K E X m) m rs.length f fn c args rs.length rs k) (fun _ _ => enterS K E (pcallS K E X m) m fl f fn c args rs.length rs k) p) (K.pol f) : Option β)) = some r := h
    simp only [pcall]
    rcases hX _ _ _ _ _ _ h with ⟨v, hv, h⟩ | ⟨hx, h⟩
    · exact ⟨v, rs, by simp only [hv], h⟩
    · simp only [hx]
      split at h
      · cases h
      · rename_i fn hfn
        simp only [hfn]
        split at h
        · cases h
        · rename_i c hb
          simp only [hb]
          rcases hp : K.pol f with _ | _ | p
          · rw [hp] at h
            obtain ⟨ex, tm', rs', v, h0, h1, h2, h3⟩ := enterS_some ih h
            simp only [true_or, if_true, List.length_reverse]
            rw [h1]
            unfold doneR at h3
            rw [frR_eq] at h3
            have fin : ∃ v2 rs2, finish 0 rs.length rs'.reverse v = (v2, rs2.reverse) ∧ k v2 rs2.length rs2 = some r := by
              unfold finish
              rw [if_pos rfl]
              cases hz : freezeR rs'.reverse rs.length v with
              | none => rw [hz] at h3; exact ⟨v, rs', rfl, h3⟩
              | some v' =>
                rw [hz] at h3
                simp only [] at h3
                cases hle : Nat.ble rs.length rs'.length with
                | false => rw [hle] at h3; cases h3
                | true =>
                  rw [hle] at h3
                  rw [Nat.ble_eq] at hle
                  simp only [dropR_eq] at h3
                  rw [show Nat.sub rs'.length rs.length = rs'.length - rs.length from rfl, if_pos (Nat.sub_le _ _)] at h3
                  refine ⟨v', rs'.drop (rs'.length - rs.length), ?_, ?_⟩
                  · simp only [Prod.mk.injEq, true_and]
                    rw [List.reverse_drop]
                    congr 1
                    omega
                  · have e : (rs'.drop (rs'.length - rs.length)).length = rs.length := by rw [List.length_drop]; omega
                    rw [e]; exact h3
            obtain ⟨v2, rs2, e1, e2⟩ := fin
            cases ex with
            | exit j => exact (h0 j rfl).elim
            | normal => exact ⟨v2, rs2, by simp only [h2, e1], e2⟩
            | ret => exact ⟨v2, rs2, by simp only [h2, e1], e2⟩
          · rw [hp] at h
            obtain ⟨ex, tm', rs', v, h0, h1, h2, h3⟩ := enterS_some ih h
            simp only [or_true, if_true, List.length_reverse]
            rw [h1]
            cases ex with
            | exit j => exact (h0 j rfl).elim
            | normal => exact ⟨v, rs', by simp only [h2]; rfl, h3⟩
            | ret => exact ⟨v, rs', by simp only [h2]; rfl, h3⟩
          · rw [hp] at h
            obtain ⟨ex, tm', rs', v, h0, h1, h2, h3⟩ := enterS_some ih h
            rw [if_neg (by omega), h1]
            cases ex with
            | exit j => exact (h0 j rfl).elim
            | normal => exact ⟨v, rs', by simp only [h2]; rfl, h3⟩
            | ret => exact ⟨v, rs', by simp only [h2]; rfl, h3⟩

/-- a run out of an empty store -/
noncomputable def runS (K : Cfg) (E : FuncId → List Nat) (X : XF (PV × List Obj)) (m : Nat) (f : FuncId) (args : List PV) : Option (PV × List Obj) := pcallS (β := PV × List Obj) K E X m 0 f args 0 [] fun v _ rs => some (v, rs)
theorem runS_some {K : Cfg} {E : FuncId → List Nat} {X : XF (PV × List Obj)} (hX : XOk K X) {m : Nat} {f : FuncId} {args : List PV} {v : PV} {rs : List Obj} (h : runS K E X m f args = some (v, rs)) : pcall K m 0 f args [] = some (v, rs.reverse) := by
  obtain ⟨v', rs', h1, h2⟩ := pcallS_some (E := E) hX m 0 f args [] _ _ h
  obtain ⟨rfl, rfl⟩ : v' = v ∧ rs' = rs := by simpa using h2
  exact h1
end
end Go.MT
