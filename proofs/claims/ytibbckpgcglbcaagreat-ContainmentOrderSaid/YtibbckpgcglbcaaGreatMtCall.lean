/-
  What the evaluator says of code is what the model does (3): calls, and what a call hands back.
-/
import Derived.Test.YtibbckpgcglbcaaGreatMtCode
namespace Go.MT

/-- the state behind a call whose own objects are let go -/
def Hp.shut (H : Hp) (n0 : Nat) : Hp :=
  { τ := fun id => if id < n0 then H.τ id else none, ρ := H.ρ, w := H.w,
    Z := fun b => H.Z b ∨ ∃ id o, n0 ≤ id ∧ H.τ id = some o ∧ o ≠ .dead ∧ (H.ρ id).blk = b }

section
variable {H H0 : Hp} {n0 : Nat}

theorem shut_bare (H : Hp) (n0 : Nat) : VExt H.bare (H.shut n0).bare :=
  ⟨fun id o ho => by simp [Hp.bare] at ho, fun b hb => ⟨.inl hb, rfl⟩⟩

mutual
theorem V_shut (h0 : ∀ id, n0 ≤ id → H0.τ id = none) : ∀ {pv u u0}, V H pv u → V H0 pv u0 → V (H.shut n0) pv u
  | .int .., _, _, h, _ => by simpa only [V] using h
  | .bool _, _, _, h, _ => by simpa only [V] using h
  | .str _, _, _, h, _ => by simpa only [V] using h
  | .nilptr, _, _, h, _ => by simpa only [V] using h
  | .nilslice, _, _, h, _ => by simpa only [V] using h
  | .nilfn, _, _, h, _ => by simpa only [V] using h
  | .nilmap, _, _, h, _ => by simpa only [V] using h
  | .undef, _, _, _, _ => by simp only [V]
  | .gone, _, _, h, _ => by simpa only [V] using h
  | .ptr id off, u, u0, h, hz => by
    simp only [V] at h hz ⊢
    obtain ⟨_, o0, ho0, _⟩ := hz
    have hlt : id < n0 := Nat.lt_of_not_le fun hle => by rw [h0 id hle] at ho0; cases ho0
    obtain ⟨h1, o, ho, hl⟩ := h
    exact ⟨h1, o, by simp [Hp.shut, hlt, ho], hl⟩
  | .ref id off len sz, u, u0, h, hz => by
    simp only [V] at h hz ⊢
    obtain ⟨_, o0, ho0, _⟩ := hz
    have hlt : id < n0 := Nat.lt_of_not_le fun hle => by rw [h0 id hle] at ho0; cases ho0
    obtain ⟨h1, o, ho, hl⟩ := h
    exact ⟨h1, o, by simp [Hp.shut, hlt, ho], hl⟩
  | .map id, u, u0, h, hz => by
    simp only [V] at h hz ⊢
    obtain ⟨_, o0, ho0, _⟩ := hz
    have hlt : id < n0 := Nat.lt_of_not_le fun hle => by rw [h0 id hle] at ho0; cases ho0
    obtain ⟨h1, o, ho, hl⟩ := h
    exact ⟨h1, o, by simp [Hp.shut, hlt, ho], hl⟩
  | .frz cs, u, u0, h, _ => by
    simp only [V] at h ⊢
    obtain ⟨b, o, us, e, hz, hlf, hc, hs⟩ := h
    exact ⟨b, o, us, e, fun hn => .inl (hz hn), hlf, hc, Vs_ext (shut_bare H n0) hs⟩
  | .lst t sz n cs, u, u0, h, _ => by
    simp only [V] at h ⊢
    obtain ⟨b, a, cap, us, e, h1, h2, h3, h4, hz, hlf, hc, hs⟩ := h
    exact ⟨b, a, cap, us, e, h1, h2, h3, h4, fun hn => .inl (hz hn), hlf, hc, Vs_ext (shut_bare H n0) hs⟩
  | .fn f x y, u, u0, h, hz => by
    simp only [V] at h hz ⊢
    obtain ⟨us, us', e, h1, h2⟩ := h
    obtain ⟨_, _, _, z1, z2⟩ := hz
    exact ⟨us, us', e, Vs_shut h0 h1 z1, Vs_shut h0 h2 z2⟩
  | .agg cs, u, u0, h, hz => by
    simp only [V] at h hz ⊢
    obtain ⟨us, e, h1⟩ := h
    obtain ⟨_, _, z1⟩ := hz
    exact ⟨us, e, Vs_shut h0 h1 z1⟩
  | .tup cs, u, u0, h, hz => by
    simp only [V] at h hz ⊢
    obtain ⟨us, e, h1⟩ := h
    obtain ⟨_, _, z1⟩ := hz
    exact ⟨us, e, Vs_shut h0 h1 z1⟩
theorem Vs_shut (h0 : ∀ id, n0 ≤ id → H0.τ id = none) : ∀ {cs us us0}, Vs H cs us → Vs H0 cs us0 → Vs (H.shut n0) cs us
  | [], _, _, h, _ => by simpa only [Vs] using h
  | c :: cs, us, us0, h, hz => by
    simp only [Vs] at h hz ⊢
    obtain ⟨u, r, e, h1, h2⟩ := h
    obtain ⟨_, _, _, z1, z2⟩ := hz
    exact ⟨u, r, e, V_shut h0 h1 z1, Vs_shut h0 h2 z2⟩
end

theorem shut_step (h0 : ∀ id, n0 ≤ id → H0.τ id = none) (hsame : ∀ id, id < n0 → H.τ id = H0.τ id) (hr0 : HR H0) (hr : HR H) (hx : Ext H0 H) : HR (H.shut n0) ∧ Ext H0 (H.shut n0) := by
  have lt : ∀ id o, (H.shut n0).τ id = some o → id < n0 ∧ H.τ id = some o := fun id o h => by
    simp only [Hp.shut] at h
    split at h
    · rename_i hlt; exact ⟨hlt, h⟩
    · cases h
  refine ⟨⟨fun id cs cap ht => ?_, fun id es ht => ?_, fun i j oi oj hi hj di dj hb => hr.inj i j oi oj (lt i oi hi).2 (lt j oj hj).2 di dj hb, fun b hb => ?_⟩, ?_⟩
  · obtain ⟨hlt, ht⟩ := lt id _ ht
    obtain ⟨c, e, fr, k1, k2, k2', k3, k4, k5, k6⟩ := hr.arr id cs cap ht
    obtain ⟨_, _, _, _, _, _, _, _, _, q⟩ := hr0.arr id cs cap (by rw [← hsame id hlt]; exact ht)
    exact ⟨c, e, fr, k1, k2, k2', k3, k4, k5, Vs_shut h0 k6 q⟩
  · obtain ⟨hlt, ht⟩ := lt id _ ht
    obtain ⟨es', clk, k1, k2, k3⟩ := hr.mp id es ht
    obtain ⟨_, _, _, q1, q2⟩ := hr0.mp id es (by rw [← hsame id hlt]; exact ht)
    exact ⟨es', clk, k1, Vs_shut h0 k2 q1, Vs_shut h0 k3 q2⟩
  · rcases hb with hb | ⟨id, o, h1, h2, h3, h4⟩
    · obtain ⟨k1, k2⟩ := hr.z b hb
      exact ⟨k1, fun id o ho hd => k2 id o (lt id o ho).2 hd⟩
    · refine ⟨by rw [← h4]; exact hr.lt h2 h3, fun id' o' ho' hd' e => ?_⟩
      obtain ⟨hlt, ho'⟩ := lt id' o' ho'
      have := hr.inj id' id o' o ho' h2 hd' h3 (by simp only [Hp.shut] at e; rw [e, h4])
      omega
  · refine { keep := fun id o ho => ?_, z := fun b hb => ?_, os := hx.os, tape := hx.tape, output := hx.output, size := hx.size, frame := fun b hb hf => ?_, img := fun id o ho hd hlt => ?_ }
    · have hlt : id < n0 := Nat.lt_of_not_le fun hle => by rw [h0 id hle] at ho; cases ho
      refine ⟨o, by simp only [Hp.shut, if_pos hlt]; rw [hsame id hlt]; exact ho, by cases o <;> simp [Obj.keeps], fun hd => ?_⟩
      obtain ⟨o', k1, k2, k3⟩ := hx.keep id o ho
      rw [hsame id hlt, ho] at k1
      obtain rfl := Option.some.inj k1
      exact k3 hd
    · obtain ⟨z1, z2⟩ := hx.z b hb
      exact ⟨.inl z1, z2⟩
    · obtain ⟨f1, f2⟩ := hx.frame b hb hf
      refine ⟨f1, fun z => ?_⟩
      rcases z with z | ⟨id, o, h1, h2, h3, h4⟩
      · exact f2 z
      · exact (hx.img id o h2 h3 (by rw [h4]; exact hb) (by rw [h4]; exact hf)).elim
    · exact hx.img id o (lt id o ho).2 hd hlt

theorem mapO_spec {f : PV → Option PV} {H H' : Hp} : ∀ {cs ds : List PV} {us : List Value}, mapO f cs = some ds → Vs H cs us → (∀ c d u, c ∈ cs → f c = some d → V H c u → V H' d u) → Vs H' ds us ∧ ds.length = cs.length ∧ ∀ d ∈ ds, ∃ c ∈ cs, f c = some d
  | [], ds, us, h, hv, _ => by
    simp only [mapO] at h
    obtain rfl := Option.some.inj h
    exact ⟨by simpa only [Vs] using hv, rfl, by simp⟩
  | c :: cs, ds, us, h, hv, hf => by
    simp only [mapO] at h
    split at h
    · rename_i d r hd hr
      obtain rfl := Option.some.inj h
      simp only [Vs] at hv ⊢
      obtain ⟨u, us', rfl, h1, h2⟩ := hv
      obtain ⟨q1, q2, q3⟩ := mapO_spec hr h2 fun c d u hc => hf c d u (by simp [hc])
      exact ⟨⟨u, us', rfl, hf c d u (by simp) hd h1, q1⟩, by simp [q2], fun x hx => by
        rcases List.mem_cons.1 hx with rfl | hx
        · exact ⟨c, by simp, hd⟩
        · obtain ⟨c', m1, m2⟩ := q3 x hx
          exact ⟨c', by simp [m1], m2⟩⟩
    · cases h

theorem freezeD_spec {σ : Store} (hr : HR H) (hsub : H.τ = view σ) : ∀ (d : Nat) {v v' : PV} {u : Value}, freezeD σ n0 d v = some v' → V H v u → V (H.shut n0).bare v' u ∧ v'.leaf = true
  | 0, v, v', u, h, _ => by simp [freezeD] at h
  | d + 1, v, v', u, h, hv => by
    have plain : ∀ {v}, v.closedLeaf = true → V H v u → V (H.shut n0).bare v u ∧ v.leaf = true := fun hc hv => ⟨V_ext (shut_bare H n0) (closed_V hc hv), closed_leaf hc⟩
    unfold freezeD at h
    split at h
    · rename_i id off len sz
      split at h
      · cases h
      · rename_i hid
        split at h
        · rename_i cs cap ht
          split at h
          · rename_i hle
            split at h
            · rename_i fs hf
              obtain rfl := Option.some.inj h
              have ht' : H.τ id = some (.arr cs cap) := by rw [hsub]; exact ht
              obtain ⟨c, e, fr, k1, k2, k2', k3, k4, k5, k6⟩ := hr.arr id cs cap ht'
              simp only [V] at hv
              obtain ⟨_, ob, hob, hlv⟩ := hv
              rw [ht'] at hob
              obtain rfl := Option.some.inj hob
              obtain ⟨_, _, cap', b, a, e0, rfl, l1, l2, l3, l4⟩ := hlv (by simp)
              obtain ⟨rfl, rfl⟩ := Obj.arr.inj e0
              have hseg : Vs H ((cs.drop off).take (len * sz)) ((c.toList.drop ((H.ρ id).base + off)).take (len * sz)) := by
                have := Vs_take (Vs_drop k6 off) (len * sz)
                rw [List.drop_take, List.drop_drop, List.take_take] at this
                rwa [Nat.min_eq_left (by omega)] at this
              obtain ⟨q1, q2, q3⟩ := mapO_spec (H' := (H.shut n0).bare) hf hseg fun c d' u _ hcd hcu => (freezeD_spec hr hsub d hcd hcu).1
              have q2' : fs.length = len * sz := by rw [q2]; simp; omega
              refine ⟨?_, rfl⟩
              simp only [V]
              refine ⟨b, a, cap', (c.toList.drop ((H.ρ id).base + off)).take (len * sz), rfl, l1, fun htt => ?_, l2, q2', fun hne => ?_, fun x hx => ?_, ?_, q1⟩
              · simp only [beq_iff_eq] at htt
                have := k3 _ htt
                have h5 : cap' * sz = len * sz := by omega
                exact Nat.eq_of_mul_eq_mul_right l2 h5
              · rcases l4 with l4 | ⟨l4, _⟩
                · exfalso; apply hne
                  have : len = 0 := by omega
                  subst this
                  simpa using q2'
                · refine .inr ⟨id, _, by omega, ht', by simp, l4.symm⟩
              · obtain ⟨c', m1, m2⟩ := q3 x hx
                obtain ⟨i, hi⟩ := List.getElem?_of_mem m1
                have hilt := (List.getElem?_eq_some_iff.1 hi)
                obtain ⟨u', g1, g2⟩ := Vs_get hseg i hilt.1
                rw [hilt.2] at g2
                exact (freezeD_spec hr hsub d m2 g2).2
              · rcases l4 with l4 | ⟨l4, l5⟩
                · have : len = 0 := by omega
                  subst this
                  intro k hk; simp at hk
                · rw [l4, l5]
                  exact cellsAt_block k1
            · cases h
          · cases h
        · cases h
    · split at h
      · rename_i hc
        obtain rfl := Option.some.inj h
        exact plain hc hv
      · cases h

theorem freezeT_spec {σ : Store} (hr : HR H) (hsub : H.τ = view σ) {v v' : PV} {u : Value} (h : freezeT σ n0 v = some v') (hv : V H v u) : V (H.shut n0) v' u := by
  unfold freezeT at h
  split at h
  · rename_i id off len sz
    split at h
    · rename_i hlt
      obtain rfl := Option.some.inj h
      simp only [V] at hv ⊢
      obtain ⟨h1, o, ho, hl⟩ := hv
      exact ⟨h1, o, by simp [Hp.shut, hlt, ho], hl⟩
    · exact V_bare (freezeD_spec hr hsub 20 h hv).1
  · rename_i id off
    split at h
    · rename_i hlt
      obtain rfl := Option.some.inj h
      simp only [V] at hv ⊢
      obtain ⟨h1, o, ho, hl⟩ := hv
      exact ⟨h1, o, by simp [Hp.shut, hlt, ho], hl⟩
    · cases h
  · rename_i id
    split at h
    · rename_i hlt
      obtain rfl := Option.some.inj h
      simp only [V] at hv ⊢
      obtain ⟨h1, o, ho, hl⟩ := hv
      exact ⟨h1, o, by simp [Hp.shut, hlt, ho], hl⟩
    · cases h
  · split at h
    · rename_i hc
      obtain rfl := Option.some.inj h
      exact V_bare (V_ext (shut_bare H n0) (closed_V hc hv))
    · cases h

theorem freezeA_spec {σ : Store} (hr : HR H) (hsub : H.τ = view σ) {v v' : PV} {u : Value} (h : freezeA σ n0 v = some v') (hv : V H v u) : V (H.shut n0) v' u := by
  unfold freezeA at h
  split at h
  · rename_i cs
    rw [Option.map_eq_some_iff] at h
    obtain ⟨ds, h, rfl⟩ := h
    simp only [V] at hv ⊢
    obtain ⟨us, rfl, hv⟩ := hv
    exact ⟨us, rfl, (mapO_spec (H' := H.shut n0) h hv fun c d u _ h1 h2 => freezeT_spec hr hsub h1 h2).1⟩
  · exact freezeT_spec hr hsub h hv

theorem freezeR_spec {σ : Store} (hr : HR H) (hsub : H.τ = view σ) {v v' : PV} {u : Value} (h : freezeR σ n0 v = some v') (hv : V H v u) : V (H.shut n0) v' u := by
  unfold freezeR at h
  split at h
  · rename_i cs
    rw [Option.map_eq_some_iff] at h
    obtain ⟨ds, h, rfl⟩ := h
    simp only [V] at hv ⊢
    obtain ⟨us, rfl, hv⟩ := hv
    exact ⟨us, rfl, (mapO_spec (H' := H.shut n0) h hv fun c d u _ h1 h2 => freezeA_spec hr hsub h1 h2).1⟩
  · exact freezeA_spec hr hsub h hv

end

theorem results_spec {P : Program} {H : Hp} {fn : Func} {tm : Tmps} {σ : Store} {a : Act} {v : PV} (h : resultsX P fn tm σ = some v) (hs : RS H tm σ a) : ∃ u, (results fn a.tmps).run P H.w = .ok u H.w ∧ V H v u := by
  have one : ∀ (l : List ResultVar) (vs : List PV), mapO (fun | .tmp t => some (tm.getD t .undef) | .cell a t => loadT P (fun id => σ[id]?) t (tm.getD a .undef)) l = some vs →
      ∃ us, (∀ g : ResultVar → Sem Value, (∀ t, g (.tmp t) = pure (a.tmps.getD t undef)) → (∀ b t, g (.cell b t) = do loadVar t (← asAddr (a.tmps.getD b undef))) → (l.mapM g).run P H.w = .ok us H.w) ∧ Vs H vs us := by
    intro l
    induction l with
    | nil =>
      intro vs h
      simp only [mapO] at h
      obtain rfl := Option.some.inj h
      exact ⟨[], fun _ _ _ => by simp, by simp [Vs]⟩
    | cons r l ih =>
      intro vs h
      simp only [mapO] at h
      split at h
      · rename_i y ys h1 h2
        obtain rfl := Option.some.inj h
        obtain ⟨us, q1, q2⟩ := ih ys h2
        have hr : ∃ u, (∀ g : ResultVar → Sem Value, (∀ t, g (.tmp t) = pure (a.tmps.getD t undef)) → (∀ b t, g (.cell b t) = do loadVar t (← asAddr (a.tmps.getD b undef))) → (g r).run P H.w = .ok u H.w) ∧ V H y u := by
          cases r with
          | tmp t =>
            simp only [Option.some.injEq] at h1
            subst h1
            exact ⟨_, fun g e _ => by rw [e]; rfl, V_evalO hs.tms (.tmp t)⟩
          | cell b t =>
            simp only [] at h1
            have hv := V_evalO hs.tms (.tmp b)
            simp only [evalO, Act.eval] at hv
            have h1' : loadT P H.τ t (tm.getD b .undef) = some y := by rw [hs.sub]; exact h1
            obtain ⟨u, g1, g2⟩ := run_loadT hs.hr h1' hv
            refine ⟨u, fun g _ e' => ?_, g2⟩
            rw [e']
            have hp : ∃ bb oo, a.tmps.getD b undef = .pointer (some ⟨bb, oo, none⟩) := by
              unfold loadT at h1'
              split at h1'
              · cases hc : readCells H.τ (tm.getD b .undef) _ with
                | none => rw [hc] at h1'; simp at h1'
                | some cs => obtain ⟨bb, oo, _, e, _⟩ := readCells_spec hs.hr hc hv; exact ⟨bb, oo, e⟩
              · split at h1'
                · rename_i hc
                  obtain ⟨bb, oo, _, e, _⟩ := readCells_spec hs.hr hc hv; exact ⟨bb, oo, e⟩
                · cases h1'
              · cases h1'
            obtain ⟨bb, oo, e⟩ := hp
            rw [e] at g1 ⊢
            simpa [Instr.loadAt, Instr.sureAddr, asAddr] using g1
        obtain ⟨u, g1, g2⟩ := hr
        refine ⟨u :: us, fun g e1 e2 => ?_, by simp only [Vs]; exact ⟨u, us, rfl, g2, q2⟩⟩
        rw [List.mapM_cons]
        simp only [Sem.run_bind]
        rw [g1 g e1 e2]
        simp only [Result.andThen_ok, q1 g e1 e2, Sem.run_pure]
      · cases h
  unfold resultsX at h
  split at h
  · rename_i x hm
    obtain rfl := Option.some.inj h
    obtain ⟨us, q1, q2⟩ := one _ _ hm
    simp only [Vs] at q2
    obtain ⟨u, r, rfl, q2, rfl⟩ := q2
    refine ⟨u, ?_, q2⟩
    unfold results
    rw [Sem.run_bind, Array.mapM_eq_mapM_toList, Sem.run_map, q1 _ (fun _ => rfl) (fun _ _ => rfl)]
    simp
  · rename_i vs hne hm
    obtain rfl := Option.some.inj h
    obtain ⟨us, q1, q2⟩ := one _ _ hm
    have hl := Vs_length q2
    have hus : us.length ≠ 1 := fun e => by
      rw [hl] at e
      match vs, e with
      | [x], _ => exact hne x rfl
    refine ⟨.tuple us.toArray, ?_, by simp only [V]; exact ⟨_, rfl, by simpa using q2⟩⟩
    unfold results
    rw [Sem.run_bind, Array.mapM_eq_mapM_toList, Sem.run_map, q1 _ (fun _ => rfl) (fun _ _ => rfl)]
    simp [hus]
  · cases h

/-- what is asked of what is known beforehand -/
def ExtOK (K : Cfg) : Prop := ∀ f args σ v, K.ext f args σ = some v → SumAt K.P f args σ v
/-- what is asked of functions with one -/
def FuncsOK (K : Cfg) : Prop := ∀ (f : FuncId) (fn : Func) (c : Code), K.P.funcs[f]? = some fn → fn.body = some c → codeOk c = true ∧ fn.name ≠ "runtime.NumGoroutine"

theorem pcall_ok {K : Cfg} (hE : ExtOK K) (hF : FuncsOK K) (hD : DrawOK K) : ∀ k, CallOK K (pcall K k)
  | 0 => fun floor f args σ v σ' h => by simp [pcall] at h
  | k + 1 => fun floor f args σ v σ' h => by
    have ih := pcall_ok hE hF hD k
    simp only [pcall] at h
    split at h
    · rename_i v' he
      obtain ⟨rfl, rfl⟩ : v' = v ∧ σ = σ' := by simpa using h
      refine ⟨⟨Nat.le_refl _, fun _ _ _ => rfl⟩, fun H as hsub hr hv => ?_⟩
      rcases hE f args _ _ he H as hsub hr hv with ⟨fn, c, h1, h2, h3, h4⟩ | ⟨u, h1, h2⟩
      · refine .inl ⟨fn, c, h1, h2, h3, h4.mono ?_⟩
        rintro e w' ⟨u, H', q1, q2, q3, q4, q5, q6⟩
        exact ⟨u, H', q1, q2, q3, q4, q5, by rw [q6, hsub]⟩
      · exact .inr ⟨u, h1, h2, rfl⟩
    split at h
    · cases h
    · rename_i fn hfn
      split at h
      · cases h
      · rename_i c hb
        obtain ⟨hok, hng⟩ := hF f fn c hfn hb
        split at h
        · cases h
        · rename_i ex tm σ1 hne hex
          split at h
          · rename_i v1 hres
            have hfin : finish (K.pol f) σ.length σ1 v1 = (v, σ') := Option.some.inj h
            obtain ⟨hlen, hkeep⟩ := exec_keeps ih c hex
            have hkeepP : (K.pol f = 0 ∨ K.pol f = 1) → ∀ id, id < σ.length → σ1[id]? = σ[id]? := fun hp id hl => hkeep id (by rw [if_pos hp]; exact hl) hl
            have htake : (K.pol f = 0 ∨ K.pol f = 1) → σ1.take σ.length = σ := fun hp => by
              apply List.ext_getElem?
              intro i
              by_cases hi : i < σ.length
              · rw [List.getElem?_take_of_lt hi, hkeepP hp i hi]
              · rw [List.getElem?_eq_none (by simp; omega), List.getElem?_eq_none (by omega)]
            refine ⟨?_, fun H as hsub hr hv => .inl ⟨fn, c, hfn, hb, hng, ?_⟩⟩
            · unfold finish at hfin
              split at hfin
              · rename_i hm
                split at hfin
                · obtain ⟨rfl, rfl⟩ : _ = v ∧ _ = σ' := by simpa using hfin
                  rw [htake (.inl hm)]
                  exact ⟨Nat.le_refl _, fun _ _ _ => rfl⟩
                · obtain ⟨rfl, rfl⟩ : v1 = v ∧ σ1 = σ' := by simpa using hfin
                  exact ⟨hlen, hkeep⟩
              · obtain ⟨rfl, rfl⟩ : v1 = v ∧ σ1 = σ' := by simpa using hfin
                exact ⟨hlen, hkeep⟩
            · refine calls_of_wp hfn hb ?_
              have hs : RS H (args ++ List.replicate (fn.ntmps - args.length) .undef) σ { tmps := as ++ Array.replicate (fn.ntmps - as.size) undef, defers := [] } := by
                refine ⟨?_, rfl, hsub, hr⟩
                have hl := Vs_length hv
                simp only [Array.length_toList] at hl
                simp only [Array.toList_append, Array.toList_replicate, hl]
                refine Vs_append hv ?_
                generalize fn.ntmps - args.length = m
                induction m with
                | zero => simp [Vs]
                | succ m ihm => rw [List.replicate_succ, List.replicate_succ]; simp only [Vs]; exact ⟨_, _, rfl, by simp only [V], ihm⟩
              refine exec_wp ih hD c hok hex hs _ fun a' H' hs' hx => ?_
              obtain ⟨u, r1, r2⟩ := results_spec hres hs'
              have hpost : ∃ H2 : Hp, H2.w = H'.w ∧ V H2 v u ∧ HR H2 ∧ Ext H H2 ∧ H2.τ = view σ' := by
                unfold finish at hfin
                split at hfin
                · rename_i hm
                  split at hfin
                  · rename_i v2 hfz
                    obtain ⟨rfl, rfl⟩ : v2 = v ∧ σ1.take σ.length = σ' := by simpa using hfin
                    have h0 : ∀ id, σ.length ≤ id → H.τ id = none := fun id hle => by rw [hsub]; simp only [view]; exact List.getElem?_eq_none hle
                    have hsame : ∀ id, id < σ.length → H'.τ id = H.τ id := fun id hl => by rw [hs'.sub, hsub]; exact hkeepP (.inl hm) id hl
                    obtain ⟨s1, s2⟩ := shut_step h0 hsame hr hs'.hr hx
                    refine ⟨H'.shut σ.length, rfl, freezeR_spec hs'.hr hs'.sub hfz r2, s1, s2, ?_⟩
                    rw [htake (.inl hm)]
                    funext id
                    simp only [Hp.shut]
                    split
                    · rename_i hl; rw [hsame id hl, hsub]
                    · simp only [view]; rw [List.getElem?_eq_none (by omega)]
                  · obtain ⟨rfl, rfl⟩ : v1 = v ∧ σ1 = σ' := by simpa using hfin
                    exact ⟨H', rfl, r2, hs'.hr, hx, hs'.sub⟩
                · obtain ⟨rfl, rfl⟩ : v1 = v ∧ σ1 = σ' := by simpa using hfin
                  exact ⟨H', rfl, r2, hs'.hr, hx, hs'.sub⟩
              obtain ⟨H2, w1, w2, w3, w4, w5⟩ := hpost
              have hgoal : a'.defers = [] ∧ ∃ v_1, (results fn a'.tmps).run K.P H'.w = .ok v_1 H'.w ∧ ∃ u H'_1, Ending.returned v_1 = .returned u ∧ Hp.w H'_1 = H'.w ∧ V H'_1 v u ∧ HR H'_1 ∧ Ext H H'_1 ∧ H'_1.τ = view σ' :=
                ⟨hs'.dfr, u, r1, u, H2, rfl, w1, w2, w3, w4, w5⟩
              cases ex with
              | normal => exact hgoal
              | ret => exact hgoal
              | exit j => exact (hne _ rfl).elim
          · cases h
        · cases h

end Go.MT
