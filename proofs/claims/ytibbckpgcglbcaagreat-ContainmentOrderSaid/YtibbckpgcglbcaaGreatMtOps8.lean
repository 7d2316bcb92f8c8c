/-
  Operations one by one (8): the builtins; and all of them together.
-/
import Derived.Test.YtibbckpgcglbcaaGreatMtOps7
namespace Go.MT

section
variable {P : Program} {H : Hp} {o : Oper} {a : Act} {tm : Tmps} {n : Nat} {v : PV} {eff : Eff}

theorem run_builtin {w : World} {b : Builtin} {args : Array Operand} {ats : Array TypeId} (ho : o.op = .call { callee := .builtin b, args := args, argTypes := ats }) :
    (execOp a.eval o).run P w = (builtin b ats o.type (args.map fun | .const _ => true | _ => false) (args.map a.eval)).run P w := by
  simp only [execOp, ho, resolve, Sem.run_bind, Sem.run_pure, Result.andThen_ok, invoke]
  rfl

theorem OpOk.run {u : Value} {w' : World} {H' : Hp} (hrun : (execOp a.eval o).run P H.w = .ok (.value u) w') (hw : H'.w = w') (hv : V H' v u) (h1 : HR H') (h2 : Ext H H') (h3 : H'.τ = appτ H.τ n eff) : OpOk P H o a n v eff :=
  ⟨_, H', by rw [hrun, hw], .inl ⟨u, rfl, hv⟩, h1, h2, h3⟩

theorem types_one {ats : Array TypeId} {u : Option TypeDesc} {r : List (Option TypeDesc)} (h : ats.toList.map P.underlying = u :: r) : ∃ t, ats[0]? = some t ∧ P.underlying t = u := by
  cases hl : ats.toList with
  | nil => rw [hl] at h; simp at h
  | cons t l =>
    rw [hl] at h
    simp only [List.map_cons, List.cons.injEq] at h
    refine ⟨t, ?_, h.1⟩
    rw [← Array.getElem?_toList, hl]; rfl

theorem run_minMax {w : World} {isMax : Bool} : ∀ (r : List PV) (us : List Value) {x y : PV} {u : Value}, minMax isMax x r = some y → V H x u → Vs H r us →
    ∃ z, (us.foldlM (if isMax then Builtin.max2 else Builtin.min2) u).run P w = .ok z w ∧ V H y z
  | [], us, x, y, u, h, hx, hr => by
    simp only [Vs] at hr
    subst hr
    unfold minMax at h
    simp at h
    subst h
    exact ⟨u, by simp, hx⟩
  | p :: r, us, x, y, u, h, hx, hr => by
    simp only [Vs] at hr
    obtain ⟨u1, r1, rfl, h1, h2⟩ := hr
    unfold minMax at h
    split at h
    · rename_i hh; simp at hh
    · rename_i k m k' m' rr hh
      obtain ⟨rfl, rfl⟩ : p = .int k' m' ∧ r = rr := by simpa using hh
      simp only [V] at hx h1; subst hx h1
      cases isMax
      · obtain ⟨z, z1, z2⟩ := run_minMax r r1 (w := w) (u := .int k (if m' < m then m' else m)) h (by simp [V]) h2
        exact ⟨z, by simpa [Builtin.min2] using z1, z2⟩
      · obtain ⟨z, z1, z2⟩ := run_minMax r r1 (w := w) (u := .int k (if m < m' then m' else m)) h (by simp [V]) h2
        exact ⟨z, by simpa [Builtin.max2] using z1, z2⟩
    · cases h

theorem appendT_shape {sz by_ k : Nat} {s : PV} {ys : List PV} {u : Value} (h : appendT H.τ n sz by_ s ys k = some (v, eff)) (hu : V H s u) : (∃ b sl sc, u = .slice b sl sc) ∧ k * by_ ≤ 70368744177664 := by
  unfold appendT at h
  have shp : (∃ cs cap id off len s', s = .ref id off len s' ∧ H.τ id = some (.arr cs cap)) → ∃ b sl sc, u = .slice b sl sc := by
    rintro ⟨cs, cap, id, off, len, s', rfl, ht⟩
    simp only [V] at hu
    obtain ⟨_, ob, hob, hlv⟩ := hu
    rw [ht] at hob
    obtain rfl := Option.some.inj hob
    obtain ⟨_, _, c, b', a', _, rfl, _⟩ := hlv (by simp)
    exact ⟨_, _, _, rfl⟩
  split at h
  · rename_i hk
    refine ⟨?_, by simp [hk]⟩
    split at h
    · simp only [V] at hu; exact ⟨_, _, _, hu⟩
    · simp only [V] at hu; obtain ⟨b', a', cap, us, rfl, _⟩ := hu; exact ⟨_, _, _, rfl⟩
    · split at h
      · rename_i ht; exact shp ⟨_, _, _, _, _, _, rfl, ht⟩
      · cases h
    · cases h
  · split at h
    · split at h
      · rename_i hc
        simp only [V] at hu; exact ⟨⟨_, _, _, hu⟩, hc.1⟩
      · cases h
    · rename_i s' m xs
      split at h
      · rename_i hc
        have := Nat.mul_le_mul_right by_ (Nat.le_add_left k m)
        simp only [V] at hu; obtain ⟨b', a', cap, us, rfl, _⟩ := hu; exact ⟨⟨_, _, _, rfl⟩, Nat.le_trans this hc.2.2.1⟩
      · cases h
    · rename_i id off len s'
      split at h
      · rename_i hc
        have := Nat.mul_le_mul_right by_ (Nat.le_add_left k len)
        split at h
        · rename_i ht
          exact ⟨shp ⟨_, _, _, _, _, _, rfl, ht⟩, Nat.le_trans this hc.2.1⟩
        · cases h
      · cases h
    · cases h

theorem append_zeros {H : Hp} {st xt e ty : TypeId} {kd : IntKind} {sz by_ : Nat} {b : Option Addr} {sl sc : Nat} {m : Int} {news : List Value} (hs : P.underlying st = some (.slice e)) (hx : P.underlying xt = some (.int kd))
    (hsz : sizeT P e = some sz) (hby : bytesT P e = some by_) (h0 : 0 ≤ m) (h1 : m ≤ 70368744177664) (h2 : m.toNat * by_ ≤ 70368744177664)
    (happ : ∀ w', SameMem H.w w' → (if m.toNat * sz = 0 then pure #[] else do pure (Builtin.zeroCells (← zeroValue e).cells m.toNat) : Sem (Array Value)).run P w' = .ok news.toArray w') :
    App P H (Builtin.append_ #[st, xt] ty #[.slice b sl sc, .int .i64 m]) e sz by_ m.toNat sl sc b (.slice b sl sc) news := by
  obtain ⟨i, i1, i2⟩ := run_bytesT (w := H.w) hby
  have hw := wrap_small h0 h1
  have hb : ¬ (m * (i.bytes : Int) > 2 ^ 48) := by
    rw [i2]
    obtain ⟨q, rfl⟩ := Int.eq_ofNat_of_zero_le h0
    rw [Int.toNat_natCast] at h2
    have h3 : ((q * by_ : Nat) : Int) ≤ 70368744177664 := by omega
    rw [Int.natCast_mul] at h3
    omega
  have hneg : ¬ m < 0 := by omega
  refine ⟨fun hle => ?_, fun olds zv hno g1 g2 hz hzs hold => ?_⟩
  · simp only [Builtin.append_]
    simp only [List.getElem?_toArray, List.getElem?_cons_zero, List.getElem?_cons_succ, Sem.run_bind, run_und hs, Result.andThen_ok, run_sizeT hsz, run_und hx, Sem.run_pure, if_true, asInt, asIntOf, hw]
    rw [if_neg hneg]
    simp only [Sem.run_bind, i1, Result.andThen_ok]
    rw [if_neg hb]
    have hap := happ _ (SameMem.refl _)
    simp only [Sem.run_bind, Sem.run_pure, Result.andThen_ok, if_pos hle, Bool.not_true, Bool.false_eq_true, if_false, hap]
    cases b <;> simp
  · skip
    have hsm : SameMem H.w { H.w with drawn := H.w.drawn + 1 } := ⟨rfl, rfl, rfl, rfl⟩
    generalize hcap : (Question.appendCap (sl + m.toNat) sc e).cut (H.w.tape H.w.drawn (.appendCap (sl + m.toNat) sc e)) = cap
    have hle : sl + m.toNat ≤ cap := by rw [← hcap]; simp [Question.cut]
    refine ⟨cap, (Builtin.zeroCells zv.cells (cap - (sl + m.toNat))).toList, hle, by simp [Builtin.zeroCells, hzs], ?_⟩
    have hmax : ¬ (((sl + m.toNat : Nat) : Int) > IntKind.i64.max) := by
      have : IntKind.i64.max = 9223372036854775807 := by decide
      rw [this]; omega
    have hnc := nextcap_le (need := sl + m.toNat) (old := sc) (by omega)
    have hbig : ∀ i : TypeInfo, i.bytes = by_ → ¬ (Builtin.nextslicecap (sl + m.toNat) sc * i.bytes > 2 ^ 48) := fun i hi => by
      rw [hi]
      have := Nat.mul_le_mul_right by_ hnc
      rw [Nat.mul_assoc] at this
      omega
    have hti : ∀ w, ∃ i, (typeInfo e).run P w = .ok i w ∧ i.bytes = by_ := fun w => run_bytesT hby
    obtain ⟨i0, t1, t2⟩ := hti H.w
    obtain ⟨i1', t3, t4⟩ := hti { H.w with drawn := H.w.drawn + 1 }
    have hq : (choose (.appendCap (sl + m.toNat) sc e)).run P H.w = .ok cap { H.w with drawn := H.w.drawn + 1 } := by
      rw [run_choose]; simp only [Question.forced, Bool.false_eq_true, if_false, hcap]
    simp only [Builtin.append_]
    simp only [List.getElem?_toArray, List.getElem?_cons_zero, List.getElem?_cons_succ, Sem.run_bind, run_und hs, Result.andThen_ok, run_sizeT hsz, run_und hx, Sem.run_pure, if_true, asInt, asIntOf, hw]
    rw [if_neg hneg]
    simp only [Sem.run_bind, i1, Result.andThen_ok]
    rw [if_neg hb]
    have hap := happ _ hsm
    simp only [Sem.run_bind, Sem.run_pure, Result.andThen_ok, if_neg hno, Bool.not_true, Bool.false_eq_true, if_false, t1]
    rw [if_neg (fun h => hmax h.1)]
    simp only [Sem.run_bind, Result.andThen_ok, t1]
    rw [if_neg (hbig i0 t2)]
    simp only [Sem.run_bind, Sem.run_pure, Result.andThen_ok, hq, t3, run_askRoom, hold _ hsm, hap, hz, newRow, run_newObj]
    congr 3
    simp

theorem ok_builtin {b : Builtin} {args : Array Operand} {ats : Array TypeId} (ho : o.op = .call { callee := .builtin b, args := args, argTypes := ats }) (hr : HR H) (hn : H.τ n = none)
    (hv : ∀ x ∈ args.toList, V H (evalO tm x) (a.eval x)) (h : primOp P H.τ n (.call { callee := .builtin b, args := args, argTypes := ats }) tm = some (v, eff)) : OpOk P H o a n v eff := by
  simp only [primOp] at h
  have hvs : Vs H (args.toList.map (evalO tm)) (args.map a.eval).toList := by rw [Array.toList_map]; exact Vs_map _ _ _ hv
  generalize hAs : args.map a.eval = As at hvs
  split at h
  · -- len
    rename_i x hx
    rw [hx] at hvs
    simp only [Vs] at hvs
    obtain ⟨u, _, e1, hu, rfl⟩ := hvs
    have hAs' : As = #[u] := by apply Array.ext'; simpa using e1
    have hrun : ∀ z, (Builtin.len_ ats o.type #[u]).run P H.w = .ok z H.w → (execOp a.eval o).run P H.w = .ok (.value z) H.w := fun z hz => by
      rw [run_builtin ho, hAs, hAs']; simp [builtin, hz]
    split at h
    · rename_i hty
      obtain ⟨t, t1, t2⟩ := types_one hty
      split at h
      · rename_i s
        obtain ⟨rfl, rfl⟩ : _ = v ∧ _ = eff := by simpa using h
        simp only [V] at hu
        obtain ⟨bs, rfl, rfl⟩ := hu
        exact OpOk.val' hr (hrun (.int .i64 bs.size) (by simp [Builtin.len_, t1, run_und t2, goInt])) (by simp only [V, byteList_length])
      · cases h
    · rename_i hty
      obtain ⟨t, t1, t2⟩ := types_one hty
      split at h
      · obtain ⟨rfl, rfl⟩ : _ = v ∧ _ = eff := by simpa using h
        simp only [V] at hu; subst hu
        exact OpOk.val' hr (hrun (.int .i64 0) (by simp [Builtin.len_, t1, run_und t2, goInt])) (by simp only [V])
      · rename_i m _
        obtain ⟨rfl, rfl⟩ : _ = v ∧ _ = eff := by simpa using h
        simp only [V] at hu
        obtain ⟨b', a', cap, us, rfl, _⟩ := hu
        exact OpOk.val' hr (hrun (.int .i64 m) (by simp [Builtin.len_, t1, run_und t2, goInt])) (by simp only [V])
      · rename_i id off len sz
        split at h
        · rename_i cs cap ht
          obtain ⟨rfl, rfl⟩ : _ = v ∧ _ = eff := by simpa using h
          simp only [V] at hu
          obtain ⟨_, ob, hob, hlv⟩ := hu
          rw [ht] at hob
          obtain rfl := Option.some.inj hob
          obtain ⟨_, _, cap', b', a', _, rfl, _⟩ := hlv (by simp)
          exact OpOk.val' hr (hrun (.int .i64 len) (by simp [Builtin.len_, t1, run_und t2, goInt])) (by simp only [V])
        · cases h
      · cases h
    · rename_i hty
      obtain ⟨t, t1, t2⟩ := types_one hty
      split at h
      · obtain ⟨rfl, rfl⟩ : _ = v ∧ _ = eff := by simpa using h
        simp only [V] at hu; subst hu
        exact OpOk.val' hr (hrun (.int .i64 0) (by simp [Builtin.len_, t1, run_und t2, goInt])) (by simp only [V])
      · rename_i id
        split at h
        · rename_i es ht
          obtain ⟨rfl, rfl⟩ : _ = v ∧ _ = eff := by simpa using h
          simp only [V] at hu
          obtain ⟨_, ob, hob, hlv⟩ := hu
          rw [ht] at hob
          obtain rfl := Option.some.inj hob
          obtain ⟨_, rfl⟩ := hlv (by simp)
          obtain ⟨ds, clk, q1, q2, _⟩ := hr.mp id es ht
          have hl := Vs_length q2
          refine OpOk.val' hr (hrun (.int .i64 ds.size) (by simp [Builtin.len_, t1, run_und t2, goInt, getObj, Sem.run, q1])) ?_
          simp only [V]
          simp at hl
          rw [hl]
        · cases h
      · cases h
    · rename_i m e _ hty
      obtain ⟨t, t1, t2⟩ := types_one hty
      split at h
      · cases h
      · cases h
      · cases h
      · obtain ⟨rfl, rfl⟩ : _ = v ∧ _ = eff := by simpa using h
        exact OpOk.val' hr (hrun (.int .i64 m) (by simp [Builtin.len_, t1, run_und t2, goInt])) (by simp only [V])
    · cases h
  · -- cap
    rename_i x hx
    rw [hx] at hvs
    simp only [Vs] at hvs
    obtain ⟨u, _, e1, hu, rfl⟩ := hvs
    have hAs' : As = #[u] := by apply Array.ext'; simpa using e1
    have hrun : ∀ z, (Builtin.cap_ ats o.type #[u]).run P H.w = .ok z H.w → (execOp a.eval o).run P H.w = .ok (.value z) H.w := fun z hz => by
      rw [run_builtin ho, hAs, hAs']; simp [builtin, hz]
    split at h
    · rename_i hty
      obtain ⟨t, t1, t2⟩ := types_one hty
      obtain ⟨rfl, rfl⟩ : _ = v ∧ _ = eff := by simpa using h
      simp only [V] at hu; subst hu
      exact OpOk.val' hr (hrun (.int .i64 0) (by simp [Builtin.cap_, t1, run_und t2, goInt])) (by simp only [V])
    · rename_i m _ hty
      obtain ⟨t, t1, t2⟩ := types_one hty
      obtain ⟨rfl, rfl⟩ : _ = v ∧ _ = eff := by simpa using h
      simp only [V] at hu
      obtain ⟨b', a', cap, us, rfl, _, hcap, _⟩ := hu
      obtain rfl := hcap trivial
      exact OpOk.val' hr (hrun (.int .i64 cap) (by simp [Builtin.cap_, t1, run_und t2, goInt])) (by simp only [V])
    · cases h
  · -- append
    rename_i s x hx
    rw [hx] at hvs
    simp only [Vs] at hvs
    obtain ⟨u, _, e1, hu, u', _, e2, hu', rfl⟩ := hvs
    subst e2
    have hAs' : As = #[u, u'] := by apply Array.ext'; simpa using e1
    split at h
    · rename_i e ud hty
      obtain ⟨st, xt, rfl, hst, hxt⟩ : ∃ st xt, ats = #[st, xt] ∧ P.underlying st = some (.slice e) ∧ P.underlying xt = some ud := by
        cases hl : ats.toList with
        | nil => rw [hl] at hty; simp at hty
        | cons t l =>
          cases l with
          | nil => rw [hl] at hty; simp at hty
          | cons t' l =>
            rw [hl] at hty
            simp only [List.map_cons, List.cons.injEq, List.map_eq_nil_iff] at hty
            obtain ⟨q1, q2, rfl⟩ := hty
            exact ⟨t, t', by apply Array.ext'; simpa using hl, q1, q2⟩
      split at h
      · rename_i sz by_ z hsz hby hz
        split at h
        · rename_i hc
          obtain ⟨hzl, hsz0⟩ := hc
          have fin : ∀ {ys : List PV} {k : Nat} {news : List Value}, appendT H.τ n sz by_ s ys k = some (v, eff) → Vs H ys news → ys.length = k * sz → (∀ x ∈ ys, x.leaf = true) →
              (∀ b' sl sc, u = .slice b' sl sc → App P H (Builtin.append_ #[st, xt] o.type #[u, u']) e sz by_ k sl sc b' u news) → OpOk P H o a n v eff := by
            intro ys k news ha hys hyl hyf hrun
            obtain ⟨⟨b', sl, sc, hsl⟩, _⟩ := appendT_shape ha hu
            have hApp := hrun b' sl sc hsl
            subst hsl
            obtain ⟨r, H', q1, q2, q3, q4, q5⟩ := app_core (P := P) (e := e) hApp ha hr hn hu hys hyl hyf hsz0 hz hzl
            refine OpOk.run ?_ rfl q2 q3 q4 q5
            rw [run_builtin ho, hAs, hAs']
            simp only [builtin, Sem.run_bind, q1, Result.andThen_ok]
            rfl
          split at h
          · rename_i kd m
            split at h
            · rename_i hm
              simp only [V] at hu'
              subst hu'
              obtain ⟨zv, z1, z2, z3, z4⟩ := run_zeroT (w := H.w) (H := H) hz
              have hzlf : ∀ x ∈ z.cells, x.leaf = true := by simpa using z4
              have hzs : zv.cells.size = sz := by have := Vs_length z3; simp at this; omega
              obtain ⟨_, hkb⟩ := appendT_shape h hu
              refine fin h (Vs_replicate z3 m.toNat) (by rw [length_replicate_flatten, hzl]) (leaf_replicate hzlf _) (fun b' sl sc hsl => ?_)
              subst hsl
              refine append_zeros hst hxt hsz hby hm.1 hm.2 hkb fun w' hw => ?_
              have hzw : (zeroValue e).run P w' = .ok zv w' := by
                obtain ⟨zv', y1, _⟩ := run_zeroT (w := w') (H := H) hz
                have : zv' = zv := by
                  unfold zeroT at hz
                  split at hz
                  · rename_i hi
                    simp [zeroValue, run_info hi] at y1 z1
                    rw [← y1, ← z1]
                  · cases hz
                rw [← this]; exact y1
              by_cases h0 : m.toNat * sz = 0
              · have hm0 : m.toNat = 0 := by
                  rcases Nat.mul_eq_zero.1 h0 with h | h
                  · exact h
                  · omega
                simp [hm0]
              · simp only [if_neg h0, Sem.run_bind, hzw, Result.andThen_ok, Sem.run_pure, Builtin.zeroCells]
                congr 1
                apply Array.ext'
                rw [zeros_list _ _ (by omega)]
            · cases h
          · cases h
          · rename_i hni1 hni2
            have hni : ∀ k, ud ≠ .int k := fun k e => by first | exact hni1 k e | exact hni2 k e
            split at h
            · rename_i ys k hsc
              obtain ⟨us, u1, u2, u3, u4, _, u5⟩ := run_firstCells (P := P) hr hsc hu'
              refine fin h u1 u2 u3 (fun b' sl sc hsl => ?_)
              subst hsl
              exact append_plain hst hxt hni hsz hby (u4 _) (fun w' hw => u5 w' hw.heap)
            · cases h
        · cases h
      · cases h
    · cases h
  · -- delete
    rename_i id k hx
    rw [hx] at hvs
    simp only [Vs] at hvs
    obtain ⟨u, _, e1, hu, u', _, e2, hu', rfl⟩ := hvs
    subst e2
    have hAs' : As = #[u, u'] := by apply Array.ext'; simpa using e1
    split at h
    · rename_i kt e _ es hty ht
      obtain ⟨t, t1, t2⟩ := types_one hty
      split at h
      · rename_i kd hkd
        split at h
        · rename_i hok
          split at h
          · rename_i r hf
            obtain ⟨rfl, rfl⟩ : _ = v ∧ _ = eff := by simpa using h
            simp only [V] at hu
            obtain ⟨_, ob, hob, hlv⟩ := hu
            rw [ht] at hob
            obtain rfl := Option.some.inj hob
            obtain ⟨_, rfl⟩ := hlv (by simp)
            obtain ⟨ds, clk, q1, q2, q3⟩ := hr.mp id es ht
            have hck : ∀ b, (Instr.checkKey b 10000 kt u').run P H.w = .ok () H.w := fun b => run_checkKey hkd hok hu'
            have hg : (getObj (H.ρ id).blk).run P H.w = .ok (.map ds clk) H.w := by simp [getObj, Sem.run, q1]
            have fin : ∀ (ds' : Array MapEntry), (Builtin.delete_ ats o.type #[.map (some (H.ρ id).blk), u']).run P H.w = ((setObj (H.ρ id).blk (.map ds' clk)).run P H.w).andThen (fun _ w' => .ok (.tuple #[]) w') →
                Vs H ((delKey k es).map (·.1)) (ds'.toList.map (·.key)) → Vs H ((delKey k es).map (·.2)) (ds'.toList.map (·.val)) → OpOk P H o a n (.tup []) (.upd id (.mp (delKey k es))) := by
              intro ds' hd m1 m2
              obtain ⟨w', s1, s2, s3⟩ := set_map (P := P) (clk := clk) hr ht m1 m2
              refine ⟨_, _, ?_, .inl ⟨.tuple #[], rfl, by simp [V, Vs]⟩, s2, s3, rfl⟩
              rw [run_builtin ho, hAs, hAs']
              simp [builtin, hd, s1]
            rcases findKey_spec hok hu' es ds.toList 0 hf q2 q3 with ⟨rfl, k1, k2, k3⟩ | ⟨w, j, uv, e', rfl, k1, k2, k3, k4, k5, k6, k7, k8⟩
            · refine fin ds ?_ (by rw [k3]; exact q2) (by rw [k3]; exact q3)
              simp [Builtin.delete_, t1, run_und t2, hg, hck, Instr.findKey, run_und hkd, k1]
            · refine fin (ds.eraseIdxIfInBounds j) ?_ (by simpa using k7) (by simpa using k8)
              simp [Builtin.delete_, t1, run_und t2, hg, hck, Instr.findKey, run_und hkd, k1]
          · cases h
        · cases h
      · cases h
    · cases h
  · -- copy
    rename_i id off len s' x hx
    rw [hx] at hvs
    simp only [Vs] at hvs
    obtain ⟨u, _, e1, hu, u', _, e2, hu', rfl⟩ := hvs
    subst e2
    have hAs' : As = #[u, u'] := by apply Array.ext'; simpa using e1
    split at h
    · rename_i e _ hty
      obtain ⟨t, t1, t2⟩ := types_one hty
      split at h
      · rename_i sz hsz
        split at h
        · rename_i hs
          subst hs
          split at h
          · rename_i ys k hsc
            rw [Option.map_eq_some_iff] at h
            obtain ⟨ef, h, he⟩ := h
            obtain ⟨rfl, rfl⟩ : _ = v ∧ _ = eff := by simpa using he
            obtain ⟨us, u1, u2, u3, u4, u5, _⟩ := run_firstCells (P := P) hr hsc hu'
            obtain ⟨w', s1, s2, s3, cs, cap, ht⟩ := write_cells (P := P) (n := n) hr h (Vs_take u1 (min k len * s')) (fun x hx => u3 x (List.mem_of_mem_take hx))
            have hwc := h
            simp only [V] at hu
            obtain ⟨_, ob, hob, hlv⟩ := hu
            rw [ht] at hob
            obtain rfl := Option.some.inj hob
            obtain ⟨_, _, c, b', a', _, rfl, l1, l2, l3, l4⟩ := hlv (by simp)
            refine ⟨_, _, ?_, .inl ⟨.int .i64 (min k len : Nat), rfl, by simp [V]⟩, s2, s3, rfl⟩
            rw [run_builtin ho, hAs, hAs']
            have hst : (storeCells ⟨b', a', none⟩ (us.take (min k len * s'))).run P H.w = .ok () w' := by
              rcases l4 with l4 | ⟨l4, l5⟩
              · have : min k len * s' = 0 := by rw [show len = 0 by omega]; simp
                rw [this] at s1 ⊢
                simpa [storeCells] using s1
              · rw [l4, l5]; exact s1
            have hmin : Nat.min k len = min k len := rfl
            simp only [builtin, Builtin.copy_, t1, Sem.run_bind, run_und t2, Result.andThen_ok, List.getElem?_toArray, List.getElem?_cons_zero, List.getElem?_cons_succ, u4, run_sizeT hsz, hmin, u5 _ rfl _ (Nat.min_le_left k len), hst, Sem.run_pure]
            rfl
          · cases h
        · cases h
      · cases h
    · cases h
  · -- clear
    rename_i id off len s' hx
    rw [hx] at hvs
    simp only [Vs] at hvs
    obtain ⟨u, _, e1, hu, rfl⟩ := hvs
    have hAs' : As = #[u] := by apply Array.ext'; simpa using e1
    split at h
    · rename_i e _ hty
      obtain ⟨t, t1, t2⟩ := types_one hty
      split at h
      · rename_i sz z hsz hz
        split at h
        · rename_i hc
          obtain ⟨rfl, hzl, hs0⟩ := hc
          rw [Option.map_eq_some_iff] at h
          obtain ⟨ef, h, he⟩ := h
          obtain ⟨rfl, rfl⟩ : _ = v ∧ _ = eff := by simpa using he
          obtain ⟨zv, z1, z2, z3, z4⟩ := run_zeroT (w := H.w) (H := H) hz
          have hzlf : ∀ x ∈ z.cells, x.leaf = true := by simpa using z4
          have hzs : zv.cells.size = s' := by have := Vs_length z3; simp at this; omega
          obtain ⟨w', s1, s2, s3, cs, cap, ht⟩ := write_cells (P := P) (n := n) hr h (Vs_replicate z3 len) (leaf_replicate hzlf _)
          simp only [V] at hu
          obtain ⟨_, ob, hob, hlv⟩ := hu
          rw [ht] at hob
          obtain rfl := Option.some.inj hob
          obtain ⟨_, _, c, b', a', _, rfl, l1, l2, l3, l4⟩ := hlv (by simp)
          refine ⟨_, _, ?_, .inl ⟨.tuple #[], rfl, by simp [V, Vs]⟩, s2, s3, rfl⟩
          rw [run_builtin ho, hAs, hAs']
          have hzc : (Builtin.zeroCells zv.cells len).toList = (List.replicate len zv.cells.toList).flatten := zeros_list _ _ (by omega)
          rcases l4 with l4 | ⟨l4, l5⟩
          · have : len = 0 := by omega
            subst this
            have hw' : w' = H.w := by
              simp [storeCells] at s1
              exact s1.symm
            subst hw'
            simp [builtin, Builtin.clear_, t1, run_und t2]
          · cases len with
            | zero =>
              have hw' : w' = H.w := by
                simp [storeCells] at s1
                exact s1.symm
              subst hw'
              simp [builtin, Builtin.clear_, t1, run_und t2]
            | succ l =>
              rw [l4, l5]
              simp only [builtin, Builtin.clear_, t1, Sem.run_bind, run_und t2, Result.andThen_ok, List.getElem?_toArray, List.getElem?_cons_zero, z1, hzc, s1, Sem.run_pure]
        · cases h
      · cases h
    · cases h
  · -- clear nil
    rename_i hx
    rw [hx] at hvs
    simp only [Vs] at hvs
    obtain ⟨u, _, e1, hu, rfl⟩ := hvs
    have hAs' : As = #[u] := by apply Array.ext'; simpa using e1
    split at h
    · rename_i hty
      obtain ⟨t, t1, t2⟩ := types_one hty
      obtain ⟨rfl, rfl⟩ : _ = v ∧ _ = eff := by simpa using h
      simp only [V] at hu; subst hu
      refine OpOk.val' hr (u := .tuple #[]) ?_ (by simp [V, Vs])
      rw [run_builtin ho, hAs, hAs']
      simp [builtin, Builtin.clear_, t1, run_und t2]
    · cases h
  · -- max
    rename_i x r hx
    rw [hx] at hvs
    simp only [Vs] at hvs
    obtain ⟨u, us, e1, hu, hus⟩ := hvs
    rw [Option.map_eq_some_iff] at h
    obtain ⟨y, h, he⟩ := h
    obtain ⟨rfl, rfl⟩ : _ = v ∧ _ = eff := by simpa using he
    obtain ⟨z, z1, z2⟩ := run_minMax (P := P) (w := H.w) r us h hu hus
    refine OpOk.val' hr (u := z) ?_ z2
    rw [run_builtin ho, hAs]
    simp only [builtin, Builtin.max_, e1, Sem.run_bind]
    simp only [if_true] at z1
    rw [z1]; rfl
  · -- min
    rename_i x r hx
    rw [hx] at hvs
    simp only [Vs] at hvs
    obtain ⟨u, us, e1, hu, hus⟩ := hvs
    rw [Option.map_eq_some_iff] at h
    obtain ⟨y, h, he⟩ := h
    obtain ⟨rfl, rfl⟩ : _ = v ∧ _ = eff := by simpa using he
    obtain ⟨z, z1, z2⟩ := run_minMax (P := P) (w := H.w) r us h hu hus
    refine OpOk.val' hr (u := z) ?_ z2
    rw [run_builtin ho, hAs]
    simp only [builtin, Builtin.min_, e1, Sem.run_bind]
    simp only [Bool.false_eq_true, if_false] at z1
    rw [z1]; rfl
  · cases h

end
end Go.MT
