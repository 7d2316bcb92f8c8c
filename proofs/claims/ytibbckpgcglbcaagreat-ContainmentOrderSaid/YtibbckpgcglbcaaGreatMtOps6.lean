/-
  Operations one by one (6): maps.
-/
import Derived.Test.YtibbckpgcglbcaaGreatMtOps5
namespace Go.MT

section
variable {P : Program} {H : Hp} {o : Oper} {a : Act} {tm : Tmps} {n : Nat} {v : PV} {eff : Eff}

theorem keyEq_spec {kd : TypeDesc} {k x : PV} {u ux : Value} {r : Bool} (hok : keyOk kd k = true) (h : keyEq k x = some r) (hk : V H k u) (hx : V H x ux) :
    Instr.sameNow kd u ux = some r ∧ (r = true → Instr.sameBits 10000 ux u = true) := by
  unfold keyEq at h
  split at h
  · split at h
    · rename_i hkk
      subst hkk
      obtain rfl := Option.some.inj h
      simp only [V] at hk hx; subst hk hx
      cases kd <;> simp [keyOk] at hok
      simp [Instr.sameNow, Instr.sameBits]
      exact fun e => e.symm
    · cases h
  · obtain rfl := Option.some.inj h
    simp only [V] at hk hx
    obtain ⟨s, rfl, rfl⟩ := hk
    obtain ⟨s', rfl, rfl⟩ := hx
    cases kd <;> simp [keyOk] at hok
    have e : strEq (byteList s) (byteList s') = (s == s') := by rw [beq_toListBytes, byteList_eq, byteList_eq]; exact strEq_spec _ _
    rw [e]
    simp only [Instr.sameNow, Instr.sameBits, true_and]
    rw [beq_toListBytes, beq_toListBytes]
    simp only [beq_iff_eq]
    exact fun e => e.symm
  · obtain rfl := Option.some.inj h
    simp only [V] at hk hx; subst hk hx
    cases kd <;> simp [keyOk] at hok
    simp [Instr.sameNow, Instr.sameBits]
    exact fun e => e.symm
  · cases h

/-- what a search for a key comes to -/
theorem findKey_spec {kd : TypeDesc} {k : PV} {u : Value} (hok : keyOk kd k = true) (hk : V H k u) : ∀ (es : List (PV × PV)) (ds : List MapEntry) (i0 : Nat) {r : Option PV}, findKey k es = some r →
    Vs H (es.map (·.1)) (ds.map (·.key)) → Vs H (es.map (·.2)) (ds.map (·.val)) →
    (r = none ∧ Instr.findNow kd u ds i0 = some none ∧ (∀ x, putKey k x es = es ++ [(k, x)]) ∧ delKey k es = es) ∨
    (∃ w j uv e, r = some w ∧ Instr.findNow kd u ds i0 = some (some (i0 + j, uv)) ∧ V H w uv ∧ ds[j]? = some e ∧ Instr.sameBits 10000 e.key u = true ∧ e.val = uv ∧
      (∀ x ux, V H x ux → Vs H ((putKey k x es).map (·.1)) ((ds.modify j fun e => { e with key := u, val := ux }).map (·.key)) ∧ Vs H ((putKey k x es).map (·.2)) ((ds.modify j fun e => { e with key := u, val := ux }).map (·.val))) ∧
      Vs H ((delKey k es).map (·.1)) ((ds.eraseIdx j).map (·.key)) ∧ Vs H ((delKey k es).map (·.2)) ((ds.eraseIdx j).map (·.val)))
  | [], ds, i0, r, h, h1, h2 => by
    simp only [findKey] at h
    obtain rfl := Option.some.inj h
    simp only [List.map_nil, Vs] at h1
    have : ds = [] := by simpa using h1
    subst this
    exact .inl ⟨rfl, rfl, fun x => rfl, rfl⟩
  | (x, y) :: es, ds, i0, r, h, h1, h2 => by
    cases ds with
    | nil => simp [Vs] at h1
    | cons d ds =>
      simp only [List.map_cons, Vs] at h1 h2
      obtain ⟨u1, r1, e1, hx, h1⟩ := h1
      obtain ⟨u2, r2, e2, hy, h2⟩ := h2
      obtain ⟨rfl, rfl⟩ : d.key = u1 ∧ ds.map (·.key) = r1 := by simpa using e1
      obtain ⟨rfl, rfl⟩ : d.val = u2 ∧ ds.map (·.val) = r2 := by simpa using e2
      simp only [findKey] at h
      split at h
      · rename_i he
        obtain rfl := Option.some.inj h
        obtain ⟨s1, s2⟩ := keyEq_spec hok he hk hx
        refine .inr ⟨y, 0, d.val, d, rfl, by simp [Instr.findNow, s1], hy, rfl, s2 rfl, rfl, fun z uz hz => ?_, ?_⟩
        · simp only [putKey, he, List.modify_zero_cons, List.map_cons, Vs]
          exact ⟨⟨u, _, rfl, hk, h1⟩, ⟨uz, _, rfl, hz, h2⟩⟩
        · simp only [delKey, he, List.eraseIdx_cons_zero]
          exact ⟨h1, h2⟩
      · rename_i he
        obtain ⟨s1, _⟩ := keyEq_spec hok he hk hx
        rcases findKey_spec hok hk es ds (i0 + 1) h h1 h2 with ⟨rfl, k1, k2, k3⟩ | ⟨w, j, uv, e, rfl, k1, k2, k3, k4, k5, k6, k7, k8⟩
        · exact .inl ⟨rfl, by simp [Instr.findNow, s1, k1], fun z => by simp [putKey, he, k2], by simp [delKey, he, k3]⟩
        · refine .inr ⟨w, j + 1, uv, e, rfl, by simp [Instr.findNow, s1, k1]; omega, k2, by simpa using k3, k4, k5, fun z uz hz => ?_, ?_, ?_⟩
          · obtain ⟨m1, m2⟩ := k6 z uz hz
            simp only [putKey, he, List.modify_succ_cons, List.map_cons, Vs]
            exact ⟨⟨_, _, rfl, hx, m1⟩, ⟨_, _, rfl, hy, m2⟩⟩
          · simp only [delKey, he, List.eraseIdx_cons_succ, List.map_cons, Vs]
            exact ⟨_, _, rfl, hx, k7⟩
          · simp only [delKey, he, List.eraseIdx_cons_succ, List.map_cons, Vs]
            exact ⟨_, _, rfl, hy, k8⟩
      · cases h

theorem run_checkKey {w : World} {b : Bool} {t : TypeId} {kd : TypeDesc} {k : PV} {u : Value} (hu : P.underlying t = some kd) (hok : keyOk kd k = true) (hk : V H k u) : (Instr.checkKey b 10000 t u).run P w = .ok () w := by
  have this : ∀ (m : Nat) (x : Value), (∀ n, (Instr.checkKey b (n + 1) t x).run P w = .ok () w) → (Instr.checkKey b (m + 1) t x).run P w = .ok () w := fun m x h => h m
  cases k <;> cases kd <;> simp only [keyOk, Bool.false_eq_true] at hok <;> simp only [V] at hk
  · subst hk; exact this 9999 _ (fun n => by simp [Instr.checkKey, run_und hu])
  · subst hk; exact this 9999 _ (fun n => by simp [Instr.checkKey, run_und hu])
  · obtain ⟨s, rfl, _⟩ := hk; exact this 9999 _ (fun n => by simp [Instr.checkKey, run_und hu])

theorem ok_lookup {t : TypeId} {x i : Operand} {ok : Bool} (ho : o.op = .lookup t x i ok) (hr : HR H) (hx : V H (evalO tm x) (a.eval x)) (hi : V H (evalO tm i) (a.eval i))
    (h : primOp P H.τ n (.lookup t x i ok) tm = some (v, eff)) : OpOk P H o a n v eff := by
  simp only [primOp] at h
  split at h
  · rename_i kt e hu
    split at h
    · rename_i kd z hk hz
      obtain ⟨zv, z1, z2, z3, z4⟩ := run_zeroT (w := H.w) (H := H) hz
      split at h
      · rename_i hok
        have hck : ∀ b, (Instr.checkKey b 10000 kt (a.eval i)).run P H.w = .ok () H.w := fun b => run_checkKey hk hok hi
        have key : ∀ (es : List (PV × PV)) (ds : List MapEntry) (r : Option PV), findKey (evalO tm i) es = some r → Vs H (es.map (·.1)) (ds.map (·.key)) → Vs H (es.map (·.2)) (ds.map (·.val)) →
            ∃ j, (Instr.findKey kt (a.eval i) ds).run P H.w = .ok (r.map fun _ => j) H.w ∧ ∀ w, r = some w → V H w j.2 := by
          intro es ds r hf h1 h2
          rcases findKey_spec hok hi es ds 0 hf h1 h2 with ⟨rfl, k1, _⟩ | ⟨w, j, uv, e, rfl, k1, k2, _⟩
          · exact ⟨default, by simp [Instr.findKey, run_und hk, k1], by simp⟩
          · exact ⟨(0 + j, uv), by simp only [Instr.findKey, Sem.run_bind, run_und hk, Result.andThen_ok, k1]; rfl, fun w' hw => by obtain rfl := Option.some.inj hw; exact k2⟩
        have fin : ∀ (es : List (PV × PV)) (ds : Array MapEntry) (r : Option PV), findKey (evalO tm i) es = some r → Vs H (es.map (·.1)) (ds.toList.map (·.key)) → Vs H (es.map (·.2)) (ds.toList.map (·.val)) →
            (a.eval x = .map none ∧ ds = #[] ∨ ∃ b clk, a.eval x = .map (some b) ∧ H.w.heap[b]? = some (.map ds clk)) →
            OpOk P H o a n (if ok then .tup [r.getD z, .bool r.isSome] else r.getD z) .none := by
          intro es ds r hf h1 h2 hm
          obtain ⟨j, j1, j2⟩ := key es ds.toList r hf h1 h2
          have hrun : (execOp a.eval o).run P H.w = .ok (.value (if ok then .tuple #[(r.map fun _ => j.2).getD zv, .bool r.isSome] else (r.map fun _ => j.2).getD zv)) H.w := by
            rcases hm with ⟨hm, rfl⟩ | ⟨b, clk, hm, hb⟩
            · have j1' : (Instr.findKey kt (a.eval i) []).run P H.w = .ok (r.map fun _ => j) H.w := by simpa using j1
              cases r with
              | none => cases ok <;> simp [execOp, ho, Instr.lookup, run_und hu, hm, hck, j1', z1]
              | some w => cases ok <;> simp [execOp, ho, Instr.lookup, run_und hu, hm, hck, j1']
            · have hg : (getObj b).run P H.w = .ok (.map ds clk) H.w := by simp [getObj, Sem.run, hb]
              cases r with
              | none => cases ok <;> simp [execOp, ho, Instr.lookup, run_und hu, hm, hg, hck, j1, z1]
              | some w => cases ok <;> simp [execOp, ho, Instr.lookup, run_und hu, hm, hg, hck, j1]
          have hv : V H (r.getD z) ((r.map fun _ => j.2).getD zv) := by
            cases r with
            | none => simpa using z2
            | some w => simpa using j2 w rfl
          refine OpOk.val' hr hrun ?_
          cases ok
          · simpa using hv
          · simp only [if_true, V]
            exact ⟨_, rfl, by simp only [Vs, V]; exact ⟨_, _, rfl, hv, _, _, rfl, rfl, rfl⟩⟩
        split at h
        · rename_i w hm
          obtain ⟨rfl, rfl⟩ : _ = v ∧ _ = eff := by simpa using h
          split at hm
          · simp at hm
          · rename_i id hp
            rw [hp] at hx; simp only [V] at hx
            obtain ⟨_, ob, hob, hlv⟩ := hx
            rw [hob] at hm
            split at hm
            · rename_i es he
              obtain rfl := Option.some.inj he
              obtain ⟨_, hav⟩ := hlv (by simp)
              obtain ⟨ds, clk, q1, q2, q3⟩ := hr.mp id es hob
              have := fin es ds (some w) hm q2 q3 (.inr ⟨_, clk, hav, q1⟩)
              simpa using this
            · cases hm
          · cases hm
        · rename_i hm
          obtain ⟨rfl, rfl⟩ : _ = v ∧ _ = eff := by simpa using h
          split at hm
          · rename_i hp
            rw [hp] at hx; simp only [V] at hx
            have := fin [] #[] none rfl (by simp [Vs]) (by simp [Vs]) (.inl ⟨hx, rfl⟩)
            simpa using this
          · rename_i id hp
            rw [hp] at hx; simp only [V] at hx
            obtain ⟨_, ob, hob, hlv⟩ := hx
            rw [hob] at hm
            split at hm
            · rename_i es he
              obtain rfl := Option.some.inj he
              obtain ⟨_, hav⟩ := hlv (by simp)
              obtain ⟨ds, clk, q1, q2, q3⟩ := hr.mp id es hob
              have := fin es ds none hm q2 q3 (.inr ⟨_, clk, hav, q1⟩)
              simpa using this
            · cases hm
          · cases hm
        · cases h
      · cases h
    · cases h
  · cases h

/-- a map's block is written -/
theorem set_map {id : Nat} {es es' : List (PV × PV)} {ds : Array MapEntry} {clk : Nat} (hr : HR H) (ht : H.τ id = some (.mp es))
    (hk : Vs H (es'.map (·.1)) (ds.toList.map (·.key))) (hv : Vs H (es'.map (·.2)) (ds.toList.map (·.val))) :
    ∃ w', (setObj (H.ρ id).blk (.map ds clk)).run P H.w = .ok () w' ∧ HR { H with τ := upd H.τ id (some (.mp es')), w := w' } ∧ Ext H { H with τ := upd H.τ id (some (.mp es')), w := w' } := by
  obtain ⟨ds0, clk0, q1, _, _⟩ := hr.mp id es ht
  have hlt := (Array.getElem?_eq_some_iff.1 q1).1
  refine ⟨{ H.w with heap := H.w.heap.setIfInBounds (H.ρ id).blk (.map ds clk) }, by simp [setObj, Sem.run, q1], ?_⟩
  exact step_map (clk := clk) (w' := { H.w with heap := H.w.heap.setIfInBounds (H.ρ id).blk (.map ds clk) }) hr ht (by simp [hlt])
    (fun b hb => by simp [Ne.symm hb]) (by simp) rfl rfl rfl hk hv

theorem ok_mapUpdate {t : TypeId} {m k x : Operand} (ho : o.op = .mapUpdate t m k x) (hr : HR H) (hm : V H (evalO tm m) (a.eval m)) (hk : V H (evalO tm k) (a.eval k)) (hx : V H (evalO tm x) (a.eval x))
    (h : primOp P H.τ n (.mapUpdate t m k x) tm = some (v, eff)) : OpOk P H o a n v eff := by
  simp only [primOp] at h
  split at h
  · rename_i kt e id hu hp
    split at h
    · rename_i kd es hkd ht
      split at h
      · rename_i hok
        split at h
        · rename_i r hf
          obtain ⟨rfl, rfl⟩ : _ = v ∧ _ = eff := by simpa using h
          rw [hp] at hm; simp only [V] at hm
          obtain ⟨_, ob, hob, hlv⟩ := hm
          rw [ht] at hob
          obtain rfl := Option.some.inj hob
          obtain ⟨_, hav⟩ := hlv (by simp)
          obtain ⟨ds, clk, q1, q2, q3⟩ := hr.mp id es ht
          have hck : ∀ b, (Instr.checkKey b 10000 kt (a.eval k)).run P H.w = .ok () H.w := fun b => run_checkKey hkd hok hk
          rcases findKey_spec hok hk es ds.toList 0 hf q2 q3 with ⟨rfl, k1, k2, _⟩ | ⟨w, j, uv, e, rfl, k1, k2, k3, k4, k5, k6, _⟩
          · have hvs : Vs H ((putKey (evalO tm k) (evalO tm x) es).map (·.1)) ((ds.push { key := a.eval k, val := a.eval x, born := clk }).toList.map (·.key)) ∧
                Vs H ((putKey (evalO tm k) (evalO tm x) es).map (·.2)) ((ds.push { key := a.eval k, val := a.eval x, born := clk }).toList.map (·.val)) := by
              rw [k2]
              simp only [List.map_append, Array.toList_push, List.map_cons, List.map_nil]
              exact ⟨Vs_append q2 (Vs_one hk), Vs_append q3 (Vs_one hx)⟩
            obtain ⟨w', s1, s2, s3⟩ := set_map (P := P) (clk := clk + 1) hr ht hvs.1 hvs.2
            refine ⟨.skip, _, ?_, .inr ⟨rfl, rfl⟩, s2, s3, rfl⟩
            simp only [execOp, ho, Instr.mapUpdate, Sem.run_bind, run_und hu, Result.andThen_ok, hav, getObj, Sem.run, q1, hck, Instr.findKey, run_und hkd, k1, Sem.run_pure, s1]
          · have hj : j < ds.size := by
              have := (List.getElem?_eq_some_iff.1 k3).1
              simpa using this
            have hdj : ds[j]? = some e := by rw [Array.getElem?_toList] at k3; exact k3
            obtain ⟨m1, m2⟩ := k6 _ _ hx
            have hvs : (ds.modify j fun e => { e with key := a.eval k, val := a.eval x }).toList = ds.toList.modify j fun e => { e with key := a.eval k, val := a.eval x } := by simp
            obtain ⟨w', s1, s2, s3⟩ := set_map (P := P) (clk := clk) (ds := ds.modify j fun e => { e with key := a.eval k, val := a.eval x }) hr ht (by rw [hvs]; exact m1) (by rw [hvs]; exact m2)
            refine ⟨.skip, _, ?_, .inr ⟨rfl, rfl⟩, s2, s3, rfl⟩
            have hst : (Instr.keyThatStays (((ds[j]?).map (·.key)).getD (a.eval k)) (a.eval k)).run P H.w = .ok (a.eval k) H.w := by
              simp [Instr.keyThatStays, hdj, k4]
            simp only [execOp, ho, Instr.mapUpdate, Sem.run_bind, run_und hu, Result.andThen_ok, hav, getObj, Sem.run, q1, hck, Instr.findKey, run_und hkd, k1, Sem.run_pure, Nat.zero_add, hst, s1]
        · cases h
      · cases h
    · cases h
  · cases h

end
end Go.MT
