/-
  Operations one by one (5): slicing, indexing, maps.
-/
import Derived.Test.YtibbckpgcglbcaaGreatMtOps4
namespace Go.MT

section
variable {P : Program} {H : Hp} {o : Oper} {a : Act} {tm : Tmps} {n : Nat} {v : PV} {eff : Eff}

theorem asInt_spec {x : PV} {u : Value} {i : Int} (h : asInt? x = some i) (hx : V H x u) : ∃ k, u = .int k i := by
  unfold asInt? at h
  split at h
  · rename_i k m
    obtain rfl := Option.some.inj h
    simp only [V] at hx
    exact ⟨k, hx⟩
  · cases h

theorem run_sliceBound {w : World} {k : IntKind} {i : Int} {y : Nat} {c : BoundsCode} (h0 : 0 ≤ i) (h1 : i ≤ y) : (Instr.sliceBound (.int k i) y c).run P w = .ok i.toNat w := by
  simp [Instr.sliceBound, asIntOf, h0, h1]

/-- the bounds of s[lo:hi] -/
theorem run_bounds {w : World} {lo hi : Option Operand} {len cap : Nat} {l h : Int} {isS : Bool} (hl : bound? tm 0 lo = some l) (hh : bound? tm len hi = some h)
    (hvl : ∀ x, lo = some x → V H (evalO tm x) (a.eval x)) (hvh : ∀ x, hi = some x → V H (evalO tm x) (a.eval x)) (h0 : 0 ≤ l) (h1 : l ≤ h) (h2 : h ≤ cap) :
    (Instr.sliceBounds isS len cap (lo.map a.eval) (hi.map a.eval) none).run P w = .ok (l.toNat, h.toNat, cap) w := by
  have e2 : (Instr.sliceBounds isS len cap (lo.map a.eval) (hi.map a.eval) none).run P w = ((match lo.map a.eval with
      | some v => Instr.sliceBound v h.toNat .sliceB
      | none => pure 0 : Sem Nat).run P w).andThen fun l' w' => .ok (l', h.toNat, cap) w' := by
    cases hi with
    | none =>
      simp only [bound?] at hh
      obtain rfl := Option.some.inj hh
      cases lo <;> simp [Instr.sliceBounds]
    | some x =>
      simp only [bound?] at hh
      obtain ⟨k, hk⟩ := asInt_spec hh (hvh x rfl)
      cases lo <;> simp [Instr.sliceBounds, hk, run_sliceBound (P := P) (w := w) (k := k) (c := if isS = true then .sliceAcap else .sliceAlen) (by omega : 0 ≤ h) h2]
  rw [e2]
  cases lo with
  | none =>
    simp only [bound?] at hl
    obtain rfl := Option.some.inj hl
    simp
  | some x =>
    simp only [bound?] at hl
    obtain ⟨k, hk⟩ := asInt_spec hl (hvl x rfl)
    simp [hk, run_sliceBound (P := P) (w := w) (k := k) (c := .sliceB) h0 (y := h.toNat) (by omega)]

theorem byteList_extract (s : ByteArray) (l h : Nat) : byteList (s.extract l h) = ((byteList s).drop l).take (h - l) := by
  unfold byteList
  rw [ByteArray.data_extract, Array.toList_extract, List.extract_eq_take_drop, List.map_take, List.map_drop]

theorem ok_slice {t : TypeId} {x : Operand} {lo hi mx : Option Operand} (ho : o.op = .slice t x lo hi mx) (hr : HR H) (hx : V H (evalO tm x) (a.eval x))
    (hvl : ∀ x, lo = some x → V H (evalO tm x) (a.eval x)) (hvh : ∀ x, hi = some x → V H (evalO tm x) (a.eval x))
    (h : primOp P H.τ n (.slice t x lo hi mx) tm = some (v, eff)) : OpOk P H o a n v eff := by
  cases mx with
  | some _ => simp [primOp] at h
  | none =>
  simp only [primOp] at h
  split at h
  · rename_i l u hl hu
    split at h
    · rename_i s hp
      split at h
      · rename_i hb hh
        split at h
        · rename_i hc
          obtain ⟨c1, c2, c3⟩ := hc
          obtain ⟨rfl, rfl⟩ : _ = v ∧ _ = eff := by simpa using h
          rw [hp] at hx; simp only [V] at hx
          obtain ⟨bs, hav, rfl⟩ := hx
          rw [byteList_length] at hh c3
          have hbd := run_bounds (P := P) (H := H) (w := H.w) (isS := false) hl hh hvl hvh c1 c2 c3
          refine OpOk.val' hr (u := .string (bs.extract l.toNat hb.toNat)) ?_ ?_
          · simp only [execOp, ho, Instr.sliceAt, Sem.run_bind, run_und hu, Result.andThen_ok, Instr.slice, hav, Option.map_none, Option.isSome_none, Bool.false_eq_true, if_false, hbd]
            simp
          · simp only [V]
            refine ⟨_, rfl, ?_⟩
            rw [byteList_extract]
            congr 1
            omega
        · cases h
      · cases h
    · rename_i e y hns
      split at h
      · rename_i sz hs
        have hrun : ∀ (b of len cap : Nat) (hb : Int), a.eval x = .slice (some ⟨b, of, none⟩) len cap → bound? tm len hi = some hb → 0 ≤ l → l ≤ hb → hb ≤ cap →
            (execOp a.eval o).run P H.w = .ok (.value (.slice (some (if cap = l.toNat then ⟨b, of, none⟩ else ⟨b, of + l.toNat * sz, none⟩)) (hb.toNat - l.toNat) (cap - l.toNat))) H.w := by
          intro b of len cap hb hav hh c1 c2 c3
          have hbd := run_bounds (P := P) (H := H) (w := H.w) (isS := true) hl hh hvl hvh c1 c2 c3
          simp only [execOp, ho, Instr.sliceAt, Sem.run_bind, run_und hu, Result.andThen_ok, Instr.slice, hav, Option.map_none, hbd, run_sizeT hs, Sem.run_pure]
          by_cases hcl : cap = l.toNat <;> simp [hcl, addr_add]
        split at h
        · rename_i hp
          split at h
          · rename_i hb hh
            split at h
            · rename_i hc
              obtain ⟨rfl, rfl⟩ := hc
              obtain ⟨rfl, rfl⟩ : _ = v ∧ _ = eff := by simpa using h
              rw [hp] at hx; simp only [V] at hx
              have hbd := run_bounds (P := P) (H := H) (w := H.w) (isS := true) (len := 0) (cap := 0) hl hh hvl hvh (by omega) (by omega) (by omega)
              refine OpOk.val' hr (u := .slice none 0 0) ?_ (by simp only [V])
              simp only [execOp, ho, Instr.sliceAt, Sem.run_bind, run_und hu, Result.andThen_ok, Instr.slice, hx, Option.map_none, hbd, run_sizeT hs, Sem.run_pure]
              simp
            · cases h
          · cases h
        · rename_i tight s m cs hp
          split at h
          · rename_i hb hh
            split at h
            · rename_i hc
              obtain ⟨rfl, c1, c2, c3, c4⟩ := hc
              obtain ⟨rfl, rfl⟩ : _ = v ∧ _ = eff := by simpa using h
              rw [hp] at hx; simp only [V] at hx
              obtain ⟨b, of, cap, us, hav, k1, k2, k3, k4, k5, k6, k7, k8⟩ := hx
              refine OpOk.val' hr (hrun b of m cap hb hav hh c1 c2 (by omega)) ?_
              have hul := Vs_length k8
              simp only [V]
              refine ⟨b, if cap = l.toNat then of else of + l.toNat * s, cap - l.toNat, (us.drop (l.toNat * s)).take ((hb - l).toNat * s), ?_, by omega, fun ht => ?_, k3, ?_, fun hne => k5 fun e => hne (by simp [e]),
                fun x hx => k6 x (List.mem_of_mem_drop (List.mem_of_mem_take hx)), ?_, Vs_take (Vs_drop k8 _) _⟩
              · rw [show (hb - l).toNat = hb.toNat - l.toNat by omega]
                by_cases hcl : cap = l.toNat <;> simp [hcl]
              · simp only [Bool.and_eq_true, decide_eq_true_eq] at ht
                have := k2 ht.1
                omega
              · simp only [List.length_take, List.length_drop, c4]
                rw [← Nat.sub_mul]
                have := Nat.mul_le_mul_right s (show (hb - l).toNat ≤ m - l.toNat by omega)
                omega
              · by_cases hcl : cap = l.toNat
                · have : (hb - l).toNat = 0 := by omega
                  rw [this]; intro k hk; simp at hk
                · rw [if_neg hcl]; exact cellsAt_take (cellsAt_drop k7 _) _
            · cases h
          · cases h
        · rename_i id off len s hp
          split at h
          · rename_i hb hh
            split at h
            · rename_i cs cap ht
              split at h
              · rename_i hc
                obtain ⟨rfl, c1, c2, c3⟩ := hc
                obtain ⟨rfl, rfl⟩ : _ = v ∧ _ = eff := by simpa using h
                rw [hp] at hx; simp only [V] at hx
                obtain ⟨_, ob, hob, hlv⟩ := hx
                rw [ht] at hob
                obtain rfl := Option.some.inj hob
                obtain ⟨cs', cp, cap', b, of, _, hav, k1, k2, k3, k4⟩ := hlv (by simp)
                refine OpOk.val' hr (hrun b of len cap' hb hav hh c1 c2 (by omega)) ?_
                simp only [V]
                refine ⟨rfl, _, ht, fun _ => ⟨cs, cap, cap' - l.toNat, b, if cap' = l.toNat then of else of + l.toNat * s, rfl, ?_, by omega, k2, ?_, ?_⟩⟩
                · rw [show (hb - l).toNat = hb.toNat - l.toNat by omega]
                  by_cases hcl : cap' = l.toNat <;> simp [hcl]
                · rw [← k3, Nat.sub_mul]
                  have := Nat.mul_le_mul_right s (show l.toNat ≤ cap' by omega)
                  omega
                · by_cases hcl : cap' = l.toNat
                  · exact .inl (by omega)
                  · rw [if_neg hcl]
                    rcases k4 with k4 | ⟨k4, k5⟩
                    · omega
                    · exact .inr ⟨k4, by omega⟩
              · cases h
            · cases h
          · cases h
        · cases h
      · cases h
    · cases h
  · cases h

theorem ok_indexAddr {t : TypeId} {x i : Operand} (ho : o.op = .indexAddr t x i) (hr : HR H) (hx : V H (evalO tm x) (a.eval x)) (hi : V H (evalO tm i) (a.eval i))
    (h : primOp P H.τ n (.indexAddr t x i) tm = some (v, eff)) : OpOk P H o a n v eff := by
  simp only [primOp] at h
  split at h
  · rename_i j e hj hu
    obtain ⟨k, hk⟩ := asInt_spec hj hi
    split at h
    · rename_i sz hs
      have hrun : ∀ (b of len cap : Nat), a.eval x = .slice (some ⟨b, of, none⟩) len cap → 0 ≤ j → j < len → (execOp a.eval o).run P H.w = .ok (.value (.pointer (some ⟨b, of + j.toNat * sz, none⟩))) H.w := by
        intro b of len cap hav h0 h1
        simp [execOp, ho, Instr.indexAt, hk, asIntOf, run_und hu, hav, h0, h1, run_sizeT hs, addr_add]
      split at h
      · rename_i id off len s hp
        split at h
        · rename_i cs cap ht
          split at h
          · rename_i hc
            obtain ⟨rfl, c1, c2⟩ := hc
            obtain ⟨rfl, rfl⟩ : _ = v ∧ _ = eff := by simpa using h
            rw [hp] at hx; simp only [V] at hx
            obtain ⟨_, ob, hob, hlv⟩ := hx
            rw [ht] at hob
            obtain rfl := Option.some.inj hob
            obtain ⟨cs', cp, cap', b, of, _, hav, k1, k2, k3, k4⟩ := hlv (by simp)
            refine OpOk.val' hr (hrun b of len cap' hav c1 c2) ?_
            rcases k4 with k4 | ⟨rfl, rfl⟩
            · omega
            · simp only [V]
              exact ⟨rfl, _, ht, fun _ => ⟨⟨cs, cap, rfl⟩, by rw [Nat.add_assoc]⟩⟩
          · cases h
        · cases h
      · rename_i tight s m cs hp
        split at h
        · rename_i hc
          obtain ⟨rfl, c1, c2⟩ := hc
          obtain ⟨rfl, rfl⟩ : _ = v ∧ _ = eff := by simpa using h
          rw [hp] at hx; simp only [V] at hx
          obtain ⟨b, of, cap, us, hav, k1, k2, k3, k4, k5, k6, k7, k8⟩ := hx
          refine OpOk.val' hr (hrun b of m cap hav c1 c2) ?_
          simp only [V]
          exact ⟨b, _, us.drop (j.toNat * s), rfl, fun hne => k5 fun e => hne (by simp [e]), fun x hx => k6 x (List.mem_of_mem_drop hx), cellsAt_drop k7 _, Vs_drop k8 _⟩
        · cases h
      · cases h
    · cases h
  · rename_i j len e hj hu
    obtain ⟨k, hk⟩ := asInt_spec hj hi
    split at h
    · rename_i sz hs
      have hrun : ∀ (b of : Nat), a.eval x = .pointer (some ⟨b, of, none⟩) → 0 ≤ j → j < len → 2 ≤ len → (execOp a.eval o).run P H.w = .ok (.value (.pointer (some ⟨b, of + j.toNat * sz, none⟩))) H.w := by
        intro b of hav h0 h1 h2
        simp [execOp, ho, Instr.indexAt, hk, asIntOf, run_und hu, hav, h0, h1, run_sizeT hs, addr_add, Instr.sureAddr]
      split at h
      · rename_i id off hp
        split at h
        · rename_i cs cap ht
          split at h
          · rename_i hc
            obtain ⟨c1, c2, c3⟩ := hc
            obtain ⟨rfl, rfl⟩ : _ = v ∧ _ = eff := by simpa using h
            rw [hp] at hx; simp only [V] at hx
            obtain ⟨_, ob, hob, hlv⟩ := hx
            rw [ht] at hob
            obtain rfl := Option.some.inj hob
            obtain ⟨_, hav⟩ := hlv (by simp)
            refine OpOk.val' hr (hrun _ _ hav c1 c2 c3) ?_
            simp only [V]
            exact ⟨rfl, _, ht, fun _ => ⟨⟨cs, cap, rfl⟩, by rw [Nat.add_assoc]⟩⟩
          · cases h
        · cases h
      · rename_i cs hp
        split at h
        · rename_i hc
          obtain ⟨c1, c2, c3⟩ := hc
          obtain ⟨rfl, rfl⟩ : _ = v ∧ _ = eff := by simpa using h
          rw [hp] at hx; simp only [V] at hx
          obtain ⟨b, of, us, hav, hz, hlf, hcl, hs'⟩ := hx
          refine OpOk.val' hr (hrun b of hav c1 c2 c3) ?_
          simp only [V]
          exact ⟨b, _, us.drop (j.toNat * sz), rfl, fun hne => hz fun e => hne (by simp [e]), fun x hx => hlf x (List.mem_of_mem_drop hx), cellsAt_drop hcl _, Vs_drop hs' _⟩
        · cases h
      · cases h
    · cases h
  · cases h

theorem ok_index {t : TypeId} {x i : Operand} (ho : o.op = .index t x i) (hr : HR H) (hx : V H (evalO tm x) (a.eval x)) (hi : V H (evalO tm i) (a.eval i))
    (h : primOp P H.τ n (.index t x i) tm = some (v, eff)) : OpOk P H o a n v eff := by
  simp only [primOp] at h
  split at h
  · rename_i j s hj hu hp
    obtain ⟨k, hk⟩ := asInt_spec hj hi
    split at h
    · rename_i h0
      rw [Option.map_eq_some_iff] at h
      obtain ⟨b, hb, he⟩ := h
      obtain ⟨rfl, rfl⟩ : _ = v ∧ _ = eff := by simpa using he
      rw [hp] at hx; simp only [V] at hx
      obtain ⟨bs, hav, rfl⟩ := hx
      have hb' : ∃ u : UInt8, bs[j.toNat]? = some u ∧ u.toNat = b := by
        unfold byteList at hb
        rw [List.getElem?_map, Option.map_eq_some_iff] at hb
        obtain ⟨u, h1, h2⟩ := hb
        refine ⟨u, ?_, h2⟩
        rw [Array.getElem?_toList] at h1
        exact h1
      obtain ⟨u, h1, rfl⟩ := hb'
      refine OpOk.val' hr (u := .int .u8 u.toNat) ?_ (by simp only [V])
      simp [execOp, ho, Instr.index, hk, asIntOf, run_und hu, hav, h0, h1]
    · cases h
  · rename_i j len e cs hj hu hp
    obtain ⟨k, hk⟩ := asInt_spec hj hi
    split at h
    · rename_i sz hs
      split at h
      · rename_i hc
        obtain ⟨c1, c2⟩ := hc
        rw [Option.map_eq_some_iff] at h
        obtain ⟨r, h, he⟩ := h
        obtain ⟨rfl, rfl⟩ : _ = v ∧ _ = eff := by simpa using he
        rw [hp] at hx; simp only [V] at hx
        obtain ⟨us, hav, hx⟩ := hx
        obtain ⟨u, h1, h2⟩ := run_partT (w := H.w) h hx
        refine OpOk.val' hr (u := u) ?_ h2
        simp [execOp, ho, Instr.index, hk, asIntOf, run_und hu, hav, c1, c2, run_sizeT hs, h1]
      · cases h
    · cases h
  · cases h

end
end Go.MT
