/-
  Operations one by one (3): slices and strings.
-/
import Derived.Test.YtibbckpgcglbcaaGreatMtOps2
namespace Go.MT

section
variable {P : Program} {H : Hp} {o : Oper} {a : Act} {tm : Tmps} {n : Nat} {v : PV} {eff : Eff}

/-- what a slice (or string) holds, as cells -/
theorem sliceCells_spec (hr : HR H) {sz k : Nat} {p : PV} {u : Value} {cs : List PV} (h : sliceCells H.τ sz p = some (cs, k)) (hv : V H p u) :
    ∃ us, Vs H cs us ∧ cs.length = k * sz ∧ (∀ x ∈ cs, x.leaf = true) ∧
      ((u = .slice none 0 0 ∧ k = 0 ∧ us = []) ∨ (∃ b of cap, u = .slice (some ⟨b, of, none⟩) k cap ∧ k ≤ cap ∧ cellsAt H.w b of us) ∨ (∃ bs, u = .string bs ∧ (∃ q, p = .str q) ∧ sz = 1 ∧ k = bs.size ∧ us = bs.data.toList.map fun b => .int .u8 b.toNat)) := by
  unfold sliceCells at h
  split at h
  · obtain ⟨rfl, rfl⟩ : [] = cs ∧ 0 = k := by simpa using h
    simp only [V] at hv
    exact ⟨[], by simp [Vs], by simp, by simp, .inl ⟨hv, rfl, rfl⟩⟩
  · rename_i tight s m ds
    split at h
    · rename_i hc
      obtain ⟨rfl, rfl⟩ : ds = cs ∧ m = k := by simpa using h
      obtain ⟨rfl, hlen⟩ := hc
      simp only [V] at hv
      obtain ⟨b, of, cap, us, rfl, h1, h2, h3, h4, h5, h6, h7, h8⟩ := hv
      exact ⟨us, Vs_bare h8, hlen, h6, .inr (.inl ⟨b, of, cap, rfl, h1, h7⟩)⟩
    · cases h
  · rename_i id off len s
    split at h
    · rename_i hs
      subst hs
      split at h
      · rename_i ds cap ht
        split at h
        · rename_i hle
          obtain ⟨rfl, rfl⟩ : _ = cs ∧ len = k := by simpa using h
          simp only [V] at hv
          obtain ⟨_, ob, hob, hl⟩ := hv
          rw [ht] at hob
          obtain rfl := Option.some.inj hob
          obtain ⟨cs', cp, cap', b, of, _, rfl, h1, h2, h4, h3⟩ := hl (by simp)
          obtain ⟨c, e, fr, k1, k2, k2', k3, k4, k5, k6⟩ := hr.arr id ds cap ht
          refine ⟨(c.toList.drop ((H.ρ id).base + off)).take (len * s), ?_, by simp; omega, fun x hx => k5 x (List.mem_of_mem_drop (List.mem_of_mem_take hx)), .inr (.inl ⟨b, of, cap', rfl, h1, ?_⟩)⟩
          · have := Vs_take (Vs_drop k6 off) (len * s)
            rw [List.drop_take, List.drop_drop, List.take_take] at this
            rwa [Nat.min_eq_left (by omega)] at this
          · rcases h3 with h3 | ⟨rfl, rfl⟩
            · have : len = 0 := by omega
              subst this
              intro k hk; simp at hk
            · exact cellsAt_block k1
        · cases h
      · cases h
    · cases h
  · rename_i s
    split at h
    · rename_i hs
      subst hs
      obtain ⟨rfl, rfl⟩ : _ = cs ∧ s.length = k := by simpa using h
      simp only [V] at hv
      obtain ⟨bs, rfl, rfl⟩ := hv
      refine ⟨bs.data.toList.map fun b => .int .u8 b.toNat, ?_, by simp, fun x hx => ?_, .inr (.inr ⟨bs, rfl, ⟨_, rfl⟩, rfl, by rw [byteList_length], rfl⟩)⟩
      · unfold byteList
        rw [List.map_map]
        exact Vs_map _ _ _ fun x _ => by simp [V]
      · simp only [List.mem_map] at hx
        obtain ⟨_, _, rfl⟩ := hx
        rfl
    · cases h
  · cases h

theorem run_firstCells (hr : HR H) {sz k : Nat} {p : PV} {u : Value} {cs : List PV} (h : sliceCells H.τ sz p = some (cs, k)) (hv : V H p u) :
    ∃ us, Vs H cs us ∧ cs.length = k * sz ∧ (∀ x ∈ cs, x.leaf = true) ∧ (∀ w', (Builtin.lenOf u).run P w' = .ok k w') ∧
      (∀ w' : World, w'.heap = H.w.heap → ∀ m, m ≤ k → (Builtin.firstCells sz m u).run P w' = .ok (us.take (m * sz)).toArray w') ∧
      (∀ w' : World, w'.heap = H.w.heap → (Builtin.firstCells sz k u).run P w' = .ok us.toArray w') := by
  obtain ⟨us, h1, h2, h3, h4⟩ := sliceCells_spec hr h hv
  have hl := Vs_length h1
  have main : (∀ w' : World, w'.heap = H.w.heap → ∀ m, m ≤ k → (Builtin.firstCells sz m u).run P w' = .ok (us.take (m * sz)).toArray w') := by
    intro w' hw m hm
    rcases h4 with ⟨rfl, rfl, rfl⟩ | ⟨b, of, cap, rfl, _, hc⟩ | ⟨bs, rfl, _, rfl, rfl, rfl⟩
    · simp [Builtin.firstCells]
    · have hm' : m * sz ≤ k * sz := Nat.mul_le_mul_right _ hm
      have hc' : cellsAt w' b of us := cellsAt_of_heap (by rw [hw]) hc
      have := run_cellsAt (P := P) (cellsAt_take hc' (m * sz))
      rw [List.length_take, hl, h2, Nat.min_eq_left hm'] at this
      simpa [Builtin.firstCells] using this
    · have e : ((bs.extract 0 m).data.map fun b => (Value.int .u8 b.toNat)).toList = (bs.data.toList.map fun b => (Value.int .u8 b.toNat)).take m := by
        rw [Array.toList_map, ByteArray.data_extract, Array.toList_extract, List.extract_eq_take_drop]
        simp [List.map_take]
      simp only [Builtin.firstCells, Sem.run_pure, Nat.mul_one]
      congr 1
      rw [← e]
  refine ⟨us, h1, h2, h3, fun w' => ?_, main, fun w' hw => ?_⟩
  · rcases h4 with ⟨rfl, rfl, rfl⟩ | ⟨b, of, cap, rfl, _, hc⟩ | ⟨bs, rfl, _, rfl, rfl, rfl⟩ <;> simp [Builtin.lenOf]
  · have := main w' hw k (Nat.le_refl _)
    rwa [List.take_of_length_le (by omega)] at this

theorem bytesOf_spec : ∀ {cs : List PV} {us : List Value} {l : List Nat}, bytesOf? cs = some l → Vs H cs us → us = l.map (fun n => .int .u8 (n : Int)) ∧ ∀ n ∈ l, n < 256
  | [], us, l, h, hv => by
    simp [bytesOf?] at h; subst h
    simp only [Vs] at hv
    exact ⟨by simp [hv], by simp⟩
  | c :: cs, us, l, h, hv => by
    simp only [Vs] at hv
    obtain ⟨u, r, rfl, h1, h2⟩ := hv
    cases c with
    | int k m =>
      cases k <;> simp only [bytesOf?] at h <;> first
        | (cases h; done)
        | skip
      split at h
      · rename_i hm
        rw [Option.map_eq_some_iff] at h
        obtain ⟨l', h, rfl⟩ := h
        obtain ⟨rfl, k2⟩ := bytesOf_spec h h2
        simp only [V] at h1
        subst h1
        refine ⟨?_, fun x hx => ?_⟩
        · simp [Int.toNat_of_nonneg hm.1]
        · rcases List.mem_cons.1 hx with rfl | hx
          · omega
          · exact k2 x hx
      · cases h
    | _ => simp [bytesOf?] at h

theorem foldl_bytes : ∀ (l : List Nat) (s : ByteArray), ((l.map fun (n : Nat) => (n : Int)).foldl (fun (r : ByteArray) (n : Int) => r.push (UInt8.ofNat n.toNat)) s).data.toList = s.data.toList ++ l.map UInt8.ofNat
  | [], s => by simp
  | x :: l, s => by
    simp only [List.map_cons, List.foldl_cons]
    rw [foldl_bytes l]
    simp [ByteArray.push]

theorem modify_push {α : Type} (xs : Array α) (x : α) (f : α → α) : (xs.push x).modify xs.size f = xs.push (f x) := by
  apply Array.ext_getElem?
  intro i
  rw [Array.getElem?_modify, Array.getElem?_push, Array.getElem?_push]
  by_cases h : i = xs.size
  · subst h; simp
  · simp [h, Ne.symm h]

theorem ok_convert {s d : TypeId} {x : Operand} (ho : o.op = .convert s d x) (hr : HR H) (hn : H.τ n = none) (hx : V H (evalO tm x) (a.eval x)) (h : primOp P H.τ n (.convert s d x) tm = some (v, eff)) : OpOk P H o a n v eff := by
  simp only [primOp] at h
  unfold convT at h
  split at h
  · rename_i ks k kd m hs hd hp
    simp only [Option.some.injEq, Prod.mk.injEq] at h
    obtain ⟨rfl, rfl⟩ := h
    rw [hp] at hx; simp only [V] at hx
    refine OpOk.val' hr (u := .int k (k.wrap m)) ?_ (by simp only [V])
    simp only [execOp, ho, hx, Sem.run_bind, convert, run_und hs, run_und hd, Result.andThen_ok]
    rfl
  · rename_i ks l hs hd hp
    simp only [Option.some.injEq, Prod.mk.injEq] at h
    obtain ⟨rfl, rfl⟩ := h
    rw [hp] at hx
    have hx' := hx
    simp only [V] at hx
    obtain ⟨bs, hav, rfl⟩ := hx
    refine OpOk.val' hr (u := .string bs) ?_ (by simp only [V]; exact ⟨bs, rfl, rfl⟩)
    simp only [execOp, ho, hav, Sem.run_bind, convert, run_und hs, run_und hd, Result.andThen_ok]
    rfl
  · rename_i e hs hd hns
    split at h
    · rename_i he
      split at h
      · rename_i cs k hc
        rw [Option.map_eq_some_iff] at h
        obtain ⟨l, h, he'⟩ := h
        obtain ⟨rfl, rfl⟩ : _ = v ∧ _ = eff := by simpa using he'
        obtain ⟨us, h1, h2, h3, h4⟩ := sliceCells_spec hr hc hx
        obtain ⟨rfl, h6⟩ := bytesOf_spec h h1
        have hrun0 : ∀ u, (∃ p l c, u = Value.slice p l c) → (convert s d u).run P H.w = (Conv.bytesToString u).run P H.w := fun u hu => by
          obtain ⟨p, l, c, rfl⟩ := hu
          simp [convert, run_und hs, run_und hd, run_und he]
        rcases h4 with ⟨hav, rfl, e0⟩ | ⟨b, of, cap, hav, _, hcell⟩ | ⟨bs, hav⟩
        · have hl0 : l = [] := by simpa using e0
          subst hl0
          refine OpOk.val' hr (u := .string .empty) ?_ (by simp only [V]; exact ⟨_, rfl, rfl⟩)
          simp only [execOp, ho, Sem.run_bind]
          rw [hav, hrun0 _ ⟨_, _, _, rfl⟩]
          simp [Conv.bytesToString]
        · have hrun := run_cellsAt (P := P) hcell
          have hlen : (l.map fun (n : Nat) => (Value.int .u8 (n : Int))).length = k := by have := Vs_length h1; rw [this, h2]; simp
          rw [hlen] at hrun
          have hb := run_bytesToString (P := P) H.w ⟨b, of, none⟩ k cap (l.map fun (n : Nat) => (n : Int)) (by rw [hrun]; simp)
          refine OpOk.val' hr (u := .string ((l.map fun (n : Nat) => (n : Int)).foldl (fun r n => r.push (UInt8.ofNat n.toNat)) ByteArray.empty)) ?_ ?_
          · simp only [execOp, ho, Sem.run_bind]
            rw [hav, hrun0 _ ⟨_, _, _, rfl⟩, hb]
            rfl
          · simp only [V]
            refine ⟨_, rfl, ?_⟩
            unfold byteList
            rw [foldl_bytes]
            have : (ByteArray.empty.data.toList) = [] := rfl
            rw [this, List.nil_append, List.map_map]
            conv => rhs; rw [← List.map_id l]
            apply List.map_congr_left
            intro x hx
            simp [Nat.mod_eq_of_lt (h6 x hx)]
        · obtain ⟨_, ⟨q, hq⟩, _⟩ := hav
          exact (hns q hq).elim
      · cases h
    · cases h
  · rename_i e l hs hd hp
    split at h
    · rename_i he hsz
      obtain ⟨rfl, rfl⟩ : _ = v ∧ _ = eff := by simpa using h
      rw [hp] at hx; simp only [V] at hx
      obtain ⟨bs, hav, rfl⟩ := hx
      generalize hcap : (Question.appendCap bs.size 0 e).cut (H.w.tape H.w.drawn (.appendCap bs.size 0 e)) = cap
      generalize hc : (bs.data.map fun b => (Value.int .u8 b.toNat)) ++ Array.replicate (cap - bs.size) (Value.int .u8 0) = c
      have hrun : (Conv.stringToBytes e bs).run P H.w = .ok (.slice (some ⟨H.w.heap.size, 0, none⟩) bs.size cap)
          { H.w with drawn := H.w.drawn + 1, heap := H.w.heap.push (.cells c e (c.size, c.size + 1)) } := by
        simp only [Conv.stringToBytes, Sem.run_bind, run_choose, Question.forced, Bool.false_eq_true, if_false, Result.andThen_ok, hcap, newRow, run_newObj, Sem.run_pure, hc]
        simp [markStringish, World.shape?, World.freeze, modify_push]
      have hsize : bs.size ≤ c.size := by
        rw [← hc, Array.size_append, Array.size_map]
        exact Nat.le_add_right _ _
      have hcl : c.toList.take bs.size = bs.data.toList.map fun b => (Value.int .u8 b.toNat) := by
        rw [← hc, Array.toList_append, List.take_append_of_le_length (by rw [Array.toList_map, List.length_map, Array.length_toList]; exact Nat.le_refl _), Array.toList_map]
        exact List.take_of_length_le (by rw [List.length_map, Array.length_toList]; exact Nat.le_refl _)
      have hl1 : ((byteList bs).map fun (b : Nat) => PV.int .u8 (b : Int)).length = bs.size := by rw [List.length_map, byteList_length]
      obtain ⟨k1, k2⟩ := step_new (w' := { H.w with drawn := H.w.drawn + 1, heap := H.w.heap.push (.cells c e (c.size, c.size + 1)) })
        (o := .arr ((byteList bs).map fun (b : Nat) => PV.int .u8 (b : Int)) none) (blk := .cells c e (c.size, c.size + 1)) hr hn rfl rfl rfl rfl c.size
        (fun cs cap hcc => by
          obtain ⟨rfl, rfl⟩ : _ = cs ∧ none = cap := by simpa using hcc
          refine ⟨c, e, _, rfl, by rw [hl1]; exact hsize, Nat.le_refl _, by simp, fun k hk => by simp; omega, fun x hx => ?_, ?_⟩
          · simp only [List.mem_map] at hx
            obtain ⟨_, _, rfl⟩ := hx
            rfl
          · rw [hl1, hcl]
            unfold byteList
            rw [List.map_map]
            exact Vs_map _ _ _ fun x _ => by simp [V])
        (fun es hcc => by cases hcc)
      refine ⟨_, _, ?_, .inl ⟨.slice (some ⟨H.w.heap.size, 0, none⟩) bs.size cap, rfl, ?_⟩, k1, k2, rfl⟩
      · simp only [execOp, ho, hav, Sem.run_bind, convert, run_und hs, run_und hd, run_und he, Result.andThen_ok, hrun]
        rfl
      · have hlc : bs.size ≤ cap := by rw [← hcap]; simp [Question.cut]
        have hcs : c.size = cap := by
          rw [← hc, Array.size_append, Array.size_map, Array.size_replicate]
          have : bs.data.size = bs.size := rfl
          omega
        simp only [V]
        rw [byteList_length]
        refine ⟨rfl, _, upd_same _ _ _, fun _ => ⟨_, none, cap, H.w.heap.size, 0, rfl, rfl, hlc, by omega, by simp [hcs], .inr ⟨by simp, by simp⟩⟩⟩
    · cases h
  · cases h

end
end Go.MT
