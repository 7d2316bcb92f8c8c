/-
  Operations one by one (7): append.
-/
import Derived.Test.YtibbckpgcglbcaaGreatMtOps6
namespace Go.MT

section
variable {P : Program} {H : Hp} {o : Oper} {a : Act} {tm : Tmps} {n : Nat} {v : PV} {eff : Eff}

theorem growBy_le (need : Nat) : ∀ (r c B : Nat), c ≤ B → need + (need + 768) / 4 ≤ B → Builtin.growBy need r c ≤ B
  | 0, c, B, h, _ => by simpa [Builtin.growBy] using h
  | r + 1, c, B, h, hB => by
    simp only [Builtin.growBy]
    split
    · exact h
    · exact growBy_le need r _ B (by omega) hB

theorem nextcap_le {need old : Nat} (h : old < need) : Builtin.nextslicecap need old ≤ 2 * need := by
  unfold Builtin.nextslicecap
  split
  · omega
  · split
    · omega
    · exact growBy_le need 4 old _ (by omega) (by omega)

/-- what an append comes to that knows its new elements' cells: its own room, or a new array -/
structure App (P : Program) (H : Hp) (c : Sem Value) (e : TypeId) (sz by_ k sl sc : Nat) (b : Option Addr) (s : Value) (news : List Value) : Prop where
  stay : sl + k ≤ sc → c.run P H.w = ((match b with | some a => storeCells (a.add (sl * sz)) news | none => pure () : Sem Unit).run P H.w).andThen fun _ w => .ok (.slice b (sl + k) sc) w
  grow : ∀ (olds : List Value) (zv : Value), ¬ sl + k ≤ sc → (sl + k) * by_ ≤ 70368744177664 → sl + k ≤ 70368744177664 → (∀ w, (zeroValue e).run P w = .ok zv w) → zv.cells.size = sz →
    (∀ w', SameMem H.w w' → (Builtin.firstCells sz sl s).run P w' = .ok olds.toArray w') →
    ∃ (cap : Nat) (rest : List Value), sl + k ≤ cap ∧ rest.length = (cap - (sl + k)) * sz ∧
      c.run P H.w = .ok (.slice (some ⟨H.w.heap.size, 0, none⟩) (sl + k) cap) { H.w with drawn := H.w.drawn + 1, heap := H.w.heap.push (.cells (olds ++ news ++ rest).toArray e) }

theorem append_plain {H : Hp} {st xt e ty : TypeId} {u : TypeDesc} {sz by_ k : Nat} {b : Option Addr} {sl sc : Nat} {x : Value} {news : List Value} (hs : P.underlying st = some (.slice e)) (hx : P.underlying xt = some u) (hu : ∀ k, u ≠ .int k)
    (hsz : sizeT P e = some sz) (hby : bytesT P e = some by_) (hl : (Builtin.lenOf x).run P H.w = .ok k H.w) (happ : ∀ w', SameMem H.w w' → (Builtin.firstCells sz k x).run P w' = .ok news.toArray w') :
    App P H (Builtin.append_ #[st, xt] ty #[.slice b sl sc, x]) e sz by_ k sl sc b (.slice b sl sc) news := by
  refine ⟨fun hle => ?_, fun olds zv hno h1 h2 hz hzs hold => ?_⟩
  · simp only [Builtin.append_]
    simp only [List.getElem?_toArray, List.getElem?_cons_zero, List.getElem?_cons_succ, Sem.run_bind, run_und hs, Result.andThen_ok, run_sizeT hsz, run_und hx, Sem.run_pure, Bool.false_eq_true, if_false, hl, Bool.not_false, if_true]
    simp only [if_pos hle, Sem.run_bind, happ _ (SameMem.refl _), Result.andThen_ok]
    cases b <;> simp
  · skip
    have hsm : SameMem H.w { H.w with drawn := H.w.drawn + 1 } := ⟨rfl, rfl, rfl, rfl⟩
    generalize hcap : (Question.appendCap (sl + k) sc e).cut (H.w.tape H.w.drawn (.appendCap (sl + k) sc e)) = cap
    have hle : sl + k ≤ cap := by rw [← hcap]; simp [Question.cut]
    refine ⟨cap, (Builtin.zeroCells zv.cells (cap - (sl + k))).toList, hle, by simp [Builtin.zeroCells, hzs], ?_⟩
    have hmax : ¬ (((sl + k : Nat) : Int) > IntKind.i64.max) := by
      have : IntKind.i64.max = 9223372036854775807 := by decide
      rw [this]; omega
    have hnc := nextcap_le (need := sl + k) (old := sc) (by omega)
    have hbig : ∀ i : TypeInfo, i.bytes = by_ → ¬ (Builtin.nextslicecap (sl + k) sc * i.bytes > 2 ^ 48) := fun i hi => by
      rw [hi]
      have := Nat.mul_le_mul_right by_ hnc
      rw [Nat.mul_assoc] at this
      omega
    have hti : ∀ w, ∃ i, (typeInfo e).run P w = .ok i w ∧ i.bytes = by_ := fun w => run_bytesT hby
    obtain ⟨i0, t1, t2⟩ := hti H.w
    obtain ⟨i1, t3, t4⟩ := hti { H.w with drawn := H.w.drawn + 1 }
    have hq : (choose (.appendCap (sl + k) sc e)).run P H.w = .ok cap { H.w with drawn := H.w.drawn + 1 } := by
      rw [run_choose]; simp only [Question.forced, Bool.false_eq_true, if_false, hcap]
    simp only [Builtin.append_]
    simp only [List.getElem?_toArray, List.getElem?_cons_zero, List.getElem?_cons_succ, Sem.run_bind, run_und hs, Result.andThen_ok, run_sizeT hsz, run_und hx, Sem.run_pure, Bool.false_eq_true, if_false, hl, Bool.not_false, if_true]
    simp only [if_neg hno, Sem.run_bind, t1, Result.andThen_ok]
    rw [if_neg (fun h => hmax h.1)]
    simp only [Sem.run_bind, Result.andThen_ok, t1]
    rw [if_neg (hbig i0 t2)]
    simp only [Sem.run_bind, Sem.run_pure, Result.andThen_ok, hq, t3, run_askRoom, hold _ hsm, happ _ hsm, hz, newRow, run_newObj]
    congr 3
    simp

/-- cells written into an object's own room, from within its cells or right behind them -/
theorem write_block {id off : Nat} {cs vs : List PV} {cap : Option Nat} {us : List Value} (hr : HR H) (ht : H.τ id = some (.arr cs cap)) (h1 : off ≤ cs.length) (h2 : off + vs.length ≤ (H.ρ id).fin)
    (hv : Vs H vs us) (hl : ∀ x ∈ vs, x.leaf = true) :
    ∃ w', (storeCells ⟨(H.ρ id).blk, (H.ρ id).base + off, none⟩ us).run P H.w = .ok () w' ∧ HR { H with τ := upd H.τ id (some (.arr (splice cs off vs) cap)), w := w' } ∧
      Ext H { H with τ := upd H.τ id (some (.arr (splice cs off vs) cap)), w := w' } := by
  obtain ⟨c, e, fr, k1, k2, k2', k3, k4, k5, k6⟩ := hr.arr id cs cap ht
  have hlen := Vs_length hv
  obtain ⟨⟨c', s1, s2, s3⟩, s4, s5, s6, s7, s8⟩ := setCells_spec us ((H.ρ id).base + off) H.w c k1 (by omega)
  have hcell : ∀ j, j < us.length → (H.w.cell? ⟨(H.ρ id).blk, (H.ρ id).base + off + 0 + j, none⟩).isSome = true := fun j hj => by
    simp only [World.cell?, k1, Option.isSome_none, Bool.false_eq_true, if_false]
    rw [Array.getElem?_eq_getElem (by omega)]; rfl
  have hfz : ∀ j, j < us.length → H.w.frozen? ⟨(H.ρ id).blk, (H.ρ id).base + off + 0 + j, none⟩ = false := fun j hj => by
    obtain ⟨lo, hi⟩ := fr
    have := k4 ((H.ρ id).base + off + 0 + j) (by omega)
    simp only [World.frozen?, k1, Bool.and_eq_false_iff, decide_eq_false_iff_not]
    simp only [] at this
    omega
  have hrun := run_storeCells_cells (P := P) (H.ρ id).blk ((H.ρ id).base + off) us 0 H.w hcell hfz (Vs_one' hv hl)
  refine ⟨_, hrun, ?_⟩
  have hc : (H.ρ id).base + cs.length ≤ c.toList.length := by have := Array.length_toList (xs := c); omega
  have hc2 : (H.ρ id).base + off + us.length ≤ c.toList.length := by have := Array.length_toList (xs := c); omega
  have e1 : (splice cs off vs).length = off + us.length + (cs.length - (off + us.length)) := by simp [splice]; omega
  have hcs : Vs H (splice cs off vs) ((c'.toList.drop (H.ρ id).base).take (splice cs off vs).length) := by
    have e2 : (c'.toList.drop (H.ρ id).base).take (splice cs off vs).length = ((c.toList.drop (H.ρ id).base).take cs.length).take off ++ us ++ ((c.toList.drop (H.ρ id).base).take cs.length).drop (off + us.length) := by
      apply List.ext_getElem?
      intro j
      rw [s3, e1]
      by_cases j1 : j < off + us.length + (cs.length - (off + us.length))
      · rw [List.getElem?_take_of_lt j1, List.getElem?_drop]
        by_cases j2 : j < off
        · rw [List.append_assoc, List.getElem?_append_left (by simp; omega), List.getElem?_take_of_lt (by omega), List.append_assoc,
            List.getElem?_append_left (by simp; omega), List.getElem?_take_of_lt j2, List.getElem?_take_of_lt (by omega), List.getElem?_drop]
        · by_cases j3 : j < off + us.length
          · rw [List.getElem?_append_left (by simp; omega), List.getElem?_append_right (by simp; omega), List.getElem?_append_left (by simp; omega),
              List.getElem?_append_right (by simp; omega)]
            congr 1; simp; omega
          · rw [List.getElem?_append_right (by simp; omega), List.getElem?_append_right (by simp; omega), List.getElem?_drop, List.getElem?_drop,
              List.getElem?_take_of_lt (by simp; omega), List.getElem?_drop]
            congr 1; simp; omega
      · rw [List.getElem?_eq_none (by simp; omega), List.getElem?_eq_none (by simp; omega)]
    rw [e2, hlen]
    unfold splice
    exact Vs_append (Vs_append (Vs_take k6 off) hv) (Vs_drop k6 _)
  exact step_set (w' := H.w.setCells (H.ρ id).blk ((H.ρ id).base + off + 0) us) (cs' := splice cs off vs) hr ht k1 (by simpa using s1) s2 (by simpa using s4) (by simpa using s5) (by simpa using s6) (by simpa using s7) (by simpa using s8)
    (by rw [e1]; omega) (fun x hx => by
      simp only [splice, List.mem_append] at hx
      rcases hx with (hx | hx) | hx
      · exact k5 x (List.mem_of_mem_take hx)
      · exact hl x hx
      · exact k5 x (List.mem_of_mem_drop hx)) hcs

theorem upd_upd {α : Type} (f : Nat → α) (i : Nat) (x y : α) : upd (upd f i x) i y = upd f i y := by
  funext k; unfold upd; split <;> rfl

theorem V_ref_new {H' : Hp} {cs : List PV} {b f base len cap sz : Nat} (ht : H'.τ n = some (.arr cs none)) (hp : H'.ρ n = ⟨b, base, f⟩) (hle : len ≤ cap) (hsz : 0 < sz) (hf : cap * sz = f) :
    V H' (.ref n 0 len sz) (.slice (some ⟨b, base, none⟩) len cap) := by
  simp only [V]
  exact ⟨rfl, _, ht, fun _ => ⟨cs, none, cap, b, base, rfl, rfl, hle, hsz, by rw [hp]; simp [hf], .inr ⟨by rw [hp], by rw [hp]; rfl⟩⟩⟩

def killτ (τ : Nat → Option Obj) : Option Nat → (Nat → Option Obj)
  | none => τ
  | some id => upd τ id (some .dead)

/-- a new array for what is appended to, the old object dead or not -/
theorem realloc_step {e : TypeId} {sz need cap : Nat} {cs ys : List PV} {olds news rest : List Value} (hr : HR H) (hn : H.τ n = none) (ho : Vs H cs olds) (hv : Vs H ys news) (hsz : 0 < sz)
    (hl : ∀ x ∈ cs, x.leaf = true) (hl2 : ∀ x ∈ ys, x.leaf = true) (hlen : cs.length + ys.length = need * sz) (hle : need ≤ cap) (hrest : rest.length = (cap - need) * sz) (kill : Option Nat) (hk : ∀ id, kill = some id → ∃ ob, H.τ id = some ob) :
    ∃ H' : Hp, H'.w = { H.w with drawn := H.w.drawn + 1, heap := H.w.heap.push (.cells (olds ++ news ++ rest).toArray e) } ∧ V H' (.ref n 0 need sz) (.slice (some ⟨H.w.heap.size, 0, none⟩) need cap) ∧ HR H' ∧ Ext H H' ∧
      H'.τ = upd (killτ H.τ kill) n (some (.arr (cs ++ ys) none)) := by
  have l1 := Vs_length ho
  have l2 := Vs_length hv
  have hcs : cap * sz = need * sz + (cap - need) * sz := by rw [← Nat.add_mul]; congr 1; omega
  have main : ∀ G : Hp, G.w = H.w → HR G → Ext H G → G.τ n = none → VExt H G → ∃ H' : Hp, H'.w = { H.w with drawn := H.w.drawn + 1, heap := H.w.heap.push (.cells (olds ++ news ++ rest).toArray e) } ∧
      V H' (.ref n 0 need sz) (.slice (some ⟨H.w.heap.size, 0, none⟩) need cap) ∧ HR H' ∧ Ext H H' ∧ H'.τ = upd G.τ n (some (.arr (cs ++ ys) none)) := by
    intro G hw hG hx hGn hvx
    have hGv : Vs G (cs ++ ys) ((olds ++ news ++ rest).toArray.toList.take (cs ++ ys).length) := by
      rw [List.take_append_of_le_length (by simp; omega), List.take_of_length_le (by simp; omega)]
      exact Vs_append (Vs_ext hvx ho) (Vs_ext hvx hv)
    obtain ⟨k1, k2⟩ := step_new (H := G) (w' := { H.w with drawn := H.w.drawn + 1, heap := H.w.heap.push (.cells (olds ++ news ++ rest).toArray e) }) (o := .arr (cs ++ ys) none) (blk := .cells (olds ++ news ++ rest).toArray e) hG hGn
      (by rw [hw]) (by rw [hw]) (by rw [hw]) (by rw [hw]) (cap * sz)
      (fun cs' cap' hcc => by
        obtain ⟨rfl, rfl⟩ : _ = cs' ∧ none = cap' := by simpa using hcc
        refine ⟨_, e, (0, 0), rfl, by simp; omega, by simp; omega, by simp, fun k _ => by simp, fun x hx => ?_, hGv⟩
        rcases List.mem_append.1 hx with hx | hx
        · exact hl x hx
        · exact hl2 x hx)
      (fun es hcc => by cases hcc)
    refine ⟨_, rfl, ?_, k1, hx.trans k2, rfl⟩
    exact V_ref_new (cs := cs ++ ys) (f := cap * sz) (by simp) (by simp [hw]) hle hsz rfl
  cases kill with
  | none =>
    obtain ⟨H', q⟩ := main H rfl hr (Ext.refl H) hn (VExt.refl H)
    exact ⟨H', q⟩
  | some id =>
    obtain ⟨ob, hob⟩ := hk id rfl
    obtain ⟨g1, g2⟩ := step_kill hr hob
    have hne : n ≠ id := fun e => by rw [e, hob] at hn; cases hn
    obtain ⟨H', q⟩ := main { H with τ := upd H.τ id (some .dead) } rfl g1 g2 (by simp only []; rw [upd_other _ _ hne]; exact hn) g2.toVExt
    exact ⟨H', q⟩

theorem app_core {c : Sem Value} {e : TypeId} {sz by_ k sl sc : Nat} {b : Option Addr} {s : PV} {ys : List PV} {news : List Value} {z : PV} (happ : App P H c e sz by_ k sl sc b (.slice b sl sc) news)
    (h : appendT H.τ n sz by_ s ys k = some (v, eff)) (hr : HR H) (hn : H.τ n = none) (hsv : V H s (.slice b sl sc)) (hys : Vs H ys news) (hyl : ys.length = k * sz) (hyf : ∀ x ∈ ys, x.leaf = true) (hsz : 0 < sz)
    (hz : zeroT P e = some z) (hzl : z.cells.length = sz) :
    ∃ u H', c.run P H.w = .ok u H'.w ∧ V H' v u ∧ HR H' ∧ Ext H H' ∧ H'.τ = appτ H.τ n eff := by
  obtain ⟨zv, z1, z2, z3, z4⟩ := run_zeroT (w := H.w) (H := H) hz
  have hzw : ∀ w, (zeroValue e).run P w = .ok zv w := fun w => by
    obtain ⟨zv', y1, _⟩ := run_zeroT (w := w) (H := H) hz
    have : zv' = zv := by
      have q1 : (zeroValue e).run P H.w = .ok zv H.w := z1
      unfold zeroT at hz
      split at hz
      · rename_i hi
        simp [zeroValue, run_info hi] at y1 q1
        rw [← y1, ← q1]
      · cases hz
    rw [← this]; exact y1
  have hzs : zv.cells.size = sz := by have := Vs_length z3; simp at this; omega
  unfold appendT at h
  split at h
  · -- nothing appended
    rename_i hk
    subst hk
    have hnews : news = [] := by
      have := Vs_length hys
      rw [hyl] at this
      simpa using this
    subst hnews
    have hrun : sl ≤ sc → c.run P H.w = .ok (.slice b sl sc) H.w := fun hle => by
      rw [happ.stay hle]
      cases b <;> simp [storeCells]
    split at h
    · obtain ⟨rfl, rfl⟩ : _ = v ∧ _ = eff := by simpa using h
      have hsv' := hsv
      simp only [V] at hsv
      obtain ⟨rfl, rfl, rfl⟩ : b = none ∧ sl = 0 ∧ sc = 0 := by simpa using hsv
      exact ⟨_, H, hrun (Nat.le_refl _), hsv', hr, Ext.refl H, rfl⟩
    · obtain ⟨rfl, rfl⟩ : _ = v ∧ _ = eff := by simpa using h
      have hsv' := hsv
      simp only [V] at hsv
      obtain ⟨b', a', cap, us, e1, h1, _⟩ := hsv
      obtain ⟨rfl, rfl, rfl⟩ : b = _ ∧ sl = _ ∧ sc = cap := by simpa using e1
      exact ⟨_, H, hrun h1, hsv', hr, Ext.refl H, rfl⟩
    · split at h
      · rename_i cs cap ht
        obtain ⟨rfl, rfl⟩ : _ = v ∧ _ = eff := by simpa using h
        have hsv' := hsv
        simp only [V] at hsv
        obtain ⟨_, ob, hob, hlv⟩ := hsv
        rw [ht] at hob
        obtain rfl := Option.some.inj hob
        obtain ⟨cs', cp, cap', b', a', _, e1, h1, _⟩ := hlv (by simp)
        obtain ⟨rfl, rfl, rfl⟩ : b = _ ∧ sl = _ ∧ sc = cap' := by simpa using e1
        exact ⟨_, H, hrun h1, hsv', hr, Ext.refl H, rfl⟩
      · cases h
    · cases h
  · rename_i hk
    split at h
    · -- nil
      split at h
      · rename_i hc
        obtain ⟨rfl, rfl⟩ : _ = v ∧ _ = eff := by simpa using h
        simp only [V] at hsv
        obtain ⟨rfl, rfl, rfl⟩ : b = none ∧ sl = 0 ∧ sc = 0 := by simpa using hsv
        obtain ⟨cap, rest, r1, r2, r3⟩ := happ.grow [] zv (by omega) (by simpa using hc.1) (by simpa using hc.2) hzw hzs
          (fun w' _ => by simp [Builtin.firstCells])
        obtain ⟨H', q1, q2, q3, q4, q5⟩ := realloc_step (e := e) (need := 0 + k) (cs := []) (olds := []) hr hn (by simp [Vs]) hys hsz (by simp) hyf (by simp [hyl]) r1 r2 none (by simp)
        exact ⟨_, H', by rw [r3, q1], by simpa using q2, q3, q4, by simpa [appτ, killτ] using q5⟩
      · cases h
    · -- a list with no room behind it
      rename_i s' m xs
      split at h
      · rename_i hc
        obtain ⟨rfl, c1, c2, c3⟩ := hc
        obtain ⟨rfl, rfl⟩ : _ = v ∧ _ = eff := by simpa using h
        have hsv' := hsv
        simp only [V] at hsv
        obtain ⟨b', a', cap0, us0, e1, h1, h2, h3, h4, h5, h6, h7, h8⟩ := hsv
        obtain ⟨rfl, rfl, rfl⟩ : b = _ ∧ sl = m ∧ sc = cap0 := by simpa using e1
        have hsc : sliceCells H.τ s' (.lst true s' sl xs) = some (xs, sl) := by simp [sliceCells, c1]
        obtain ⟨us, u1, u2, u3, _, _, u4⟩ := run_firstCells (P := P) hr hsc hsv'
        have hold : ∀ w', SameMem H.w w' → (Builtin.firstCells s' sl (.slice (some ⟨b', a', none⟩) sl sc)).run P w' = .ok us.toArray w' := fun w' hw => u4 w' hw.heap
        obtain ⟨cap, rest, r1, r2, r3⟩ := happ.grow us zv
          (by have := h2 trivial; omega) c2 c3 hzw hzs hold
        obtain ⟨H', q1, q2, q3, q4, q5⟩ := realloc_step (e := e) (need := sl + k) hr hn u1 hys hsz u3 hyf (by rw [u2, hyl, Nat.add_mul]) r1 r2 none (by simp)
        exact ⟨_, H', by rw [r3, q1], q2, q3, q4, by simpa [appτ, killτ] using q5⟩
      · cases h
    · -- a live slice
      rename_i id off len s'
      split at h
      · rename_i hc
        obtain ⟨rfl, c2, c3⟩ := hc
        split at h
        · rename_i cs cap ht
          have hsv' := hsv
          simp only [V] at hsv
          obtain ⟨_, ob, hob, hlv⟩ := hsv
          rw [ht] at hob
          obtain rfl := Option.some.inj hob
          obtain ⟨_, _, sc', b', a', _, e1, l1, _, l3, l4⟩ := hlv (by simp)
          obtain ⟨rfl, rfl, rfl⟩ : b = _ ∧ sl = len ∧ sc = sc' := by simpa using e1
          obtain ⟨cc0, ec, fr, k1, k2, k2', k3, k4, k5, k6⟩ := hr.arr id cs cap ht
          have hnid : n ≠ id := fun e => by rw [e, ht] at hn; cases hn
          have hnl := Vs_length hys
          -- in place
          have inPlace : sl + k ≤ sc → off + sl * s' ≤ cs.length → ∃ w', c.run P H.w = .ok (.slice (some ⟨b', a', none⟩) (sl + k) sc) w' ∧
              HR { H with τ := upd H.τ id (some (.arr (splice cs (off + sl * s') ys) cap)), w := w' } ∧ Ext H { H with τ := upd H.τ id (some (.arr (splice cs (off + sl * s') ys) cap)), w := w' } ∧ b' = (H.ρ id).blk ∧ a' = (H.ρ id).base + off := by
            intro hle hcl
            rcases l4 with l4 | ⟨l4, l5⟩
            · omega
            · have hfin : off + sl * s' + ys.length ≤ (H.ρ id).fin := by
                rw [hyl, ← l3, Nat.add_assoc, ← Nat.add_mul]
                exact Nat.add_le_add_left (Nat.mul_le_mul_right _ hle) _
              obtain ⟨w', s1, s2, s3⟩ := write_block (P := P) hr ht hcl hfin hys hyf
              refine ⟨w', ?_, s2, s3, l4, l5⟩
              rw [happ.stay hle]
              simp only [addr_add]
              rw [l4, l5, Nat.add_assoc, s1]
              simp
          -- a new array
          have anew : ∀ kill, (∀ i, kill = some i → ∃ ob, H.τ i = some ob) → ¬ sl + k ≤ sc → off + sl * s' = cs.length → ∃ u, ∃ H' : Hp, c.run P H.w = .ok u H'.w ∧ V H' (.ref n 0 (sl + k) s') u ∧ HR H' ∧ Ext H H' ∧
              H'.τ = upd (killτ H.τ kill) n (some (.arr (cs.drop off ++ ys) none)) := by
            intro kill hkill hno hcl
            have hsc : sliceCells H.τ s' (.ref id off sl s') = some (cs.drop off, sl) := by
              simp only [sliceCells, if_true, ht]
              rw [if_pos (by omega), List.take_of_length_le (by simp; omega)]
            obtain ⟨us, u1, u2, u3, _, _, u4⟩ := run_firstCells (P := P) hr hsc hsv'
            obtain ⟨cap2, rest, r1, r2, r3⟩ := happ.grow us zv hno c2 c3 hzw hzs (fun w' hw => u4 w' hw.heap)
            obtain ⟨H', q1, q2, q3, q4, q5⟩ := realloc_step (e := e) (need := sl + k) hr hn u1 hys hsz u3 hyf (by rw [u2, hyl, Nat.add_mul]) r1 r2 kill hkill
            exact ⟨_, H', by rw [r3, q1], q2, q3, q4, q5⟩
          have Vsame : ∀ w', ∀ cs', V { H with τ := upd H.τ id (some (.arr cs' cap)), w := w' } (.ref id off (sl + k) s') (.slice (some ⟨b', a', none⟩) (sl + k) sc) ∨ ¬ (sl + k ≤ sc) := by
            intro w' cs'
            by_cases hle : sl + k ≤ sc
            · left
              simp only [V]
              exact ⟨rfl, _, upd_same _ _ _, fun _ => ⟨cs', cap, sc, b', a', rfl, rfl, hle, hsz, l3, l4⟩⟩
            · exact .inr hle
          have lerule : ∀ B, off + (sl + k) * s' ≤ B → B ≤ off + sc * s' → sl + k ≤ sc := fun B p1 p2 => by
            have : (sl + k) * s' ≤ sc * s' := by omega
            exact Nat.le_of_mul_le_mul_right this hsz
          split at h
          · rename_i hf
            obtain ⟨rfl, rfl⟩ : _ = v ∧ _ = eff := by simpa using h
            have hle := lerule _ hf (by omega)
            have hcl : off + sl * s' ≤ cs.length := by
              have := Nat.mul_le_mul_right s' (show sl ≤ sl + k by omega)
              omega
            obtain ⟨w', s1, s2, s3, _, _⟩ := inPlace hle hcl
            exact ⟨_, _, s1, (Vsame w' _).resolve_right (fun q => q hle), s2, s3, rfl⟩
          · split at h
            · rename_i hf hcl
              have hsp : splice cs (off + sl * s') ys = cs ++ ys := by
                unfold splice
                rw [List.take_of_length_le (by omega), List.drop_eq_nil_of_le (by omega), List.append_nil]
              cases cap with
              | some cc =>
                have hfc := k3 cc rfl
                simp only [] at h
                split at h
                · rename_i hcc
                  obtain ⟨rfl, rfl⟩ : _ = v ∧ _ = eff := by simpa using h
                  have hle := lerule _ hcc (by omega)
                  obtain ⟨w', s1, s2, s3, _, _⟩ := inPlace hle (by omega)
                  rw [hsp] at s2 s3
                  exact ⟨_, _, s1, (Vsame w' _).resolve_right (fun q => q hle), s2, s3, rfl⟩
                · rename_i hcc
                  obtain ⟨rfl, rfl⟩ : _ = v ∧ _ = eff := by simpa using h
                  have hno : ¬ sl + k ≤ sc := fun hle => hcc (by
                    have := Nat.mul_le_mul_right s' hle
                    omega)
                  exact anew none (by simp) hno hcl
              | none =>
                obtain ⟨rfl, rfl⟩ : _ = v ∧ _ = eff := by simpa using h
                by_cases hle : sl + k ≤ sc
                · obtain ⟨w', s1, s2, s3, s4, s5⟩ := inPlace hle (by omega)
                  rw [hsp] at s2 s3
                  obtain ⟨g1, g2⟩ := step_rename (id := id) (cs := cs ++ ys) (cap := none) (n := n) (off := off) s2 (by simp only [upd_same]) (by simp only []; rw [upd_other _ _ hnid]; exact hn) (by simp; omega)
                  refine ⟨_, _, s1, ?_, g1, s3.trans g2, ?_⟩
                  · simp only [V]
                    refine ⟨rfl, _, upd_same _ _ _, fun _ => ⟨_, none, sc, b', a', rfl, rfl, hle, hsz, ?_, .inr ?_⟩⟩
                    · rw [upd_same]; simp only []; omega
                    · rw [upd_same]; exact ⟨s4, by simp [s5]⟩
                  · simp only [appτ, upd_upd]
                    rw [List.drop_append_of_le_length (by omega)]
                · exact anew (some id) (fun i hi => by obtain rfl := Option.some.inj hi; exact ⟨_, ht⟩) hle hcl
            · cases h
        · cases h
      · cases h
    · cases h

end
end Go.MT
