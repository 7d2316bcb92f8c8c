/-
  Operations one by one (1): values, new variables, loads and stores, aggregates.
-/
import Derived.Test.YtibbckpgcglbcaaGreatMtBin
namespace Go.MT

def appτ (τ : Nat → Option Obj) (n : Nat) : Eff → (Nat → Option Obj)
  | .none => τ
  | .new o => upd τ n (some o)
  | .upd id o => upd τ id (some o)
  | .move id o => upd (upd τ id (some .dead)) n (some o)

section
variable (P : Program)

/-- the model carries the operation out, and it comes to what the evaluator says -/
def OpOk (H : Hp) (o : Oper) (a : Act) (n : Nat) (v : PV) (eff : Eff) : Prop :=
  ∃ nx H', (execOp a.eval o).run P H.w = .ok nx H'.w ∧ ((∃ u, nx = .value u ∧ V H' v u) ∨ (nx = .skip ∧ v = .undef)) ∧ HR H' ∧ Ext H H' ∧ H'.τ = appτ H.τ n eff

/-- what is asked of an operation's operands -/
def Opnds (H : Hp) (tm : Tmps) (a : Act) (op : Op) : Prop := ∀ x ∈ op.operands.toList, V H (evalO tm x) (a.eval x)
end

section
variable {P : Program} {H : Hp} {o : Oper} {a : Act} {tm : Tmps} {n : Nat} {v : PV} {eff : Eff}

theorem OpOk.val (hr : HR H) {u : Value} {w' : World} (hrun : (execOp a.eval o).run P H.w = .ok (.value u) w') (hs : SameMem H.w w') (hv : V H v u) : OpOk P H o a n v .none := by
  obtain ⟨h1, h2⟩ := step_same hr hs
  exact ⟨_, { H with w := w' }, hrun, .inl ⟨u, rfl, V_ext h2.toVExt hv⟩, h1, h2, rfl⟩

theorem SameMem.refl (w : World) : SameMem w w := ⟨rfl, rfl, rfl, rfl⟩

theorem OpOk.val' (hr : HR H) {u : Value} (hrun : (execOp a.eval o).run P H.w = .ok (.value u) H.w) (hv : V H v u) : OpOk P H o a n v .none :=
  OpOk.val hr hrun (SameMem.refl _) hv

theorem ok_move {x : Operand} (ho : o.op = .move x ∨ o.op = .assign x) (hr : HR H) (hv : V H (evalO tm x) (a.eval x)) : OpOk P H o a n (evalO tm x) .none := by
  refine OpOk.val' hr (u := a.eval x) ?_ hv
  rcases ho with ho | ho <;> simp [execOp, ho]

theorem ok_pick {c x y : Operand} (ho : o.op = .pick c x y) (hr : HR H) (h1 : V H (evalO tm c) (a.eval c)) (h2 : V H (evalO tm x) (a.eval x)) (h3 : V H (evalO tm y) (a.eval y))
    (h : primOp P H.τ n (.pick c x y) tm = some (v, eff)) : OpOk P H o a n v eff := by
  simp only [primOp] at h
  split at h <;> first
    | (cases h; done)
    | (rename_i hc
       rw [hc] at h1
       simp only [V] at h1
       obtain ⟨rfl, rfl⟩ : _ = v ∧ _ = eff := by simpa using h
       first
         | exact OpOk.val' hr (u := a.eval x) (by simp [execOp, ho, h1, asBool]) h2
         | exact OpOk.val' hr (u := a.eval y) (by simp [execOp, ho, h1, asBool]) h3)

/-- a new variable of cells us -/
theorem new_var {e : TypeId} {cs : List PV} {c : Array Value} {cap : Option Nat} (fin : Nat) (hr : HR H) (hn : H.τ n = none) (hv : Vs H cs (c.toList.take cs.length)) (hlen : cs.length ≤ fin) (hlen2 : fin ≤ c.size) (hcap : ∀ C, cap = some C → fin = C) (hl : ∀ x ∈ cs, x.leaf = true) :
    let H' : Hp := { τ := upd H.τ n (some (.arr cs cap)), ρ := upd H.ρ n ⟨H.w.heap.size, 0, fin⟩, Z := H.Z, w := { H.w with heap := H.w.heap.push (.cells c e) } }
    HR H' ∧ Ext H H' :=
  step_new (w' := { H.w with heap := H.w.heap.push (.cells c e) }) (o := .arr cs cap) (blk := .cells c e) hr hn rfl rfl rfl rfl fin
    (fun cs' cap' hc => by
      obtain ⟨rfl, rfl⟩ : cs = cs' ∧ cap = cap' := by simpa using hc
      exact ⟨c, e, (0, 0), rfl, hlen, hlen2, hcap, fun k _ => by simp, hl, hv⟩)
    (fun es hc => by cases hc)

theorem V_ptr_new {H' : Hp} {cs : List PV} {cap : Option Nat} {b o f : Nat} (ht : H'.τ n = some (.arr cs cap)) (hp : H'.ρ n = ⟨b, o, f⟩) (off : Nat) : V H' (.ptr n off) (.pointer (some ⟨b, o + off, none⟩)) := by
  simp only [V]
  exact ⟨rfl, _, ht, fun _ => ⟨⟨cs, cap, rfl⟩, by rw [hp]⟩⟩

theorem ok_alloc {e : TypeId} (ho : o.op = .alloc e) (hr : HR H) (hn : H.τ n = none) (h : primOp P H.τ n (.alloc e) tm = some (v, eff)) : OpOk P H o a n v eff := by
  simp only [primOp, Option.map_eq_some_iff] at h
  obtain ⟨z, hz, he⟩ := h
  obtain ⟨rfl, rfl⟩ : _ = v ∧ _ = eff := by simpa using he
  obtain ⟨zv, hrun, _, hvs, hlf⟩ := run_zeroT (w := H.w) (H := H) hz
  have hlen := Vs_length hvs
  obtain ⟨k1, k2⟩ := new_var _ (n := n) (e := e) (c := zv.cells) (cap := none) hr hn (by rw [← hlen, List.take_length]; exact hvs) (Nat.le_refl _) (by rw [← hlen]; simp) (by simp) (by simpa using hlf)
  refine ⟨_, _, ?_, .inl ⟨.pointer (some ⟨H.w.heap.size, 0, none⟩), rfl, V_ptr_new (cs := z.cells) (cap := none) (b := H.w.heap.size) (o := 0) (f := z.cells.length) (by simp) (by simp) 0⟩, k1, k2, rfl⟩
  simp [execOp, ho, Instr.alloc, hrun, newVar, newRow]

theorem ok_box {e : TypeId} {x : Operand} (ho : o.op = .box e x) (hr : HR H) (hn : H.τ n = none) (hx : V H (evalO tm x) (a.eval x)) (h : primOp P H.τ n (.box e x) tm = some (v, eff)) : OpOk P H o a n v eff := by
  simp only [primOp] at h
  split at h
  · rename_i hlf
    obtain ⟨rfl, rfl⟩ : _ = v ∧ _ = eff := by simpa using h
    have hvs := V_cells hx hlf
    have hlen := Vs_length hvs
    obtain ⟨k1, k2⟩ := new_var _ (n := n) (e := e) (c := (a.eval x).cells) (cap := none) hr hn (by rw [← hlen, List.take_length]; exact hvs) (Nat.le_refl _) (by rw [← hlen]; simp) (by simp) (by simpa using hlf)
    refine ⟨_, _, ?_, .inl ⟨.pointer (some ⟨H.w.heap.size, 0, none⟩), rfl, V_ptr_new (cs := (evalO tm x).cells) (cap := none) (b := H.w.heap.size) (o := 0) (f := (evalO tm x).cells.length) (by simp) (by simp) 0⟩, k1, k2, rfl⟩
    simp [execOp, ho, Instr.box, newVar, newRow]
  · cases h

theorem ok_load {t : TypeId} {x : Operand} (ho : o.op = .load t x) (hr : HR H) (hx : V H (evalO tm x) (a.eval x)) (h : primOp P H.τ n (.load t x) tm = some (v, eff)) : OpOk P H o a n v eff := by
  simp only [primOp, Option.map_eq_some_iff] at h
  obtain ⟨r, h, he⟩ := h
  obtain ⟨rfl, rfl⟩ : _ = v ∧ _ = eff := by simpa using he
  obtain ⟨u, h1, h2⟩ := run_loadT hr h hx
  exact OpOk.val' hr (by simp [execOp, ho, h1]) h2

/-- cells written through a pointer or slice -/
theorem write_cells {id off : Nat} {vs : List PV} {us : List Value} (hr : HR H) (h : writeCells H.τ id off vs = some eff) (hv : Vs H vs us) (hl : ∀ x ∈ vs, x.leaf = true) :
    ∃ w', (storeCells ⟨(H.ρ id).blk, (H.ρ id).base + off, none⟩ us).run P H.w = .ok () w' ∧ HR { H with τ := appτ H.τ n eff, w := w' } ∧ Ext H { H with τ := appτ H.τ n eff, w := w' } ∧ (∃ cs cap, H.τ id = some (.arr cs cap)) := by
  unfold writeCells at h
  split at h
  · rename_i cs cap ht
    split at h
    · rename_i hle
      obtain rfl := Option.some.inj h
      obtain ⟨c, e, fr, k1, k2, k2', k3, k4, k5, k6⟩ := hr.arr id cs cap ht
      have hlen := Vs_length hv
      obtain ⟨⟨c', s1, s2, s3⟩, s4, s5, s6, s7, s8⟩ := setCells_spec us ((H.ρ id).base + off) H.w c k1 (by omega)
      have hcell : ∀ j, j < us.length → (H.w.cell? ⟨(H.ρ id).blk, (H.ρ id).base + off + 0 + j, none⟩).isSome = true := fun j hj => by
        simp only [World.cell?, k1, Option.isSome_none, Bool.false_eq_true, if_false]
        rw [Array.getElem?_eq_getElem (by omega)]; rfl
      have hfz : ∀ j, j < us.length → H.w.frozen? ⟨(H.ρ id).blk, (H.ρ id).base + off + 0 + j, none⟩ = false := fun j hj => by
        obtain ⟨lo, hi⟩ := fr
        have := k4 ((H.ρ id).base + off + 0 + j) (by omega)
        simp only [World.frozen?, k1, Bool.and_eq_false_iff, decide_eq_false_iff_not]
        simp only [] at this
        omega
      have hrun := run_storeCells_cells (P := P) (H.ρ id).blk ((H.ρ id).base + off) us 0 H.w hcell hfz (Vs_one' hv hl)
      refine ⟨_, hrun, ?_⟩
      have hcs : Vs H (splice cs off vs) ((c'.toList.drop (H.ρ id).base).take (splice cs off vs).length) := by
        have e1 : (splice cs off vs).length = cs.length := by simp [splice]; omega
        have e2 : (c'.toList.drop (H.ρ id).base).take cs.length = ((c.toList.drop (H.ρ id).base).take cs.length).take off ++ us ++ ((c.toList.drop (H.ρ id).base).take cs.length).drop (off + us.length) := by
          apply List.ext_getElem?
          intro j
          rw [s3]
          have hc : (H.ρ id).base + cs.length ≤ c.toList.length := by have := Array.length_toList (xs := c); omega
          by_cases j1 : j < cs.length
          · rw [List.getElem?_take_of_lt j1, List.getElem?_drop]
            by_cases j2 : j < off
            · rw [List.append_assoc, List.getElem?_append_left (by simp; omega), List.getElem?_take_of_lt (by omega), List.append_assoc,
                List.getElem?_append_left (by simp; omega), List.getElem?_take_of_lt j2, List.getElem?_take_of_lt j1, List.getElem?_drop]
            · by_cases j3 : j < off + us.length
              · rw [List.getElem?_append_left (by simp; omega), List.getElem?_append_right (by simp; omega), List.getElem?_append_left (by simp; omega),
                  List.getElem?_append_right (by simp; omega)]
                congr 1; simp; omega
              · rw [List.getElem?_append_right (by simp; omega), List.getElem?_append_right (by simp; omega), List.getElem?_drop, List.getElem?_drop,
                  List.getElem?_take_of_lt (by simp; omega), List.getElem?_drop]
                congr 1; simp; omega
          · rw [List.getElem?_eq_none (by simp; omega), List.getElem?_eq_none (by simp; omega)]
        rw [e1, e2, hlen]
        unfold splice
        exact Vs_append (Vs_append (Vs_take k6 off) hv) (Vs_drop k6 _)
      have := step_set (w' := H.w.setCells (H.ρ id).blk ((H.ρ id).base + off + 0) us) (cs' := splice cs off vs) hr ht k1 (by simpa using s1) s2 (by simpa using s4) (by simpa using s5) (by simpa using s6) (by simpa using s7) (by simpa using s8)
        (by simp [splice]; omega) (fun x hx => by
          simp only [splice, List.mem_append] at hx
          rcases hx with (hx | hx) | hx
          · exact k5 x (List.mem_of_mem_take hx)
          · exact hl x hx
          · exact k5 x (List.mem_of_mem_drop hx)) hcs
      exact ⟨this.1, this.2, cs, cap, ht⟩
    · cases h
  · cases h

theorem ok_store {t : TypeId} {x y : Operand} (ho : o.op = .store t x y) (hr : HR H) (hx : V H (evalO tm x) (a.eval x)) (hy : V H (evalO tm y) (a.eval y))
    (h : primOp P H.τ n (.store t x y) tm = some (v, eff)) : OpOk P H o a n v eff := by
  simp only [primOp] at h
  split at h
  · rename_i id off hp
    split at h
    · rename_i hc
      rw [Option.map_eq_some_iff] at h
      obtain ⟨ef, h, he⟩ := h
      obtain ⟨rfl, rfl⟩ : _ = v ∧ _ = eff := by simpa using he
      obtain ⟨hsz, hlf⟩ := hc
      have hvs := V_cells hy hlf
      obtain ⟨w', h1, h2, h3, cs, cap, ht⟩ := write_cells (P := P) (n := n) hr h hvs (by simpa using hlf)
      rw [hp] at hx
      simp only [V] at hx
      obtain ⟨_, ob, hob, hl⟩ := hx
      rw [ht] at hob
      obtain rfl := Option.some.inj hob
      obtain ⟨_, hav⟩ := hl (by simp)
      refine ⟨.skip, _, ?_, .inr ⟨rfl, rfl⟩, h2, h3, rfl⟩
      have hs2 : (a.eval y).cells.size = (evalO tm y).cells.length := by have := Vs_length hvs; simpa using this
      simp only [execOp, ho, Instr.storeAt, hav, Instr.sureAddr, storeVar]
      simp [run_sizeT hsz, hs2, h1]
    · cases h
  · cases h

end
end Go.MT
