/-
  Operators on values, and parts of aggregates.
-/
import Derived.Test.YtibbckpgcglbcaaGreatMtPrim
import Derived.Laws.Strings
namespace Go.MT

section
variable {P : Program} {w : World}

theorem byteList_eq (s : ByteArray) : byteList s = s.toList.map UInt8.toNat := by rw [ByteArray.toList_eq]; rfl

theorem strEq_spec : ∀ (a b : List UInt8), strEq (a.map UInt8.toNat) (b.map UInt8.toNat) = (a == b)
  | [], [] => rfl
  | [], _ :: _ => rfl
  | _ :: _, [] => rfl
  | x :: a, y :: b => by
    simp only [List.map_cons, strEq, strEq_spec a b, List.cons_beq_cons]
    congr 1
    rw [Bool.eq_iff_iff, Nat.beq_eq, beq_iff_eq, UInt8.toNat_inj]

theorem strLess_spec : ∀ (a b : List UInt8), strLess (a.map UInt8.toNat) (b.map UInt8.toNat) = Op.bytesLess a b
  | _, [] => by simp [strLess, Op.bytesLess]
  | [], _ :: _ => rfl
  | x :: a, y :: b => by
    simp only [List.map_cons, strLess, strLess_spec a b, Op.bytesLess]
    have e1 : Nat.blt x.toNat y.toNat = decide (x < y) := by
      rw [Bool.eq_iff_iff, Nat.blt_eq, decide_eq_true_eq, UInt8.lt_iff_toNat_lt]
    have e2 : Nat.beq x.toNat y.toNat = (x == y) := by
      rw [Bool.eq_iff_iff, Nat.beq_eq, beq_iff_eq, UInt8.toNat_inj]
    rw [e1, e2]

theorem byteList_length (s : ByteArray) : (byteList s).length = s.size := by
  unfold byteList
  rw [List.length_map, Array.length_toList]; rfl
theorem byteList_append (a b : ByteArray) : byteList (a ++ b) = byteList a ++ byteList b := by
  unfold byteList
  rw [ByteArray.data_append, Array.toList_append, List.map_append]

/-- the value of a number or a bool -/
def conc : PV → Value
  | .int k n => .int k n
  | .bool b => .bool b
  | _ => undef

theorem intOp_spec {op : BinOp} {k : IntKind} {x y : Int} {r : PV} {t : TypeId} (h : intOp op k x y = some r) : ∃ u, (Go.binOp op t (.int k x) (.int k y)).run P w = .ok u w ∧ ∀ H, V H r u := by
  refine ⟨conc r, ?_, ?_⟩
  · cases op <;> simp only [intOp] at h <;> first
      | (cases h; done)
      | (obtain rfl := Option.some.inj h; simp only [Go.binOp, ne_eq, not_true_eq_false, if_false, Op.intArith, Op.intBits, Op.intCmp]; rfl)
      | (split at h
         · cases h
         · rename_i hy; obtain rfl := Option.some.inj h; simp only [Go.binOp, ne_eq, not_true_eq_false, if_false, Op.intDiv, if_neg hy]; rfl)
  · intro H
    cases op <;> simp only [intOp] at h <;> first
      | (cases h; done)
      | (obtain rfl := Option.some.inj h; simp only [V, conc])
      | (split at h
         · cases h
         · obtain rfl := Option.some.inj h; simp only [V, conc])

theorem shiftOp_spec {op : BinOp} {k k' : IntKind} {x y : Int} {r : PV} {t : TypeId} (h : shiftOp op k x y = some r) : ∃ u, (Go.binOp op t (.int k x) (.int k' y)).run P w = .ok u w ∧ ∀ H, V H r u := by
  unfold shiftOp at h
  split at h
  · cases h
  · rename_i hy
    refine ⟨conc r, ?_, fun H => ?_⟩
    · cases op <;> simp only [] at h <;> first
        | (cases h; done)
        | (obtain rfl := Option.some.inj h; simp only [Go.binOp, Op.shift, if_neg hy]; rfl)
    · cases op <;> simp only [] at h <;> first
        | (cases h; done)
        | (obtain rfl := Option.some.inj h; simp only [V, conc])

theorem strOp_spec {op : BinOp} {a b : ByteArray} {r : PV} {t : TypeId} (h : strOp op (byteList a) (byteList b) = some r) : ∃ u, (Go.binOp op t (.string a) (.string b)).run P w = .ok u w ∧ ∀ H, V H r u := by
  have e1 : strEq (byteList a) (byteList b) = (a.toList == b.toList) := by rw [byteList_eq, byteList_eq]; exact strEq_spec _ _
  have e2 : strLess (byteList a) (byteList b) = Op.bytesLess a.toList b.toList := by rw [byteList_eq, byteList_eq]; exact strLess_spec _ _
  cases op <;> simp only [strOp, e1, e2] at h <;> first
    | (cases h; done)
    | (obtain rfl := Option.some.inj h; exact ⟨.bool _, by simp only [Go.binOp, Op.stringOp]; rfl, fun H => by simp only [V]⟩)
    | (split at h
       · rename_i hl
         obtain rfl := Option.some.inj h
         rw [byteList_length, byteList_length] at hl
         refine ⟨.string (a ++ b), ?_, fun H => by simp only [V]; exact ⟨_, rfl, byteList_append a b⟩⟩
         have : ¬ ((a.size + b.size : Nat) : Int) > IntKind.i64.max := by
           have : IntKind.i64.max = 9223372036854775807 := by decide
           rw [this]; omega
         simp only [Go.binOp, Op.stringOp]
         rw [if_neg this]; rfl
       · cases h)

theorem run_partT {H : Hp} {t : TypeId} {cs : List PV} {us : Array Value} {off : Nat} {r : PV} (h : partT P t cs off = some r) (hv : Vs H cs us.toList) :
    ∃ u, (part t us off).run P w = .ok u w ∧ V H r u := by
  unfold partT at h
  split at h
  · rename_i n ha hs
    obtain rfl := Option.some.inj h
    refine ⟨.agg (us.extract off (off + n)), by simp [part, run_aggT ha, run_sizeT hs], ?_⟩
    simp only [V]
    refine ⟨_, rfl, ?_⟩
    have := Vs_take (Vs_drop hv off) n
    simpa [List.extract_eq_take_drop] using this
  · rename_i n ha hs
    obtain ⟨hlt, rfl⟩ := List.getElem?_eq_some_iff.1 h
    obtain ⟨u, h1, h2⟩ := Vs_get hv off hlt
    refine ⟨u, ?_, h2⟩
    rw [Array.getElem?_toList] at h1
    simp [part, run_aggT ha, h1]
  · cases h

theorem eqFs_spec {H : Hp} (d : Nat) (hd : ∀ {t : TypeId} {x y : PV} {u v : Value} {r : Bool}, eqT P d t x y = some r → V H x u → V H y v → (Op.equalIn d t u v).run P w = .ok r w) : ∀ (fs : List Field) {xs ys : List PV} {us vs : Array Value} {r : Bool}, eqFs P d fs xs ys = some r → Vs H xs us.toList → Vs H ys vs.toList →
    (Op.eqFields d us vs fs).run P w = .ok r w
  | [], _, _, _, _, r, h, _, _ => by simp [eqFs] at h; simp [Op.eqFields, h]
  | f :: fs, xs, ys, us, vs, r, h, hx, hy => by
    unfold eqFs at h
    split at h
    · rename_i hn
      simp only [Op.eqFields]
      rw [if_neg (by simp [hn])]
      exact eqFs_spec d hd fs h hx hy
    · rename_i hn
      simp only [Op.eqFields]
      rw [if_pos (by simpa using hn)]
      split at h
      · rename_i a b ha hb
        obtain ⟨u1, r1, v1⟩ := run_partT (w := w) ha hx
        obtain ⟨u2, r2, v2⟩ := run_partT (w := w) hb hy
        simp only [Sem.run_bind, r1, r2, Result.andThen_ok]
        split at h
        · rename_i he
          rw [hd he v1 v2]
          simp only [Result.andThen_ok, Bool.not_true, Bool.false_eq_true, if_false]
          exact eqFs_spec d hd fs h hx hy
        · rename_i hne
          rw [hd h v1 v2]
          have : r = false := by cases r; rfl; exact (hne h).elim
          subst this
          simp
      · cases h

theorem eqT_spec {H : Hp} : ∀ (d : Nat) {t : TypeId} {x y : PV} {u v : Value} {r : Bool}, eqT P d t x y = some r → V H x u → V H y v → (Op.equalIn d t u v).run P w = .ok r w
  | 0, _, _, _, _, _, _, h, _, _ => by simp [eqT] at h
  | d + 1, t, x, y, u, v, r, h, hx, hy => by
    unfold eqT at h
    split at h
    · rename_i hu
      simp only [V] at hx hy; subst hx hy; obtain rfl := Option.some.inj h
      simp [Op.equalIn, run_und hu]
    · rename_i hu
      simp only [V] at hx hy; subst hx hy
      split at h
      · rename_i hk; obtain rfl := Option.some.inj h
        simp [Op.equalIn, run_und hu, hk]
      · cases h
    · rename_i hu
      simp only [V] at hx hy; obtain rfl := Option.some.inj h
      obtain ⟨a, rfl, rfl⟩ := hx; obtain ⟨b, rfl, rfl⟩ := hy
      rw [byteList_eq, byteList_eq, strEq_spec, ← beq_toListBytes]
      simp [Op.equalIn, run_und hu]
    · rename_i hu
      simp only [V] at hx hy; subst hx hy; obtain rfl := Option.some.inj h
      simp [Op.equalIn, run_und hu]
    · rename_i hu
      simp only [V] at hx hy; subst hx; obtain ⟨b, o, us, rfl, _⟩ := hy; obtain rfl := Option.some.inj h
      simp [Op.equalIn, run_und hu]
    · rename_i hu
      simp only [V] at hx hy; subst hy; obtain ⟨b, o, us, rfl, _⟩ := hx; obtain rfl := Option.some.inj h
      simp [Op.equalIn, run_und hu]
    · rename_i hu
      simp only [V] at hx hy; subst hx hy; obtain rfl := Option.some.inj h
      simp [Op.equalIn, run_und hu]
    · rename_i hu
      simp only [V] at hx hy; subst hx; obtain ⟨b, a, cap, us, rfl, _⟩ := hy; obtain rfl := Option.some.inj h
      simp [Op.equalIn, run_und hu]
    · rename_i hu
      simp only [V] at hx hy; subst hy; obtain ⟨b, a, cap, us, rfl, _⟩ := hx; obtain rfl := Option.some.inj h
      simp [Op.equalIn, run_und hu]
    · rename_i hu
      simp only [V] at hx hy; subst hx hy; obtain rfl := Option.some.inj h
      simp [Op.equalIn, run_und hu]
    · rename_i hu
      simp only [V] at hx hy; subst hx; obtain ⟨us, us', rfl, _⟩ := hy; obtain rfl := Option.some.inj h
      simp [Op.equalIn, run_und hu]
    · rename_i hu
      simp only [V] at hx hy; subst hy; obtain ⟨us, us', rfl, _⟩ := hx; obtain rfl := Option.some.inj h
      simp [Op.equalIn, run_und hu]
    · rename_i fs xs ys hu
      simp only [V] at hx hy
      obtain ⟨us, rfl, hx⟩ := hx; obtain ⟨vs, rfl, hy⟩ := hy
      split at h
      · cases h
      · rename_i hp
        have hf : P.fieldsOf t = fs := by simp [Program.fieldsOf, hu]
        rw [run_equalIn_struct w d t us vs (by rw [hf]; exact hu) (by simpa using hp), hf]
        exact eqFs_spec d (fun h hx hy => eqT_spec d h hx hy) fs.toList h hx hy
    · cases h

theorem eqGuard_int {op : BinOp} {t : TypeId} {x y : Operand} {k k' : IntKind} {a b : Int} : (eqGuard op t x y (.int k a) (.int k' b)).run P w = .ok () w := by cases op <;> simp [eqGuard]
theorem eqGuard_str {op : BinOp} {t : TypeId} {x y : Operand} {a b : ByteArray} : (eqGuard op t x y (.string a) (.string b)).run P w = .ok () w := by cases op <;> simp [eqGuard]

end
end Go.MT
