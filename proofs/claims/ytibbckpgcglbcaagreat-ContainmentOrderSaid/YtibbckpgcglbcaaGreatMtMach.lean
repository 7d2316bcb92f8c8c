/-
  The evaluator for the kernel (2): regions, code, calls.
-/
import Derived.Test.YtibbckpgcglbcaaGreatMtRun
namespace Go.MT

section
variable {β : Type}

noncomputable def effR (floor n : Nat) (rs : List Obj) (e : Eff) (k : Nat → List Obj → Option β) : Option β := match e with
  | .none => k n rs
  | .new o => fNat (Nat.add n 1) fun n' => k n' (o :: rs)
  | .upd id o => Bool.rec (motive := fun _ => Option β) none (setR rs (Nat.sub (Nat.sub n 1) id) o fun rs' => k n rs') (and (Nat.ble floor id) (Nat.blt id n))
  | .move id o => Bool.rec (motive := fun _ => Option β) none (setR rs (Nat.sub (Nat.sub n 1) id) .dead fun rs' => fNat (Nat.add n 1) fun n' => k n' (o :: rs')) (and (Nat.ble floor id) (Nat.blt id n))

theorem rev_set {rs : List Obj} {id : Nat} {o : Obj} (h : id < rs.length) : (rs.set (rs.length - 1 - id) o).reverse = rs.reverse.set id o := by
  apply List.ext_getElem?
  intro i
  by_cases hi : i < rs.length
  · rw [List.getElem?_reverse (by simpa using hi), List.length_set, List.getElem?_set, List.getElem?_set]
    simp only [List.length_reverse]
    by_cases e : id = i
    · subst e
      rw [if_pos rfl, if_pos rfl]
      simp only [h, if_true]
      rw [if_pos (by omega)]
    · rw [if_neg (by omega), if_neg e, List.getElem?_reverse (by simpa using hi)]
  · rw [List.getElem?_eq_none (by simp; omega), List.getElem?_eq_none (by simp; omega)]

theorem effR_some {floor n : Nat} {rs : List Obj} {e : Eff} {k : Nat → List Obj → Option β} {r : β} (hn : n = rs.length) (h : effR floor n rs e k = some r) :
    e.okFloor floor rs.length = true ∧ ∃ rs', Store.app rs.reverse e = rs'.reverse ∧ k rs'.length rs' = some r := by
  subst hn
  cases e with
  | none => exact ⟨rfl, rs, rfl, h⟩
  | new o =>
    simp only [effR, fNat_eq] at h
    exact ⟨rfl, o :: rs, by simp [Store.app], h⟩
  | upd id o =>
    simp only [effR] at h
    cases hb : and (Nat.ble floor id) (Nat.blt id rs.length) with
    | false => rw [hb] at h; cases h
    | true =>
      rw [hb] at h
      simp only [setR_eq] at h
      rw [Bool.and_eq_true, Nat.ble_eq, Nat.blt_eq] at hb
      refine ⟨by simp [Eff.okFloor, hb.1, hb.2], rs.set (rs.length - 1 - id) o, by simp only [Store.app]; rw [rev_set hb.2], by simpa using h⟩
  | move id o =>
    simp only [effR] at h
    cases hb : and (Nat.ble floor id) (Nat.blt id rs.length) with
    | false => rw [hb] at h; cases h
    | true =>
      rw [hb] at h
      simp only [setR_eq, fNat_eq] at h
      rw [Bool.and_eq_true, Nat.ble_eq, Nat.blt_eq] at hb
      refine ⟨by simp [Eff.okFloor, hb.1, hb.2], o :: rs.set (rs.length - 1 - id) .dead, by simp only [Store.app, List.reverse_cons]; rw [rev_set hb.2], by simpa using h⟩

abbrev CallR (β : Type) := Nat → FuncId → List PV → Nat → List Obj → (PV → Nat → List Obj → Option β) → Option β
/-- it answers as C -/
def CRok (C : CallT) (CR : CallR β) : Prop := ∀ fl f args (rs : List Obj) k r, CR fl f args rs.length rs k = some r → ∃ v rs', C fl f args rs.reverse = some (v, rs'.reverse) ∧ k v rs'.length rs' = some r

noncomputable def argsR (tm : Tmps) (l : List Operand) : (List PV → β) → β := List.rec (motive := fun _ => (List PV → β) → β) (fun k => k []) (fun x _ ih k => evR tm x fun v => ih fun vs => k (v :: vs)) l
theorem argsR_eq (tm : Tmps) : ∀ (l : List Operand) (k : List PV → β), argsR tm l k = k (l.map (evalO tm))
  | [], _ => rfl
  | x :: l, k => by
    show (evR tm x fun v => argsR tm l fun vs => k (v :: vs)) = _
    rw [evR_eq, argsR_eq tm l]
    rfl

noncomputable def wantedR (ops : Array Oper) (o : Oper) (tm : Tmps) (yes no : Option β) : Option β := match o.guard with
  | none => yes
  | some (j, want) => match (ops[j]?).bind (·.dst) with
    | some t => nthR tm t none fun v => match v with
      | .bool b => Bool.rec (motive := fun _ => Option β) (Bool.rec (motive := fun _ => Option β) yes no want) (Bool.rec (motive := fun _ => Option β) no yes want) b
      | .gone => no
      | _ => none
    | none => none
theorem wantedR_some {ops : Array Oper} {o : Oper} {tm : Tmps} {yes no : Option β} {r : β} (h : wantedR ops o tm yes no = some r) : (wantedX ops o tm = some true ∧ yes = some r) ∨ (wantedX ops o tm = some false ∧ no = some r) := by
  unfold wantedR at h
  unfold wantedX
  split at h
  · rename_i hg; rw [hg]; exact .inl ⟨rfl, h⟩
  · rename_i j want hg
    rw [hg]
    split at h
    · rename_i t ht
      simp only [ht]
      rw [nthR_eq] at h
      split at h
      · rename_i v hv
        rw [hv]
        split at h
        · rename_i b
          cases b <;> cases want <;> simp only [] at h ⊢ <;> first | exact .inl ⟨rfl, h⟩ | exact .inr ⟨rfl, h⟩
        · exact .inr ⟨rfl, h⟩
        · cases h
      · cases h
    · cases h

noncomputable def putR (dst : Option Tmp) (v : PV) (tm : Tmps) (k : Tmps → β) : β := match dst with
  | some d => setR tm d v k
  | none => k tm
theorem putR_eq (dst : Option Tmp) (v : PV) (tm : Tmps) (k : Tmps → β) : putR dst v tm k = k (put dst v tm) := by
  cases dst <;> simp [putR, put, setR_eq]

section
variable (K : Cfg) (CR : CallR β) (floor : Nat)
noncomputable def primR (op : Op) (tm : Tmps) (n : Nat) (rs : List Obj) (k : PV → Fp → Nat → List Obj → Option β) : Option β :=
  opR K.P n rs op tm fun v e => effR floor n rs e fun n' rs' => k v (effFp tm op n e) n' rs'
noncomputable def goR (g : FuncId) (vs : List PV) (n : Nat) (rs : List Obj) (k : PV → Fp → Nat → List Obj → Option β) : Option β :=
  CR floor g vs n rs fun v n' rs' => k v (.chg false (if K.pol g = 0 ∨ K.pol g = 1 then fun _ => true else fun i => sameO (getS n rs i) (getS n' rs' i))) n' rs'
noncomputable def stillR (g : FuncId) (vs : List PV) (n : Nat) (rs : List Obj) (k : PV → Fp → Nat → List Obj → Option β) : Option β :=
  CR floor g vs 0 [] fun v _ rs' => match rs' with
    | [] => k v (.quiet []) n rs
    | _ => none
noncomputable def valR (f : Operand) (args : Array Operand) (tm : Tmps) (n : Nat) (rs : List Obj) (k : PV → Fp → Nat → List Obj → Option β) : Option β :=
  evR tm f fun fv => match fv with
    | .fn g first cap => argsR tm args.toList fun vs => appR vs cap fun vs => appR first vs fun vs =>
      Nat.rec (motive := fun _ => Option β) (Bool.rec (motive := fun _ => Option β) (goR K CR floor g vs n rs k) (stillR CR floor g vs n rs k) (stills vs)) (fun _ _ => goR K CR floor g vs n rs k) (K.pol g)
    | _ => none
noncomputable def operR (o : Oper) (tm : Tmps) (n : Nat) (rs : List Obj) (k : PV → Fp → Nat → List Obj → Option β) : Option β := match o.op with
  | .call c => match c.callee with
    | .value f => valR K CR floor f c.args tm n rs k
    | _ => primR K floor (.call c) tm n rs k
  | op => primR K floor op tm n rs k
end

section
variable {K : Cfg} {CR : CallR β} {C : CallT} {floor : Nat}
theorem primR_some {o : Oper} {tm : Tmps} {rs : List Obj} {k : PV → Fp → Nat → List Obj → Option β} {r : β} (hno : ∀ f args ats, o.op ≠ .call ⟨.value f, args, ats⟩) (h : primR K floor o.op tm rs.length rs k = some r) :
    ∃ v rs', operX K C floor o tm rs.reverse = some (v, rs'.reverse) ∧ k v (fpX K o tm rs.reverse rs'.reverse) rs'.length rs' = some r := by
  unfold primR at h
  obtain ⟨v, e, h1, h2⟩ := opR_some rfl h
  obtain ⟨h3, rs', h4, h5⟩ := effR_some rfl h2
  refine ⟨v, rs', ?_, ?_⟩
  · unfold operX
    split
    · rename_i f args ats hop; exact (hno _ _ _ hop).elim
    · rw [List.length_reverse, h1]
      simp only []
      rw [if_pos h3, h4]
  · have : fpX K o tm rs.reverse rs'.reverse = effFp tm o.op rs.length e := by
      unfold fpX
      split
      · rename_i f args ats hop; exact (hno _ _ _ hop).elim
      · rw [List.length_reverse, h1]
    rw [this]; exact h5
theorem operR_some (hC : CRok C CR) {o : Oper} {tm : Tmps} {rs : List Obj} {k : PV → Fp → Nat → List Obj → Option β} {r : β} (h : operR K CR floor o tm rs.length rs k = some r) :
    ∃ v rs', operX K C floor o tm rs.reverse = some (v, rs'.reverse) ∧ k v (fpX K o tm rs.reverse rs'.reverse) rs'.length rs' = some r := by
  unfold operR at h
  split at h
  · rename_i c hop
    split at h
    · rename_i f hc
      obtain ⟨callee, args, ats⟩ := c
      simp only [] at hc
      subst hc
      unfold valR at h
      rw [evR_eq] at h
      split at h
      · rename_i g first cap hf
        rw [argsR_eq, appR_eq, appR_eq] at h
        rw [← List.append_assoc] at h
        generalize hvs : first ++ args.toList.map (evalO tm) ++ cap = vs at h
        have go : ¬ (K.pol g = 0 ∧ stills vs = true) → goR K CR floor g vs rs.length rs k = some r → ∃ v rs', operX K C floor o tm rs.reverse = some (v, rs'.reverse) ∧ k v (fpX K o tm rs.reverse rs'.reverse) rs'.length rs' = some r := fun hst h => by
          obtain ⟨v, rs', h1, h2⟩ := hC _ _ _ _ _ _ h
          refine ⟨v, rs', ?_, ?_⟩
          · unfold operX
            rw [hop]
            simp only [hf, hvs]
            rw [if_neg hst]; exact h1
          · unfold fpX
            rw [hop]
            simp only [hf, hvs]
            rw [getS_eq rfl, getS_eq rfl] at h2
            rw [if_neg hst]; exact h2
        cases hp : K.pol g with
        | succ p => rw [hp] at h; exact go (by omega) h
        | zero =>
          rw [hp] at h
          cases hs : stills vs with
          | false => rw [hs] at h; exact go (by simp [hs]) h
          | true =>
            rw [hs] at h
            have h : stillR CR floor g vs rs.length rs k = some r := h
            obtain ⟨v, rs', h1, h2⟩ := hC _ _ _ [] _ _ h
            split at h2
            · refine ⟨v, rs, ?_, ?_⟩
              · unfold operX
                rw [hop]
                simp only [hf, hvs]
                rw [if_pos ⟨hp, hs⟩]
                have h1' : C floor g vs [] = some (v, []) := h1
                rw [h1']
              · unfold fpX
                rw [hop]
                simp only [hf, hvs]
                rw [if_pos ⟨hp, hs⟩]; exact h2
            · cases h2
      · cases h
    · rename_i hc
      rw [← hop] at h
      refine primR_some (fun f args ats e => ?_) h
      rw [hop] at e
      simp only [Op.call.injEq] at e
      subst e
      exact hc _ rfl
  · rename_i hno
    refine primR_some (fun f args ats e => hno _ e) h
end

/-! ### regions -/
section
variable (K : Cfg) (CR : CallR β) (floor : Nat)
noncomputable def opsN (ops : Array Oper) (l : List Oper) : Tmps → Nat → List Obj → (Tmps → Nat → List Obj → Option β) → Option β :=
  List.rec (motive := fun _ => Tmps → Nat → List Obj → (Tmps → Nat → List Obj → Option β) → Option β) (fun tm n rs k => k tm n rs)
    (fun o _ ih tm n rs k => wantedR ops o tm (operR K CR floor o tm n rs fun v _ n' rs' => putR o.dst v tm fun tm' => ih tm' n' rs' k) (putR o.dst .gone tm fun tm' => ih tm' n rs k)) l
noncomputable def opsD (ops : Array Oper) (l : List Oper) : Nat → List (Nat × Fp) → Tmps → Nat → List Obj → (List (Nat × Fp) → Tmps → Nat → List Obj → Option β) → Option β :=
  List.rec (motive := fun _ => Nat → List (Nat × Fp) → Tmps → Nat → List Obj → (List (Nat × Fp) → Tmps → Nat → List Obj → Option β) → Option β) (fun _ acc tm n rs k => k acc tm n rs)
    (fun o _ ih i acc tm n rs k => wantedR ops o tm (operR K CR floor o tm n rs fun v fp n' rs' => putR o.dst v tm fun tm' => ih (Nat.succ i) ((i, fp) :: acc) tm' n' rs' k) (putR o.dst .gone tm fun tm' => ih (Nat.succ i) acc tm' n rs k)) l
end
section
variable {K : Cfg} {CR : CallR β} {C : CallT} {floor : Nat}
theorem opsN_some (hC : CRok C CR) {ops : Array Oper} : ∀ (l : List Oper) {tm : Tmps} {rs : List Obj} {k : Tmps → Nat → List Obj → Option β} {r : β}, opsN K CR floor ops l tm rs.length rs k = some r →
    ∃ tm' rs', opsX K C floor ops l tm rs.reverse = some (tm', rs'.reverse) ∧ k tm' rs'.length rs' = some r
  | [], tm, rs, k, r, h => ⟨tm, rs, rfl, h⟩
  | o :: l, tm, rs, k, r, h => by
    have h : wantedR ops o tm (operR K CR floor o tm rs.length rs fun v _ n' rs' => putR o.dst v tm fun tm' => opsN K CR floor ops l tm' n' rs' k) (putR o.dst .gone tm fun tm' => opsN K CR floor ops l tm' rs.length rs k) = some r := h
    rcases wantedR_some h with ⟨hw, h⟩ | ⟨hw, h⟩
    · obtain ⟨v, rs', h1, h2⟩ := operR_some hC h
      rw [putR_eq] at h2
      obtain ⟨tm', rs'', h3, h4⟩ := opsN_some hC l h2
      exact ⟨tm', rs'', by simp only [opsX, hw, h1, h3], h4⟩
    · rw [putR_eq] at h
      obtain ⟨tm', rs'', h3, h4⟩ := opsN_some hC l h
      exact ⟨tm', rs'', by simp only [opsX, hw, h3], h4⟩
theorem opsD_some (hC : CRok C CR) {ops : Array Oper} : ∀ (l : List Oper) {i : Nat} {acc : List (Nat × Fp)} {tm : Tmps} {rs : List Obj} {k : List (Nat × Fp) → Tmps → Nat → List Obj → Option β} {r : β}, opsD K CR floor ops l i acc tm rs.length rs k = some r →
    ∃ tm' rs', opsX K C floor ops l tm rs.reverse = some (tm', rs'.reverse) ∧ k ((traceX K C floor ops l i tm rs.reverse).reverse ++ acc) tm' rs'.length rs' = some r
  | [], i, acc, tm, rs, k, r, h => ⟨tm, rs, rfl, by
    have h' : k acc tm rs.length rs = some r := h
    simpa [traceX] using h'⟩
  | o :: l, i, acc, tm, rs, k, r, h => by
    have h : wantedR ops o tm (operR K CR floor o tm rs.length rs fun v fp n' rs' => putR o.dst v tm fun tm' => opsD K CR floor ops l (i + 1) ((i, fp) :: acc) tm' n' rs' k) (putR o.dst .gone tm fun tm' => opsD K CR floor ops l (i + 1) acc tm' rs.length rs k) = some r := h
    rcases wantedR_some h with ⟨hw, h⟩ | ⟨hw, h⟩
    · obtain ⟨v, rs', h1, h2⟩ := operR_some hC h
      rw [putR_eq] at h2
      obtain ⟨tm', rs'', h3, h4⟩ := opsD_some hC l h2
      refine ⟨tm', rs'', by simp only [opsX, hw, h1, h3], ?_⟩
      simp only [traceX, hw, h1, List.reverse_cons, List.append_assoc, List.cons_append, List.nil_append]
      exact h4
    · rw [putR_eq] at h
      obtain ⟨tm', rs'', h3, h4⟩ := opsD_some hC l h
      refine ⟨tm', rs'', by simp only [opsX, hw, h3], ?_⟩
      simp only [traceX, hw]
      exact h4
end

/-- the pairs that no edge orders -/
def loose (ops : Array Oper) : List (Nat × Nat) := (List.range ops.size).flatMap fun j => ((List.range j).filter fun i => !((Region.before ops).getD j 0).testBit i).map fun i => (i, j)
def findFp (i : Nat) : List (Nat × Fp) → Option Fp
  | [] => none
  | (j, f) :: r => bif Nat.beq i j then some f else findFp i r
def looseOk (acc : List (Nat × Fp)) : List (Nat × Nat) → Bool
  | [] => true
  | (i, j) :: l => (match findFp i acc with
    | none => true
    | some f => match findFp j acc with
      | none => true
      | some g => f.apart g) && looseOk acc l

theorem findFp_mem : ∀ {l : List (Nat × Fp)} {i : Nat} {f : Fp}, (i, f) ∈ l → (∀ g, (i, g) ∈ l → g = f) → findFp i l = some f
  | [], _, _, h, _ => by cases h
  | (j, g) :: l, i, f, h, hu => by
    simp only [findFp]
    cases hb : Nat.beq i j with
    | true =>
      obtain rfl := Nat.eq_of_beq_eq_true hb
      simp [hu g (by simp)]
    | false =>
      simp only [cond_false]
      refine findFp_mem ?_ fun g hg => hu g (by simp [hg])
      rcases List.mem_cons.1 h with h | h
      · injection h with h1 h2; subst h1; simp at hb
      · exact h

theorem looseOk_mem {acc : List (Nat × Fp)} : ∀ {l : List (Nat × Nat)}, looseOk acc l = true → ∀ {i j : Nat}, (i, j) ∈ l → ∀ {f g : Fp}, findFp i acc = some f → findFp j acc = some g → f.apart g = true
  | [], _, _, _, h, _, _, _, _ => by cases h
  | (a, b) :: l, ho, i, j, h, f, g, hf, hg => by
    simp only [looseOk, Bool.and_eq_true] at ho
    rcases List.mem_cons.1 h with h | h
    · injection h with h1 h2
      subst h1; subst h2
      have := ho.1
      rw [hf] at this
      simp only [hg] at this
      exact this
    · exact looseOk_mem ho.2 h hf hg

theorem loose_mem {ops : Array Oper} {i j : Nat} (hj : j < ops.size) (hi : i < j) (h : ((Region.before ops).getD j 0).testBit i = false) : (i, j) ∈ loose ops := by
  simp only [loose, List.mem_flatMap, List.mem_range, List.mem_map, List.mem_filter]
  exact ⟨j, hj, i, ⟨hi, by rw [h]; rfl⟩, rfl⟩

theorem traceOk_of {b : Array Nat} : ∀ {l : List (Nat × Fp)}, l.Pairwise (fun p q => (b.getD q.1 0).testBit p.1 = true ∨ p.2.apart q.2 = true) → traceOk b l = true
  | [], _ => rfl
  | (i, f) :: l, h => by
    rw [List.pairwise_cons] at h
    simp only [traceOk, Bool.and_eq_true, List.all_eq_true, Bool.or_eq_true]
    exact ⟨fun p hp => h.1 p hp, traceOk_of h.2⟩

section
variable {K : Cfg} {C : CallT} {floor : Nat} {ops : Array Oper}
theorem traceX_mem : ∀ (l : List Oper) (i : Nat) (tm : Tmps) (σ : Store), ∀ p ∈ traceX K C floor ops l i tm σ, i ≤ p.1 ∧ p.1 < i + l.length
  | [], _, _, _, p, h => by simp [traceX] at h
  | o :: l, i, tm, σ, p, h => by
    simp only [traceX] at h
    split at h
    · split at h
      · rcases List.mem_cons.1 h with rfl | h
        · simp
        · have := traceX_mem l _ _ _ p h
          simp; omega
      · cases h
    · have := traceX_mem l _ _ _ p h
      simp; omega
    · cases h
theorem traceX_sorted : ∀ (l : List Oper) (i : Nat) (tm : Tmps) (σ : Store), (traceX K C floor ops l i tm σ).Pairwise fun p q => p.1 < q.1
  | [], _, _, _ => by simp [traceX]
  | o :: l, i, tm, σ => by
    simp only [traceX]
    split
    · split
      · rw [List.pairwise_cons]
        exact ⟨fun p hp => by have := (traceX_mem l _ _ _ p hp).1; simp only []; omega, traceX_sorted l _ _ _⟩
      · exact List.Pairwise.nil
    · exact traceX_sorted l _ _ _
    · exact List.Pairwise.nil
theorem sorted_unique : ∀ {l : List (Nat × Fp)}, (l.Pairwise fun p q => p.1 < q.1) → ∀ {i : Nat} {f g : Fp}, (i, f) ∈ l → (i, g) ∈ l → g = f
  | [], _, _, _, _, h, _ => by cases h
  | p :: l, hs, i, f, g, hf, hg => by
    rw [List.pairwise_cons] at hs
    rcases List.mem_cons.1 hf with h1 | h1
    · rcases List.mem_cons.1 hg with h2 | h2
      · rw [← h1] at h2; injection h2
      · have := hs.1 _ h2; rw [← h1] at this; simp at this
    · rcases List.mem_cons.1 hg with h2 | h2
      · have := hs.1 _ h1; rw [← h2] at this; simp at this
      · exact sorted_unique hs.2 h1 h2
theorem trace_ok {tm : Tmps} {σ : Store} (h : looseOk ((traceX K C floor ops ops.toList 0 tm σ).reverse ++ []) (loose ops) = true) : traceOk (Region.before ops) (traceX K C floor ops ops.toList 0 tm σ) = true := by
  refine traceOk_of ?_
  have hs := traceX_sorted (K := K) (C := C) (floor := floor) (ops := ops) ops.toList 0 tm σ
  have hm := traceX_mem (K := K) (C := C) (floor := floor) (ops := ops) ops.toList 0 tm σ
  generalize traceX K C floor ops ops.toList 0 tm σ = t at h hs hm
  refine List.Pairwise.imp_of_mem ?_ hs
  rintro ⟨i, f⟩ ⟨j, g⟩ hp hq hlt
  simp only [] at hlt ⊢
  cases hb : ((Region.before ops).getD j 0).testBit i with
  | true => exact .inl rfl
  | false =>
    right
    have hj := (hm _ hq).2
    simp only [Nat.zero_add, Array.length_toList] at hj
    have fnd : ∀ i f, (i, f) ∈ t → findFp i (t.reverse ++ []) = some f := fun i f h => findFp_mem (by simpa using h) fun g hg => sorted_unique hs h (by simpa using hg)
    exact looseOk_mem h (loose_mem hj hlt hb) (fnd _ _ hp) (fnd _ _ hq)
end
end
end Go.MT
