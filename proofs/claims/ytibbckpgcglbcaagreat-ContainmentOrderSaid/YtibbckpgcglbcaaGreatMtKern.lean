/-
  The evaluator for the kernel (3): code, freezing, calls.
-/
import Derived.Test.YtibbckpgcglbcaaGreatMtMach
namespace Go.MT

section
variable {β : Type}

noncomputable def exR (ex : Ex) (nrm : β) (oth : Ex → β) : β := match ex with
  | .normal => nrm
  | .ret => oth .ret
  | .exit id => oth (.exit id)

abbrev CodeR (β : Type) := Tmps → Nat → List Obj → (Ex → Tmps → Nat → List Obj → Option β) → Option β

noncomputable def iterR (body : CodeR β) (n : Nat) : CodeR β := Nat.rec (motive := fun _ => CodeR β) (fun _ _ _ _ => none)
  (fun _ ih tm n rs k => body tm n rs fun ex tm' n' rs' => exR ex (ih tm' n' rs' k) fun ex => k ex tm' n' rs') n

section
variable (K : Cfg) (CR : CallR β) (fuel floor : Nat)
noncomputable def regR (ops : Array Oper) (draw : Bool) : CodeR β := fun tm n rs k =>
  Bool.rec (motive := fun _ => Option β) (opsN K CR floor ops ops.toList tm n rs fun tm n rs => k .normal tm n rs)
    (opsD K CR floor ops ops.toList 0 [] tm n rs fun acc tm n rs => Bool.rec (motive := fun _ => Option β) none (k .normal tm n rs) (looseOk acc (loose ops))) draw
noncomputable def execR (c : Code) : CodeR β := Code.rec (motive := fun _ => CodeR β)
  (fun tm n rs k => k .normal tm n rs)
  (fun _ ops draw => regR K CR floor ops draw)
  (fun _ _ iha ihb tm n rs k => iha tm n rs fun ex tm n rs => exR ex (ihb tm n rs k) fun ex => k ex tm n rs)
  (fun c _ _ iha ihb tm n rs k => evR tm c fun v => match v with
    | .bool b => Bool.rec (motive := fun _ => Option β) (ihb tm n rs k) (iha tm n rs k) b
    | _ => none)
  (fun id _ ih tm n rs k => ih tm n rs fun ex tm n rs => match ex with
    | .exit j => Bool.rec (motive := fun _ => Option β) (k (.exit j) tm n rs) (k .normal tm n rs) (Nat.beq j id)
    | .normal => k .normal tm n rs
    | .ret => k .ret tm n rs)
  (fun _ ih => iterR ih fuel)
  (fun _ _ _ _ _ _ _ _ _ _ => none)
  (fun id tm n rs k => k (.exit id) tm n rs)
  (fun _ _ _ _ _ _ => none)
  (fun _ _ _ _ _ => none)
  (fun _ _ _ _ _ => none)
  (fun tm n rs k => k .ret tm n rs)
  (fun _ _ _ _ _ => none)
  c
end

section
variable {K : Cfg} {CR : CallR β} {C : CallT} {fuel floor : Nat}

theorem exR_eq (ex : Ex) (nrm : β) (oth : Ex → β) : exR ex nrm oth = match ex with | .normal => nrm | ex => oth ex := by cases ex <;> rfl

theorem iterR_some {body : CodeR β} {b : Tmps → Store → Option (Ex × Tmps × Store)}
    (hb : ∀ tm (rs : List Obj) k r, body tm rs.length rs k = some r → ∃ ex tm' rs', b tm rs.reverse = some (ex, tm', rs'.reverse) ∧ k ex tm' rs'.length rs' = some r) :
    ∀ (m : Nat) (tm : Tmps) (rs : List Obj) (k : Ex → Tmps → Nat → List Obj → Option β) (r : β), iterR body m tm rs.length rs k = some r → ∃ ex tm' rs', iter b m tm rs.reverse = some (ex, tm', rs'.reverse) ∧ k ex tm' rs'.length rs' = some r
  | 0, tm, rs, k, r, h => by cases h
  | m + 1, tm, rs, k, r, h => by
    have h : (body tm rs.length rs fun ex tm' n' rs' => exR ex (iterR body m tm' n' rs' k) fun ex => k ex tm' n' rs') = some r := h
    obtain ⟨ex, tm', rs', h1, h2⟩ := hb _ _ _ _ h
    cases ex with
    | normal =>
      simp only [exR] at h2
      obtain ⟨ex, tm'', rs'', h3, h4⟩ := iterR_some hb m _ _ _ _ h2
      exact ⟨ex, tm'', rs'', by simp only [iter, h1, h3], h4⟩
    | ret => exact ⟨.ret, tm', rs', by simp only [iter, h1], h2⟩
    | exit j => exact ⟨.exit j, tm', rs', by simp only [iter, h1], h2⟩

theorem execR_some (hC : CRok C CR) : ∀ (c : Code) (tm : Tmps) (rs : List Obj) (k : Ex → Tmps → Nat → List Obj → Option β) (r : β), execR K CR fuel floor c tm rs.length rs k = some r →
    ∃ ex tm' rs', exec K C fuel floor c tm rs.reverse = some (ex, tm', rs'.reverse) ∧ k ex tm' rs'.length rs' = some r := by
  intro c
  induction c with
  | skip => intro tm rs k r h; exact ⟨.normal, tm, rs, rfl, h⟩
  | region id ops draw =>
    intro tm rs k r h
    have h : regR K CR floor ops draw tm rs.length rs k = some r := h
    unfold regR at h
    cases draw with
    | false =>
      obtain ⟨tm', rs', h1, h2⟩ := opsN_some hC _ h
      exact ⟨.normal, tm', rs', by simp only [exec, h1]; simp, h2⟩
    | true =>
      obtain ⟨tm', rs', h1, h2⟩ := opsD_some hC _ h
      cases hl : looseOk ((traceX K C floor ops ops.toList 0 tm rs.reverse).reverse ++ []) (loose ops) with
      | false => rw [hl] at h2; cases h2
      | true =>
        rw [hl] at h2
        exact ⟨.normal, tm', rs', by simp only [exec, h1, trace_ok hl]; simp, h2⟩
  | seq a b iha ihb =>
    intro tm rs k r h
    have h : (execR K CR fuel floor a tm rs.length rs fun ex tm n rs => exR ex (execR K CR fuel floor b tm n rs k) fun ex => k ex tm n rs) = some r := h
    obtain ⟨ex, tm', rs', h1, h2⟩ := iha _ _ _ _ h
    cases ex with
    | normal =>
      simp only [exR] at h2
      obtain ⟨ex, tm'', rs'', h3, h4⟩ := ihb _ _ _ _ h2
      exact ⟨ex, tm'', rs'', by simp only [exec, h1, h3], h4⟩
    | ret => exact ⟨.ret, tm', rs', by simp only [exec, h1], h2⟩
    | exit j => exact ⟨.exit j, tm', rs', by simp only [exec, h1], h2⟩
  | cond c a b iha ihb =>
    intro tm rs k r h
    have h : (evR tm c fun v => match v with
      | .bool b' => Bool.rec (motive := fun _ => Option β) (execR K CR fuel floor b tm rs.length rs k) (execR K CR fuel floor a tm rs.length rs k) b'
      | _ => none) = some r := h
    rw [evR_eq] at h
    split at h
    · rename_i b' hv
      cases b' with
      | true => obtain ⟨ex, tm', rs', h1, h2⟩ := iha _ _ _ _ h; exact ⟨ex, tm', rs', by simp only [exec, hv, h1], h2⟩
      | false => obtain ⟨ex, tm', rs', h1, h2⟩ := ihb _ _ _ _ h; exact ⟨ex, tm', rs', by simp only [exec, hv, h1], h2⟩
    · cases h
  | block id b ih =>
    intro tm rs k r h
    have h : (execR K CR fuel floor b tm rs.length rs fun ex tm n rs => match ex with
      | .exit j => Bool.rec (motive := fun _ => Option β) (k (.exit j) tm n rs) (k .normal tm n rs) (Nat.beq j id)
      | .normal => k .normal tm n rs
      | .ret => k .ret tm n rs) = some r := h
    obtain ⟨ex, tm', rs', h1, h2⟩ := ih _ _ _ _ h
    cases ex with
    | normal => exact ⟨.normal, tm', rs', by simp only [exec, h1], h2⟩
    | ret => exact ⟨.ret, tm', rs', by simp only [exec, h1], h2⟩
    | exit j =>
      simp only [] at h2
      cases hb : Nat.beq j id with
      | true =>
        rw [hb] at h2
        obtain rfl := Nat.eq_of_beq_eq_true hb
        exact ⟨.normal, tm', rs', by simp only [exec, h1, if_true], h2⟩
      | false =>
        rw [hb] at h2
        exact ⟨.exit j, tm', rs', by simp only [exec, h1]; rw [if_neg (fun e => by subst e; simp at hb)], h2⟩
  | loop b ih =>
    intro tm rs k r h
    have h : iterR (execR K CR fuel floor b) fuel tm rs.length rs k = some r := h
    exact iterR_some (b := exec K C fuel floor b) ih fuel tm rs k r h
  | exit id => intro tm rs k r h; exact ⟨.exit id, tm, rs, rfl, h⟩
  | ret => intro tm rs k r h; exact ⟨.ret, tm, rs, rfl, h⟩
  | _ => intro tm rs k r h; cases h
end

/-! ### results, freezing -/
noncomputable def resOneR (P : Program) (tm : Tmps) (n : Nat) (rs : List Obj) (v : ResultVar) (k : PV → Option β) : Option β := match v with
  | .tmp t => nthR tm t (k .undef) k
  | .cell a t => nthR tm a none fun p => loadR P n rs t p k
noncomputable def resAllR (P : Program) (tm : Tmps) (n : Nat) (rs : List Obj) (l : List ResultVar) : (List PV → Option β) → Option β := List.rec (motive := fun _ => (List PV → Option β) → Option β) (fun k => k [])
  (fun v _ ih k => resOneR P tm n rs v fun x => ih fun xs => k (x :: xs)) l
noncomputable def resR (fn : Func) (P : Program) (tm : Tmps) (n : Nat) (rs : List Obj) (k : PV → Option β) : Option β := resAllR P tm n rs fn.results.toList fun vs => match vs with
  | [v] => k v
  | vs => k (.tup vs)
theorem resAllR_some {P : Program} {tm : Tmps} {rs : List Obj} : ∀ {l : List ResultVar} {k : List PV → Option β} {r : β}, resAllR P tm rs.length rs l k = some r →
    ∃ vs, mapO (fun | .tmp t => some (tm.getD t .undef) | .cell a t => loadT P (fun id => rs.reverse[id]?) t (tm.getD a .undef)) l = some vs ∧ k vs = some r
  | [], k, r, h => ⟨[], rfl, h⟩
  | v :: l, k, r, h => by
    have h : (resOneR P tm rs.length rs v fun x => resAllR P tm rs.length rs l fun xs => k (x :: xs)) = some r := h
    have : ∃ x, (match v with | .tmp t => some (tm.getD t .undef) | .cell a t => loadT P (fun id => rs.reverse[id]?) t (tm.getD a .undef)) = some x ∧ (resAllR P tm rs.length rs l fun xs => k (x :: xs)) = some r := by
      cases v with
      | tmp t =>
        simp only [resOneR, nthR_eq] at h
        refine ⟨_, rfl, ?_⟩
        cases ht : tm[t]? with
        | none => rw [ht] at h; simpa [List.getD, ht] using h
        | some x => rw [ht] at h; simpa [List.getD, ht] using h
      | cell a t =>
        simp only [resOneR, nthR_eq] at h
        split at h
        · rename_i p hp
          obtain ⟨x, h1, h2⟩ := loadR_some rfl h
          exact ⟨x, by simpa [List.getD, hp] using h1, h2⟩
        · cases h
    obtain ⟨x, h1, h2⟩ := this
    obtain ⟨xs, h3, h4⟩ := resAllR_some h2
    refine ⟨x :: xs, ?_, h4⟩
    simp only [mapO, h1, h3]
theorem resR_some {fn : Func} {P : Program} {tm : Tmps} {rs : List Obj} {k : PV → Option β} {r : β} (h : resR fn P tm rs.length rs k = some r) : ∃ v, resultsX P fn tm rs.reverse = some v ∧ k v = some r := by
  obtain ⟨vs, h1, h2⟩ := resAllR_some h
  have e : resultsX P fn tm rs.reverse = (match (some vs : Option (List PV)) with | some [v] => some v | some vs => some (.tup vs) | none => none) :=
    congrArg (fun o : Option (List PV) => match o with | some [v] => some v | some vs => some (.tup vs) | none => none) h1
  rw [e]
  split at h2
  · exact ⟨_, rfl, h2⟩
  · rename_i hne
    refine ⟨.tup vs, ?_, h2⟩
    split
    · rename_i v e
      obtain rfl := Option.some.inj e
      exact (hne _ rfl).elim
    · rename_i vs' _ e
      rw [Option.some.inj e]
    · rename_i e; cases e

noncomputable def getD' (n : Nat) (rs : List Obj) (id : Nat) (d : β) (k : Obj → β) : β := Bool.rec (motive := fun _ => β) d (nthR rs (Nat.sub (Nat.sub n 1) id) d k) (Nat.blt id n)
theorem getD'_eq {rs : List Obj} {id : Nat} {d : β} {k : Obj → β} : getD' rs.length rs id d k = match rs.reverse[id]? with | some o => k o | none => d := by
  unfold getD'
  cases hb : Nat.blt id rs.length with
  | false =>
    have : ¬ id < rs.length := by rw [← Nat.blt_eq, hb]; simp
    rw [List.getElem?_eq_none (by simp; omega)]
  | true =>
    rw [Nat.blt_eq] at hb
    have e : Nat.sub (Nat.sub rs.length 1) id = rs.length - 1 - id := rfl
    simp only [nthR_eq]
    rw [List.getElem?_reverse hb, e]
    cases rs[rs.length - 1 - id]? <;> rfl
noncomputable def mapR (f : PV → β → (PV → β) → β) (l : List PV) : β → (List PV → β) → β := List.rec (motive := fun _ => β → (List PV → β) → β) (fun _ k => k [])
  (fun x _ ih d k => f x d fun y => ih d fun ys => k (y :: ys)) l
theorem mapR_eq {f : PV → β → (PV → β) → β} {g : PV → Option PV} (hf : ∀ x d k, f x d k = match g x with | some y => k y | none => d) : ∀ (l : List PV) (d : β) (k : List PV → β), mapR f l d k = match mapO g l with | some ys => k ys | none => d
  | [], _, _ => rfl
  | x :: l, d, k => by
    show (f x d fun y => mapR f l d fun ys => k (y :: ys)) = _
    rw [hf]
    cases hx : g x with
    | none => simp [mapO, hx]
    | some y =>
      simp only [mapR_eq hf l, mapO, hx]
      cases mapO g l <;> rfl
def capEq (cap : Option Nat) (m : Nat) : Bool := match cap with | none => false | some c => Nat.beq c m
theorem capEq_eq (cap : Option Nat) (m : Nat) : capEq cap m = (cap == some m) := by
  cases cap with
  | none => rfl
  | some c =>
    simp only [capEq]
    by_cases h : c = m
    · subst h; simp
    · have : Nat.beq c m = false := by rw [Bool.eq_false_iff]; exact fun e => h (Nat.eq_of_beq_eq_true e)
      rw [this]; simp [h]
noncomputable def frD (n : Nat) (rs : List Obj) (n0 : Nat) (d : Nat) : PV → β → (PV → β) → β := Nat.rec (motive := fun _ => PV → β → (PV → β) → β) (fun _ d _ => d)
  (fun _ ih v d k => match v with
    | .ref id off len sz => Bool.rec (motive := fun _ => β) (getD' n rs id d fun o => match o with
      | .arr cs cap => dropR cs off d fun l => takeR l (Nat.mul len sz) d fun l => mapR ih l d fun fs => fBool (capEq cap (Nat.add off (Nat.mul len sz))) fun t => k (.lst t sz len fs)
      | _ => d) d (Nat.blt id n0)
    | v => Bool.rec (motive := fun _ => β) d (k v) v.closedLeaf) d
theorem frD_eq {rs : List Obj} {n0 : Nat} : ∀ (m : Nat) (v : PV) (d : β) (k : PV → β), frD rs.length rs n0 m v d k = match freezeD rs.reverse n0 m v with | some v' => k v' | none => d
  | 0, _, _, _ => rfl
  | m + 1, v, d, k => by
    have leaf : ∀ v : PV, (Bool.rec (motive := fun _ => β) d (k v) v.closedLeaf : β) = match (if v.closedLeaf then some v else none : Option PV) with | some v' => k v' | none => d := fun v => by
      cases v.closedLeaf <;> rfl
    cases v with
    | ref id off len sz =>
      show (Bool.rec (motive := fun _ => β) (getD' rs.length rs id d fun o => match o with
        | .arr cs cap => dropR cs off d fun l => takeR l (Nat.mul len sz) d fun l => mapR (frD rs.length rs n0 m) l d fun fs => fBool (capEq cap (Nat.add off (Nat.mul len sz))) fun t => k (.lst t sz len fs)
        | _ => d) d (Nat.blt id n0) : β) = _
      simp only [freezeD]
      cases hb : Nat.blt id n0 with
      | true => rw [Nat.blt_eq] at hb; rw [if_pos hb]
      | false =>
        have : ¬ id < n0 := by rw [← Nat.blt_eq, hb]; simp
        rw [if_neg this]
        simp only [getD'_eq]
        cases ho : rs.reverse[id]? with
        | none => rfl
        | some o =>
          cases o with
          | arr cs cap =>
            simp only [dropR_eq, takeR_eq]
            by_cases h : off + len * sz ≤ cs.length
            · rw [if_pos (by omega), if_pos (by rw [List.length_drop]; exact Nat.le_sub_of_add_le (by rw [Nat.add_comm]; exact h)), if_pos h, mapR_eq (frD_eq m)]
              have e : (cs.drop off).take (Nat.mul len sz) = (cs.drop off).take (len * sz) := rfl
              rw [e]
              cases mapO (freezeD rs.reverse n0 m) ((cs.drop off).take (len * sz)) with
              | none => rfl
              | some fs => simp only [fBool_eq, capEq_eq]; rfl
            · rw [if_neg h]
              by_cases h1 : off ≤ cs.length
              · rw [if_pos h1, if_neg (by rw [List.length_drop]; exact fun h2 => h (by have : len * sz ≤ cs.length - off := h2; omega))]
              · rw [if_neg h1]
          | _ => rfl
    | int kd n => exact leaf (.int kd n)
    | bool b => exact leaf (.bool b)
    | str s => exact leaf (.str s)
    | ptr id off => exact leaf (.ptr id off)
    | frz cs => exact leaf (.frz cs)
    | nilptr => exact leaf (.nilptr)
    | lst t sz n cs => exact leaf (.lst t sz n cs)
    | nilslice => exact leaf (.nilslice)
    | fn f a b => exact leaf (.fn f a b)
    | nilfn => exact leaf (.nilfn)
    | map id => exact leaf (.map id)
    | nilmap => exact leaf (.nilmap)
    | agg cs => exact leaf (.agg cs)
    | tup vs => exact leaf (.tup vs)
    | undef => exact leaf (.undef)
    | gone => exact leaf (.gone)
noncomputable def frT (n : Nat) (rs : List Obj) (n0 : Nat) (v : PV) (d : β) (k : PV → β) : β := match v with
  | .ref id off len sz => Bool.rec (motive := fun _ => β) (frD n rs n0 20 (.ref id off len sz) d k) (k (.ref id off len sz)) (Nat.blt id n0)
  | .ptr id off => Bool.rec (motive := fun _ => β) d (k (.ptr id off)) (Nat.blt id n0)
  | .map id => Bool.rec (motive := fun _ => β) d (k (.map id)) (Nat.blt id n0)
  | v => Bool.rec (motive := fun _ => β) d (k v) v.closedLeaf
theorem blt_if {a b : Nat} {x y : β} : (Bool.rec (motive := fun _ => β) y x (Nat.blt a b) : β) = if a < b then x else y := by
  cases h : Nat.blt a b with
  | true => rw [Nat.blt_eq] at h; rw [if_pos h]
  | false => rw [if_neg (by rw [← Nat.blt_eq, h]; simp)]
theorem frT_eq {rs : List Obj} {n0 : Nat} (v : PV) (d : β) (k : PV → β) : frT rs.length rs n0 v d k = match freezeT rs.reverse n0 v with | some v' => k v' | none => d := by
  cases v with
  | ref id off len sz => simp only [frT, freezeT, blt_if, frD_eq]; split <;> rfl
  | ptr id off => simp only [frT, freezeT, blt_if]; split <;> rfl
  | map id => simp only [frT, freezeT, blt_if]; split <;> rfl
  | fn f a b => simp only [frT, freezeT]; cases h : (PV.fn f a b).closedLeaf <;> simp
  | _ => rfl
noncomputable def frA (n : Nat) (rs : List Obj) (n0 : Nat) (v : PV) (d : β) (k : PV → β) : β := match v with
  | .agg cs => mapR (frT n rs n0) cs d fun cs => k (.agg cs)
  | v => frT n rs n0 v d k
theorem frA_eq {rs : List Obj} {n0 : Nat} (v : PV) (d : β) (k : PV → β) : frA rs.length rs n0 v d k = match freezeA rs.reverse n0 v with | some v' => k v' | none => d := by
  cases v with
  | agg cs => simp only [frA, freezeA, mapR_eq frT_eq]; cases mapO (freezeT rs.reverse n0) cs <;> rfl
  | _ => simp only [frA, freezeA, frT_eq]
noncomputable def frR (n : Nat) (rs : List Obj) (n0 : Nat) (v : PV) (d : β) (k : PV → β) : β := match v with
  | .tup vs => mapR (frA n rs n0) vs d fun vs => k (.tup vs)
  | v => frA n rs n0 v d k
theorem frR_eq {rs : List Obj} {n0 : Nat} (v : PV) (d : β) (k : PV → β) : frR rs.length rs n0 v d k = match freezeR rs.reverse n0 v with | some v' => k v' | none => d := by
  cases v with
  | tup vs => simp only [frR, freezeR, mapR_eq frA_eq]; cases mapO (freezeA rs.reverse n0) vs <;> rfl
  | _ => simp only [frR, freezeR, frA_eq]

/-! ### calls -/
def undefs (m : Nat) : List PV := Nat.rec (motive := fun _ => List PV) [] (fun _ l => .undef :: l) m
theorem undefs_eq : ∀ m, undefs m = List.replicate m .undef
  | 0 => rfl
  | m + 1 => by
    show PV.undef :: undefs m = _
    rw [undefs_eq m]; rfl
noncomputable def enterR (K : Cfg) (CR : CallR β) (m floor : Nat) (fn : Func) (c : Code) (args : List PV) (n : Nat) (rs : List Obj) (k : PV → Nat → List Obj → Option β) : Option β :=
  appR args (undefs (Nat.sub fn.ntmps args.length)) fun tm => execR K CR m floor c tm n rs fun ex tm n rs => match ex with
    | .exit _ => none
    | .normal => resR fn K.P tm n rs fun v => k v n rs
    | .ret => resR fn K.P tm n rs fun v => k v n rs
noncomputable def doneR (n0 : Nat) (k : PV → Nat → List Obj → Option β) (v : PV) (n : Nat) (rs : List Obj) : Option β :=
  frR n rs n0 v (k v n rs) fun v => Bool.rec (motive := fun _ => Option β) none (dropR rs (Nat.sub n n0) none fun rs => k v n0 rs) (Nat.ble n0 n)
end
end Go.MT
