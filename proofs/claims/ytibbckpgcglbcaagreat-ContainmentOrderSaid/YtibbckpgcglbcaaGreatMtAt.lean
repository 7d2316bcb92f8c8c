/-
  What the law's At answers.
-/
import Derived.Test.YtibbckpgcglbcaaGreatMtTab
namespace Go.MT
open Go Go.Proofs
theorem exec_calm {K : Cfg} {C : CallT} {n fl : Nat} {id : Nat} {ops : Array Oper} {draw : Bool} {tm tm' : Tmps} {σ σ' : Store} (hl : looseS ops = []) (h : opsX K C fl ops ops.toList tm σ = some (tm', σ')) :
    exec K C n fl (.region id ops draw) tm σ = some (.normal, tm', σ') := by
  have ht := traceS_ok (K := K) (C := C) (floor := fl) (ops := ops) (tm := tm) (σ := σ) (by rw [hl]; rfl)
  simp only [exec, h, ht]
  simp
theorem pcall_of_exec {K : Cfg} {m fl f : Nat} {args tm' : List PV} {fn : Func} {c : Code} {ex : Ex} {v v' : PV} (he : K.ext f args [] = none) (hf : K.P.funcs[f]? = some fn) (hb : fn.body = some c) (hp : K.pol f = 0)
    (hx : exec K (pcall K m) m 0 c (args ++ List.replicate (fn.ntmps - args.length) .undef) [] = some (ex, tm', [])) (hex : ∀ j, ex ≠ .exit j) (hr : resultsX K.P fn tm' [] = some v) (hfr : freezeR [] 0 v = some v') :
    pcall K (m + 1) fl f args [] = some (v', []) := by
  simp only [pcall, he, hf, hb, hp, true_or, if_true, List.length_nil]
  rw [hx]
  cases ex with
  | exit j => exact (hex j rfl).elim
  | normal => simp only [hr, finish, if_true, hfr, List.take_nil]
  | ret => simp only [hr, finish, if_true, hfr, List.take_nil]
theorem u22 : Tryz.prog.underlying 22 = some (.slice 3) := Tryz.underlying22
theorem s3 : sizeT Tryz.prog 3 = some 1 := by kernel_rfl
theorem a3 : aggT Tryz.prog 3 = some false := by kernel_rfl
def bodyOf (fn : Func) : Code := fn.body.getD .skip
theorem at_empty {m fl i : Nat} {l : PV} (hl : l = .nilslice ∨ ∃ cs, l = .lst false 1 0 cs) : pcall K0 (m + 1) fl 7 [l, .int .i64 (.ofNat i)] [] = some (.int .i64 (.ofNat (Nat.land i 65535)), []) := by
  have hi : intOp .and .i64 (Int.ofNat i) 65535 = some (.int .i64 (.ofNat (Nat.land i 65535))) := and_nat .i64 i 65535 (by decide)
  have e2 : K0.P = Tryz.prog := rfl
  refine pcall_of_exec (fn := Tryz.f7) (c := bodyOf Tryz.f7) (ex := .ret) (v := .int .i64 (.ofNat (Nat.land i 65535))) (tm' := ?_) rfl Tryz.func7 rfl rfl ?_ (by simp) ?_ rfl
  · exact [l, .int .i64 (.ofNat i), .undef, .undef, .int .i64 (.ofNat (Nat.land i 65535)), l, .int .i64 0, .bool true, .int .i64 (.ofNat i), .int .i64 (.ofNat (Nat.land i 65535))] ++ List.replicate 13 .undef
  · rcases hl with rfl | ⟨cs, rfl⟩ <;>
    simp [bodyOf, Tryz.f7, exec, opsX, wantedX, operX, primOp, evalO, e2, put, Eff.okFloor, Store.app, absV, absLeaf, binT, List.replicate] <;> simp [intOp] at hi ⊢ <;> simp [hi]
  · rfl
/-- the number at a place that is not empty -/
def atZ (zs : List Int) (i : Nat) : Nat := (BitVec.ofInt 64 (zs.getD (i % zs.length) 0) &&& BitVec.ofInt 64 65535).toNat + i / zs.length
theorem seq_calm {K : Cfg} {C : CallT} {n fl : Nat} {id : Nat} {ops : Array Oper} {draw : Bool} {b : Code} {tm tm' : Tmps} {σ σ' : Store} {r : Option (Ex × Tmps × Store)} (hl : looseS ops = []) (h : opsX K C fl ops ops.toList tm σ = some (tm', σ'))
    (hb : exec K C n fl b tm' σ' = r) : exec K C n fl (.seq (.region id ops draw) b) tm σ = r := by
  simp only [exec]
  have := exec_calm (n := n) (id := id) (draw := draw) hl h
  simp only [exec] at this
  rw [this]; exact hb
theorem seq_normal {K : Cfg} {C : CallT} {n fl : Nat} {a b : Code} {tm tm' : Tmps} {σ σ' : Store} {r : Option (Ex × Tmps × Store)} (h : exec K C n fl a tm σ = some (.normal, tm', σ')) (hb : exec K C n fl b tm' σ' = r) : exec K C n fl (.seq a b) tm σ = r := by
  simp only [exec, h]; exact hb
theorem and_lt (z : Int) : (BitVec.ofInt 64 z &&& BitVec.ofInt 64 65535).toNat ≤ 65535 := by
  rw [BitVec.toNat_and]
  exact Nat.le_trans Nat.and_le_right (by decide)
theorem wrap_nat {n : Nat} (h : n < 9223372036854775808) : IntKind.i64.wrap (n : Int) = (n : Int) := wrap_top (k := .i64) (n := n) (by rw [Nat.blt_eq]; exact h)
theorem at_full {m fl i : Nat} {zs : List Int} (hz : zs ≠ []) (hi : i < 65536) :
    pcall K0 (m + 1) fl 7 [.lst false 1 zs.length (zs.map (.int .i64)), .int .i64 (.ofNat i)] [] = some (.int .i64 (.ofNat (atZ zs i)), []) := by
  have e2 : K0.P = Tryz.prog := rfl
  have hpos : 0 < zs.length := by cases zs with | nil => exact (hz rfl).elim | cons _ _ => simp
  have hlt : i % zs.length < zs.length := Nat.mod_lt _ hpos
  have hle : i / zs.length ≤ i := Nat.div_le_self _ _
  generalize hL : PV.lst false 1 zs.length (zs.map (.int .i64)) = L
  have hne : ((zs.length : Int) == 0) = false := by simp; omega
  have hne2 : ¬ (zs.length : Int) = 0 := by omega
  have g : zs[i % zs.length]? = some (zs.getD (i % zs.length) 0) := by simp [List.getD, List.getElem?_eq_getElem hlt]
  have ha := and_lt (zs.getD (i % zs.length) 0)
  have hdrop : ((zs.map (PV.int .i64)).drop (i % zs.length)).take 1 = [PV.int .i64 (zs.getD (i % zs.length) 0)] := by
    rw [List.drop_eq_getElem_cons (by simpa using hlt)]
    simp [List.getD, List.getElem?_eq_getElem hlt]
  refine pcall_of_exec (fn := Tryz.f7) (c := bodyOf Tryz.f7) (ex := .ret) (v := .int .i64 (.ofNat (atZ zs i)))
    (tm' := [L, .int .i64 i, .undef, .undef, .int .i64 (atZ zs i), L, .int .i64 zs.length, .bool false, .undef, .undef, L, .int .i64 i, L, .int .i64 zs.length, .int .i64 ((i % zs.length : Nat) : Int),
      .frz ((zs.map (PV.int .i64)).drop (i % zs.length)), .int .i64 (zs.getD (i % zs.length) 0), .int .i64 ((BitVec.ofInt 64 (zs.getD (i % zs.length) 0) &&& BitVec.ofInt 64 65535).toNat : Nat), .int .i64 i, L, .int .i64 zs.length, .int .i64 ((i / zs.length : Nat) : Int), .int .i64 (atZ zs i)]) rfl Tryz.func7 rfl rfl ?_ (by simp) ?_ rfl
  · refine seq_calm (by kernel_rfl) (tm' := [L, .int .i64 i, .undef, .undef, .int .i64 0] ++ List.replicate 18 .undef) (σ' := []) ?_ ?_
    · simp [opsX, wantedX, operX, primOp, evalO, put, Eff.okFloor, Store.app, absV, absLeaf, List.replicate, Tryz.f7]
    refine seq_normal (tm' := [L, .int .i64 i, .undef, .undef, .int .i64 0, L, .int .i64 zs.length, .bool false] ++ List.replicate 15 .undef) (σ' := []) ?_ ?_
    · refine seq_calm (by kernel_rfl) (tm' := [L, .int .i64 i, .undef, .undef, .int .i64 0, L, .int .i64 zs.length, .bool false] ++ List.replicate 15 .undef) (σ' := []) ?_ ?_
      · rw [← hL]
        simp [opsX, wantedX, operX, primOp, evalO, put, Eff.okFloor, Store.app, absV, absLeaf, binT, intOp, List.replicate, e2, hz]
      · simp [exec, evalO, List.replicate]
    refine seq_calm (by kernel_rfl) (tm' := _) (σ' := []) ?_ (by simp only [exec]; rfl)
    rw [← hL]
    have hrem : binT Tryz.prog .rem 3 (.int .i64 (i : Int)) (.int .i64 (zs.length : Int)) = some (.int .i64 ((i % zs.length : Nat) : Int)) := by
      simp only [binT, if_true, intOp, if_neg hne2]; rfl
    have hquo : binT Tryz.prog .quo 3 (.int .i64 (i : Int)) (.int .i64 (zs.length : Int)) = some (.int .i64 ((i / zs.length : Nat) : Int)) := by
      simp only [binT, if_true, intOp, if_neg hne2]
      have : (i : Int).tdiv (zs.length : Int) = ((i / zs.length : Nat) : Int) := rfl
      rw [this, wrap_nat (by omega)]
    unfold atZ
    generalize zs.getD (i % zs.length) 0 = z at ha hdrop ⊢
    generalize hA : (BitVec.ofInt 64 z &&& BitVec.ofInt 64 65535).toNat = A at ha ⊢
    have hand : binT Tryz.prog .and 3 (.int .i64 z) (.int .i64 65535) = some (.int .i64 ((A : Nat) : Int)) := by
      simp only [binT, if_true, intOp]
      have : (BitVec.ofInt IntKind.i64.bits z &&& BitVec.ofInt IntKind.i64.bits 65535).toNat = A := hA
      rw [this, wrap_nat (by omega)]
    have hadd : binT Tryz.prog .add 3 (.int .i64 ((A : Nat) : Int)) (.int .i64 ((i / zs.length : Nat) : Int)) = some (.int .i64 (((A + i / zs.length : Nat)) : Int)) := by
      simp only [binT, if_true, intOp]
      have : ((A : Nat) : Int) + ((i / zs.length : Nat) : Int) = ((A + i / zs.length : Nat) : Int) := by omega
      rw [this, wrap_nat (by omega)]
    generalize i % zs.length = p at hrem hlt hdrop ⊢
    generalize i / zs.length = q at hquo hadd ⊢
    have e5 : ((p : Nat) : Int).toNat = p := by omega
    have e6 : (0 : Int) ≤ (p : Int) := by omega
    have e7 : (p : Int) < (zs.length : Int) := by omega
    have e8 : 1 ≤ zs.length - p := by omega
    simp [opsX, wantedX, operX, primOp, evalO, put, Eff.okFloor, Store.app, absV, absLeaf, List.replicate, e2, s3, a3, asInt?, loadT, readCells, hrem, hquo, hand, hadd, e5, e6, e7, e8, hdrop]
  · rfl
end Go.MT
