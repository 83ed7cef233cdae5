/- Package whole: small things. -/
import Derived.Test.YtjafmphhnclfjaaDoorNatIII
set_option linter.all false
namespace Go.Proofs.YtjafmphhnclfjaaDoor
open Go GoAbs Num
set_option maxRecDepth 100000
set_option maxHeartbeats 1000000

/-- A whole number as package whole has it. -/
def aZ (n : Int) : AV := .agg [.bool (decide (n < 0)), .imm false 1 (w64 (digs 18446744073709551616 n.natAbs))]
theorem aZ_eq {x y : Int} (h : x = y) : aZ x = aZ y := congrArg aZ h
theorem aZ_mk {b : Bool} {x : Nat} {n : Int} (hb : b = decide (n < 0)) (hx : x = n.natAbs) : AV.agg [.bool b, .imm false 1 (w64 (digs 18446744073709551616 x))] = aZ n := by rw [hb, hx]; rfl
theorem aZ_nil : Le (.agg [.kf, .nils]) (aZ 0) := .agg (.cons .kf (.cons (.nils _ _) .nil))
theorem Bits_e (x : Nat) (hx : blen x < 1099511627776) : Ct E 46 [aN x] [] (iI (((blen x : Nat) : Int))) [] := up (Bits_ct x hx)
theorem blen0 {x : Nat} : blen x = 0 ↔ x = 0 := by
  constructor
  · intro h
    rcases Nat.eq_zero_or_pos x with h0 | h0
    · exact h0
    · rw [blen_pos (by omega)] at h; omega
  · rintro rfl; rfl

theorem ok_From : codeOk E Tryd.f15.ntmps (Tryd.f15.body.getD .skip) = true := by kernel_rfl
theorem From_ct (b : Bool) (x : Nat) (hx : blen x < 1099511627776) : Ct E 15 [.bool b, aN x] [] (aZ (if b then -((x : Nat) : Int) else ((x : Nat) : Int))) [] := by
  refine Ct_of hE Tryd.func15 rfl rfl (by exact Nat.le_of_ble_eq_true rfl) ok_From ?_
  cases b with
  | false =>
    repeat first | refine ifB_neg rfl ?_ | refine ⟨rfl, ?_⟩
    exact ⟨_, rfl, .agg (.cons (Le.kf.trans (.of_eq (congrArg AV.bool (by simp)))) (.cons (.refl _) .nil))⟩
  | true =>
    repeat first | refine ifB_pos rfl ?_ | refine ⟨rfl, ?_⟩
    refine ⟨_, Bits_e x hx, ?_⟩
    repeat first | refine ifB_pos rfl ?_ | refine ⟨rfl, ?_⟩
    refine ⟨_, rfl, .of_eq (aZ_mk ?_ ?_)⟩
    · have h0 := @blen0 x
      simp only [if_true]
      by_cases hx0 : x = 0
      · rw [hx0]; rfl
      · rw [decide_eq_true (by omega), decide_eq_true (by omega)]
    · simp
theorem From_t (x : Nat) (hx : blen x < 1099511627776) : Ct E 15 [.kt, aN x] [] (aZ (-((x : Nat) : Int))) [] := (From_ct true x hx).args (.cons .kt (.cons (.refl _) .nil))
theorem From_f (x : Nat) (hx : blen x < 1099511627776) : Ct E 15 [.kf, aN x] [] (aZ ((x : Nat) : Int)) [] := (From_ct false x hx).args (.cons .kf (.cons (.refl _) .nil))
theorem Of_e (n : Nat) (hn : n < 18446744073709551616) : Ct E 34 [iU n] [] (aN n) [] := up (Of_ct n hn)
theorem blen_le64 {n : Nat} (h : n < 18446744073709551616) : blen n < 1099511627776 := Nat.lt_of_le_of_lt (blen_le (n := 64) h) (by decide)

theorem ok_ZOf : codeOk E Tryd.f33.ntmps (Tryd.f33.body.getD .skip) = true := by kernel_rfl
theorem ZOf_ct (n : Int) (h0 : -9223372036854775808 ≤ n) (h1 : n < 9223372036854775808) : Ct E 33 [iI n] [] (aZ n) [] := by
  refine Ct_of hE Tryd.func33 rfl rfl (by exact Nat.le_of_ble_eq_true rfl) ok_ZOf ?_
  refine ⟨fun h => ?_, fun h => ?_⟩
  · have hn : n < 0 := of_decide_eq_true h
    have e : IntKind.u64.wrap (0 - IntKind.u64.wrap n) = ((n.natAbs : Nat) : Int) := by rw [wrapU, wrapU]; omega
    refine ⟨_, (Of_e n.natAbs (by omega)).eq (cons_eq (congrArg (AV.int .u64) e) rfl), ?_⟩
    refine ⟨_, From_t n.natAbs (blen_le64 (by omega)), ?_⟩
    exact ⟨rfl, rfl, _, rfl, .of_eq (aZ_eq (by omega))⟩
  · have hn : ¬ n < 0 := of_decide_eq_false h
    have e : IntKind.u64.wrap n = ((n.natAbs : Nat) : Int) := by rw [wrapU]; omega
    refine ⟨_, (Of_e n.natAbs (by omega)).eq (cons_eq (congrArg (AV.int .u64) e) rfl), ?_⟩
    refine ⟨_, From_f n.natAbs (blen_le64 (by omega)), ?_⟩
    exact ⟨rfl, rfl, _, rfl, .of_eq (aZ_eq (by omega))⟩

theorem ok_Sign : codeOk E Tryd.f14.ntmps (Tryd.f14.body.getD .skip) = true := by kernel_rfl
theorem Sign_ct (n : Int) (hn : blen n.natAbs < 1099511627776) : Ct E 14 [aZ n] [] (iI n.sign) [] := by
  refine Ct_of hE Tryd.func14 rfl rfl (by exact Nat.le_of_ble_eq_true rfl) ok_Sign ?_
  repeat refine ⟨rfl, ?_⟩
  refine ⟨fun h => ?_, fun h => ?_⟩
  · exact ⟨_, rfl, .of_eq (congrArg (AV.int .i64) (Int.sign_eq_neg_one_of_neg (of_decide_eq_true h)).symm)⟩
  · have h1 : ¬ n < 0 := of_decide_eq_false h
    repeat refine ⟨rfl, ?_⟩
    refine ⟨_, Bits_e n.natAbs hn, ?_⟩
    refine ⟨fun h2 => ?_, fun h2 => ?_⟩
    · have h3 : n.natAbs = 0 := blen0.1 (by have := eq_of_beq h2; omega)
      exact ⟨_, rfl, .of_eq (congrArg (AV.int .i64) (by rw [show n = 0 by omega]; rfl))⟩
    · have h3 : n ≠ 0 := by rintro rfl; exact absurd h2 (by decide)
      exact ⟨_, rfl, .of_eq (congrArg (AV.int .i64) (Int.sign_eq_one_of_pos (by omega)).symm)⟩

theorem ok_Neg : codeOk E Tryd.f22.ntmps (Tryd.f22.body.getD .skip) = true := by kernel_rfl
theorem Neg_ct (n : Int) (hn : blen n.natAbs < 1099511627776) : Ct E 22 [aZ n] [] (aZ (-n)) [] := by
  refine Ct_of hE Tryd.func22 rfl rfl (by exact Nat.le_of_ble_eq_true rfl) ok_Neg ?_
  repeat refine ⟨rfl, ?_⟩
  refine ⟨_, From_ct (!decide (n < 0)) n.natAbs hn, ?_⟩
  refine ⟨rfl, rfl, _, rfl, .of_eq (aZ_eq ?_)⟩
  by_cases h : n < 0
  · rw [decide_eq_true h]; simp; omega
  · rw [decide_eq_false h]; simp; omega

theorem ok_Abs : codeOk E Tryd.f18.ntmps (Tryd.f18.body.getD .skip) = true := by kernel_rfl
theorem Abs_ct (n : Int) : Ct E 18 [aZ n] [] (aN n.natAbs) [] := by
  refine Ct_of hE Tryd.func18 rfl rfl (by exact Nat.le_of_ble_eq_true rfl) ok_Abs ?_
  repeat refine ⟨rfl, ?_⟩
  exact ⟨_, rfl, .refl _⟩

theorem Add_e (x y : Nat) (hx : blen x < 1099511627776) (hy : blen y < 1099511627776) : Ct E 36 [aN x, aN y] [] (aN (x + y)) [] := up (Add_ct x y hx hy)
theorem Sub_e (x y : Nat) (hx : blen x < 1099511627776) (hy : blen y < 1099511627776) : Ct E 45 [aN x, aN y] [] (.tup [aN (x - y), .bool (decide (y ≤ x))]) [] := up (Sub_ct x y hx hy)
theorem Mul_e (x y : Nat) (hx : blen x < 1099511627776) (hy : blen y < 1099511627776) : Ct E 44 [aN x, aN y] [] (aN (x * y)) [] := up (Mul_ct x y hx hy)
theorem Cmp_e (x y : Nat) (hx : blen x < 1099511627776) (hy : blen y < 1099511627776) : Ct E 17 [aN x, aN y] [] (iI (cmp x y)) [] := up (Cmp_ct x y hx hy)
theorem blen_add' {x y : Nat} (hx : blen x < 1099511627775) (hy : blen y < 1099511627775) : blen (x + y) < 1099511627776 := by have := blen_add x y; omega
theorem blen_sub' {x y : Nat} (hx : blen x < 1099511627776) : blen (x - y) < 1099511627776 := Nat.lt_of_le_of_lt (blen_mono (Nat.sub_le _ _)) hx

theorem ok_ZAdd : codeOk E Tryd.f12.ntmps (Tryd.f12.body.getD .skip) = true := by kernel_rfl
theorem ZAdd_ct (n m : Int) (hn : blen n.natAbs < 1099511627775) (hm : blen m.natAbs < 1099511627775) : Ct E 12 [aZ n, aZ m] [] (aZ (n + m)) [] := by
  refine Ct_of hE Tryd.func12 rfl rfl (by exact Nat.le_of_ble_eq_true rfl) ok_ZAdd ?_
  have hn' : blen n.natAbs < 1099511627776 := by omega
  have hm' : blen m.natAbs < 1099511627776 := by omega
  repeat refine ⟨rfl, ?_⟩
  refine ⟨fun h => ?_, fun h => ?_⟩
  · have h1 : decide (n < 0) = decide (m < 0) := eq_of_beq h
    repeat refine ⟨rfl, ?_⟩
    refine ⟨_, Add_e _ _ hn' hm', ?_⟩
    refine ⟨_, From_ct (decide (n < 0)) _ (blen_add' hn hm), ?_⟩
    refine ⟨rfl, rfl, _, rfl, .of_eq (aZ_eq ?_)⟩
    by_cases h2 : n < 0
    · rw [decide_eq_true h2] at h1 ⊢
      have h3 : m < 0 := of_decide_eq_true h1.symm
      simp; omega
    · rw [decide_eq_false h2] at h1 ⊢
      have h3 : ¬ m < 0 := of_decide_eq_false h1.symm
      simp; omega
  · have h1 : decide (n < 0) ≠ decide (m < 0) := by intro hc; rw [hc] at h; simp at h
    repeat refine ⟨rfl, ?_⟩
    refine ⟨_, Sub_e _ _ hn' hm', ?_⟩
    repeat refine ⟨rfl, ?_⟩
    refine ⟨fun h2 => ?_, fun h2 => ?_⟩
    · have h3 : m.natAbs ≤ n.natAbs := of_decide_eq_true h2
      repeat refine ⟨rfl, ?_⟩
      refine ⟨_, From_ct (decide (n < 0)) _ (blen_sub' hn'), ?_⟩
      refine ⟨rfl, rfl, _, rfl, .of_eq (aZ_eq ?_)⟩
      by_cases h4 : n < 0
      · rw [decide_eq_true h4] at h1 ⊢
        have h5 : ¬ m < 0 := fun hc => h1 (decide_eq_true hc).symm
        simp; omega
      · rw [decide_eq_false h4] at h1 ⊢
        have h5 : m < 0 := Decidable.byContradiction fun hc => h1 (decide_eq_false hc).symm
        simp; omega
    · have h3 : ¬ m.natAbs ≤ n.natAbs := of_decide_eq_false h2
      repeat refine ⟨rfl, ?_⟩
      refine ⟨_, Sub_e _ _ hm' hn', ?_⟩
      repeat refine ⟨rfl, ?_⟩
      refine ⟨_, From_ct (decide (m < 0)) _ (blen_sub' hm'), ?_⟩
      refine ⟨rfl, rfl, _, rfl, .of_eq (aZ_eq ?_)⟩
      by_cases h4 : m < 0
      · rw [decide_eq_true h4] at h1 ⊢
        have h5 : ¬ n < 0 := fun hc => h1 (decide_eq_true hc)
        simp; omega
      · rw [decide_eq_false h4] at h1 ⊢
        have h5 : n < 0 := Decidable.byContradiction fun hc => h1 (decide_eq_false hc)
        simp; omega

theorem ok_ZSub : codeOk E Tryd.f21.ntmps (Tryd.f21.body.getD .skip) = true := by kernel_rfl
theorem ZSub_ct (n m : Int) (hn : blen n.natAbs < 1099511627775) (hm : blen m.natAbs < 1099511627775) : Ct E 21 [aZ n, aZ m] [] (aZ (n - m)) [] := by
  refine Ct_of hE Tryd.func21 rfl rfl (by exact Nat.le_of_ble_eq_true rfl) ok_ZSub ?_
  repeat refine ⟨rfl, ?_⟩
  refine ⟨_, Neg_ct m (by omega), ?_⟩
  refine ⟨_, ZAdd_ct n (-m) hn (by rw [Int.natAbs_neg]; exact hm), ?_⟩
  exact ⟨rfl, rfl, _, rfl, .of_eq (aZ_eq (by omega))⟩

theorem ok_ZMul : codeOk E Tryd.f11.ntmps (Tryd.f11.body.getD .skip) = true := by kernel_rfl
theorem ZMul_ct (n m : Int) (hn : blen n.natAbs < 549755813888) (hm : blen m.natAbs < 549755813888) : Ct E 11 [aZ n, aZ m] [] (aZ (n * m)) [] := by
  refine Ct_of hE Tryd.func11 rfl rfl (by exact Nat.le_of_ble_eq_true rfl) ok_ZMul ?_
  repeat refine ⟨rfl, ?_⟩
  refine ⟨_, Mul_e _ _ (by omega) (by omega), ?_⟩
  refine ⟨_, From_ct (decide (n < 0) != decide (m < 0)) _ (by have := blen_times n.natAbs m.natAbs; omega), ?_⟩
  refine ⟨rfl, rfl, _, rfl, .of_eq (aZ_eq ?_)⟩
  rw [← Int.natAbs_mul]
  by_cases h1 : n < 0 <;> by_cases h2 : m < 0
  · rw [decide_eq_true h1, decide_eq_true h2]
    have := Int.mul_pos_of_neg_of_neg h1 h2
    simp; omega
  · rw [decide_eq_true h1, decide_eq_false h2]
    have := Int.mul_nonpos_of_nonpos_of_nonneg (Int.le_of_lt h1) (Int.not_lt.1 h2)
    simp; omega
  · rw [decide_eq_false h1, decide_eq_true h2]
    have := Int.mul_nonpos_of_nonneg_of_nonpos (Int.not_lt.1 h1) (Int.le_of_lt h2)
    simp; omega
  · rw [decide_eq_false h1, decide_eq_false h2]
    have := Int.mul_nonneg (Int.not_lt.1 h1) (Int.not_lt.1 h2)
    simp; omega
end Go.Proofs.YtjafmphhnclfjaaDoor
