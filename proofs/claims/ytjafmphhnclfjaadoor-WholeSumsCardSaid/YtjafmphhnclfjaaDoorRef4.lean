/- The document's whole numbers: signs, sums, differences, products. -/
import Derived.Test.YtjafmphhnclfjaaDoorRef3
import Derived.Test.YtjafmphhnclfjaaDoorHand1
import Derived.Test.YtjafmphhnclfjaaDoorNumQ
set_option linter.all false
set_option linter.all false
namespace Go.Proofs.YtjafmphhnclfjaaDoor
open Go GoAbs Num
set_option maxRecDepth 100000
set_option maxHeartbeats 2000000

theorem rlen (x : Nat) : (w32 (digs 4294967296 x)).length = (digs 4294967296 x).length := wk_len _ _
theorem I_e (b : Bool) (x : Nat) (n : Int) (h : (if b then -((x : Nat) : Int) else ((x : Nat) : Int)) = n) : Ct E 40 [.bool b, aR x] [] (aRI n) [] := h ▸ I_ct b x
theorem I_t (x : Nat) (n : Int) (h : -((x : Nat) : Int) = n) : Ct E 40 [.kt, aR x] [] (aRI n) [] := (I_e true x n (by simpa using h)).args (.cons .kt (.cons (.refl _) .nil))
theorem I_f (x : Nat) (n : Int) (h : ((x : Nat) : Int) = n) : Ct E 40 [.kf, aR x] [] (aRI n) [] := (I_e false x n (by simpa using h)).args (.cons .kf (.cons (.refl _) .nil))

theorem ok_IntSign : codeOk E Tryd.f29.ntmps (Tryd.f29.body.getD .skip) = true := by kernel_rfl
theorem IntSign_ct (n : Int) : Ct E 29 [aRI n] [] (iI n.sign) [] := by
  refine Ct_of hE Tryd.func29 rfl rfl (by exact Nat.le_of_ble_eq_true rfl) ok_IntSign ?_
  repeat first | refine ⟨rfl, ?_⟩ | refine And.intro (by first | omega | (dsimp only; omega)) ?_ | refine ifB_pos rfl ?_ | refine ifB_neg rfl ?_
  refine ⟨fun h => ?_, fun h => ?_⟩
  · have h0 : n = 0 := by
      have : (w32 (digs 4294967296 n.natAbs)).length = 0 := by have := eq_of_beq h; omega
      rw [rlen] at this
      have := rlen0.1 this
      omega
    subst h0
    exact ⟨_, rfl, .refl _⟩
  · have h0 : n ≠ 0 := by rintro rfl; exact absurd h (by decide)
    repeat first | refine ⟨rfl, ?_⟩ | refine And.intro (by first | omega | (dsimp only; omega)) ?_ | refine ifB_pos rfl ?_ | refine ifB_neg rfl ?_
    refine ⟨fun h2 => ?_, fun h2 => ?_⟩
    · have hn : n < 0 := of_decide_eq_true h2
      exact ⟨_, rfl, .of_eq (by rw [Int.sign_eq_neg_one_of_neg hn])⟩
    · have hn : ¬ n < 0 := of_decide_eq_false h2
      exact ⟨_, rfl, .of_eq (by rw [Int.sign_eq_one_of_pos (by omega)])⟩

theorem ok_IntNeg : codeOk E Tryd.f28.ntmps (Tryd.f28.body.getD .skip) = true := by kernel_rfl
theorem IntNeg_ct (n : Int) : Ct E 28 [aRI n] [] (aRI (-n)) [] := by
  refine Ct_of hE Tryd.func28 rfl rfl (by exact Nat.le_of_ble_eq_true rfl) ok_IntNeg ?_
  have c := I_e (!decide (n < 0)) n.natAbs (-n) (by
    by_cases h : n < 0
    · rw [decide_eq_true h]; simp; omega
    · rw [decide_eq_false h]; simp; omega)
  repeat first | refine ⟨rfl, ?_⟩ | refine And.intro (by first | omega | (dsimp only; omega)) ?_ | refine ifB_pos rfl ?_ | refine ifB_neg rfl ?_
  refine ⟨_, c, ?_⟩
  repeat first | refine ⟨rfl, ?_⟩ | refine And.intro (by first | omega | (dsimp only; omega)) ?_ | refine ifB_pos rfl ?_ | refine ifB_neg rfl ?_
  exact ⟨_, rfl, .refl _⟩

theorem ok_IntMul : codeOk E Tryd.f26.ntmps (Tryd.f26.body.getD .skip) = true := by kernel_rfl
theorem IntMul_ct (n m : Int) (hn : blen n.natAbs < 1099511627776) (hm : blen m.natAbs < 1099511627776) : Ct E 26 [aRI n, aRI m] [] (aRI (n * m)) [] := by
  refine Ct_of hE Tryd.func26 rfl rfl (by exact Nat.le_of_ble_eq_true rfl) ok_IntMul ?_
  have c1 := NatMul_ct n.natAbs m.natAbs hn hm
  have c := I_e (!(decide (n < 0) == decide (m < 0))) (n.natAbs * m.natAbs) (n * m) (by
    have e := Int.natAbs_mul n m
    rw [← e]
    by_cases h : n < 0 <;> by_cases k : m < 0
    · have := Int.mul_pos_of_neg_of_neg h k
      simp [h, k]; omega
    · have := Int.mul_nonpos_of_nonpos_of_nonneg (show n ≤ 0 by omega) (show 0 ≤ m by omega)
      simp [h, k]; omega
    · have := Int.mul_nonpos_of_nonneg_of_nonpos (show 0 ≤ n by omega) (show m ≤ 0 by omega)
      simp [h, k]; omega
    · have := Int.mul_nonneg (show 0 ≤ n by omega) (show 0 ≤ m by omega)
      simp [h, k]; omega)
  repeat first | refine ⟨rfl, ?_⟩ | refine And.intro (by first | omega | (dsimp only; omega)) ?_ | refine ifB_pos rfl ?_ | refine ifB_neg rfl ?_
  refine ⟨_, c1, ?_⟩
  refine ⟨_, c, ?_⟩
  repeat first | refine ⟨rfl, ?_⟩ | refine And.intro (by first | omega | (dsimp only; omega)) ?_ | refine ifB_pos rfl ?_ | refine ifB_neg rfl ?_
  exact ⟨_, rfl, .refl _⟩

theorem ok_IntAdd : codeOk E Tryd.f24.ntmps (Tryd.f24.body.getD .skip) = true := by kernel_rfl
theorem IntAdd_ct (n m : Int) (hn : blen n.natAbs < 1099511627776) (hm : blen m.natAbs < 1099511627776) : Ct E 24 [aRI n, aRI m] [] (aRI (n + m)) [] := by
  refine Ct_of hE Tryd.func24 rfl rfl (by exact Nat.le_of_ble_eq_true rfl) ok_IntAdd ?_
  have c1 := NatAdd_ct n.natAbs m.natAbs hn hm
  have c2 := NatCmp_ct n.natAbs m.natAbs hn hm
  repeat first | refine ⟨rfl, ?_⟩ | refine And.intro (by first | omega | (dsimp only; omega)) ?_ | refine ifB_pos rfl ?_ | refine ifB_neg rfl ?_
  refine ⟨fun h => ?_, fun h => ?_⟩
  · have hs : decide (n < 0) = decide (m < 0) := eq_of_beq h
    have c := I_e (decide (n < 0)) (n.natAbs + m.natAbs) (n + m) (by
      by_cases k : n < 0
      · have : m < 0 := by rw [decide_eq_true k] at hs; exact of_decide_eq_true hs.symm
        simp [k]; omega
      · have : ¬ m < 0 := by rw [decide_eq_false k] at hs; exact of_decide_eq_false hs.symm
        simp [k]; omega)
    repeat first | refine ⟨rfl, ?_⟩ | refine And.intro (by first | omega | (dsimp only; omega)) ?_ | refine ifB_pos rfl ?_ | refine ifB_neg rfl ?_
    refine ⟨_, c1, ?_⟩
    refine ⟨_, c, ?_⟩
    repeat first | refine ⟨rfl, ?_⟩ | refine And.intro (by first | omega | (dsimp only; omega)) ?_ | refine ifB_pos rfl ?_ | refine ifB_neg rfl ?_
    exact ⟨_, rfl, .refl _⟩
  · have hs : ¬ (n < 0 ↔ m < 0) := by
      intro hi
      have : decide (n < 0) = decide (m < 0) := by simp only [hi]
      rw [this] at h
      simp at h
    repeat first | refine ⟨rfl, ?_⟩ | refine And.intro (by first | omega | (dsimp only; omega)) ?_ | refine ifB_pos rfl ?_ | refine ifB_neg rfl ?_
    refine ⟨_, c2, ?_⟩
    refine ⟨fun h2 => ?_, fun h2 => ?_⟩
    · have hle : m.natAbs ≤ n.natAbs := by
        rcases Nat.lt_or_ge n.natAbs m.natAbs with k | k
        · rw [cmp_lt k] at h2; exact absurd h2 (by decide)
        · exact k
      have c3 := NatSub_ct n.natAbs m.natAbs hn hle
      have c := I_e (decide (n < 0)) (n.natAbs - m.natAbs) (n + m) (by by_cases k : n < 0 <;> simp [k] <;> omega)
      repeat first | refine ⟨rfl, ?_⟩ | refine And.intro (by first | omega | (dsimp only; omega)) ?_ | refine ifB_pos rfl ?_ | refine ifB_neg rfl ?_
      refine ⟨_, c3, ?_⟩
      refine ⟨_, c, ?_⟩
      repeat first | refine ⟨rfl, ?_⟩ | refine And.intro (by first | omega | (dsimp only; omega)) ?_ | refine ifB_pos rfl ?_ | refine ifB_neg rfl ?_
      exact ⟨_, rfl, .refl _⟩
    · have hle : n.natAbs ≤ m.natAbs := by
        rcases Nat.lt_or_ge m.natAbs n.natAbs with k | k
        · rw [cmp_gt k] at h2; exact absurd h2 (by decide)
        · exact k
      have c3 := NatSub_ct m.natAbs n.natAbs hm hle
      have c := I_e (decide (m < 0)) (m.natAbs - n.natAbs) (n + m) (by by_cases k : m < 0 <;> simp [k] <;> omega)
      repeat first | refine ⟨rfl, ?_⟩ | refine And.intro (by first | omega | (dsimp only; omega)) ?_ | refine ifB_pos rfl ?_ | refine ifB_neg rfl ?_
      refine ⟨_, c3, ?_⟩
      refine ⟨_, c, ?_⟩
      repeat first | refine ⟨rfl, ?_⟩ | refine And.intro (by first | omega | (dsimp only; omega)) ?_ | refine ifB_pos rfl ?_ | refine ifB_neg rfl ?_
      exact ⟨_, rfl, .refl _⟩

theorem ok_IntSub : codeOk E Tryd.f25.ntmps (Tryd.f25.body.getD .skip) = true := by kernel_rfl
theorem IntSub_ct (n m : Int) (hn : blen n.natAbs < 1099511627776) (hm : blen m.natAbs < 1099511627776) : Ct E 25 [aRI n, aRI m] [] (aRI (n - m)) [] := by
  refine Ct_of hE Tryd.func25 rfl rfl (by exact Nat.le_of_ble_eq_true rfl) ok_IntSub ?_
  have c1 := IntNeg_ct m
  have c2 := IntAdd_ct n (-m) hn (by rw [Int.natAbs_neg]; exact hm)
  rw [← Int.sub_eq_add_neg] at c2
  repeat first | refine ⟨rfl, ?_⟩ | refine And.intro (by first | omega | (dsimp only; omega)) ?_ | refine ifB_pos rfl ?_ | refine ifB_neg rfl ?_
  refine ⟨_, c1, ?_⟩
  refine ⟨_, c2, ?_⟩
  repeat first | refine ⟨rfl, ?_⟩ | refine And.intro (by first | omega | (dsimp only; omega)) ?_ | refine ifB_pos rfl ?_ | refine ifB_neg rfl ?_
  exact ⟨_, rfl, .refl _⟩
end Go.Proofs.YtjafmphhnclfjaaDoor
