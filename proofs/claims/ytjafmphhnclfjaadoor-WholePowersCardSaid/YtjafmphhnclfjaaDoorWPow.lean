/- Powers of whole numbers. -/
import Derived.Test.YtjafmphhnclfjaaDoorPow1
set_option linter.all false
set_option linter.all false
namespace Go.Proofs.YtjafmphhnclfjaaDoor
open Go GoAbs Num
set_option maxRecDepth 100000
set_option maxHeartbeats 2000000

theorem ok_ZPow : codeOk E Tryd.f32.ntmps (Tryd.f32.body.getD .skip) = true := by kernel_rfl
theorem ZPow_neg (a z : Int) (hz : z < 0) : ∃ c, Ct E 32 [aZ a, iI z] [] (.tup [aZ c, .kf]) [] := by
  refine ⟨0, ?_⟩
  have c1 := Pow_neg a.natAbs z hz
  refine Ct_of hE Tryd.func32 rfl rfl (by exact Nat.le_of_ble_eq_true rfl) ok_ZPow ?_
  repeat first | refine ⟨rfl, ?_⟩ | refine ifB_pos rfl ?_ | refine ifB_neg rfl ?_
  refine ⟨_, c1, ?_⟩
  repeat first | refine ⟨rfl, ?_⟩ | refine ifB_pos rfl ?_ | refine ifB_neg rfl ?_
  by_cases ha : a < 0
  · have h1 : decide (a < 0) = true := decide_eq_true ha
    by_cases hm : z.tmod 2 = 1
    · have h2 : (z.tmod 2 == 1) = true := by rw [hm]; rfl
      repeat first | refine ifB_pos h1 ?_ | refine ⟨rfl, ?_⟩ | refine ifB_pos rfl ?_ | refine ifB_neg rfl ?_
      refine ⟨by omega, ?_⟩
      repeat first | refine ifB_pos h1 ?_ | refine ⟨rfl, ?_⟩ | refine ifB_pos rfl ?_ | refine ifB_neg rfl ?_
      refine ⟨_, (From_ct true 0 (by decide)).args (.cons (.of_eq (congrArg AV.bool h2)) (.cons (.refl _) .nil)), ?_⟩
      repeat first | refine ⟨rfl, ?_⟩ | refine ifB_pos rfl ?_ | refine ifB_neg rfl ?_
      exact ⟨_, rfl, .refl _⟩
    · have h2 : (z.tmod 2 == 1) = false := by simpa using hm
      repeat first | refine ifB_pos h1 ?_ | refine ⟨rfl, ?_⟩ | refine ifB_pos rfl ?_ | refine ifB_neg rfl ?_
      refine ⟨by omega, ?_⟩
      repeat first | refine ifB_pos h1 ?_ | refine ⟨rfl, ?_⟩ | refine ifB_pos rfl ?_ | refine ifB_neg rfl ?_
      refine ⟨_, (From_ct false 0 (by decide)).args (.cons (.of_eq (congrArg AV.bool h2)) (.cons (.refl _) .nil)), ?_⟩
      repeat first | refine ⟨rfl, ?_⟩ | refine ifB_pos rfl ?_ | refine ifB_neg rfl ?_
      exact ⟨_, rfl, .refl _⟩
  · have h1 : decide (a < 0) = false := decide_eq_false ha
    repeat first | refine ifB_neg h1 ?_ | refine ⟨rfl, ?_⟩ | refine ifB_pos rfl ?_ | refine ifB_neg rfl ?_
    refine ⟨_, From_f 0 (by decide), ?_⟩
    repeat first | refine ⟨rfl, ?_⟩ | refine ifB_pos rfl ?_ | refine ifB_neg rfl ?_
    exact ⟨_, rfl, .refl _⟩
theorem pow_sign (a : Int) (n : Nat) : (if (decide (a < 0) && (((n : Nat) : Int).tmod 2 == 1)) = true then -((a.natAbs ^ n : Nat) : Int) else ((a.natAbs ^ n : Nat) : Int)) = a ^ n := by
  have e : ((n : Nat) : Int).tmod 2 = ((n % 2 : Nat) : Int) := rfl
  rw [e]
  have key : ∀ k : Nat, ((-((a.natAbs : Nat) : Int)) ^ k) = if k % 2 = 1 then -((a.natAbs ^ k : Nat) : Int) else ((a.natAbs ^ k : Nat) : Int) := by
    intro k
    induction k with
    | zero => simp
    | succ k ih =>
      rw [Int.pow_succ, ih, Nat.pow_succ]
      rcases Nat.mod_two_eq_zero_or_one k with h | h
      · rw [if_neg (by omega), if_pos (by omega)]; push_cast; grind
      · rw [if_pos h, if_neg (by omega)]; push_cast; grind
  by_cases ha : a < 0
  · have h1 : a = -((a.natAbs : Nat) : Int) := by omega
    have h2 := key n
    rw [← h1] at h2
    rw [h2, decide_eq_true ha]
    rcases Nat.mod_two_eq_zero_or_one n with h | h
    · rw [h]; simp
    · rw [h]; simp
  · have h1 : a = ((a.natAbs : Nat) : Int) := by omega
    rw [decide_eq_false ha]
    simp only [Bool.false_and, Bool.false_eq_true, if_false]
    conv => rhs; rw [h1]
    push_cast; rfl
theorem ZPow_ct (a : Int) (n : Nat) (hn : n ≤ 65536) (hb : n * blen a.natAbs < 274877906944) : Ct E 32 [aZ a, iI n] [] (.tup [aZ (a ^ n), .kt]) [] := by
  have c1 := Pow_ct a.natAbs n hn hb
  have bp := blen_pow a.natAbs n
  have c2 := From_ct (decide (a < 0) && (((n : Nat) : Int).tmod 2 == 1)) (a.natAbs ^ n) (by omega)
  rw [pow_sign] at c2
  refine Ct_of hE Tryd.func32 rfl rfl (by exact Nat.le_of_ble_eq_true rfl) ok_ZPow ?_
  repeat first | refine ⟨rfl, ?_⟩ | refine ifB_pos rfl ?_ | refine ifB_neg rfl ?_
  refine ⟨_, c1, ?_⟩
  repeat first | refine ⟨rfl, ?_⟩ | refine ifB_pos rfl ?_ | refine ifB_neg rfl ?_
  by_cases ha : a < 0
  · have h1 : decide (a < 0) = true := decide_eq_true ha
    rw [h1, Bool.true_and] at c2
    repeat first | refine ifB_pos h1 ?_ | refine ⟨rfl, ?_⟩ | refine ifB_pos rfl ?_ | refine ifB_neg rfl ?_
    refine ⟨by omega, ?_⟩
    repeat first | refine ifB_pos h1 ?_ | refine ⟨rfl, ?_⟩ | refine ifB_pos rfl ?_ | refine ifB_neg rfl ?_
    refine ⟨_, c2, ?_⟩
    repeat first | refine ⟨rfl, ?_⟩ | refine ifB_pos rfl ?_ | refine ifB_neg rfl ?_
    exact ⟨_, rfl, .refl _⟩
  · have h1 : decide (a < 0) = false := decide_eq_false ha
    rw [h1, Bool.false_and] at c2
    repeat first | refine ifB_neg h1 ?_ | refine ⟨rfl, ?_⟩ | refine ifB_pos rfl ?_ | refine ifB_neg rfl ?_
    refine ⟨_, c2.args (.cons .kf (.cons (.refl _) .nil)), ?_⟩
    repeat first | refine ⟨rfl, ?_⟩ | refine ifB_pos rfl ?_ | refine ifB_neg rfl ?_
    exact ⟨_, rfl, .refl _⟩
end Go.Proofs.YtjafmphhnclfjaaDoor
