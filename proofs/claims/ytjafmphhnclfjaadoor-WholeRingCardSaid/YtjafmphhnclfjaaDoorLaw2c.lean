/- WholeRing: the walkb. -/
import Derived.Test.YtjafmphhnclfjaaDoorTwo2
import Derived.Test.YtjafmphhnclfjaaDoorZCmp
import Derived.Test.YtjafmphhnclfjaaDoorKno2
import Derived.Test.YtjafmphhnclfjaaDoorNumL
set_option linter.all false
set_option linter.all false
namespace Go.Proofs.YtjafmphhnclfjaaDoor
open Go GoAbs Num
set_option maxRecDepth 100000
set_option maxHeartbeats 4000000

theorem ZCmp_self (n m : Int) (h : n = m) (bn : blen n.natAbs < 1099511627776) : Ct E 13 [aZ n, aZ m] [] (iI 0) [] := by
  subst h
  have := ZCmp_ct n n bn bn
  rwa [zcmp_self] at this
theorem ok_WholeRing : codeOk E Tryd.f4.ntmps (Tryd.f4.body.getD .skip) = true := by kernel_rfl
theorem WholeRing_ct (a b c : List Nat) (p q : Bool) (sa : Num.Small 256 a) (sb : Num.Small 256 b) (sc : Num.Small 256 c) (la : a.length < 140737488355328) (lb : b.length < 140737488355328) (lc : c.length < 140737488355328) :
    Ct E 4 [.imm false 1 (w8 a), .imm false 1 (w8 b), .imm false 1 (w8 c), .bool p, .bool q] [] .kt [] := by
  have htwo := two2_ct a b p q sa sb la lb
  have htwo2 := two2n_ct c (!(p == q)) sc lc
  have b1 := blen_zOf sa p
  have b2 := blen_zOf sb q
  have b3 := blen_zOf sc (!(p == q))
  generalize zOf p a = n at *
  generalize zOf q b = m at *
  generalize zOf (!(p == q)) c = z at *
  have bad : ∀ x y : Int, blen (x + y).natAbs ≤ max (blen x.natAbs) (blen y.natAbs) + 1 := fun x y => Nat.le_trans (blen_mono (by omega)) (blen_add x.natAbs y.natAbs)
  have bsb : ∀ x y : Int, blen (x - y).natAbs ≤ max (blen x.natAbs) (blen y.natAbs) + 1 := fun x y => Nat.le_trans (blen_mono (by omega)) (blen_add x.natAbs y.natAbs)
  have bml : ∀ x y : Int, blen (x * y).natAbs ≤ blen x.natAbs + blen y.natAbs := fun x y => by rw [Int.natAbs_mul]; exact blen_times _ _
  have g1 := bad n m
  have g2 := bad m z
  have g3 := bml n (m + z)
  have g4 := bml n m
  have g5 := bml n z
  have g6 := bsb n m
  have g7 := bml (n * m) z
  have g8 := bml z m
  have s1 : (if m = 0 then Ct E 19 [aZ n, aZ m] [] (.tup [aZ 0, aZ 0, .bool false]) [] else Ct E 19 [aZ n, aZ m] [] (.tup [aZ (n.fdiv m), aZ (n.fmod m), .bool true]) []) := by
    split
    · rename_i h; subst h; exact ZDiv0_ct n
    · rename_i h; exact ZDiv_ct n m h (by omega) (by omega)
  refine Ct_of hE Tryd.func4 rfl rfl (by exact Nat.le_of_ble_eq_true rfl) ok_WholeRing ?_
  refine ⟨_, htwo, ?_⟩
  repeat first | refine ⟨rfl, ?_⟩ | refine ifB_pos rfl ?_ | refine ifB_neg rfl ?_
  refine ⟨_, htwo2, ?_⟩
  repeat first | refine ⟨rfl, ?_⟩ | refine ifB_pos rfl ?_ | refine ifB_neg rfl ?_
  by_cases hm : m = 0
  focus
    rw [if_pos hm] at s1
    have h22 : (!(false == (m.sign != 0))) = false := by rw [hm]; rfl
    refine ⟨_, s1, ?_⟩
    repeat first | refine ⟨rfl, ?_⟩ | refine ifB_pos rfl ?_ | refine ifB_neg rfl ?_
  rotate_left
  focus
    rw [if_neg hm] at s1
    have h22 : (!(true == (m.sign != 0))) = false := by
      have : m.sign ≠ 0 := fun h => hm (Int.sign_eq_zero_iff_zero.1 h)
      have : (m.sign != 0) = true := by simpa using this
      rw [this]; rfl
    refine ⟨_, s1, ?_⟩
    repeat first | refine ⟨rfl, ?_⟩ | refine ifB_pos rfl ?_ | refine ifB_neg rfl ?_
  all_goals
    repeat first | refine ⟨rfl, ?_⟩ | refine ifB_pos rfl ?_ | refine ifB_neg rfl ?_
    refine ⟨.kt, known2_ct, ?_⟩
    repeat first | refine ⟨rfl, ?_⟩ | refine ifB_pos rfl ?_ | refine ifB_neg rfl ?_
    refine ⟨_, ZAdd_ct n m (by omega) (by omega), ?_⟩
    repeat first | refine ⟨rfl, ?_⟩ | refine ifB_pos rfl ?_ | refine ifB_neg rfl ?_
    refine ⟨_, ZAdd_ct m n (by omega) (by omega), ?_⟩
    repeat first | refine ⟨rfl, ?_⟩ | refine ifB_pos rfl ?_ | refine ifB_neg rfl ?_
    refine ⟨_, ZCmp_self _ _ (Int.add_comm n m) (by omega), ?_⟩
    repeat first | refine ⟨rfl, ?_⟩ | refine ifB_pos rfl ?_ | refine ifB_neg rfl ?_
    refine ⟨_, ZAdd_ct m z (by omega) (by omega), ?_⟩
    repeat first | refine ⟨rfl, ?_⟩ | refine ifB_pos rfl ?_ | refine ifB_neg rfl ?_
    refine ⟨_, ZMul_ct n (m + z) (by omega) (by omega), ?_⟩
    repeat first | refine ⟨rfl, ?_⟩ | refine ifB_pos rfl ?_ | refine ifB_neg rfl ?_
    refine ⟨_, ZMul_ct n m (by omega) (by omega), ?_⟩
    repeat first | refine ⟨rfl, ?_⟩ | refine ifB_pos rfl ?_ | refine ifB_neg rfl ?_
    refine ⟨_, ZMul_ct n z (by omega) (by omega), ?_⟩
    repeat first | refine ⟨rfl, ?_⟩ | refine ifB_pos rfl ?_ | refine ifB_neg rfl ?_
    refine ⟨_, ZAdd_ct (n * m) (n * z) (by omega) (by omega), ?_⟩
    repeat first | refine ⟨rfl, ?_⟩ | refine ifB_pos rfl ?_ | refine ifB_neg rfl ?_
    refine ⟨_, ZCmp_self _ _ (Int.mul_add n m z) (by omega), ?_⟩
    repeat first | refine ⟨rfl, ?_⟩ | refine ifB_pos rfl ?_ | refine ifB_neg rfl ?_
    refine ⟨_, ZSub_ct n m (by omega) (by omega), ?_⟩
    repeat first | refine ⟨rfl, ?_⟩ | refine ifB_pos rfl ?_ | refine ifB_neg rfl ?_
    refine ⟨_, ZAdd_ct (n - m) m (by omega) (by omega), ?_⟩
    repeat first | refine ⟨rfl, ?_⟩ | refine ifB_pos rfl ?_ | refine ifB_neg rfl ?_
    refine ⟨_, ZCmp_self _ _ (Int.sub_add_cancel n m) (by rw [Int.sub_add_cancel]; omega), ?_⟩
    repeat first | refine ⟨rfl, ?_⟩ | refine ifB_pos rfl ?_ | refine ifB_neg rfl ?_
    refine ⟨_, ZMul_ct n m (by omega) (by omega), ?_⟩
    repeat first | refine ⟨rfl, ?_⟩ | refine ifB_pos rfl ?_ | refine ifB_neg rfl ?_
    refine ⟨_, ZMul_ct (n * m) z (by omega) (by omega), ?_⟩
    repeat first | refine ⟨rfl, ?_⟩ | refine ifB_pos rfl ?_ | refine ifB_neg rfl ?_
    refine ⟨_, ZMul_ct z m (by omega) (by omega), ?_⟩
    repeat first | refine ⟨rfl, ?_⟩ | refine ifB_pos rfl ?_ | refine ifB_neg rfl ?_
    refine ⟨_, ZMul_ct (z * m) n (by omega) (by omega), ?_⟩
    repeat first | refine ⟨rfl, ?_⟩ | refine ifB_pos rfl ?_ | refine ifB_neg rfl ?_
    refine ⟨_, ZCmp_self _ _ (by rw [Int.mul_comm z m, Int.mul_assoc m z n, Int.mul_comm z n, ← Int.mul_assoc m n z, Int.mul_comm m n]) (by omega), ?_⟩
    repeat first | refine ⟨rfl, ?_⟩ | refine ifB_pos rfl ?_ | refine ifB_neg rfl ?_
    refine ⟨_, Neg_ct n (by omega), ?_⟩
    repeat first | refine ⟨rfl, ?_⟩ | refine ifB_pos rfl ?_ | refine ifB_neg rfl ?_
    refine ⟨_, Neg_ct (-n) (by rw [Int.natAbs_neg]; omega), ?_⟩
    repeat first | refine ⟨rfl, ?_⟩ | refine ifB_pos rfl ?_ | refine ifB_neg rfl ?_
    refine ⟨_, ZCmp_self _ _ (Int.neg_neg n) (by rw [Int.neg_neg]; omega), ?_⟩
    repeat first | refine ⟨rfl, ?_⟩ | refine ifB_pos rfl ?_ | refine ifB_neg rfl ?_
    refine ⟨_, Sign_ct m (by omega), ?_⟩
    repeat first | refine ifB_neg h22 ?_ | refine ⟨rfl, ?_⟩ | refine ifB_pos rfl ?_ | refine ifB_neg rfl ?_
  · obtain ⟨f1, f2, f3, f4⟩ := fm_facts n hm
    have hq := bml (n.fdiv m) m
    have hqn : blen (n.fdiv m).natAbs ≤ 640 := by
      have e : (n.fdiv m * m) = n - n.fmod m := by rw [Int.mul_comm]; omega
      have h1 : (n.fdiv m).natAbs ≤ n.natAbs + m.natAbs := by
        have h2 : (n.fdiv m).natAbs * 1 ≤ (n.fdiv m).natAbs * m.natAbs := Nat.mul_le_mul_left _ (by omega)
        rw [← Int.natAbs_mul, e] at h2
        omega
      have := blen_mono h1
      have := blen_add n.natAbs m.natAbs
      omega
    have hr := blen_mono (Nat.le_of_lt f2)
    have hmod : n.fdiv m * m + n.fmod m = n := by rw [Int.mul_comm]; exact f1.symm
    have hrs := Sign_ct (n.fmod m) (by omega)
    have hcm := Cmp_e (n.fmod m).natAbs m.natAbs (by omega) (by omega)
    rw [cmp_lt f2] at hcm
    refine ⟨_, ZMul_ct (n.fdiv m) m (by omega) (by omega), ?_⟩
    repeat first | refine ⟨rfl, ?_⟩ | refine ifB_pos rfl ?_ | refine ifB_neg rfl ?_
    refine ⟨_, ZAdd_ct (n.fdiv m * m) (n.fmod m) (by omega) (by omega), ?_⟩
    repeat first | refine ⟨rfl, ?_⟩ | refine ifB_pos rfl ?_ | refine ifB_neg rfl ?_
    refine ⟨_, ZCmp_self _ _ hmod (by rw [hmod]; omega), ?_⟩
    repeat first | refine ⟨rfl, ?_⟩ | refine ifB_pos rfl ?_ | refine ifB_neg rfl ?_
    refine ⟨_, hrs, ?_⟩
    repeat first | refine ⟨rfl, ?_⟩ | refine ifB_pos rfl ?_ | refine ifB_neg rfl ?_
    by_cases h0 : n.fmod m = 0
    · have hs0 : ((n.fmod m).sign == 0) = true := by rw [h0]; rfl
      repeat first | refine ifB_pos hs0 ?_ | refine ⟨rfl, ?_⟩ | refine ifB_pos rfl ?_ | refine ifB_neg rfl ?_
      refine ⟨_, Abs_ct (n.fmod m), ?_⟩
      repeat first | refine ifB_pos hs0 ?_ | refine ⟨rfl, ?_⟩ | refine ifB_pos rfl ?_ | refine ifB_neg rfl ?_
      refine ⟨_, Abs_ct m, ?_⟩
      repeat first | refine ifB_pos hs0 ?_ | refine ⟨rfl, ?_⟩ | refine ifB_pos rfl ?_ | refine ifB_neg rfl ?_
      refine ⟨_, hcm, ?_⟩
      repeat first | refine ifB_pos hs0 ?_ | refine ⟨rfl, ?_⟩ | refine ifB_pos rfl ?_ | refine ifB_neg rfl ?_
      first | exact ⟨_, rfl, .tt⟩ | exact ⟨_, rfl, .refl _⟩
    · have hs0 : ((n.fmod m).sign == 0) = false := by
        have : (n.fmod m).sign ≠ 0 := fun h => h0 (Int.sign_eq_zero_iff_zero.1 h)
        simpa using this
      have hs1 : ((n.fmod m).sign == m.sign) = true := by
        rcases Int.lt_or_lt_of_ne hm with k | k
        · have := f4 k
          rw [Int.sign_eq_neg_one_of_neg k, Int.sign_eq_neg_one_of_neg (by omega)]; rfl
        · have := f3 k
          rw [Int.sign_eq_one_of_pos k, Int.sign_eq_one_of_pos (by omega)]; rfl
      repeat first | refine ifB_neg hs0 ?_ | refine ⟨rfl, ?_⟩ | refine ifB_pos rfl ?_ | refine ifB_neg rfl ?_
      refine ⟨_, hrs, ?_⟩
      repeat first | refine ifB_neg hs0 ?_ | refine ⟨rfl, ?_⟩ | refine ifB_pos rfl ?_ | refine ifB_neg rfl ?_
      refine ⟨_, Sign_ct m (by omega), ?_⟩
      repeat first | refine ifB_neg hs0 ?_ | refine ifB_pos hs1 ?_ | refine ⟨rfl, ?_⟩ | refine ifB_pos rfl ?_ | refine ifB_neg rfl ?_
      refine ⟨_, Abs_ct (n.fmod m), ?_⟩
      repeat first | refine ifB_neg hs0 ?_ | refine ifB_pos hs1 ?_ | refine ⟨rfl, ?_⟩ | refine ifB_pos rfl ?_ | refine ifB_neg rfl ?_
      refine ⟨_, Abs_ct m, ?_⟩
      repeat first | refine ifB_neg hs0 ?_ | refine ifB_pos hs1 ?_ | refine ⟨rfl, ?_⟩ | refine ifB_pos rfl ?_ | refine ifB_neg rfl ?_
      refine ⟨_, hcm, ?_⟩
      repeat first | refine ifB_neg hs0 ?_ | refine ifB_pos hs1 ?_ | refine ⟨rfl, ?_⟩ | refine ifB_pos rfl ?_ | refine ifB_neg rfl ?_
      first | exact ⟨_, rfl, .tt⟩ | exact ⟨_, rfl, .refl _⟩
  · exact ⟨_, rfl, .refl _⟩
end Go.Proofs.YtjafmphhnclfjaaDoor
