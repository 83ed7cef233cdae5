/- Powers. -/
import Derived.Test.YtjafmphhnclfjaaDoorWho2
import Derived.Test.YtjafmphhnclfjaaDoorNumQ
set_option linter.all false
set_option linter.all false
namespace Go.Proofs.YtjafmphhnclfjaaDoor
open Go GoAbs Num
set_option maxRecDepth 100000
set_option maxHeartbeats 2000000

theorem blen_pow (a : Nat) : ∀ j : Nat, blen (a ^ j) ≤ j * blen a + 1
  | 0 => by rw [Nat.pow_zero]; show blen 1 ≤ 0 * blen a + 1; rw [show blen 1 = 1 from by decide]; omega
  | j + 1 => by
    have := blen_pow a j
    have h := blen_times (a ^ j) a
    rw [Nat.pow_succ, Nat.add_mul]; omega
theorem andI (x : Nat) (hx : x < 9223372036854775808) : bitA .and .i64 ((x : Nat) : Int) 1 = ((x % 2 : Nat) : Int) := by
  show IntKind.i64.wrap (((BitVec.ofInt 64 ((x : Nat) : Int) &&& BitVec.ofInt 64 (1 : Int)).toNat : Nat) : Int) = _
  have e1 : BitVec.ofInt 64 ((x : Nat) : Int) = BitVec.ofNat 64 x := BitVec.ofInt_natCast 64 x
  have e2 : BitVec.ofInt 64 (1 : Int) = BitVec.ofNat 64 1 := BitVec.ofInt_natCast 64 1
  rw [e1, e2]
  have e3 : (BitVec.ofNat 64 x &&& BitVec.ofNat 64 1).toNat = x % 2 := by
    rw [BitVec.toNat_and, BitVec.toNat_ofNat, BitVec.toNat_ofNat, Nat.mod_eq_of_lt (by omega), show 1 % 2 ^ 64 = 1 by decide, Nat.and_one_is_mod]
  rw [e3]
  exact wrapI (by omega) (by omega)
theorem ok_BLen : codeOk E Tryd.f85.ntmps (Tryd.f85.body.getD .skip) = true := by kernel_rfl
theorem BLen_ct (n : Nat) (hn : n < 18446744073709551616) : Ct E 85 [iU n] [] (iI ((blen n : Nat) : Int)) [] := by
  refine Ct_of hE Tryd.func85 rfl rfl (by exact Nat.le_of_ble_eq_true rfl) ok_BLen ?_
  refine ⟨_, up (Len64_ct n hn), ?_⟩
  exact ⟨_, rfl, .refl _⟩
theorem ok_Pow : codeOk E Tryd.f61.ntmps (Tryd.f61.body.getD .skip) = true := by kernel_rfl
theorem Pow_neg (a : Nat) (z : Int) (hz : z < 0) : Ct E 61 [aN a, iI z] [] (.tup [aN 0, .kf]) [] := by
  refine Ct_of hE Tryd.func61 rfl rfl (by exact Nat.le_of_ble_eq_true rfl) ok_Pow ?_
  have h1 : decide (z < 0) = true := decide_eq_true hz
  repeat first | refine ifB_pos h1 ?_ | refine ⟨rfl, ?_⟩ | refine ifB_pos rfl ?_ | refine ifB_neg rfl ?_
  exact ⟨_, rfl, .tup (.cons aN_nil (.cons (.refl _) .nil))⟩
theorem Pow_ct (a n : Nat) (hn : n ≤ 65536) (hb : n * blen a < 274877906944) : Ct E 61 [aN a, iI n] [] (.tup [aN (a ^ n), .kt]) [] := by
  refine Ct_of hE Tryd.func61 rfl rfl (by exact Nat.le_of_ble_eq_true rfl) ok_Pow ?_
  have h1 : decide (((n : Nat) : Int) < 0) = false := decide_eq_false (by omega)
  have h2 : decide (((n : Nat) : Int) > 65536) = false := decide_eq_false (by omega)
  have hl := blen_lt n
  have hl2 : blen n ≤ 17 := blen_le (n := 17) (by omega)
  have c1 := BLen_ct n (by omega)
  have u1 : IntKind.u64.wrap ((n : Nat) : Int) = ((n : Nat) : Int) := wU rfl (by omega)
  have hba : blen a < 274877906944 ∨ n = 0 := by
    rcases Nat.eq_zero_or_pos n with h | h
    · exact .inr h
    · left
      have : 1 * blen a ≤ n * blen a := Nat.mul_le_mul_right _ h
      omega
  have bp : ∀ j, j ≤ n → blen (a ^ j) < 274877906946 := fun j hj => by
    have := blen_pow a j
    have : j * blen a ≤ n * blen a := Nat.mul_le_mul_right _ hj
    omega
  repeat first | refine ifB_neg h1 ?_ | refine ifB_neg h2 ?_ | refine ⟨rfl, ?_⟩ | refine ifB_pos rfl ?_ | refine ifB_neg rfl ?_
  refine ⟨_, Of_e 1 (by decide), ?_⟩
  repeat first | refine ⟨rfl, ?_⟩ | refine ifB_pos rfl ?_ | refine ifB_neg rfl ?_
  refine ⟨_, c1.eq (cons_eq (congrArg (AV.int .u64) u1) rfl), ?_⟩
  refine ⟨by omega, ?_⟩
  refine loop_fr [] (fun m : Nat => m ≤ blen n) (fun m => m)
    (fun m => [(1, iI n), (2, .ref 2 0 0 0), (4, .ref 4 0 0 0), (6, .ref 6 0 0 0), (7, iI ((m : Int) - 1))])
    (fun m => [(2, ⟨true, 1, [aN a], 0, false⟩), (4, ⟨true, 1, [.agg [.nils]], 0, false⟩), (6, ⟨true, 1, [aN (a ^ (n / 2 ^ m))], 0, false⟩)])
    (blen n) (Nat.le_refl _) ⟨rfl, rfl, rfl, rfl, rfl, trivial⟩ ⟨rfl, rfl, (congrArg (fun z => some (⟨true, 1, [aN z], 0, false⟩ : Blk)) (by rw [Nat.div_eq_of_lt hl, Nat.pow_zero])), trivial⟩ ?_
  rintro m g h v hm
  refine ⟨fun h3 => ?_, fun h3 => ?_⟩
  · obtain ⟨k, rfl⟩ : ∃ k, m = k + 1 := ⟨m - 1, by have := of_decide_eq_true h3; omega⟩
    have ek : ((k + 1 : Nat) : Int) - 1 = ((k : Nat) : Int) := by omega
    obtain ⟨j, hj⟩ : ∃ j, j = n / 2 ^ (k + 1) := ⟨_, rfl⟩
    have hdiv : n / 2 ^ k / 2 = j := by rw [hj, Nat.pow_succ, Nat.div_div_eq_div_mul]
    have hkn : n / 2 ^ k ≤ n := Nat.div_le_self _ _
    have hmod := Nat.div_add_mod (n / 2 ^ k) 2
    rw [hdiv] at hmod
    have hbit := Nat.mod_lt (n / 2 ^ k) (show 0 < 2 by decide)
    have e2 : a ^ j * a ^ j = a ^ (2 * j) := by rw [← Nat.pow_add]; congr 1; omega
    have m1 : min ((((k + 1 : Nat) : Int) - 1)).toNat IntKind.i64.bits = k := by rw [ek, Int.toNat_natCast]; exact Nat.min_eq_left (by show k ≤ 64; omega)
    have e3 : ((n : Nat) : Int).fdiv (2 ^ min ((((k + 1 : Nat) : Int) - 1)).toNat IntKind.i64.bits) = ((n / 2 ^ k : Nat) : Int) := by rw [m1]; exact fdivU rfl rfl rfl
    have e4 : bitA .and .i64 (((n : Nat) : Int).fdiv (2 ^ min ((((k + 1 : Nat) : Int) - 1)).toNat IntKind.i64.bits)) 1 = ((n / 2 ^ k % 2 : Nat) : Int) := by rw [e3]; exact andI _ (by omega)
    have b1 := bp j (by omega)
    have b2 := bp (2 * j) (by omega)
    have c2 := Mul_e (a ^ j) (a ^ j) (by omega) (by omega)
    rw [e2] at c2
    rw [← hj]
    repeat first | refine ⟨rfl, ?_⟩ | refine ifB_pos rfl ?_ | refine ifB_neg rfl ?_
    refine ⟨_, c2, ?_⟩
    repeat first | refine ⟨rfl, ?_⟩ | refine ifB_pos rfl ?_ | refine ifB_neg rfl ?_
    refine ⟨by omega, ?_⟩
    refine ⟨fun h4 => ?_, fun h4 => ?_⟩
    · have hb1 : n / 2 ^ k % 2 = 1 := by have := eq_of_beq h4; rw [e4] at this; omega
      have e5 : a ^ (2 * j) * a = a ^ (n / 2 ^ k) := by rw [← Nat.pow_succ]; congr 1; omega
      have c3 := Mul_e (a ^ (2 * j)) a (by omega) (by
        rcases hba with h | h
        · omega
        · subst h; simp at hb1)
      rw [e5] at c3
      repeat first | refine ⟨rfl, ?_⟩ | refine ifB_pos rfl ?_ | refine ifB_neg rfl ?_
      refine ⟨_, c3, ?_⟩
      repeat first | refine ⟨rfl, ?_⟩ | refine ifB_pos rfl ?_ | refine ifB_neg rfl ?_
      refine ⟨by omega, ?_⟩
      exact ⟨k, ⟨by omega, by omega⟩, ⟨rfl, rfl, rfl, rfl, congrArg (AV.int .i64) (by omega), trivial⟩, ⟨rfl, rfl, rfl, trivial⟩⟩
    · have hb1 : n / 2 ^ k % 2 = 0 := by
        have : ¬ n / 2 ^ k % 2 = 1 := fun hc => by
          have hh : (bitA .and .i64 (((n : Nat) : Int).fdiv (2 ^ min ((((k + 1 : Nat) : Int) - 1)).toNat IntKind.i64.bits)) 1 == 1) = false := h4
          rw [e4, hc] at hh; simp at hh
        omega
      have e5 : a ^ (2 * j) = a ^ (n / 2 ^ k) := by congr 1; omega
      refine ⟨by omega, ?_⟩
      exact ⟨k, ⟨by omega, by omega⟩, ⟨rfl, rfl, rfl, rfl, congrArg (AV.int .i64) (by omega), trivial⟩, ⟨rfl, rfl, (congrArg (fun z => some (⟨true, 1, [aN z], 0, false⟩ : Blk)) e5), trivial⟩⟩
  · have hm0 : m = 0 := by have := of_decide_eq_false h3; omega
    subst hm0
    rw [Nat.pow_zero, Nat.div_one]
    repeat first | refine ⟨rfl, ?_⟩ | refine ifB_pos rfl ?_ | refine ifB_neg rfl ?_
    exact ⟨_, rfl, .refl _⟩
end Go.Proofs.YtjafmphhnclfjaaDoor
