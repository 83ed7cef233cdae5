/- WholePowers: the walk. -/
import Derived.Test.YtjafmphhnclfjaaDoorWPow
import Derived.Test.YtjafmphhnclfjaaDoorPick1
import Derived.Test.YtjafmphhnclfjaaDoorTwo2
import Derived.Test.YtjafmphhnclfjaaDoorZCmp
import Derived.Test.YtjafmphhnclfjaaDoorKno2
set_option linter.all false
set_option linter.all false
namespace Go.Proofs.YtjafmphhnclfjaaDoor
open Go GoAbs Num
set_option maxRecDepth 100000
set_option maxHeartbeats 4000000

theorem ZCmp_selfP (n m : Int) (h : n = m) (bn : blen n.natAbs < 1099511627776) : Ct E 13 [aZ n, aZ m] [] (iI 0) [] := by
  subst h
  have := ZCmp_ct n n bn bn
  rwa [zcmp_self] at this
theorem ok_WholePowers : codeOk E Tryd.f6.ntmps (Tryd.f6.body.getD .skip) = true := by kernel_rfl
theorem WholePowers_ct (a : List Nat) (p : Bool) (y z : Int) (sa : Num.Small 256 a) (la : a.length < 140737488355328) (_ : (Lit.int .i64 y).wf = true) (_ : (Lit.int .i64 z).wf = true) :
    Ct E 6 [.imm false 1 (w8 a), .bool p, iI y, iI z] [] .kt [] := by
  have hfew := Few_ct a 12 la (by decide)
  have htwo := two2n_ct (a.take 12) p (sa.take 12) (by rw [List.length_take]; omega)
  have b1 := blen_zOf (sa.take 12) p
  generalize zOf p (a.take 12) = x at *
  obtain ⟨n, hn⟩ : ∃ n : Nat, y % 8 = ((n : Nat) : Int) := ⟨(y % 8).toNat, by omega⟩
  obtain ⟨m, hm⟩ : ∃ m : Nat, z % 8 = ((m : Nat) : Int) := ⟨(z % 8).toNat, by omega⟩
  have n8 : n < 8 := by omega
  have m8 : m < 8 := by omega
  have p1 := Pick_ct y 8 (by decide) (by decide)
  have p2 := Pick_ct z 8 (by decide) (by decide)
  rw [hn] at p1
  rw [hm] at p2
  have bnd : ∀ k : Nat, k < 15 → k * blen x.natAbs ≤ 4480 := fun k hk => Nat.le_trans (Nat.mul_le_mul (show k ≤ 14 by omega) b1) (by decide)
  have bpw : ∀ k : Nat, k < 15 → blen (x ^ k).natAbs ≤ 4481 := fun k hk => by
    rw [Int.natAbs_pow]
    have := blen_pow x.natAbs k
    have := bnd k hk
    omega
  have c1 := ZPow_ct x n (by omega) (by have := bnd n (by omega); omega)
  have c2 := ZPow_ct x m (by omega) (by have := bnd m (by omega); omega)
  have c3 := ZPow_ct x (n + m) (by omega) (by have := bnd (n + m) (by omega); omega)
  obtain ⟨cc, c4⟩ := ZPow_neg x (-1 - ((n : Nat) : Int)) (by omega)
  have b2 := bpw n (by omega)
  have b3 := bpw m (by omega)
  have b4 := bpw (n + m) (by omega)
  refine Ct_of hE Tryd.func6 rfl rfl (by exact Nat.le_of_ble_eq_true rfl) ok_WholePowers ?_
  refine ⟨_, hfew, ?_⟩
  refine ⟨_, htwo, ?_⟩
  repeat first | refine ⟨rfl, ?_⟩ | refine ifB_pos rfl ?_ | refine ifB_neg rfl ?_
  refine ⟨_, p1, ?_⟩
  refine ⟨_, p2, ?_⟩
  repeat first | refine ⟨rfl, ?_⟩ | refine ifB_pos rfl ?_ | refine ifB_neg rfl ?_
  refine ⟨_, c1, ?_⟩
  repeat first | refine ⟨rfl, ?_⟩ | refine ifB_pos rfl ?_ | refine ifB_neg rfl ?_
  refine ⟨_, c2, ?_⟩
  repeat first | refine ⟨rfl, ?_⟩ | refine ifB_pos rfl ?_ | refine ifB_neg rfl ?_
  refine ⟨by omega, ?_⟩
  refine ⟨_, c3.eq (cons_eq rfl (cons_eq (congrArg (AV.int .i64) (by omega)) rfl)), ?_⟩
  repeat first | refine ⟨rfl, ?_⟩ | refine ifB_pos rfl ?_ | refine ifB_neg rfl ?_
  refine ⟨by omega, ?_⟩
  refine ⟨_, c4, ?_⟩
  repeat first | refine ⟨rfl, ?_⟩ | refine ifB_pos rfl ?_ | refine ifB_neg rfl ?_
  refine ⟨_, ZOf_ct 1 (by decide) (by decide), ?_⟩
  repeat first | refine ⟨rfl, ?_⟩ | refine ifB_pos rfl ?_ | refine ifB_neg rfl ?_
  refine loop_fr [] (fun i : Nat => i ≤ n) (fun i => n - i)
    (fun i => [(2, iI n), (9, .ref 9 0 0 0), (13, .ref 13 0 0 0), (14, .kt), (15, .ref 15 0 0 0), (16, .kt), (17, .ref 17 0 0 0), (18, .kt), (20, .kf), (21, .ref 21 0 0 0), (22, iI i)])
    (fun i => [(9, ⟨true, 2, [aZ x], 0, false⟩), (13, ⟨true, 2, [aZ (x ^ n)], 0, false⟩), (15, ⟨true, 2, [aZ (x ^ m)], 0, false⟩), (17, ⟨true, 2, [aZ (x ^ (n + m))], 0, false⟩), (21, ⟨true, 2, [aZ (x ^ i)], 0, false⟩)])
    0 (Nat.zero_le _) ⟨rfl, rfl, rfl, rfl, rfl, rfl, rfl, rfl, rfl, rfl, rfl, trivial⟩ ⟨rfl, rfl, rfl, rfl, congrArg (fun z => some (⟨true, 2, [aZ z], 0, false⟩ : Blk)) (Int.pow_zero x).symm, trivial⟩ ?_
  rintro i g h v hi
  refine ⟨fun h2 => ?_, fun h2 => ?_⟩
  · have hin : i < n := by have := of_decide_eq_true h2; omega
    have b5 := bpw i (by omega)
    have c5 := ZMul_ct (x ^ i) x (by omega) (by omega)
    rw [← Int.pow_succ] at c5
    repeat first | refine ⟨rfl, ?_⟩ | refine ifB_pos rfl ?_ | refine ifB_neg rfl ?_
    refine ⟨_, c5, ?_⟩
    repeat first | refine ⟨rfl, ?_⟩ | refine ifB_pos rfl ?_ | refine ifB_neg rfl ?_
    refine ⟨by omega, ?_⟩
    exact ⟨i + 1, ⟨hin, by omega⟩, ⟨rfl, rfl, rfl, rfl, rfl, rfl, rfl, rfl, rfl, rfl, rfl, trivial⟩, ⟨rfl, rfl, rfl, rfl, rfl, trivial⟩⟩
  · have hin : i = n := by have := of_decide_eq_false h2; omega
    subst hin
    have c6 := ZMul_ct (x ^ i) (x ^ m) (by omega) (by omega)
    rw [← Int.pow_add] at c6
    repeat first | refine ⟨rfl, ?_⟩ | refine ifB_pos rfl ?_ | refine ifB_neg rfl ?_
    refine ⟨.kt, known2_ct, ?_⟩
    repeat first | refine ⟨rfl, ?_⟩ | refine ifB_pos rfl ?_ | refine ifB_neg rfl ?_
    refine ⟨_, c6, ?_⟩
    repeat first | refine ⟨rfl, ?_⟩ | refine ifB_pos rfl ?_ | refine ifB_neg rfl ?_
    refine ⟨_, ZCmp_selfP (x ^ (i + m)) _ rfl (by omega), ?_⟩
    repeat first | refine ⟨rfl, ?_⟩ | refine ifB_pos rfl ?_ | refine ifB_neg rfl ?_
    refine ⟨_, ZCmp_selfP (x ^ i) _ rfl (by omega), ?_⟩
    repeat first | refine ⟨rfl, ?_⟩ | refine ifB_pos rfl ?_ | refine ifB_neg rfl ?_
    first | exact ⟨_, rfl, .tt⟩ | exact ⟨_, rfl, .refl _⟩
end Go.Proofs.YtjafmphhnclfjaaDoor
