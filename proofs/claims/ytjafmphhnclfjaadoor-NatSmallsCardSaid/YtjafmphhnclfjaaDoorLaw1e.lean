/- NatSmalls: the walk. -/
import Derived.Test.YtjafmphhnclfjaaDoorIs1
import Derived.Test.YtjafmphhnclfjaaDoorRef2
import Derived.Test.YtjafmphhnclfjaaDoorKno1
set_option linter.all false
set_option linter.all false
namespace Go.Proofs.YtjafmphhnclfjaaDoor
open Go GoAbs Num
set_option maxRecDepth 100000
set_option maxHeartbeats 4000000

theorem SmallS (x : Nat) : Ct E 35 [aN x] [] (.tup [iU (if x < 18446744073709551616 then x else 0), .bool (decide (x < 18446744073709551616))]) [] := up (Small_ct x)
theorem ok_NatSmalls : codeOk E Tryd.f7.ntmps (Tryd.f7.body.getD .skip) = true := by kernel_rfl
theorem NatSmallsN_ct (n : Nat) (hn : n < 18446744073709551616) : Ct E 7 [iU n] [] .kt [] := by
  have c1 := SmallS n
  rw [if_pos hn, decide_eq_true hn] at c1
  have c2 := SmallS (18446744073709551615 + n)
  have bn := blen_le (x := n) (n := 64) hn
  have hb : (decide (18446744073709551615 + n < 18446744073709551616) == (((n : Nat) : Int) == 0)) = true := by
    rcases Nat.eq_zero_or_pos n with h | h
    · subst h; rfl
    · have h1 : ¬ (18446744073709551615 + n < 18446744073709551616) := by omega
      have h2 : (((n : Nat) : Int) == 0) = false := by simp; omega
      rw [decide_eq_false h1, h2]; rfl
  have hs : (((n : Nat) : Int) == ((n : Nat) : Int)) = true := beq_self_eq_true _
  refine Ct_of hE Tryd.func7 rfl rfl (by exact Nat.le_of_ble_eq_true rfl) ok_NatSmalls ?_
  refine ⟨_, Of_e n hn, ?_⟩
  repeat first | refine ⟨rfl, ?_⟩ | refine And.intro (by first | omega | (dsimp only; omega)) ?_ | refine ifB_pos rfl ?_ | refine ifB_neg rfl ?_
  refine ⟨_, c1, ?_⟩
  repeat first | refine ⟨rfl, ?_⟩ | refine And.intro (by first | omega | (dsimp only; omega)) ?_ | refine ifB_pos rfl ?_ | refine ifB_neg rfl ?_
  refine ⟨_, Of_e 18446744073709551615 (by decide), ?_⟩
  refine ⟨_, Of_e n hn, ?_⟩
  refine ⟨_, Add_e 18446744073709551615 n (by decide) (by omega), ?_⟩
  repeat first | refine ⟨rfl, ?_⟩ | refine And.intro (by first | omega | (dsimp only; omega)) ?_ | refine ifB_pos rfl ?_ | refine ifB_neg rfl ?_
  refine ⟨_, c2, ?_⟩
  repeat first | refine ⟨rfl, ?_⟩ | refine And.intro (by first | omega | (dsimp only; omega)) ?_ | refine ifB_pos rfl ?_ | refine ifB_neg rfl ?_
  refine ⟨.kt, known1_ct, ?_⟩
  repeat first | refine ifB_pos hs ?_ | refine ⟨rfl, ?_⟩ | refine And.intro (by first | omega | (dsimp only; omega)) ?_ | refine ifB_pos rfl ?_ | refine ifB_neg rfl ?_
  refine ⟨_, NatOf_ct n hn, ?_⟩
  repeat first | refine ifB_pos hs ?_ | refine ⟨rfl, ?_⟩ | refine And.intro (by first | omega | (dsimp only; omega)) ?_ | refine ifB_pos rfl ?_ | refine ifB_neg rfl ?_
  refine ⟨_, is1_ct n (by omega), ?_⟩
  repeat first | refine ifB_pos hs ?_ | refine ⟨rfl, ?_⟩ | refine And.intro (by first | omega | (dsimp only; omega)) ?_ | refine ifB_pos rfl ?_ | refine ifB_neg rfl ?_
  exact ⟨_, rfl, (Le.of_eq (congrArg AV.bool hb)).trans .tt⟩
theorem u64_wf {z : Int} (w : (Lit.int .u64 z).wf = true) : ∃ n : Nat, z = ((n : Nat) : Int) ∧ n < 18446744073709551616 := by
  simp only [Lit.wf, IntKind.min, IntKind.max, IntKind.signed, IntKind.bits] at w
  simp at w
  exact ⟨z.toNat, by omega, by omega⟩
theorem NatSmalls_ct (z : Int) (w : (Lit.int .u64 z).wf = true) : Ct E 7 [.int .u64 z] [] .kt [] := by
  obtain ⟨n, rfl, hn⟩ := u64_wf w
  exact NatSmallsN_ct n hn
end Go.Proofs.YtjafmphhnclfjaaDoor
