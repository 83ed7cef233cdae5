/- Law 2's is: a number, and the document's, are one. -/
import Derived.Test.YtjafmphhnclfjaaDoorRef4
import Derived.Test.YtjafmphhnclfjaaDoorWho2
set_option linter.all false
set_option linter.all false
namespace Go.Proofs.YtjafmphhnclfjaaDoor
open Go GoAbs Num
set_option maxRecDepth 100000
set_option maxHeartbeats 2000000

theorem ok_OutNat : codeOk E Tryd.f83.ntmps (Tryd.f83.body.getD .skip) = true := by kernel_rfl
theorem OutNat_ct (x : Nat) (hx : blen x < 1099511627776) : Ct E 83 [aN x] [] (aR x) [] := by
  refine Ct_of hE Tryd.func83 rfl rfl (by exact Nat.le_of_ble_eq_true rfl) ok_OutNat ?_
  have c2 := NatFrom_ct (bytesOf x) (bytesOf_small x) (by rw [bytesOf_len]; omega)
  rw [ofBytes_bytesOf] at c2
  repeat first | refine ⟨rfl, ?_⟩ | refine And.intro (by first | omega | (dsimp only; omega)) ?_ | refine ifB_pos rfl ?_ | refine ifB_neg rfl ?_
  refine ⟨_, Bytes_ct x hx, ?_⟩
  refine ⟨_, c2, ?_⟩
  exact ⟨_, rfl, .refl _⟩
theorem ok_OutInt : codeOk E Tryd.f56.ntmps (Tryd.f56.body.getD .skip) = true := by kernel_rfl
theorem OutInt_ct (n : Int) (hn : blen n.natAbs < 1099511627776) : Ct E 56 [aZ n] [] (aRI n) [] := by
  refine Ct_of hE Tryd.func56 rfl rfl (by exact Nat.le_of_ble_eq_true rfl) ok_OutInt ?_
  have e : decide (n.sign < 0) = decide (n < 0) := by
    rcases Int.lt_trichotomy n 0 with h | h | h
    · rw [Int.sign_eq_neg_one_of_neg h, decide_eq_true h]; rfl
    · rw [h]; rfl
    · have h2 : ¬ n < 0 := by omega
      simp [Int.sign_eq_one_of_pos h, h2]
  have c := I_e (decide (n.sign < 0)) n.natAbs n (by
    rw [e]
    by_cases h : n < 0
    · simp [h]; omega
    · simp [h]; omega)
  repeat first | refine ⟨rfl, ?_⟩ | refine And.intro (by first | omega | (dsimp only; omega)) ?_ | refine ifB_pos rfl ?_ | refine ifB_neg rfl ?_
  refine ⟨_, Sign_ct n hn, ?_⟩
  repeat first | refine ⟨rfl, ?_⟩ | refine And.intro (by first | omega | (dsimp only; omega)) ?_ | refine ifB_pos rfl ?_ | refine ifB_neg rfl ?_
  refine ⟨_, Abs_ct n, ?_⟩
  refine ⟨_, OutNat_ct n.natAbs hn, ?_⟩
  refine ⟨_, c, ?_⟩
  repeat first | refine ⟨rfl, ?_⟩ | refine And.intro (by first | omega | (dsimp only; omega)) ?_ | refine ifB_pos rfl ?_ | refine ifB_neg rfl ?_
  exact ⟨_, rfl, .refl _⟩
theorem ok_is2 : codeOk E Tryd.f23.ntmps (Tryd.f23.body.getD .skip) = true := by kernel_rfl
theorem is2_ct (n : Int) (hn : blen n.natAbs < 1099511627776) : Ct E 23 [aZ n, aRI n] [] .kt [] := by
  refine Ct_of hE Tryd.func23 rfl rfl (by exact Nat.le_of_ble_eq_true rfl) ok_is2 ?_
  have c1 := NatCmp_ct n.natAbs n.natAbs hn hn
  rw [cmp_eq rfl] at c1
  have hb : (decide (n < 0) == decide (n < 0)) = true := beq_self_eq_true _
  repeat first | refine ⟨rfl, ?_⟩ | refine And.intro (by first | omega | (dsimp only; omega)) ?_ | refine ifB_pos rfl ?_ | refine ifB_neg rfl ?_
  refine ⟨_, OutInt_ct n hn, ?_⟩
  repeat first | refine ifB_pos hb ?_ | refine ⟨rfl, ?_⟩ | refine And.intro (by first | omega | (dsimp only; omega)) ?_ | refine ifB_pos rfl ?_ | refine ifB_neg rfl ?_
  refine ⟨_, c1, ?_⟩
  repeat first | refine ifB_pos hb ?_ | refine ⟨rfl, ?_⟩ | refine And.intro (by first | omega | (dsimp only; omega)) ?_ | refine ifB_pos rfl ?_ | refine ifB_neg rfl ?_
  exact ⟨_, rfl, .tt⟩
end Go.Proofs.YtjafmphhnclfjaaDoor
