/- Numbers of bytes: law 1's two. -/
import Derived.Test.YtjafmphhnclfjabGreatDoorHand1
set_option linter.all false
namespace Go.Proofs.YtjafmphhnclfjabGreatDoor
open Go GoAbs Num
set_option maxRecDepth 100000
set_option maxHeartbeats 1000000

theorem ok_two1 : codeOk E Tryz.f6.ntmps (Tryz.f6.body.getD .skip) = true := by kernel_rfl
theorem two1_ct (a b : List Nat) (sa : Small 256 a) (sb : Small 256 b) (la : a.length < 140737488355328) (lb : b.length < 140737488355328) :
    Ct E 6 [.imm false 1 (w8 a), .imm false 1 (w8 b)] [] (.tup [aN (ofBytes (a.take 48)), aN (ofBytes (b.take 48)), aR (ofBytes (a.take 48)), aR (ofBytes (b.take 48))]) [] := by
  refine Ct_of hE Tryz.func6 rfl rfl (by exact Nat.le_of_ble_eq_true rfl) ok_two1 ?_
  have b1 := blen_few sa 48
  have b2 := blen_few sb 48
  refine ⟨_, Few_ct a 48 la (by decide), ?_⟩
  refine ⟨_, NatFrom_ct _ (sa.take 48) (by rw [List.length_take]; omega), ?_⟩
  refine ⟨_, Few_ct b 48 lb (by decide), ?_⟩
  refine ⟨_, NatFrom_ct _ (sb.take 48) (by rw [List.length_take]; omega), ?_⟩
  refine ⟨_, HNat_ct _ (by omega), ?_⟩
  refine ⟨_, HNat_ct _ (by omega), ?_⟩
  repeat refine ⟨rfl, ?_⟩
  exact ⟨_, rfl, .refl _⟩
theorem two1n_ct (a : List Nat) (sa : Small 256 a) (la : a.length < 140737488355328) :
    Ct E 6 [.imm false 1 (w8 a), .nils] [] (.tup [aN (ofBytes (a.take 48)), aN 0, aR (ofBytes (a.take 48)), aR 0]) [] :=
  (two1_ct a [] sa (.nil _) la (by simp)).args (.cons (.refl _) (.cons (.nils _ _) .nil))
end Go.Proofs.YtjafmphhnclfjabGreatDoor
