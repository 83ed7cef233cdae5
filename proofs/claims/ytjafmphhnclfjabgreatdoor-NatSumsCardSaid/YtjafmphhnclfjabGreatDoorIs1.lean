/- Law 1's is: a number, and the document's, are one. -/
import Derived.Test.YtjafmphhnclfjabGreatDoorRef1
set_option linter.all false
set_option linter.all false
namespace Go.Proofs.YtjafmphhnclfjabGreatDoor
open Go GoAbs Num
set_option maxRecDepth 100000
set_option maxHeartbeats 2000000

theorem isU8_w8 (l : List Nat) : (w8 l).all isU8 = true := by
  simp [wk, isU8]
theorem ok_is1 : codeOk E Tryz.f9.ntmps (Tryz.f9.body.getD .skip) = true := by kernel_rfl
theorem is1_ct (x : Nat) (hx : blen x < 1099511627776) : Ct E 9 [aN x, aR x] [] .kt [] := by
  refine Ct_of hE Tryz.func9 rfl rfl (by exact Nat.le_of_ble_eq_true rfl) ok_is1 ?_
  have c1 := Bytes_ct x hx
  have c2 := NatBytes_ct x hx
  repeat first | refine ⟨rfl, ?_⟩ | refine And.intro (by first | omega | (dsimp only; omega)) ?_ | refine ifB_pos rfl ?_ | refine ifB_neg rfl ?_
  refine ⟨_, c1, ?_⟩
  refine ⟨isU8_w8 _, ?_⟩
  refine ⟨_, c2, ?_⟩
  refine ⟨isU8_w8 _, ?_⟩
  refine ⟨_, rfl, ?_⟩
  have e : ((strOf (w8 (bytesOf x))).toList == (strOf (w8 (bytesOf x))).toList) = true := beq_self_eq_true _
  exact (Le.of_eq (congrArg AV.bool e)).trans .tt
end Go.Proofs.YtjafmphhnclfjabGreatDoor
