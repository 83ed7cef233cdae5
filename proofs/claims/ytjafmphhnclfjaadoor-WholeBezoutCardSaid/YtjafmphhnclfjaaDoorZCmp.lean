/- whole.Int.Cmp. -/
import Derived.Test.YtjafmphhnclfjaaDoorHand1
import Derived.Test.YtjafmphhnclfjaaDoorWho2
import Derived.Test.YtjafmphhnclfjaaDoorNumQ
set_option linter.all false
set_option linter.all false
namespace Go.Proofs.YtjafmphhnclfjaaDoor
open Go GoAbs Num
set_option maxRecDepth 100000
set_option maxHeartbeats 2000000

theorem ok_ZCmp : codeOk E Tryd.f13.ntmps (Tryd.f13.body.getD .skip) = true := by kernel_rfl
theorem ZCmp_ct (n m : Int) (bn : blen n.natAbs < 1099511627776) (bm : blen m.natAbs < 1099511627776) : Ct E 13 [aZ n, aZ m] [] (iI (zcmp n m)) [] := by
  refine Ct_of hE Tryd.func13 rfl rfl (by exact Nat.le_of_ble_eq_true rfl) ok_ZCmp ?_
  have c1 := Cmp_e n.natAbs m.natAbs bn bm
  have c2 := Cmp_e m.natAbs n.natAbs bm bn
  by_cases hn : n < 0
  · have dn : decide (n < 0) = true := decide_eq_true hn
    have en : (!decide (n < 0)) = false := by rw [dn]; rfl
    by_cases hm : m < 0
    · have dm : decide (m < 0) = true := decide_eq_true hm
      have em : (!decide (m < 0)) = false := by rw [dm]; rfl
      have e : cmp m.natAbs n.natAbs = zcmp n m := by unfold cmp zcmp; split <;> split <;> first | omega | (split <;> first | rfl | omega) | rfl
      repeat first | refine ifB_pos dn ?_ | refine ifB_pos dm ?_ | refine ifB_neg en ?_ | refine ifB_neg em ?_ | refine ⟨rfl, ?_⟩
      refine ⟨_, c2, ?_⟩
      exact ⟨_, rfl, .of_eq (by rw [e])⟩
    · have dm : decide (m < 0) = false := decide_eq_false hm
      have em : (!decide (m < 0)) = true := by rw [dm]; rfl
      have e : zcmp n m = -1 := if_pos (by omega)
      repeat first | refine ifB_pos dn ?_ | refine ifB_neg dm ?_ | refine ifB_neg en ?_ | refine ifB_pos em ?_ | refine ⟨rfl, ?_⟩
      exact ⟨_, rfl, .of_eq (by rw [e])⟩
  · have dn : decide (n < 0) = false := decide_eq_false hn
    have en : (!decide (n < 0)) = true := by rw [dn]; rfl
    by_cases hm : m < 0
    · have dm : decide (m < 0) = true := decide_eq_true hm
      have em : (!decide (m < 0)) = false := by rw [dm]; rfl
      have e : zcmp n m = 1 := by unfold zcmp; rw [if_neg (by omega), if_pos (by omega)]
      repeat first | refine ifB_neg dn ?_ | refine ifB_pos dm ?_ | refine ifB_pos en ?_ | refine ifB_neg em ?_ | refine ⟨rfl, ?_⟩
      exact ⟨_, rfl, .of_eq (by rw [e])⟩
    · have dm : decide (m < 0) = false := decide_eq_false hm
      have em : (!decide (m < 0)) = true := by rw [dm]; rfl
      have e : cmp n.natAbs m.natAbs = zcmp n m := by unfold cmp zcmp; split <;> split <;> first | omega | (split <;> first | rfl | omega) | rfl
      repeat first | refine ifB_neg dn ?_ | refine ifB_neg dm ?_ | refine ifB_pos en ?_ | refine ifB_pos em ?_ | refine ⟨rfl, ?_⟩
      refine ⟨_, c1, ?_⟩
      exact ⟨_, rfl, .of_eq (by rw [e])⟩

end Go.Proofs.YtjafmphhnclfjaaDoor
