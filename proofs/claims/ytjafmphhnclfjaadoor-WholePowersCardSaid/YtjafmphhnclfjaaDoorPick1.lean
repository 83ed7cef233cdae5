/- Any number as one of so many. -/
import Derived.Test.YtjafmphhnclfjaaDoorHand1
set_option linter.all false
set_option linter.all false
namespace Go.Proofs.YtjafmphhnclfjaaDoor
open Go GoAbs Num
set_option maxRecDepth 100000
set_option maxHeartbeats 2000000

theorem i64_wf {z : Int} (w : (Lit.int .i64 z).wf = true) : -9223372036854775808 ≤ z ∧ z < 9223372036854775808 := by
  simp only [Lit.wf, IntKind.min, IntKind.max, IntKind.signed, IntKind.bits] at w
  simp at w
  omega
theorem ok_Pick : codeOk E Tryd.f31.ntmps (Tryd.f31.body.getD .skip) = true := by kernel_rfl
theorem Pick_ct (z m : Int) (hm0 : 0 < m) (hm : m < 4611686018427387904) : Ct E 31 [iI z, iI m] [] (iI (z % m)) [] := by
  refine Ct_of hE Tryd.func31 rfl rfl (by exact Nat.le_of_ble_eq_true rfl) ok_Pick ?_
  have e := Int.tmod_eq_emod (a := z) (b := m)
  have h1 := Int.emod_nonneg z (show m ≠ 0 by omega)
  have h2 := Int.emod_lt_of_pos z hm0
  have hn : (m.natAbs : Int) = m := by omega
  refine ⟨by omega, ?_⟩
  refine ⟨fun h => ?_, fun h => ?_⟩
  · have h3 : z.tmod m < 0 := of_decide_eq_true h
    have h4 : z.tmod m = z % m - m := by
      rw [e] at h3 ⊢
      split at h3 <;> rename_i hc
      · omega
      · rw [if_neg hc]; omega
    refine ⟨by rw [h4]; omega, ?_⟩
    exact ⟨_, rfl, .of_eq (congrArg (AV.int .i64) (by rw [h4]; omega))⟩
  · have h3 : ¬ z.tmod m < 0 := of_decide_eq_false h
    have h4 : z.tmod m = z % m := by
      rw [e] at h3 ⊢
      split at h3 <;> rename_i hc
      · rw [if_pos hc]; omega
      · omega
    exact ⟨_, rfl, .of_eq (congrArg (AV.int .i64) h4)⟩
end Go.Proofs.YtjafmphhnclfjaaDoor
