/- Package whole: quotients. -/
import Derived.Test.YtjafmphhnclfjaaDoorWho1
import Derived.Test.YtjafmphhnclfjaaDoorNumG
set_option linter.all false
namespace Go.Proofs.YtjafmphhnclfjaaDoor
open Go GoAbs Num
set_option maxRecDepth 100000
set_option maxHeartbeats 1000000

theorem ok_ZDiv : codeOk E Tryd.f19.ntmps (Tryd.f19.body.getD .skip) = true := by kernel_rfl
theorem ZDiv0_ct (n : Int) : Ct E 19 [aZ n, aZ 0] [] (.tup [aZ 0, aZ 0, .bool false]) [] := by
  refine Ct_of hE Tryd.func19 rfl rfl (by exact Nat.le_of_ble_eq_true rfl) ok_ZDiv ?_
  repeat refine ⟨rfl, ?_⟩
  refine ⟨_, Div0_ct n.natAbs, ?_⟩
  repeat refine ⟨rfl, ?_⟩
  refine ifB_pos rfl ?_
  repeat refine ⟨rfl, ?_⟩
  exact ⟨_, rfl, .tup (.cons aZ_nil (.cons aZ_nil (.cons .kf .nil)))⟩
theorem ZDiv_ct (n m : Int) (hm0 : m ≠ 0) (hn : blen n.natAbs < 1099511627775) (hm : blen m.natAbs < 1099511627775) : Ct E 19 [aZ n, aZ m] [] (.tup [aZ (n.fdiv m), aZ (n.fmod m), .bool true]) [] := by
  refine Ct_of hE Tryd.func19 rfl rfl (by exact Nat.le_of_ble_eq_true rfl) ok_ZDiv ?_
  have hq : blen (n.natAbs / m.natAbs) < 1099511627775 := Nat.lt_of_le_of_lt (blen_mono (Nat.div_le_self _ _)) hn
  have hr : blen (n.natAbs % m.natAbs) < 1099511627776 := by have := blen_mono (Nat.mod_le n.natAbs m.natAbs); omega
  have hmd := Nat.mod_lt n.natAbs (show 0 < m.natAbs by omega)
  have hf := fdm_abs (n := n) hm0 (Nat.div_add_mod n.natAbs m.natAbs) hmd
  have cd := Div_ct n.natAbs m.natAbs (by omega) (by omega) (by omega)
  generalize n.natAbs / m.natAbs = q at *
  generalize n.natAbs % m.natAbs = r at *
  repeat refine ⟨rfl, ?_⟩
  refine ⟨_, cd, ?_⟩
  repeat refine ⟨rfl, ?_⟩
  refine ifB_neg rfl ?_
  repeat refine ⟨rfl, ?_⟩
  refine ⟨fun h1 => ?_, fun h1 => ?_⟩
  · have h2 : ¬ decide (n < 0) = decide (m < 0) := by intro hc; rw [hc] at h1; simp at h1
    rw [if_neg h2] at hf
    repeat first | refine ifB_pos h1 ?_ | refine ⟨rfl, ?_⟩
    refine ⟨_, Bits_e r hr, ?_⟩
    repeat first | refine ifB_pos h1 ?_ | refine ⟨rfl, ?_⟩
    refine ⟨fun h3 => ?_, fun h3 => ?_⟩
    · have h4 : r ≠ 0 := by rintro rfl; exact absurd h3 (by decide)
      rw [if_neg h4] at hf
      repeat refine ⟨rfl, ?_⟩
      refine ⟨_, Of_e 1 (by decide), ?_⟩
      refine ⟨_, Add_e q 1 (by omega) (by decide), ?_⟩
      repeat refine ⟨rfl, ?_⟩
      refine ⟨_, Sub_e m.natAbs r (by omega) hr, ?_⟩
      repeat refine ⟨rfl, ?_⟩
      refine ⟨_, From_ct _ (q + 1) (blen_add' hq (by decide)), ?_⟩
      repeat refine ⟨rfl, ?_⟩
      refine ⟨_, From_ct (decide (m < 0)) (m.natAbs - r) (blen_sub' (by omega)), ?_⟩
      repeat refine ⟨rfl, ?_⟩
      refine ⟨_, rfl, .tup (.cons (.of_eq (aZ_eq ?_)) (.cons (.of_eq (aZ_eq ?_)) (.cons .kt .nil)))⟩
      · rw [hf.1]; exact if_pos h1
      · rw [hf.2]; simp
    · have h4 : r = 0 := by
        have := of_decide_eq_false h3
        exact blen0.1 (by omega)
      rw [if_pos h4] at hf
      repeat refine ⟨rfl, ?_⟩
      refine ⟨_, From_ct _ q (by omega), ?_⟩
      repeat refine ⟨rfl, ?_⟩
      refine ⟨_, From_ct (decide (m < 0)) r hr, ?_⟩
      repeat refine ⟨rfl, ?_⟩
      refine ⟨_, rfl, .tup (.cons (.of_eq (aZ_eq ?_)) (.cons (.of_eq (aZ_eq ?_)) (.cons .kt .nil)))⟩
      · rw [hf.1]; exact if_pos h1
      · rw [hf.2, h4]; simp
  · have h2 : decide (n < 0) = decide (m < 0) := by
      cases hc : decide (n < 0) <;> cases hc2 : decide (m < 0) <;> rw [hc, hc2] at h1 <;> simp at h1 <;> rfl
    rw [if_pos h2] at hf
    repeat first | refine ifB_neg h1 ?_ | refine ⟨rfl, ?_⟩
    refine ⟨_, From_ct _ q (by omega), ?_⟩
    repeat refine ⟨rfl, ?_⟩
    refine ⟨_, From_ct (decide (m < 0)) r hr, ?_⟩
    repeat refine ⟨rfl, ?_⟩
    refine ⟨_, rfl, .tup (.cons (.of_eq (aZ_eq ?_)) (.cons (.of_eq (aZ_eq ?_)) (.cons .kt .nil)))⟩
    · rw [hf.1]; exact if_neg (by rw [h1]; decide)
    · rw [hf.2]; simp
end Go.Proofs.YtjafmphhnclfjaaDoor
