/- The root. -/
import Derived.Test.YtjafmphhnclfjaaGreatDoorNumI
set_option linter.all false
namespace Num
/-- r is the greatest number whose square is not above a. -/
structure IsRoot (a r : Nat) : Prop where
  le : r * r ≤ a
  lt : a < (r + 1) * (r + 1)
theorem IsRoot.unique {a r s : Nat} (h : IsRoot a r) (k : IsRoot a s) : r = s := by
  rcases Nat.lt_trichotomy r s with h1 | h1 | h1
  · have := Nat.mul_le_mul (show r + 1 ≤ s from h1) (show r + 1 ≤ s from h1)
    have := h.lt; have := k.le; omega
  · exact h1
  · have := Nat.mul_le_mul (show s + 1 ≤ r from h1) (show s + 1 ≤ r from h1)
    have := k.lt; have := h.le; omega
theorem root_ex (a : Nat) : ∃ r, IsRoot a r := by
  induction a with
  | zero => exact ⟨0, ⟨by omega, by omega⟩⟩
  | succ a ih =>
    obtain ⟨r, h1, h2⟩ := ih
    by_cases h : a + 1 < (r + 1) * (r + 1)
    · exact ⟨r, ⟨by omega, h⟩⟩
    · exact ⟨r + 1, ⟨by omega, by
        have : (r + 1 + 1) * (r + 1 + 1) = (r + 1) * (r + 1) + 2 * (r + 1) + 1 := by grind
        omega⟩⟩
/-- The root. -/
noncomputable def root (a : Nat) : Nat := Classical.choose (root_ex a)
theorem root_is (a : Nat) : IsRoot a (root a) := Classical.choose_spec (root_ex a)
theorem root_eq {a r : Nat} (h : IsRoot a r) : root a = r := (root_is a).unique h
theorem root_zero : root 0 = 0 := root_eq ⟨by omega, by omega⟩

/-- A step of Newton's stays above the root. -/
theorem newton_ge {a x r : Nat} (hx : 0 < x) (hr : r * r ≤ a) : r ≤ (x + a / x) / 2 := by
  rw [Nat.le_div_iff_mul_le (by decide)]
  have h1 := Nat.div_add_mod a x
  have h2 := Nat.mod_lt a hx
  rcases Nat.lt_or_ge (x + a / x) (r * 2) with h | h
  · exfalso
    generalize a / x = q at *
    generalize a % x = m at *
    -- x q + x > a ≥ r², x + q ≤ 2 r - 1
    have h3 : r * r < x * (q + 1) := by rw [Nat.mul_add]; omega
    have h4 : x + (q + 1) ≤ 2 * r := by omega
    generalize q + 1 = s at *
    rcases Nat.le_total x r with h5 | h5
    · obtain ⟨d, rfl⟩ := Nat.exists_eq_add_of_le h5
      have h6 : s ≤ x + 2 * d := by omega
      have h7 : x * s ≤ x * (x + 2 * d) := Nat.mul_le_mul_left _ h6
      grind
    · obtain ⟨d, rfl⟩ := Nat.exists_eq_add_of_le h5
      have h6 : s + d ≤ r := by omega
      obtain ⟨e, rfl⟩ := Nat.exists_eq_add_of_le h6
      grind
  · omega
theorem newton_end {a x r : Nat} (hr : IsRoot a r) (hx : 0 < x) (h1 : r ≤ x) (h : x ≤ (x + a / x) / 2) : x = r := by
  rw [Nat.le_div_iff_mul_le (by decide)] at h
  have h2 : x ≤ a / x := by omega
  rw [Nat.le_div_iff_mul_le hx] at h2
  rcases Nat.lt_or_ge r x with h3 | h3
  · have := Nat.mul_le_mul (show r + 1 ≤ x from h3) (show r + 1 ≤ x from h3)
    have := hr.lt; omega
  · omega
end Num
