/- Whole numbers: quotients rounded down. -/
import Derived.Test.YtjafmphhnclfjaaDoorNumI
set_option linter.all false
namespace Num
theorem fdm_unique {n m q r : Int} (hm : m ≠ 0) (e : n = m * q + r) (h1 : 0 < m → 0 ≤ r ∧ r < m) (h2 : m < 0 → m < r ∧ r ≤ 0) : n.fdiv m = q ∧ n.fmod m = r := by
  have e' : r + m * q = n := by omega
  rcases Int.lt_or_gt_of_ne hm with h | h
  · exact (Int.fdiv_fmod_unique' h).2 ⟨e', (h2 h).1, (h2 h).2⟩
  · exact (Int.fdiv_fmod_unique h).2 ⟨e', (h1 h).1, (h1 h).2⟩
/-- The quotient and what is left, of two whole numbers, out of their sizes. -/
theorem fdm_abs {n m : Int} (hm : m ≠ 0) {q r : Nat} (hd : m.natAbs * q + r = n.natAbs) (hl : r < m.natAbs) :
    (if decide (n < 0) = decide (m < 0) then n.fdiv m = ((q : Nat) : Int) ∧ n.fmod m = (if m < 0 then -((r : Nat) : Int) else ((r : Nat) : Int))
      else if r = 0 then n.fdiv m = -((q : Nat) : Int) ∧ n.fmod m = 0
      else n.fdiv m = -((q + 1 : Nat) : Int) ∧ n.fmod m = (if m < 0 then -((m.natAbs - r : Nat) : Int) else ((m.natAbs - r : Nat) : Int))) := by
  have hz : ((m.natAbs : Nat) : Int) * ((q : Nat) : Int) + ((r : Nat) : Int) = ((n.natAbs : Nat) : Int) := by
    have := congrArg (fun z : Nat => ((z : Nat) : Int)) hd
    simpa using this
  generalize hQ : ((q : Nat) : Int) = Q at *
  by_cases hm0 : m < 0
  · have e1 : ((m.natAbs : Nat) : Int) = -m := by omega
    rw [e1, Int.neg_mul] at hz
    by_cases hn0 : n < 0
    · rw [if_pos (by rw [decide_eq_true hm0, decide_eq_true hn0]), if_pos hm0]
      exact fdm_unique hm (by omega) (by omega) (by omega)
    · rw [if_neg (by rw [decide_eq_true hm0, decide_eq_false hn0]; decide)]
      by_cases hr : r = 0
      · rw [if_pos hr]
        refine fdm_unique hm ?_ (by omega) (by omega)
        rw [Int.mul_neg]; omega
      · rw [if_neg hr, if_pos hm0]
        refine fdm_unique hm ?_ (by omega) (by omega)
        rw [Int.natCast_add, hQ, Int.mul_neg, Int.mul_add]; omega
  · have e1 : ((m.natAbs : Nat) : Int) = m := by omega
    rw [e1] at hz
    by_cases hn0 : n < 0
    · rw [if_neg (by rw [decide_eq_false hm0, decide_eq_true hn0]; decide)]
      by_cases hr : r = 0
      · rw [if_pos hr]
        refine fdm_unique hm ?_ (by omega) (by omega)
        rw [Int.mul_neg]; omega
      · rw [if_neg hr, if_neg hm0]
        refine fdm_unique hm ?_ (by omega) (by omega)
        rw [Int.natCast_add, hQ, Int.mul_neg, Int.mul_add]; omega
    · rw [if_pos (by rw [decide_eq_false hm0, decide_eq_false hn0]), if_neg hm0]
      exact fdm_unique hm (by omega) (by omega) (by omega)
end Num
