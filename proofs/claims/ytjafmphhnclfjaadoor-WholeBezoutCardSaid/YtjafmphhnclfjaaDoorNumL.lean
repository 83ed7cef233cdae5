/- Bezout's numbers: plain numbers. -/
import Derived.Test.YtjafmphhnclfjaaDoorNumK
set_option linter.all false
set_option linter.all false
namespace Num

/-- What Bezout hands back. -/
structure IsBez (a b x y : Int) : Prop where
  nul : b = 0 → x = a.sign ∧ y = 0
  lo : b ≠ 0 → 0 ≤ x
  hi : b ≠ 0 → x < b.natAbs / (Int.gcd a b : Int)
  eq : b ≠ 0 → a * x + b * y = Int.gcd a b

theorem IsBez.unique {a b x y x' y' : Int} (h : IsBez a b x y) (k : IsBez a b x' y') : x = x' ∧ y = y' := by
  by_cases hb : b = 0
  · have := h.nul hb; have := k.nul hb; omega
  · have g0 : 0 < Int.gcd a b := Int.gcd_pos_of_ne_zero_right _ hb
    obtain ⟨g, hg⟩ : ∃ g, g = Int.gcd a b := ⟨_, rfl⟩
    have l1 := h.lo hb; have l2 := k.lo hb; have h1 := h.hi hb; have h2 := k.hi hb; have e1 := h.eq hb; have e2 := k.eq hb
    rw [← hg] at h1 h2 e1 e2 g0
    have ga : (g : Int) ∣ a := hg ▸ Int.gcd_dvd_left _ _
    have gb : (g : Int) ∣ b := hg ▸ Int.gcd_dvd_right _ _
    obtain ⟨a', ha⟩ := ga
    obtain ⟨b', hb'⟩ := gb
    have gpos : (0 : Int) < g := by omega
    have hB : (b.natAbs : Int) / (g : Int) = b'.natAbs := by
      rw [hb', Int.natAbs_mul, Int.natAbs_natCast]; push_cast
      rw [Int.mul_ediv_cancel_left _ (by omega)]
    rw [hB] at h1 h2
    have hcop : Int.gcd a' b' = 1 := by
      have : Int.gcd a b = g * Int.gcd a' b' := by rw [ha, hb', Int.gcd_mul_left]; simp
      have h3 : g * Int.gcd a' b' = g * 1 := by omega
      exact Nat.eq_of_mul_eq_mul_left (by omega) h3
    have e3 : a' * (x - x') = b' * (y' - y) := by
      have : (g : Int) * (a' * (x - x')) = g * (b' * (y' - y)) := by rw [ha, hb'] at e1 e2; grind
      exact Int.eq_of_mul_eq_mul_left (by omega) this
    have hdvd : b' ∣ a' * (x - x') := ⟨_, e3⟩
    have hd2 : b' ∣ x - x' := by
      have h4 : b'.natAbs ∣ a'.natAbs * (x - x').natAbs := by rw [← Int.natAbs_mul]; exact Int.natAbs_dvd_natAbs.2 hdvd
      have h5 : Nat.Coprime b'.natAbs a'.natAbs := by rw [Nat.coprime_comm]; exact hcop
      exact Int.natAbs_dvd_natAbs.1 (h5.dvd_of_dvd_mul_left h4)
    have hx : x = x' := by
      have hlt : (x - x').natAbs < b'.natAbs := by omega
      have := Int.eq_zero_of_dvd_of_natAbs_lt_natAbs hd2 hlt
      omega
    refine ⟨hx, ?_⟩
    subst hx
    have : b * y = b * y' := by omega
    exact Int.eq_of_mul_eq_mul_left hb this

theorem fm_facts (r : Int) {s : Int} (hs : s ≠ 0) : r = s * r.fdiv s + r.fmod s ∧ (r.fmod s).natAbs < s.natAbs ∧ (0 < s → 0 ≤ r.fmod s) ∧ (s < 0 → r.fmod s ≤ 0) := by
  refine ⟨(Int.mul_fdiv_add_fmod r s).symm, ?_⟩
  rcases Int.lt_or_lt_of_ne hs with h0 | h0
  · have e : r.fmod s = -((-r).fmod (-s)) := by rw [Int.neg_fmod_neg]; omega
    have h1 := Int.fmod_nonneg_of_pos (-r) (show 0 < -s by omega)
    have h2 := Int.fmod_lt_of_pos (-r) (show 0 < -s by omega)
    rw [e]
    generalize (-r).fmod (-s) = z at *
    omega
  · have h1 := Int.fmod_nonneg_of_pos r h0
    have h2 := Int.fmod_lt_of_pos r h0
    generalize r.fmod s = z at *
    omega
theorem abs_mul_cast (x y : Int) : ((x * y).natAbs : Int) = x.natAbs * y.natAbs := by rw [Int.natAbs_mul]; push_cast; rfl

/-- The rows of Euclid's steps. -/
structure Bz (a b r s u v : Int) : Prop where
  g : Int.gcd r s = Int.gcd a b
  cu : ∃ k, a * u = r + b * k
  cv : ∃ k, a * v = s + b * k
  bd : (r.natAbs : Int) * v.natAbs + s.natAbs * u.natAbs ≤ b.natAbs
  ub : u.natAbs ≤ b.natAbs
  vb : v.natAbs ≤ b.natAbs
  sg : v = 0 ∨ (0 ≤ r ∧ 0 ≤ s) ∨ (r ≤ 0 ∧ s ≤ 0)

theorem Bz.step {a b r s u v : Int} (h : Bz a b r s u v) (hs : s ≠ 0) : Bz a b s (r.fmod s) v (u - r.fdiv s * v) ∧ (r.fmod s).natAbs < s.natAbs ∧ (r.fdiv s * v).natAbs ≤ 2 * b.natAbs := by
  obtain ⟨g, ⟨k, hk⟩, ⟨l, hl⟩, bd, ub, vb, sg⟩ := h
  obtain ⟨e, mlt, mp, mn⟩ := fm_facts r hs
  generalize r.fdiv s = n at *
  generalize r.fmod s = m at *
  have key : (s.natAbs : Int) * (u - n * v).natAbs + m.natAbs * v.natAbs ≤ b.natAbs := by
    rcases sg with rfl | sg
    · simp only [Int.mul_zero, Int.sub_zero, Int.natAbs_zero]
      simp only [Int.natAbs_zero] at bd
      omega
    · have t1 : ((u - n * v).natAbs : Int) ≤ u.natAbs + n.natAbs * v.natAbs := by
        rw [← abs_mul_cast]; omega
      have t2 : (s.natAbs : Int) * (u - n * v).natAbs ≤ s.natAbs * (u.natAbs + n.natAbs * v.natAbs) := Int.mul_le_mul_of_nonneg_left t1 (by omega)
      have t3 : (r.natAbs : Int) = s.natAbs * n.natAbs + m.natAbs := by
        rw [← abs_mul_cast]
        have n0 : 0 ≤ n := by
          rcases Int.lt_or_le n 0 with hn0 | hn0
          · exfalso
            rcases Int.lt_or_lt_of_ne hs with h0 | h0
            · have := mn h0
              have : s * (-1) ≤ s * n := Int.mul_le_mul_of_nonpos_left (by omega) (by omega)
              omega
            · have := mp h0
              have : s * n ≤ s * (-1) := Int.mul_le_mul_of_nonneg_left (by omega) (by omega)
              omega
          · exact hn0
        rcases Int.lt_or_lt_of_ne hs with h0 | h0
        · have := mn h0
          have : s * n ≤ 0 := Int.mul_nonpos_of_nonpos_of_nonneg (by omega) n0
          omega
        · have := mp h0
          have : 0 ≤ s * n := Int.mul_nonneg (by omega) n0
          omega
      rw [t3] at bd
      grind
  have s1 : 1 ≤ (s.natAbs : Int) := by omega
  have hv' : (u - n * v).natAbs ≤ b.natAbs := by
    have h1 : 1 * ((u - n * v).natAbs : Int) ≤ s.natAbs * (u - n * v).natAbs := Int.mul_le_mul_of_nonneg_right s1 (by omega)
    have h2 : 0 ≤ (m.natAbs : Int) * v.natAbs := Int.mul_nonneg (by omega) (by omega)
    omega
  refine ⟨⟨?_, ⟨l, hl⟩, ⟨k - n * l, by grind⟩, key, vb, hv', ?_⟩, mlt, by omega⟩
  · rw [← g]
    have : m = r - n * s := by grind
    rw [this, gcd_step]
  · rcases Int.lt_or_lt_of_ne hs with h0 | h0
    · have := mn h0; omega
    · have := mp h0; omega

/-- Where Euclid's steps begin: with the sizes, or with the numbers themselves. -/
theorem Bz.start (a : Int) {b : Int} (hb : b ≠ 0) : Bz a b a b 1 0 := by
  refine ⟨rfl, ⟨0, by omega⟩, ⟨-1, by omega⟩, by simp, by omega, by simp, .inl rfl⟩
theorem Bz.starts (a : Int) {b : Int} (hb : b ≠ 0) : Bz a b a.natAbs b.natAbs a.sign 0 := by
  refine ⟨by simp [Int.gcd], ⟨0, ?_⟩, ?_, ?_, ?_, by simp, .inl rfl⟩
  · have := Int.mul_sign_self a; omega
  · exact ⟨-b.sign, by have := Int.mul_sign_self b; grind⟩
  · have : a.sign.natAbs ≤ 1 := by rcases Int.lt_trichotomy a 0 with h | h | h <;> simp [h, Int.sign_eq_neg_one_of_neg, Int.sign_eq_one_of_pos]
    have h2 : ((b.natAbs : Int).natAbs : Int) * a.sign.natAbs ≤ (b.natAbs : Int).natAbs * 1 := Int.mul_le_mul_of_nonneg_left (by omega) (by omega)
    simp at h2 ⊢
    omega
  · have : a.sign.natAbs ≤ 1 := by rcases Int.lt_trichotomy a 0 with h | h | h <;> simp [h, Int.sign_eq_neg_one_of_neg, Int.sign_eq_one_of_pos]
    omega

/-- What is left when s is 0. -/
theorem Bz.fin {a b r u v x : Int} (hb : b ≠ 0) (h : Bz a b r 0 u v) (hr : 0 ≤ r) (hx : x = u.fmod (b.natAbs / Int.gcd a b : Nat)) :
    r = Int.gcd a b ∧ IsBez a b x ((Int.gcd a b - a * x).fdiv b) := by
  obtain ⟨g, ⟨k, hk⟩, _, _, ub, _, _⟩ := h
  have hg : r = Int.gcd a b := by rw [← g]; simp; omega
  refine ⟨hg, ?_⟩
  have g0 : 0 < Int.gcd a b := Int.gcd_pos_of_ne_zero_right _ hb
  have ga : (Int.gcd a b : Int) ∣ a := Int.gcd_dvd_left _ _
  have gb : (Int.gcd a b : Int) ∣ b := Int.gcd_dvd_right _ _
  rw [hg] at hk
  generalize hGG : Int.gcd a b = G at *
  obtain ⟨a', ha⟩ := ga
  obtain ⟨b', hb'⟩ := gb
  have hG : (0 : Int) < G := by omega
  have hb0 : b' ≠ 0 := by rintro rfl; simp at hb'; exact hb hb'
  have hB : b.natAbs / G = b'.natAbs := by
    rw [hb', Int.natAbs_mul, Int.natAbs_natCast, Nat.mul_div_cancel_left _ g0]
  have hB2 : (b.natAbs : Int) / (G : Int) = b'.natAbs := by rw [← hB]; push_cast; rfl
  rw [hB] at hx
  obtain ⟨e, xlt, xp, _⟩ := fm_facts u (show (b'.natAbs : Int) ≠ 0 by omega)
  rw [← hx] at e xlt xp
  generalize u.fdiv (b'.natAbs : Int) = j at *
  have x0 := xp (by omega)
  -- a x is G, but for some b
  have hs : (b'.natAbs : Int) = b' * b'.sign := by have := Int.mul_sign_self b'; omega
  have hax : G - a * x = b * (-k + a' * b'.sign * j) := by
    have : u = b' * b'.sign * j + x := by rw [← hs]; exact e
    have hk2 : (G : Int) * a' * u = G + G * b' * k := by rw [← ha, ← hb']; exact hk
    rw [ha, hb']
    rw [this] at hk2
    grind
  have hfd : (G - a * x).fdiv b = -k + a' * b'.sign * j := by rw [hax, Int.mul_fdiv_cancel_left _ hb]
  rw [hfd]
  refine ⟨fun h0 => absurd h0 hb, fun _ => x0, fun _ => ?_, fun _ => ?_⟩
  · rw [hGG, hB2]; omega
  · rw [hGG, ← hax]; omega
end Num
