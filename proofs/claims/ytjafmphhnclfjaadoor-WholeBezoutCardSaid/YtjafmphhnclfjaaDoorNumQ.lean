/- Fractions: plain numbers. -/
import Derived.Test.YtjafmphhnclfjaaDoorNumK
set_option linter.all false
set_option linter.all false
namespace Num

theorem rat_parts {q : Rat} {n : Int} {d : Nat} (hd : d ≠ 0) (hc : n.natAbs.gcd d = 1) (h : q = mkRat n d) : q.num = n ∧ q.den = d := by
  have e : mkRat n d = ⟨n, d, hd, hc⟩ := by rw [Rat.mk_eq_mkRat]
  rw [h, e]; exact ⟨rfl, rfl⟩
theorem mk_num (n : Int) {d : Nat} (hd : d ≠ 0) : (mkRat n d).num = n / (n.natAbs.gcd d : Nat) := by
  rw [Rat.num_mkRat, if_neg hd, Nat.gcd_comm]
theorem mk_den (n : Int) {d : Nat} (hd : d ≠ 0) : (mkRat n d).den = d / n.natAbs.gcd d := by
  rw [Rat.den_mkRat, if_neg hd, Nat.gcd_comm]
theorem mk_num_le (n : Int) (d : Nat) : (mkRat n d).num.natAbs ≤ n.natAbs := by
  by_cases hd : d = 0
  · subst hd; simp
  · rw [mk_num n hd]
    exact Int.natAbs_ediv_le_natAbs _ _
theorem mk_den_le (n : Int) {d : Nat} (hd : d ≠ 0) : (mkRat n d).den ≤ d := by
  rw [mk_den n hd]
  exact Nat.div_le_self _ _
/-- What lies behind the line of a fraction, as package frac has it. -/
def rest (x : Rat) : Nat := if x.den = 1 then 0 else x.den
theorem rest_le (x : Rat) : rest x ≤ x.den := by unfold rest; split <;> omega
theorem add_mk (x y : Rat) : x + y = mkRat (x.num * y.den + y.num * x.den) (x.den * y.den) := Rat.add_def' x y
theorem mul_mk (x y : Rat) : x * y = mkRat (x.num * y.num) (x.den * y.den) := Rat.mul_def' x y

/-- The sum, by way of the greatest divisors. -/
theorem add_parts (x y : Rat) {g h : Nat} {t : Int} (hg : g = x.den.gcd y.den) (ht : t = x.num * ((y.den / g : Nat) : Int) + y.num * ((x.den / g : Nat) : Int)) (hh : h = t.natAbs.gcd g) :
    (x + y).num = t / (h : Int) ∧ (x + y).den = (x.den / g) * (y.den / h) := by
  have ax := Rat.add.aux x y hg rfl rfl
  simp only at ax
  rw [← ht, ← hh] at ax
  have gpos : 0 < g := hg ▸ Nat.gcd_pos_of_pos_left _ x.den_pos
  have gx : g ∣ x.den := hg ▸ Nat.gcd_dvd_left _ _
  have gy : g ∣ y.den := hg ▸ Nat.gcd_dvd_right _ _
  obtain ⟨dx, hdx⟩ := gx
  obtain ⟨dy, hdy⟩ := gy
  have ex : x.den / g = dx := by rw [hdx, Nat.mul_div_cancel_left _ gpos]
  have ey : y.den / g = dy := by rw [hdy, Nat.mul_div_cancel_left _ gpos]
  rw [ex, ey] at ht
  rw [ex] at ax ⊢
  have dnz : dx * y.den ≠ 0 := by
    have := x.den_pos; have := y.den_pos
    have h1 : dx ≠ 0 := by rintro rfl; omega
    exact Nat.mul_ne_zero h1 (by omega)
  have e : x + y = mkRat t (dx * y.den) := by
    rw [add_mk]
    have e1 : x.num * (y.den : Int) + y.num * (x.den : Int) = (g : Int) * t := by rw [ht, hdx, hdy]; push_cast; grind
    have e2 : x.den * y.den = g * (dx * y.den) := by rw [hdx]; grind
    rw [e1, e2, Rat.mkRat_mul_left (by omega)]
  rw [e, mk_num _ dnz, mk_den _ dnz, ← ax]
  refine ⟨rfl, ?_⟩
  have hy : h ∣ y.den := by rw [hdy, hh]; exact Nat.dvd_trans (Nat.gcd_dvd_right _ _) (Nat.dvd_mul_right _ _)
  rw [Nat.mul_div_assoc _ hy]
theorem mul_parts (x y : Rat) {g h : Nat} (hg : g = x.num.natAbs.gcd y.den) (hh : h = y.num.natAbs.gcd x.den) :
    (x * y).num = (x.num / (g : Int)) * (y.num / (h : Int)) ∧ (x * y).den = (x.den / h) * (y.den / g) := by
  subst hg; subst hh
  have e : x * y = Rat.mul x y := rfl
  rw [e]
  unfold Rat.mul
  simp only [Int.divExact_eq_ediv, Nat.divExact_eq_div]
  exact ⟨trivial, trivial⟩

def zcmp (x y : Int) : Int := if x < y then -1 else if y < x then 1 else 0
theorem zcmp_self (x : Int) : zcmp x x = 0 := by unfold zcmp; rw [if_neg (by omega), if_neg (by omega)]
def qcmp (x y : Rat) : Int := if x < y then -1 else if y < x then 1 else 0
theorem qcmp_self (x : Rat) : qcmp x x = 0 := by
  unfold qcmp; rw [if_neg Rat.lt_irrefl, if_neg Rat.lt_irrefl]
theorem zcmp_q (x y : Rat) : zcmp (x.num * y.den) (y.num * x.den) = qcmp x y := by
  unfold zcmp qcmp
  simp only [Rat.lt_iff]
theorem zcmp_sign (x y : Rat) (h : x.num.sign ≠ y.num.sign) : zcmp x.num y.num = qcmp x y := by
  rw [← zcmp_q]
  have hx := x.den_pos
  have hy := y.den_pos
  have key : (x.num < y.num ↔ x.num * y.den < y.num * x.den) ∧ (y.num < x.num ↔ y.num * x.den < x.num * y.den) := by
    have px : (0 : Int) < x.den := by omega
    have py : (0 : Int) < y.den := by omega
    rcases Int.lt_trichotomy x.num 0 with h1 | h1 | h1 <;> rcases Int.lt_trichotomy y.num 0 with h2 | h2 | h2
    · exact absurd (by rw [Int.sign_eq_neg_one_of_neg h1, Int.sign_eq_neg_one_of_neg h2]) h
    · have := Int.mul_neg_of_neg_of_pos h1 py; rw [h2]; omega
    · have := Int.mul_neg_of_neg_of_pos h1 py; have := Int.mul_pos h2 px; omega
    · have := Int.mul_neg_of_neg_of_pos h2 px; rw [h1]; omega
    · exact absurd (by rw [h1, h2]) h
    · have := Int.mul_pos h2 px; rw [h1]; omega
    · have := Int.mul_neg_of_neg_of_pos h2 px; have := Int.mul_pos h1 py; omega
    · have := Int.mul_pos h1 py; rw [h2]; omega
    · exact absurd (by rw [Int.sign_eq_one_of_pos h1, Int.sign_eq_one_of_pos h2]) h
  unfold zcmp
  simp only [key.1, key.2]
theorem zcmp_whole (x y : Rat) (hx : x.den = 1) (hy : y.den = 1) : zcmp x.num y.num = qcmp x y := by
  rw [← zcmp_q, hx, hy]; simp

/-- How long the parts of a fraction are. -/
def qs (x : Rat) : Nat := max (blen x.num.natAbs) (blen x.den)
theorem qs_num (x : Rat) : blen x.num.natAbs ≤ qs x := Nat.le_max_left _ _
theorem qs_den (x : Rat) : blen x.den ≤ qs x := Nat.le_max_right _ _
theorem qs_rest (x : Rat) : blen (rest x) ≤ qs x := Nat.le_trans (blen_mono (rest_le x)) (qs_den x)
theorem qs_mk (n : Int) {d : Nat} (hd : d ≠ 0) : qs (mkRat n d) ≤ max (blen n.natAbs) (blen d) := by
  have h1 := blen_mono (mk_num_le n d)
  have h2 := blen_mono (mk_den_le n hd)
  unfold qs; omega
theorem qs_add (x y : Rat) : qs (x + y) ≤ qs x + qs y + 1 := by
  rw [add_mk]
  have := qs_mk (x.num * y.den + y.num * x.den) (Nat.mul_ne_zero x.den_nz y.den_nz)
  have n1 := qs_num x; have n2 := qs_num y; have d1 := qs_den x; have d2 := qs_den y
  have m1 := blen_times x.den y.den
  have m2 := blen_times x.num.natAbs y.den
  have m3 := blen_times y.num.natAbs x.den
  have m4 := blen_add (x.num.natAbs * y.den) (y.num.natAbs * x.den)
  have m5 : blen (x.num * y.den + y.num * x.den).natAbs ≤ blen (x.num.natAbs * y.den + y.num.natAbs * x.den) := by
    refine blen_mono ?_
    have e1 : (x.num * (y.den : Int)).natAbs = x.num.natAbs * y.den := by rw [Int.natAbs_mul, Int.natAbs_natCast]
    have e2 : (y.num * (x.den : Int)).natAbs = y.num.natAbs * x.den := by rw [Int.natAbs_mul, Int.natAbs_natCast]
    rw [← e1, ← e2]; omega
  omega
theorem qs_mul (x y : Rat) : qs (x * y) ≤ qs x + qs y := by
  rw [mul_mk]
  have := qs_mk (x.num * y.num) (Nat.mul_ne_zero x.den_nz y.den_nz)
  have n1 := qs_num x; have n2 := qs_num y; have d1 := qs_den x; have d2 := qs_den y
  have m1 := blen_times x.den y.den
  have m2 := blen_times x.num.natAbs y.num.natAbs
  rw [← Int.natAbs_mul] at m2
  omega
theorem qs_neg (x : Rat) : qs (-x) = qs x := by unfold qs; simp
theorem qs_sub (x y : Rat) : qs (x - y) ≤ qs x + qs y + 1 := by
  rw [Rat.sub_eq_add_neg, ← qs_neg y]; exact qs_add x (-y)
theorem qs_inv (x : Rat) : qs x⁻¹ ≤ qs x := by
  unfold qs
  rw [Rat.num_inv, Rat.den_inv]
  have n1 : (x.num.sign * (x.den : Int)).natAbs ≤ x.den := by
    rw [Int.natAbs_mul, Int.natAbs_natCast]
    have : x.num.sign.natAbs ≤ 1 := by rcases Int.lt_trichotomy x.num 0 with h | h | h <;> simp [h, Int.sign_eq_neg_one_of_neg, Int.sign_eq_one_of_pos]
    calc _ ≤ 1 * x.den := Nat.mul_le_mul_right _ this
      _ = _ := Nat.one_mul _
  have h1 := blen_mono n1
  by_cases h0 : x.num = 0
  · rw [if_pos h0]
    have : blen 1 ≤ blen x.den := blen_mono x.den_pos
    omega
  · rw [if_neg h0]; omega
theorem qs_div (x y : Rat) : qs (x / y) ≤ qs x + qs y := by
  rw [Rat.div_def]
  have := qs_mul x y⁻¹; have := qs_inv y; omega

end Num
