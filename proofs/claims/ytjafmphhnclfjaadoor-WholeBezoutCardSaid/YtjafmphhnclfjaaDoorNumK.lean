/- Lehmer's steps of a greatest common divisor: plain numbers. -/
import Derived.Test.YtjafmphhnclfjaaDoorNumI
set_option linter.all false
set_option linter.all false
namespace Num

theorem lstep {P a b p q r s x y n : Int} (hp : 0 ≤ p) (hq : q ≤ 0) (hr : r ≤ 0) (hs : 0 ≤ s) (x0 : 0 ≤ x) (x1 : x < P) (y0 : 0 ≤ y) (y1 : y < P) (hn : 0 ≤ n)
    (h2 : a + p < (n + 1) * (b + r)) (h3 : n * (b + s) ≤ a + q) :
    0 ≤ (P * a + p * x + q * y) - n * (P * b + r * x + s * y) ∧ (P * a + p * x + q * y) - n * (P * b + r * x + s * y) < P * b + r * x + s * y := by
  have hP : 0 < P := by omega
  have e1 : 0 ≤ P * ((a + q) - n * (b + s)) := Int.mul_nonneg (by omega) (by omega)
  have e2 : P * 1 ≤ P * ((n + 1) * (b + r) - (a + p)) := Int.mul_le_mul_of_nonneg_left (by omega) (by omega)
  have nr : n * r ≤ 0 := Int.mul_nonpos_of_nonneg_of_nonpos hn hr
  have ns : 0 ≤ n * s := Int.mul_nonneg hn hs
  have f1 : 0 ≤ (p - n * r) * x := Int.mul_nonneg (by omega) x0
  have f2 : (q - n * s) * (P - 1 - y) ≤ 0 := Int.mul_nonpos_of_nonpos_of_nonneg (by omega) (by omega)
  have f3 : 0 ≤ (p - n * r - r) * (P - 1 - x) := Int.mul_nonneg (by omega) (by omega)
  have f4 : (q - n * s - s) * y ≤ 0 := Int.mul_nonpos_of_nonpos_of_nonneg (by omega) y0
  constructor
  · grind
  · grind

/-- Two rows of a matrix, in one parity. -/
structure LE (K a0 b0 a b p q r s : Int) : Prop where
  p0 : 0 ≤ p
  q0 : q ≤ 0
  r0 : r ≤ 0
  s0 : 0 ≤ s
  ha : a = p * a0 + q * b0
  hb : b = r * a0 + s * b0
  det : p * s - q * r = 1
  a1 : 1 ≤ a
  aK : a ≤ K
  b0' : 0 ≤ b
  bK : b ≤ K
  ap : 0 ≤ a + p
  aq : 0 ≤ a + q
  br : 0 ≤ b + r
  bs : 0 ≤ b + s
  pK : p ≤ K
  qK : -K ≤ q
  rK : -K ≤ r
  sK : s ≤ K

theorem LE.step {K a0 b0 a b p q r s n : Int} (h : LE K a0 b0 a b p q r s) (ha0 : a0 ≤ K) (hb0 : b0 ≤ K) (hn : 0 ≤ n) (d1 : 0 < b + r)
    (h1 : n * (b + r) ≤ a + p) (h2 : a + p < (n + 1) * (b + r)) (h3 : n * (b + s) ≤ a + q) (h4 : a + q < (n + 1) * (b + s)) :
    LE K b0 a0 b (a - n * b) s r (q - n * s) (p - n * r) ∧ (-K ≤ n * r ∧ n * r ≤ 0) ∧ (0 ≤ n * s ∧ n * s ≤ K) ∧ (0 ≤ n * b ∧ n * b ≤ K) ∧ n ≤ K := by
  obtain ⟨p0, q0, r0, s0, ha, hb, det, a1, aK, b0', bK, ap, aq, br, bs, pK, qK, rK, sK⟩ := h
  have nr : n * r ≤ 0 := Int.mul_nonpos_of_nonneg_of_nonpos hn r0
  have ns : 0 ≤ n * s := Int.mul_nonneg hn s0
  have b1 : 1 ≤ b := by omega
  have nb : 0 ≤ n * b := Int.mul_nonneg hn b0'
  have c1 : 0 ≤ a - n * b := by grind
  have c2 : n ≤ n * b := by have := Int.mul_le_mul_of_nonneg_left b1 hn; omega
  -- the new row is small
  have k1 : b0 = (p - n * r) * b + (-r) * (a - n * b) := by grind
  have k2 : a0 = (n * s - q) * b + s * (a - n * b) := by grind
  have k3 : p - n * r ≤ (p - n * r) * b := by have := Int.mul_le_mul_of_nonneg_left b1 (show 0 ≤ p - n * r by omega); omega
  have k4 : 0 ≤ (-r) * (a - n * b) := Int.mul_nonneg (by omega) c1
  have k5 : n * s - q ≤ (n * s - q) * b := by have := Int.mul_le_mul_of_nonneg_left b1 (show 0 ≤ n * s - q by omega); omega
  have k6 : 0 ≤ s * (a - n * b) := Int.mul_nonneg s0 c1
  refine ⟨⟨s0, r0, by omega, by omega, by grind, by grind, by grind, b1, bK, c1, by omega, by omega, by omega, by grind, by grind, sK, rK, by omega, by omega⟩, by omega, by omega, by omega, by omega⟩

theorem gcd_step (u v n : Int) : Int.gcd v (u - n * v) = Int.gcd u v := by
  rw [Int.gcd_comm u v, Int.sub_eq_add_neg, ← Int.neg_mul]
  simp [Int.gcd_add_mul_left_right, Int.gcd_add_mul_right_right]

/-- The matrix of several steps. -/
structure Lz (K P X Y x y a0 b0 a b m0 m1 m2 m3 : Int) : Prop where
  par : LE K a0 b0 a b m0 m1 m2 m3 ∨ LE K b0 a0 a b m1 m0 m3 m2
  V0 : 0 ≤ m2 * X + m3 * Y
  VU : m2 * X + m3 * Y ≤ m0 * X + m1 * Y
  UX : m0 * X + m1 * Y ≤ X
  g : Int.gcd (m0 * X + m1 * Y) (m2 * X + m3 * Y) = Int.gcd X Y
  less : (m1 = 0 ∧ m2 = 0 ∧ m3 = 1) ∨ m2 * X + m3 * Y < Y

structure Lb (K P X Y x y a0 b0 : Int) : Prop where
  hX : X = P * a0 + x
  hY : Y = P * b0 + y
  x0 : 0 ≤ x
  x1 : x < P
  y0 : 0 ≤ y
  y1 : y < P
  YX : Y ≤ X
  Y0 : 0 ≤ Y
  a1 : 1 ≤ a0
  b0' : 0 ≤ b0
  aK : a0 ≤ K
  bK : b0 ≤ K
  K1 : 1 ≤ K

theorem Lz.init {K P X Y x y a0 b0 : Int} (h : Lb K P X Y x y a0 b0) : Lz K P X Y x y a0 b0 a0 b0 1 0 0 1 := by
  obtain ⟨hX, hY, x0, x1, y0, y1, YX, Y0, a1, b0', aK, bK, K1⟩ := h
  refine ⟨.inl ⟨by omega, by omega, by omega, by omega, by omega, by omega, by omega, a1, aK, b0', bK, by omega, by omega, by omega, by omega, K1, by omega, by omega, K1⟩, by omega, by omega, by omega, ?_, .inl ⟨rfl, rfl, rfl⟩⟩
  congr 1 <;> omega

theorem Lz.ranges {K P X Y x y a0 b0 a b m0 m1 m2 m3 : Int} (h : Lz K P X Y x y a0 b0 a b m0 m1 m2 m3) :
    (1 ≤ a ∧ a ≤ K) ∧ (0 ≤ b ∧ b ≤ K) ∧ (-K ≤ m0 ∧ m0 ≤ K) ∧ (-K ≤ m1 ∧ m1 ≤ K) ∧ (-K ≤ m2 ∧ m2 ≤ K) ∧ (-K ≤ m3 ∧ m3 ≤ K) ∧ 0 ≤ a + m0 ∧ 0 ≤ a + m1 ∧ 0 ≤ b + m2 ∧ 0 ≤ b + m3 := by
  rcases h.par with e | e
  · obtain ⟨p0, q0, r0, s0, ha, hb, det, a1, aK, b0', bK, ap, aq, br, bs, pK, qK, rK, sK⟩ := e
    refine ⟨⟨a1, aK⟩, ⟨b0', bK⟩, ⟨?_, ?_⟩, ⟨?_, ?_⟩, ⟨?_, ?_⟩, ⟨?_, ?_⟩, ?_, ?_, ?_, ?_⟩ <;> omega
  · obtain ⟨p0, q0, r0, s0, ha, hb, det, a1, aK, b0', bK, ap, aq, br, bs, pK, qK, rK, sK⟩ := e
    refine ⟨⟨a1, aK⟩, ⟨b0', bK⟩, ⟨?_, ?_⟩, ⟨?_, ?_⟩, ⟨?_, ?_⟩, ⟨?_, ?_⟩, ?_, ?_, ?_, ?_⟩ <;> omega

theorem Lz.step {K P X Y x y a0 b0 a b m0 m1 m2 m3 n : Int} (w : Lb K P X Y x y a0 b0) (h : Lz K P X Y x y a0 b0 a b m0 m1 m2 m3) (d1 : 0 < b + m2) (d2 : 0 < b + m3)
    (e1 : n = (a + m0) / (b + m2)) (e2 : n = (a + m1) / (b + m3)) :
    Lz K P X Y x y a0 b0 b (a - n * b) m2 m3 (m0 - n * m2) (m1 - n * m3) ∧
    (-K ≤ n * m2 ∧ n * m2 ≤ K) ∧ (-K ≤ n * m3 ∧ n * m3 ≤ K) ∧ (0 ≤ n * b ∧ n * b ≤ K) ∧ (0 ≤ n ∧ n ≤ K) ∧ (m0 - n * m2) * X + (m1 - n * m3) * Y < m2 * X + m3 * Y := by
  obtain ⟨⟨a1, aK⟩, ⟨b0', bK⟩, _, _, _, _, am0, am1, bm2, bm3⟩ := h.ranges
  have hn : 0 ≤ n := by rw [e1]; exact Int.ediv_nonneg am0 (by omega)
  have h1 : n * (b + m2) ≤ a + m0 := by rw [e1]; exact Int.ediv_mul_le _ (by omega)
  have h2 : a + m0 < (n + 1) * (b + m2) := by rw [e1]; exact Int.lt_ediv_add_one_mul_self _ d1
  have h3 : n * (b + m3) ≤ a + m1 := by rw [e2]; exact Int.ediv_mul_le _ (by omega)
  have h4 : a + m1 < (n + 1) * (b + m3) := by rw [e2]; exact Int.lt_ediv_add_one_mul_self _ d2
  clear e1 e2
  obtain ⟨hX, hY, x0, x1, y0, y1, YX, Y0, ga1, gb0, gaK, gbK, K1⟩ := w
  obtain ⟨par, V0, VU, UX, g, less⟩ := h
  have cm : ∀ p q r s : Int, (p - n * r) * X + (q - n * s) * Y = (p * X + q * Y) - n * (r * X + s * Y) := by intro p q r s; grind
  have gg : Int.gcd (m2 * X + m3 * Y) ((m0 - n * m2) * X + (m1 - n * m3) * Y) = Int.gcd X Y := by
    rw [cm, gcd_step]; exact g
  have fin : (0 ≤ (m0 * X + m1 * Y) - n * (m2 * X + m3 * Y) ∧ (m0 * X + m1 * Y) - n * (m2 * X + m3 * Y) < m2 * X + m3 * Y) := by
    rcases par with e | e
    · have := lstep (P := P) (x := x) (y := y) e.p0 e.q0 e.r0 e.s0 x0 x1 y0 y1 hn h2 h3
      have u : m0 * X + m1 * Y = P * a + m0 * x + m1 * y := by rw [e.ha, hX, hY]; grind
      have v : m2 * X + m3 * Y = P * b + m2 * x + m3 * y := by rw [e.hb, hX, hY]; grind
      rw [u, v]; exact this
    · have := lstep (P := P) (x := y) (y := x) e.p0 e.q0 e.r0 e.s0 y0 y1 x0 x1 hn h4 h1
      have u : m0 * X + m1 * Y = P * a + m1 * y + m0 * x := by rw [e.ha, hX, hY]; grind
      have v : m2 * X + m3 * Y = P * b + m3 * y + m2 * x := by rw [e.hb, hX, hY]; grind
      rw [u, v]; exact this
  have ls : (m3 = 0 ∧ m0 - n * m2 = 0 ∧ m1 - n * m3 = 1) ∨ (m0 - n * m2) * X + (m1 - n * m3) * Y < Y := by
    right
    rw [cm]
    rcases less with ⟨l1, l2, l3⟩ | l
    · have : m2 * X + m3 * Y = Y := by rw [l2, l3]; omega
      omega
    · omega
  rcases par with e | e
  · obtain ⟨E, r1, r2, r3, r4⟩ := e.step gaK gbK hn d1 h1 h2 h3 h4
    refine ⟨⟨.inr E, by rw [cm]; exact fin.1, by rw [cm]; exact Int.le_of_lt fin.2, Int.le_trans VU UX, gg, ls⟩, by omega, by omega, r3, ⟨hn, r4⟩, by rw [cm]; exact fin.2⟩
  · obtain ⟨E, r1, r2, r3, r4⟩ := e.step gbK gaK hn d2 h3 h4 h1 h2
    refine ⟨⟨.inl E, by rw [cm]; exact fin.1, by rw [cm]; exact Int.le_of_lt fin.2, Int.le_trans VU UX, gg, ls⟩, by omega, by omega, r3, ⟨hn, r4⟩, by rw [cm]; exact fin.2⟩

/-- A state of the several steps. -/
structure Ls where
  a : Int
  b : Int
  m0 : Int
  m1 : Int
  m2 : Int
  m3 : Int
def Ls.n (s : Ls) : Int := (s.a + s.m0).tdiv (s.b + s.m2)
def Ls.go (s : Ls) : Prop := s.b + s.m2 ≠ 0 ∧ s.b + s.m3 ≠ 0 ∧ s.n = (s.a + s.m1).tdiv (s.b + s.m3)
instance (s : Ls) : Decidable s.go := inferInstanceAs (Decidable (_ ∧ _ ∧ _))
def Ls.step (s : Ls) : Ls := ⟨s.b, s.a - s.n * s.b, s.m2, s.m3, s.m0 - s.n * s.m2, s.m1 - s.n * s.m3⟩
def Ls.run : Nat → Ls → Ls
  | 0, s => s
  | k + 1, s => if s.go then Ls.run k s.step else s
def Ls.ok (K P X Y x y a0 b0 : Int) (s : Ls) : Prop := Lz K P X Y x y a0 b0 s.a s.b s.m0 s.m1 s.m2 s.m3
def Ls.v (X Y : Int) (s : Ls) : Int := s.m2 * X + s.m3 * Y

theorem Ls.next {K P X Y x y a0 b0 : Int} (w : Lb K P X Y x y a0 b0) {s : Ls} (h : s.ok K P X Y x y a0 b0) (hg : s.go) :
    s.step.ok K P X Y x y a0 b0 ∧ (-K ≤ s.n * s.m2 ∧ s.n * s.m2 ≤ K) ∧ (-K ≤ s.n * s.m3 ∧ s.n * s.m3 ≤ K) ∧ (0 ≤ s.n * s.b ∧ s.n * s.b ≤ K) ∧ s.step.v X Y < s.v X Y := by
  have h' : Lz K P X Y x y a0 b0 s.a s.b s.m0 s.m1 s.m2 s.m3 := h
  obtain ⟨_, _, _, _, _, _, am0, am1, bm2, bm3⟩ := h'.ranges
  have e1 : s.n = (s.a + s.m0) / (s.b + s.m2) := by unfold Ls.n; exact Int.tdiv_eq_ediv_of_nonneg am0
  have e2 : s.n = (s.a + s.m1) / (s.b + s.m3) := by rw [hg.2.2]; exact Int.tdiv_eq_ediv_of_nonneg am1
  have d1 := hg.1
  have d2 := hg.2.1
  obtain ⟨p1, p2, p3, p4, p5, p6⟩ := Lz.step (n := s.n) w h' (by omega) (by omega) e1 e2
  exact ⟨p1, p2, p3, p4, p6⟩
theorem Ls.run_ok {K P X Y x y a0 b0 : Int} (w : Lb K P X Y x y a0 b0) : ∀ (k : Nat) {s : Ls}, s.ok K P X Y x y a0 b0 → (s.run k).ok K P X Y x y a0 b0
  | 0, s, h => h
  | k + 1, s, h => by
    unfold Ls.run
    split
    · rename_i hg
      exact Ls.run_ok w k (Ls.next w h hg).1
    · exact h
theorem Ls.stop (k : Nat) {s : Ls} (hg : ¬ s.go) : s.run k = s := by
  cases k with
  | zero => rfl
  | succ k => unfold Ls.run; rw [if_neg hg]

/-- What the several steps come to, of two numbers of which the lesser has more than a word. -/
def lzEnd (x y : Nat) : Ls := Ls.run (y + 1) ⟨((x / 2 ^ (blen x - 62) : Nat) : Int), ((y / 2 ^ (blen x - 62) : Nat) : Int), 1, 0, 0, 1⟩
def lzU (x y : Nat) : Nat := if (lzEnd x y).m1 = 0 then y else ((lzEnd x y).m0 * (x : Int) + (lzEnd x y).m1 * (y : Int)).natAbs
def lzV (x y : Nat) : Nat := if (lzEnd x y).m1 = 0 then x % y else ((lzEnd x y).m2 * (x : Int) + (lzEnd x y).m3 * (y : Int)).natAbs
theorem lz_start {x y : Nat} (hxy : y ≤ x) (hy : 18446744073709551616 ≤ y) :
    Lb 4611686018427387903 ((2 ^ (blen x - 62) : Nat) : Int) (x : Int) (y : Int) ((x % 2 ^ (blen x - 62) : Nat) : Int) ((y % 2 ^ (blen x - 62) : Nat) : Int) ((x / 2 ^ (blen x - 62) : Nat) : Int) ((y / 2 ^ (blen x - 62) : Nat) : Int) ∧ 3 ≤ blen x - 62 := by
  have hx0 : x ≠ 0 := by omega
  have h1 := blen_lt x
  have h2 := blen_ge hx0
  have hb : 64 < blen x := by
    rcases Nat.lt_or_ge 64 (blen x) with h | h
    · exact h
    · have : 2 ^ blen x ≤ 2 ^ 64 := Nat.pow_le_pow_right (by decide) h
      omega
  obtain ⟨k, hk⟩ : ∃ k, k = blen x - 62 := ⟨_, rfl⟩
  rw [← hk]
  have e1 : 2 ^ blen x = 4611686018427387904 * 2 ^ k := by rw [hk, show (4611686018427387904 : Nat) = 2 ^ 62 from rfl, ← Nat.pow_add]; congr 1; omega
  have e2 : 2 ^ (blen x - 1) = 2305843009213693952 * 2 ^ k := by rw [hk, show (2305843009213693952 : Nat) = 2 ^ 61 from rfl, ← Nat.pow_add]; congr 1; omega
  have kp := Nat.two_pow_pos k
  rw [e1] at h1
  rw [e2] at h2
  have a1 : 2305843009213693952 ≤ x / 2 ^ k := by rw [Nat.le_div_iff_mul_le kp]; exact h2
  have a2 : x / 2 ^ k < 4611686018427387904 := by rw [Nat.div_lt_iff_lt_mul kp]; exact h1
  have a3 : y / 2 ^ k ≤ x / 2 ^ k := Nat.div_le_div_right hxy
  have dx := Nat.div_add_mod x (2 ^ k)
  have dy := Nat.div_add_mod y (2 ^ k)
  have mx := Nat.mod_lt x kp
  have my := Nat.mod_lt y kp
  refine ⟨⟨?_, ?_, by omega, by omega, by omega, by omega, by omega, by omega, by omega, Int.natCast_nonneg _, by omega, by omega, by omega⟩, by omega⟩
  · rw [← Int.natCast_mul, ← Int.natCast_add, dx]
  · rw [← Int.natCast_mul, ← Int.natCast_add, dy]
theorem lz_good {x y : Nat} (hxy : y ≤ x) (hy : 18446744073709551616 ≤ y) : lzV x y < y ∧ lzV x y ≤ lzU x y ∧ Nat.gcd (lzU x y) (lzV x y) = Nat.gcd x y ∧ lzU x y ≤ x := by
  obtain ⟨w, _⟩ := lz_start hxy hy
  have h := Ls.run_ok w (y + 1) (s := ⟨((x / 2 ^ (blen x - 62) : Nat) : Int), ((y / 2 ^ (blen x - 62) : Nat) : Int), 1, 0, 0, 1⟩) (Lz.init w)
  change Ls.ok _ _ _ _ _ _ _ _ (lzEnd x y) at h
  unfold lzU lzV
  obtain ⟨par, V0, VU, UX, g, less⟩ := h
  by_cases h1 : (lzEnd x y).m1 = 0
  · rw [if_pos h1, if_pos h1]
    refine ⟨Nat.mod_lt _ (by omega), Nat.le_of_lt (Nat.mod_lt _ (by omega)), ?_⟩
    refine ⟨?_, hxy⟩
    rw [Nat.gcd_comm x y, Nat.gcd_rec y x, Nat.gcd_comm]
  · rw [if_neg h1, if_neg h1]
    generalize (lzEnd x y).m2 * (x : Int) + (lzEnd x y).m3 * (y : Int) = V at *
    generalize (lzEnd x y).m0 * (x : Int) + (lzEnd x y).m1 * (y : Int) = U at *
    refine ⟨by omega, by omega, ?_, by omega⟩
    rw [show Nat.gcd U.natAbs V.natAbs = Int.gcd U V from rfl, g]
    rfl
end Num
