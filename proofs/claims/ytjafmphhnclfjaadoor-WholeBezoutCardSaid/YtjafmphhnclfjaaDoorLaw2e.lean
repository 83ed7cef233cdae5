/- WholeBezout: the walk. -/
import Derived.Test.YtjafmphhnclfjaaDoorWho4
import Derived.Test.YtjafmphhnclfjaaDoorTwo2
import Derived.Test.YtjafmphhnclfjaaDoorZCmp
import Derived.Test.YtjafmphhnclfjaaDoorKno2
set_option linter.all false
set_option linter.all false
namespace Go.Proofs.YtjafmphhnclfjaaDoor
open Go GoAbs Num
set_option maxRecDepth 100000
set_option maxHeartbeats 4000000

theorem bez_ex {a b : Int} : ∀ (k : Nat) {r s u v : Int}, s.natAbs ≤ k → b ≠ 0 → Bz a b r s u v → 0 ≤ r → 0 ≤ s → ∃ x y, IsBez a b x y
  | k, r, s, u, v, hk, hb, h, hr, hs => by
    by_cases h0 : s = 0
    · subst h0
      exact ⟨_, _, (h.fin hb hr rfl).2⟩
    · obtain ⟨n1, n2, _⟩ := h.step h0
      obtain ⟨_, _, f3, _⟩ := fm_facts r h0
      cases k with
      | zero => omega
      | succ k => exact bez_ex k (by omega) hb n1 hs (f3 (by omega))
theorem bez_is (a b : Int) : IsBez a b (bez a b).1 (bez a b).2 := by
  have : ∃ x y, IsBez a b x y := by
    by_cases hb : b = 0
    · exact ⟨a.sign, 0, fun _ => ⟨rfl, rfl⟩, fun h => absurd hb h, fun h => absurd hb h, fun h => absurd hb h⟩
    · exact bez_ex _ (Nat.le_refl _) hb (Bz.starts a hb) (by omega) (by omega)
  obtain ⟨x, y, h⟩ := this
  rw [bez_eq h]; exact h
theorem Text1_ct : Ct E 20 [aN 1] [] (.str ⟨#[49]⟩) [] := (run_known2_ok 16).call _ _ _ (by kernel_rfl)
theorem ZCmp_selfB (n m : Int) (h : n = m) (bn : blen n.natAbs < 1099511627776) : Ct E 13 [aZ n, aZ m] [] (iI 0) [] := by
  subst h
  have := ZCmp_ct n n bn bn
  rwa [zcmp_self] at this
theorem ok_WholeBezout : codeOk E Tryd.f3.ntmps (Tryd.f3.body.getD .skip) = true := by kernel_rfl
theorem WholeBezout_ct (a b : List Nat) (p q : Bool) (sa : Num.Small 256 a) (sb : Num.Small 256 b) (la : a.length < 140737488355328) (lb : b.length < 140737488355328) :
    Ct E 3 [.imm false 1 (w8 a), .imm false 1 (w8 b), .bool p, .bool q] [] .kt [] := by
  have htwo := two2_ct a b p q sa sb la lb
  have b1 := blen_zOf sa p
  have b2 := blen_zOf sb q
  generalize zOf p a = n at *
  generalize zOf q b = m at *
  have hbz := bez_is n m
  have cB := Bezout_ct n m (by omega) (by omega)
  have cG := Gcd_ct n m (by omega) (by omega)
  have cG2 := Gcd_ct m n (by omega) (by omega)
  rw [Int.gcd_comm] at cG2
  obtain ⟨G, hG⟩ : ∃ G, G = Int.gcd n m := ⟨_, rfl⟩
  obtain ⟨u, hu⟩ : ∃ u, u = (bez n m).1 := ⟨_, rfl⟩
  obtain ⟨v, hv⟩ : ∃ v, v = (bez n m).2 := ⟨_, rfl⟩
  rw [← hG] at cB cG cG2
  rw [← hu, ← hv] at cB hbz
  have dn : (G : Int) ∣ n := hG ▸ Int.gcd_dvd_left _ _
  have dm : (G : Int) ∣ m := hG ▸ Int.gcd_dvd_right _ _
  have gm : blen G ≤ 320 := by
    by_cases h : m = 0
    · have : G = n.natAbs := by rw [hG, h, Int.gcd_zero_right]
      rw [this]; exact b1
    · have : G ≤ m.natAbs := by rw [hG]; exact Nat.le_of_dvd (by omega) (Int.gcd_dvd_natAbs_right n m)
      have := blen_mono this
      omega
  have e1 : n * u + m * v = G := by
    by_cases h : m = 0
    · obtain ⟨k1, k2⟩ := hbz.nul h
      rw [k1, k2, hG, h, Int.gcd_zero_right]
      have := Int.mul_sign_self n
      omega
    · rw [hG]; exact hbz.eq h
  have bu : blen u.natAbs ≤ 321 := by
    by_cases h : m = 0
    · have k1 := (hbz.nul h).1
      have : u.natAbs ≤ 1 := by
        rw [k1]
        rcases Int.lt_trichotomy n 0 with h | h | h
        · rw [Int.sign_eq_neg_one_of_neg h]; decide
        · rw [h]; decide
        · rw [Int.sign_eq_one_of_pos h]; decide
      have := blen_mono this
      have : blen 1 = 1 := by decide
      omega
    · have h1 := hbz.lo h
      have h2 := hbz.hi h
      have h3 : (m.natAbs : Int) / (Int.gcd n m : Int) ≤ m.natAbs := Int.ediv_le_self _ (by omega)
      have h4 : u.natAbs ≤ m.natAbs := by omega
      have := blen_mono h4
      omega
  have bnu := blen_times n.natAbs u.natAbs
  rw [← Int.natAbs_mul] at bnu
  have bv : blen v.natAbs ≤ 643 := by
    by_cases h : m = 0
    · rw [(hbz.nul h).2]; decide
    · have h1 : v.natAbs ≤ (m * v).natAbs := by
        rw [Int.natAbs_mul]
        have : 1 * v.natAbs ≤ m.natAbs * v.natAbs := Nat.mul_le_mul_right _ (by omega)
        omega
      have h2 : (m * v).natAbs ≤ G + (n * u).natAbs := by omega
      have := blen_mono (Nat.le_trans h1 h2)
      have := blen_add G (n * u).natAbs
      omega
  have bmv := blen_times m.natAbs v.natAbs
  rw [← Int.natAbs_mul] at bmv
  have cc := Cmp_e G G (by omega) (by omega)
  rw [cmp_eq rfl] at cc
  have cA := Abs_ct (G : Int)
  rw [Int.natAbs_natCast] at cA
  have sG := Sign_ct (G : Int) (by rw [Int.natAbs_natCast]; omega)
  have hs0 : decide ((G : Int).sign < 0) = false := decide_eq_false (by
    rcases Nat.eq_zero_or_pos G with h | h
    · rw [h]; decide
    · rw [Int.sign_eq_one_of_pos (by omega)]; decide)
  refine Ct_of hE Tryd.func3 rfl rfl (by exact Nat.le_of_ble_eq_true rfl) ok_WholeBezout ?_
  refine ⟨_, htwo, ?_⟩
  repeat first | refine ⟨rfl, ?_⟩ | refine ifB_pos rfl ?_ | refine ifB_neg rfl ?_
  refine ⟨_, cB, ?_⟩
  repeat first | refine ⟨rfl, ?_⟩ | refine ifB_pos rfl ?_ | refine ifB_neg rfl ?_
  refine ⟨.kt, known2_ct, ?_⟩
  repeat first | refine ⟨rfl, ?_⟩ | refine ifB_pos rfl ?_ | refine ifB_neg rfl ?_
  refine ⟨_, ZMul_ct n u (by omega) (by omega), ?_⟩
  repeat first | refine ⟨rfl, ?_⟩ | refine ifB_pos rfl ?_ | refine ifB_neg rfl ?_
  refine ⟨_, ZMul_ct m v (by omega) (by omega), ?_⟩
  repeat first | refine ⟨rfl, ?_⟩ | refine ifB_pos rfl ?_ | refine ifB_neg rfl ?_
  refine ⟨_, ZAdd_ct (n * u) (m * v) (by omega) (by omega), ?_⟩
  repeat first | refine ⟨rfl, ?_⟩ | refine ifB_pos rfl ?_ | refine ifB_neg rfl ?_
  refine ⟨_, ZCmp_selfB _ _ e1 (by rw [e1, Int.natAbs_natCast]; omega), ?_⟩
  repeat first | refine ⟨rfl, ?_⟩ | refine ifB_pos rfl ?_ | refine ifB_neg rfl ?_
  refine ⟨_, sG, ?_⟩
  repeat first | refine ifB_neg hs0 ?_ | refine ⟨rfl, ?_⟩ | refine ifB_pos rfl ?_ | refine ifB_neg rfl ?_
  refine ⟨_, cG, ?_⟩
  repeat first | refine ifB_neg hs0 ?_ | refine ⟨rfl, ?_⟩ | refine ifB_pos rfl ?_ | refine ifB_neg rfl ?_
  refine ⟨_, From_f G (by omega), ?_⟩
  repeat first | refine ifB_neg hs0 ?_ | refine ⟨rfl, ?_⟩ | refine ifB_pos rfl ?_ | refine ifB_neg rfl ?_
  refine ⟨_, ZCmp_selfB _ _ rfl (by rw [Int.natAbs_natCast]; omega), ?_⟩
  repeat first | refine ifB_neg hs0 ?_ | refine ⟨rfl, ?_⟩ | refine ifB_pos rfl ?_ | refine ifB_neg rfl ?_
  refine ⟨_, cG2, ?_⟩
  repeat first | refine ifB_neg hs0 ?_ | refine ⟨rfl, ?_⟩ | refine ifB_pos rfl ?_ | refine ifB_neg rfl ?_
  refine ⟨_, cA, ?_⟩
  repeat first | refine ifB_neg hs0 ?_ | refine ⟨rfl, ?_⟩ | refine ifB_pos rfl ?_ | refine ifB_neg rfl ?_
  refine ⟨_, cc, ?_⟩
  repeat first | refine ifB_neg hs0 ?_ | refine ⟨rfl, ?_⟩ | refine ifB_pos rfl ?_ | refine ifB_neg rfl ?_
  refine ⟨_, sG, ?_⟩
  by_cases h0 : G = 0
  · have hg0 : ((G : Int).sign == 0) = true := by rw [h0]; rfl
    have hgg : Int.gcd n m = 0 := by omega
    have n0 : n = 0 := (Int.gcd_eq_zero_iff.1 hgg).1
    have m0 : m = 0 := (Int.gcd_eq_zero_iff.1 hgg).2
    subst n0; subst m0
    repeat first | refine ifB_pos hg0 ?_ | refine ⟨rfl, ?_⟩ | refine ifB_pos rfl ?_ | refine ifB_neg rfl ?_
    refine ⟨_, Sign_ct 0 (by decide), ?_⟩
    repeat first | refine ifB_pos hg0 ?_ | refine ⟨rfl, ?_⟩ | refine ifB_pos rfl ?_ | refine ifB_neg rfl ?_
    refine ⟨_, Sign_ct 0 (by decide), ?_⟩
    repeat first | refine ifB_pos hg0 ?_ | refine ⟨rfl, ?_⟩ | refine ifB_pos rfl ?_ | refine ifB_neg rfl ?_
    first | exact ⟨_, rfl, .tt⟩ | exact ⟨_, rfl, .refl _⟩
  · have hG0 : (G : Int) ≠ 0 := by omega
    have hg0 : ((G : Int).sign == 0) = false := by
      rw [Int.sign_eq_one_of_pos (by omega)]; rfl
    have d1 := ZDiv_ct n (G : Int) hG0 (by omega) (by rw [Int.natAbs_natCast]; omega)
    have d2 := ZDiv_ct m (G : Int) hG0 (by omega) (by rw [Int.natAbs_natCast]; omega)
    rw [Int.fmod_eq_zero_of_dvd dn] at d1
    rw [Int.fmod_eq_zero_of_dvd dm] at d2
    obtain ⟨n', hn'⟩ := dn
    obtain ⟨m', hm'⟩ := dm
    have f1 : n.fdiv (G : Int) = n' := by rw [hn', Int.mul_fdiv_cancel_left _ hG0]
    have f2 : m.fdiv (G : Int) = m' := by rw [hm', Int.mul_fdiv_cancel_left _ hG0]
    rw [f1] at d1
    rw [f2] at d2
    have hle : ∀ z z' : Int, z = G * z' → z'.natAbs ≤ z.natAbs := fun z z' h => by
      rw [h, Int.natAbs_mul, Int.natAbs_natCast]
      have : 1 * z'.natAbs ≤ G * z'.natAbs := Nat.mul_le_mul_right _ (by omega)
      omega
    have bn' := blen_mono (hle n n' hn')
    have bm' := blen_mono (hle m m' hm')
    have g1 : Int.gcd n' m' = 1 := by
      have h1 : Int.gcd n m = G * Int.gcd n' m' := by rw [hn', hm', Int.gcd_mul_left]; simp
      have h2 : G * Int.gcd n' m' = G * 1 := by omega
      exact Nat.eq_of_mul_eq_mul_left (by omega) h2
    have cg1 := Gcd_ct n' m' (by omega) (by omega)
    rw [g1] at cg1
    have z0 := Sign_ct 0 (by decide)
    have hst : ((⟨#[49]⟩ : ByteArray).toList == (⟨#[49]⟩ : ByteArray).toList) = true := beq_self_eq_true _
    repeat first | refine ifB_neg hg0 ?_ | refine ⟨rfl, ?_⟩ | refine ifB_pos rfl ?_ | refine ifB_neg rfl ?_
    refine ⟨_, d1, ?_⟩
    repeat first | refine ifB_neg hg0 ?_ | refine ⟨rfl, ?_⟩ | refine ifB_pos rfl ?_ | refine ifB_neg rfl ?_
    refine ⟨_, d2, ?_⟩
    repeat first | refine ⟨rfl, ?_⟩ | refine ifB_pos rfl ?_ | refine ifB_neg rfl ?_
    refine ⟨_, z0, ?_⟩
    repeat first | refine ⟨rfl, ?_⟩ | refine ifB_pos rfl ?_ | refine ifB_neg rfl ?_
    refine ⟨_, z0, ?_⟩
    repeat first | refine ⟨rfl, ?_⟩ | refine ifB_pos rfl ?_ | refine ifB_neg rfl ?_
    refine ⟨_, cg1, ?_⟩
    repeat first | refine ⟨rfl, ?_⟩ | refine ifB_pos rfl ?_ | refine ifB_neg rfl ?_
    refine ⟨_, Text1_ct, ?_⟩
    repeat first | refine ifB_pos hst ?_ | refine ⟨rfl, ?_⟩ | refine ifB_pos rfl ?_ | refine ifB_neg rfl ?_
    refine ⟨_, Sign_ct m (by omega), ?_⟩
    by_cases hm0 : m = 0
    · have hq0 : (m.sign == 0) = true := by rw [hm0]; rfl
      repeat first | refine ifB_pos hst ?_ | refine ifB_pos hq0 ?_ | refine ⟨rfl, ?_⟩ | refine ifB_pos rfl ?_ | refine ifB_neg rfl ?_
      first | exact ⟨_, rfl, .tt⟩ | exact ⟨_, rfl, .refl _⟩
    · have hq0 : (m.sign == 0) = false := by
        have : m.sign ≠ 0 := fun h => hm0 (Int.sign_eq_zero_iff_zero.1 h)
        simpa using this
      have u0 := hbz.lo hm0
      have u1 := hbz.hi hm0
      have hus : decide (u.sign ≥ 0) = true := decide_eq_true (Int.sign_nonneg_iff.2 u0)
      have hmm : (m.natAbs : Int) / (Int.gcd n m : Int) = (m'.natAbs : Int) := by
        rw [← hG, hm', Int.natAbs_mul, Int.natAbs_natCast, Int.natCast_mul, Int.mul_ediv_cancel_left _ hG0]
      rw [hmm] at u1
      have cz := ZCmp_ct u (m'.natAbs : Int) (by omega) (by rw [Int.natAbs_natCast]; omega)
      have hz1 : zcmp u (m'.natAbs : Int) = -1 := if_pos u1
      rw [hz1] at cz
      repeat first | refine ifB_pos hst ?_ | refine ifB_neg hq0 ?_ | refine ⟨rfl, ?_⟩ | refine ifB_pos rfl ?_ | refine ifB_neg rfl ?_
      refine ⟨_, Sign_ct u (by omega), ?_⟩
      repeat first | refine ifB_pos hst ?_ | refine ifB_neg hq0 ?_ | refine ifB_pos hus ?_ | refine ⟨rfl, ?_⟩ | refine ifB_pos rfl ?_ | refine ifB_neg rfl ?_
      refine ⟨_, Abs_ct m', ?_⟩
      repeat first | refine ifB_pos hst ?_ | refine ifB_neg hq0 ?_ | refine ifB_pos hus ?_ | refine ⟨rfl, ?_⟩ | refine ifB_pos rfl ?_ | refine ifB_neg rfl ?_
      refine ⟨_, From_f m'.natAbs (by omega), ?_⟩
      repeat first | refine ifB_pos hst ?_ | refine ifB_neg hq0 ?_ | refine ifB_pos hus ?_ | refine ⟨rfl, ?_⟩ | refine ifB_pos rfl ?_ | refine ifB_neg rfl ?_
      refine ⟨_, cz, ?_⟩
      repeat first | refine ifB_pos hst ?_ | refine ifB_neg hq0 ?_ | refine ifB_pos hus ?_ | refine ⟨rfl, ?_⟩ | refine ifB_pos rfl ?_ | refine ifB_neg rfl ?_
      first | exact ⟨_, rfl, .tt⟩ | exact ⟨_, rfl, .refl _⟩
end Go.Proofs.YtjafmphhnclfjaaDoor
