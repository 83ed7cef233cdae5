/- Package whole: Gcd and Bezout. -/
import Derived.Test.YtjafmphhnclfjaaDoorWho3
set_option linter.all false
set_option linter.all false
namespace Go.Proofs.YtjafmphhnclfjaaDoor
open Go GoAbs Num
set_option maxRecDepth 100000
set_option maxHeartbeats 2000000

theorem cmp_neg_iff {x y : Nat} : (decide (cmp x y < 0) = true ↔ x < y) ∧ (decide (cmp x y < 0) = false ↔ y ≤ x) := by
  unfold cmp
  split
  · simp; omega
  · split <;> simp <;> omega
theorem ok_Gcd : codeOk E Tryd.f16.ntmps (Tryd.f16.body.getD .skip) = true := by kernel_rfl
theorem Gcd_ct (n m : Int) (hn : blen n.natAbs ≤ 65598) (hm : blen m.natAbs ≤ 65598) : Ct E 16 [aZ n, aZ m] [] (aN (Int.gcd n m)) [] := by
  refine Ct_of hE Tryd.func16 rfl rfl (by exact Nat.le_of_ble_eq_true rfl) ok_Gcd ?_
  have c1 := Cmp_e n.natAbs m.natAbs (by omega) (by omega)
  repeat refine ⟨rfl, ?_⟩
  refine ⟨_, c1, ?_⟩
  refine ⟨fun h1 => ?_, fun h1 => ?_⟩
  focus
    have hlt := cmp_neg_iff.1.1 h1
    obtain ⟨p, hp⟩ : ∃ p, m.natAbs = p := ⟨_, rfl⟩
    obtain ⟨q, hq⟩ : ∃ q, n.natAbs = q := ⟨_, rfl⟩
    have hpq : q ≤ p := by omega
    have hpb : blen p ≤ 65598 := by rw [← hp]; exact hm
    have hg : Nat.gcd p q = Int.gcd n m := by rw [← hp, ← hq, Nat.gcd_comm]; rfl
  rotate_left
  focus
    have hlt := cmp_neg_iff.2.1 h1
    obtain ⟨p, hp⟩ : ∃ p, n.natAbs = p := ⟨_, rfl⟩
    obtain ⟨q, hq⟩ : ∃ q, m.natAbs = q := ⟨_, rfl⟩
    have hpq : q ≤ p := by omega
    have hpb : blen p ≤ 65598 := by rw [← hp]; exact hn
    have hg : Nat.gcd p q = Int.gcd n m := by rw [← hp, ← hq]; rfl
  all_goals
    clear c1
    repeat first | refine ⟨rfl, ?_⟩ | refine And.intro (by first | omega | (dsimp only; omega)) ?_ | refine ifB_pos rfl ?_ | refine ifB_neg rfl ?_
    refine loop_fr [] (fun s : Nat × Nat => s.2 ≤ s.1 ∧ blen s.1 ≤ 65598 ∧ Nat.gcd s.1 s.2 = Int.gcd n m) (fun s => s.2)
      (fun s => [(4, .ref 4 0 0 0), (5, .ref 5 0 0 0), (6, .ref 6 0 0 0)])
      (fun s => [(4, ⟨true, 1, [.agg [.nils]], 0, false⟩), (5, ⟨true, 1, [aN s.1], 0, false⟩), (6, ⟨true, 1, [aN s.2], 0, false⟩)])
      (p, q) ⟨hpq, hpb, hg⟩ ⟨rfl, rfl, rfl, trivial⟩ ⟨rfl, (congrArg (fun z => some (⟨true, 1, [aN z], 0, false⟩ : Blk)) hp), (congrArg (fun z => some (⟨true, 1, [aN z], 0, false⟩ : Blk)) hq), trivial⟩ ?_
    rintro ⟨x, y⟩ g h v ⟨hxy, hxb, hgg⟩
    dsimp only at hxy hxb hgg
    have c2 := Small_e y
    repeat first | refine ⟨rfl, ?_⟩ | refine And.intro (by first | omega | (dsimp only; omega)) ?_ | refine ifB_pos rfl ?_ | refine ifB_neg rfl ?_
    refine ⟨_, c2, ?_⟩
    repeat first | refine ⟨rfl, ?_⟩ | refine And.intro (by first | omega | (dsimp only; omega)) ?_ | refine ifB_pos rfl ?_ | refine ifB_neg rfl ?_
    by_cases hy : y < 18446744073709551616
    · have hd : decide (y < 18446744073709551616) = true := decide_eq_true hy
      rw [if_pos hy] at *
      repeat first | refine ifB_pos hd ?_ | refine ⟨rfl, ?_⟩ | refine And.intro (by first | omega | (dsimp only; omega)) ?_ | refine ifB_pos rfl ?_ | refine ifB_neg rfl ?_
      refine ⟨fun h3 => ?_, fun h3 => ?_⟩
      · have hy0 : y = 0 := by have := eq_of_beq h3; omega
        subst hy0
        rw [Nat.gcd_zero_right] at hgg
        repeat first | refine ⟨rfl, ?_⟩ | refine And.intro (by first | omega | (dsimp only; omega)) ?_ | refine ifB_pos rfl ?_ | refine ifB_neg rfl ?_
        exact ⟨_, rfl, .of_eq (by rw [← hgg]; rfl)⟩
      · have hy0 : y ≠ 0 := by rintro rfl; simp at h3
        have c3 := Div_ct x y (by omega) (by have := blen_mono hxy; omega) hy0
        have hm := Nat.mod_lt x (show 0 < y by omega)
        have c4 := Small_e (x % y)
        rw [if_pos (by omega)] at c4
        have c5 := words_ct y (x % y) hy (by omega)
        have e5 : Nat.gcd y (x % y) = Int.gcd n m := by rw [← hgg, Nat.gcd_comm x y, Nat.gcd_rec y x, Nat.gcd_comm]
        rw [e5] at c5
        have c6 := Of_e (Int.gcd n m) (by rw [← e5]; exact Nat.lt_of_le_of_lt (Nat.gcd_le_left _ (by omega)) hy)
        repeat first | refine ⟨rfl, ?_⟩ | refine And.intro (by first | omega | (dsimp only; omega)) ?_ | refine ifB_pos rfl ?_ | refine ifB_neg rfl ?_
        refine ⟨_, c3, ?_⟩
        repeat first | refine ⟨rfl, ?_⟩ | refine And.intro (by first | omega | (dsimp only; omega)) ?_ | refine ifB_pos rfl ?_ | refine ifB_neg rfl ?_
        refine ⟨_, c4, ?_⟩
        repeat first | refine ⟨rfl, ?_⟩ | refine And.intro (by first | omega | (dsimp only; omega)) ?_ | refine ifB_pos rfl ?_ | refine ifB_neg rfl ?_
        refine ⟨_, c5, ?_⟩
        refine ⟨_, c6, ?_⟩
        repeat first | refine ⟨rfl, ?_⟩ | refine And.intro (by first | omega | (dsimp only; omega)) ?_ | refine ifB_pos rfl ?_ | refine ifB_neg rfl ?_
        exact ⟨_, rfl, .refl _⟩
    · have hd : decide (y < 18446744073709551616) = false := decide_eq_false hy
      have c3 := nearer_ct x y hxy (by omega) hxb
      obtain ⟨g1, g2, g3, g4⟩ := lz_good hxy (by omega)
      repeat first | refine ifB_neg hd ?_ | refine ⟨rfl, ?_⟩ | refine And.intro (by first | omega | (dsimp only; omega)) ?_ | refine ifB_pos rfl ?_ | refine ifB_neg rfl ?_
      refine ⟨_, c3, ?_⟩
      repeat first | refine ⟨rfl, ?_⟩ | refine And.intro (by first | omega | (dsimp only; omega)) ?_ | refine ifB_pos rfl ?_ | refine ifB_neg rfl ?_
      exact ⟨(lzU x y, lzV x y), ⟨⟨g2, Nat.le_trans (blen_mono g4) hxb, g3.trans hgg⟩, g1⟩, ⟨rfl, rfl, rfl, trivial⟩, ⟨rfl, rfl, rfl, trivial⟩⟩

theorem ok_Bezout : codeOk E Tryd.f9.ntmps (Tryd.f9.body.getD .skip) = true := by kernel_rfl
open Classical in
/-- The least cofactor. -/
noncomputable def bez (a b : Int) : Int × Int := if h : ∃ p : Int × Int, IsBez a b p.1 p.2 then h.choose else (0, 0)
theorem bez_eq {a b x y : Int} (h : IsBez a b x y) : bez a b = (x, y) := by
  have hx : ∃ p : Int × Int, IsBez a b p.1 p.2 := ⟨(x, y), h⟩
  unfold bez
  rw [dif_pos hx]
  have := hx.choose_spec.unique h
  exact Prod.ext this.1 this.2
theorem Bezout_ct (a b : Int) (ha : blen a.natAbs ≤ 65598) (hb : blen b.natAbs ≤ 65598) : Ct E 9 [aZ a, aZ b] [] (.tup [aZ (Int.gcd a b), aZ (bez a b).1, aZ (bez a b).2]) [] := by
  refine Ct_of hE Tryd.func9 rfl rfl (by exact Nat.le_of_ble_eq_true rfl) ok_Bezout ?_
  have c1 := Sign_ct b (by omega)
  have c2 := Sign_ct a (by omega)
  have ca := From_f a.natAbs (by omega)
  have cb := From_f b.natAbs (by omega)
  have sg : ∀ z : Int, -1 ≤ z.sign ∧ z.sign ≤ 1 := by
    intro z
    rcases Int.lt_trichotomy z 0 with h | h | h
    · rw [Int.sign_eq_neg_one_of_neg h]; omega
    · rw [h]; decide
    · rw [Int.sign_eq_one_of_pos h]; omega
  have c3 := ZOf_ct a.sign (by have := (sg a).1; omega) (by have := (sg a).2; omega)
  repeat first | refine ⟨rfl, ?_⟩ | refine And.intro (by first | omega | (dsimp only; omega)) ?_ | refine ifB_pos rfl ?_ | refine ifB_neg rfl ?_
  refine ⟨_, c1, ?_⟩
  repeat first | refine ⟨rfl, ?_⟩ | refine And.intro (by first | omega | (dsimp only; omega)) ?_ | refine ifB_pos rfl ?_ | refine ifB_neg rfl ?_
  refine ⟨fun h1 => ?_, fun h1 => ?_⟩
  · have hb0 : b = 0 := by have := eq_of_beq h1; exact Int.sign_eq_zero_iff_zero.1 this
    subst hb0
    have hz : bez a 0 = (a.sign, 0) := bez_eq ⟨fun _ => ⟨rfl, rfl⟩, fun h => absurd rfl h, fun h => absurd rfl h, fun h => absurd rfl h⟩
    repeat first | refine ⟨rfl, ?_⟩ | refine And.intro (by first | omega | (dsimp only; omega)) ?_ | refine ifB_pos rfl ?_ | refine ifB_neg rfl ?_
    refine ⟨_, ca, ?_⟩
    repeat first | refine ⟨rfl, ?_⟩ | refine And.intro (by first | omega | (dsimp only; omega)) ?_ | refine ifB_pos rfl ?_ | refine ifB_neg rfl ?_
    refine ⟨_, c2, ?_⟩
    refine ⟨_, c3, ?_⟩
    repeat first | refine ⟨rfl, ?_⟩ | refine And.intro (by first | omega | (dsimp only; omega)) ?_ | refine ifB_pos rfl ?_ | refine ifB_neg rfl ?_
    refine ⟨_, rfl, .tup (.cons (.of_eq ?_) (.cons (.of_eq ?_) (.cons ?_ .nil)))⟩
    · rw [Int.gcd_zero_right]; rfl
    · rw [hz]; rfl
    · rw [hz]; exact aZ_nil
  · have hb0 : b ≠ 0 := by rintro rfl; simp at h1
    have cg := Gcd_ct a b ha hb
    have gpos : 0 < Int.gcd a b := Int.gcd_pos_of_ne_zero_right _ hb0
    have gle : Int.gcd a b ≤ b.natAbs := Nat.le_of_dvd (by omega) (Int.gcd_dvd_natAbs_right a b)
    have gbl := blen_mono gle
    have cf := From_f (Int.gcd a b) (by omega)
    repeat first | refine ⟨rfl, ?_⟩ | refine And.intro (by first | omega | (dsimp only; omega)) ?_ | refine ifB_pos rfl ?_ | refine ifB_neg rfl ?_
    refine ⟨_, cg, ?_⟩
    refine ⟨_, cf, ?_⟩
    repeat first | refine ⟨rfl, ?_⟩ | refine And.intro (by first | omega | (dsimp only; omega)) ?_ | refine ifB_pos rfl ?_ | refine ifB_neg rfl ?_
    refine ⟨_, ca, ?_⟩
    repeat first | refine ⟨rfl, ?_⟩ | refine And.intro (by first | omega | (dsimp only; omega)) ?_ | refine ifB_pos rfl ?_ | refine ifB_neg rfl ?_
    refine ⟨_, cb, ?_⟩
    repeat first | refine ⟨rfl, ?_⟩ | refine And.intro (by first | omega | (dsimp only; omega)) ?_ | refine ifB_pos rfl ?_ | refine ifB_neg rfl ?_
    refine ⟨_, c2, ?_⟩
    refine ⟨_, c3, ?_⟩
    repeat first | refine ⟨rfl, ?_⟩ | refine And.intro (by first | omega | (dsimp only; omega)) ?_ | refine ifB_pos rfl ?_ | refine ifB_neg rfl ?_
    have hst := Bz.starts a hb0
    have la : blen b.natAbs ≤ 65598 := hb
    refine loop_blk 10 [aZ 0] ⟨true, 2, [.agg [.kf, .nils]], 0, false⟩ rfl (Lay.one ⟨⟨rfl, rfl⟩, rfl⟩) rfl (Les.agg1 (.cons .kf (.cons (.nils _ _) .nil))) ?_
    refine cut_loop 0 (fun s : Int × Int × Int => Bz a b s.1 0 s.2.1 s.2.2 ∧ 0 ≤ s.1) (fun s => [(2, .ref 2 0 0 0), (3, .ref 3 0 0 0), (4, .ref 4 0 0 0), (5, .ref 5 0 0 0), (6, .ref 6 0 0 0), (9, .ref 9 0 0 0)])
      (fun s => [(2, ⟨true, 2, [aZ a], 0, false⟩), (3, ⟨true, 2, [aZ b], 0, false⟩), (4, ⟨true, 2, [aZ (Int.gcd a b)], 0, false⟩), (5, ⟨true, 2, [.agg [.kf, .nils]], 0, false⟩), (6, ⟨true, 2, [.agg [.kf, .nils]], 0, false⟩), (9, ⟨true, 2, [aZ s.2.1], 0, false⟩)]) ?_ ?_
    · refine loop_fr [] (fun s : Int × Int × Int × Int => Bz a b s.1 s.2.1 s.2.2.1 s.2.2.2 ∧ 0 ≤ s.1 ∧ 0 ≤ s.2.1 ∧ s.1.natAbs ≤ max a.natAbs b.natAbs ∧ s.2.1.natAbs ≤ max a.natAbs b.natAbs) (fun s => s.2.1.natAbs)
        (fun s => [(2, .ref 2 0 0 0), (3, .ref 3 0 0 0), (4, .ref 4 0 0 0), (5, .ref 5 0 0 0), (6, .ref 6 0 0 0), (7, .ref 7 0 0 0), (8, .ref 8 0 0 0), (9, .ref 9 0 0 0), (10, .ref 10 0 0 0)])
        (fun s => [(2, ⟨true, 2, [aZ a], 0, false⟩), (3, ⟨true, 2, [aZ b], 0, false⟩), (4, ⟨true, 2, [aZ (Int.gcd a b)], 0, false⟩), (5, ⟨true, 2, [.agg [.kf, .nils]], 0, false⟩), (6, ⟨true, 2, [.agg [.kf, .nils]], 0, false⟩), (7, ⟨true, 2, [aZ s.1], 0, false⟩), (8, ⟨true, 2, [aZ s.2.1], 0, false⟩), (9, ⟨true, 2, [aZ s.2.2.1], 0, false⟩), (10, ⟨true, 2, [aZ s.2.2.2], 0, false⟩)])
        ((a.natAbs : Int), (b.natAbs : Int), a.sign, 0) ⟨hst, by first | omega | (dsimp only; omega), by first | omega | (dsimp only; omega), by first | omega | (dsimp only; omega), by first | omega | (dsimp only; omega)⟩ ⟨rfl, rfl, rfl, rfl, rfl, rfl, rfl, rfl, rfl, trivial⟩ ⟨rfl, rfl, rfl, rfl, rfl, rfl, rfl, rfl, rfl, trivial⟩ ?_
      rintro ⟨r, s, u, v⟩ g h w ⟨hz, hr0, hs0, hrb, hsb⟩
      dsimp only at hz hr0 hs0 hrb hsb
      have zb : blen (max a.natAbs b.natAbs) ≤ 65598 := by rcases Nat.le_total a.natAbs b.natAbs with h | h <;> simp only [Nat.max_eq_left, Nat.max_eq_right, h] <;> assumption
      have br := blen_mono hrb
      have bs := blen_mono hsb
      have d1 := Sign_ct s (by omega)
      repeat first | refine ⟨rfl, ?_⟩ | refine And.intro (by first | omega | (dsimp only; omega)) ?_ | refine ifB_pos rfl ?_ | refine ifB_neg rfl ?_
      refine ⟨_, d1, ?_⟩
      repeat first | refine ⟨rfl, ?_⟩ | refine And.intro (by first | omega | (dsimp only; omega)) ?_ | refine ifB_pos rfl ?_ | refine ifB_neg rfl ?_
      refine ⟨fun h3 => ?_, fun h3 => ?_⟩
      · have hs : s ≠ 0 := by rintro rfl; simp at h3
        have d2 := ZDiv_ct r s hs (by omega) (by omega)
        obtain ⟨n1, n2, n3⟩ := hz.step hs
        obtain ⟨f1, f2, f3, f4⟩ := fm_facts r hs
        have q0 : 0 ≤ r.fmod s := f3 (by omega)
        have qn : (r.fdiv s).natAbs ≤ r.natAbs := by
          have e1 : r.fdiv s = r / s := Int.fdiv_eq_ediv_of_nonneg _ hs0
          rw [e1]; exact Int.natAbs_ediv_le_natAbs _ _
        have bq := blen_mono qn
        have bv := blen_mono hz.vb
        have bu := blen_mono hz.ub
        have b2 := blen_times 2 b.natAbs
        have b22 : blen 2 = 2 := by decide
        have bnv := blen_mono n3
        have d3 := ZMul_ct (r.fdiv s) v (by omega) (by omega)
        have d4 := ZSub_ct u (r.fdiv s * v) (by omega) (by omega)
        repeat first | refine ⟨rfl, ?_⟩ | refine And.intro (by first | omega | (dsimp only; omega)) ?_ | refine ifB_pos rfl ?_ | refine ifB_neg rfl ?_
        refine ⟨_, d2, ?_⟩
        repeat first | refine ⟨rfl, ?_⟩ | refine And.intro (by first | omega | (dsimp only; omega)) ?_ | refine ifB_pos rfl ?_ | refine ifB_neg rfl ?_
        refine ⟨_, d3, ?_⟩
        refine ⟨_, d4, ?_⟩
        repeat first | refine ⟨rfl, ?_⟩ | refine And.intro (by first | omega | (dsimp only; omega)) ?_ | refine ifB_pos rfl ?_ | refine ifB_neg rfl ?_
        exact ⟨(s, r.fmod s, v, u - r.fdiv s * v), ⟨⟨n1, hs0, q0, hsb, by first | omega | (dsimp only; omega)⟩, by first | omega | (dsimp only; omega)⟩, ⟨rfl, rfl, rfl, rfl, rfl, rfl, rfl, rfl, rfl, trivial⟩, ⟨rfl, rfl, rfl, rfl, rfl, rfl, rfl, rfl, rfl, trivial⟩⟩
      · have hs : s = 0 := by
          have : (s.sign != 0) = false := h3
          simp at this; exact this
        subst hs
        repeat first | refine ⟨rfl, ?_⟩ | refine And.intro (by first | omega | (dsimp only; omega)) ?_ | refine ifB_pos rfl ?_ | refine ifB_neg rfl ?_
        exact ⟨(r, u, v), ⟨hz, hr0⟩, ⟨rfl, rfl, rfl, rfl, rfl, rfl, trivial⟩, ⟨rfl, rfl, rfl, rfl, rfl, rfl, trivial⟩⟩
    · rintro ⟨r, u, v⟩ g h w ⟨hz, hr0⟩
      dsimp only at hz hr0
      obtain ⟨k1, k2⟩ := hz.fin hb0 hr0 rfl
      have hbz := bez_eq k2
      rw [hbz]
      have e1 : ((b.natAbs : Int)).fdiv (Int.gcd a b : Int) = ((b.natAbs / Int.gcd a b : Nat) : Int) := (Int.ofNat_fdiv _ _).symm
      have e2 : (0 : Nat) < b.natAbs / Int.gcd a b := Nat.div_pos gle gpos
      have e3 : b.natAbs / Int.gcd a b ≤ b.natAbs := Nat.div_le_self _ _
      have b1 := blen_mono e3
      have bu := blen_mono hz.ub
      have d1 := ZDiv_ct (b.natAbs : Int) (Int.gcd a b : Int) (by omega) (by rw [Int.natAbs_natCast]; omega) (by rw [Int.natAbs_natCast]; omega)
      rw [e1] at d1
      have d2 := ZDiv_ct u ((b.natAbs / Int.gcd a b : Nat) : Int) (by omega) (by omega) (by rw [Int.natAbs_natCast]; omega)
      obtain ⟨x, hx⟩ : ∃ x, x = u.fmod ((b.natAbs / Int.gcd a b : Nat) : Int) := ⟨_, rfl⟩
      rw [← hx] at d2 k2 ⊢
      have x0 := k2.lo hb0
      have x1 : x.natAbs ≤ b.natAbs := by
        obtain ⟨_, f2, _, _⟩ := fm_facts u (s := ((b.natAbs / Int.gcd a b : Nat) : Int)) (by omega)
        rw [← hx] at f2
        omega
      have bx := blen_mono x1
      have m1 := blen_times a.natAbs x.natAbs
      rw [← Int.natAbs_mul] at m1
      have m2 := blen_add (Int.gcd a b) (a * x).natAbs
      have m3 : blen ((Int.gcd a b : Int) - a * x).natAbs ≤ blen (Int.gcd a b + (a * x).natAbs) := blen_mono (by omega)
      have d3 := ZMul_ct a x (by omega) (by omega)
      have d4 := ZSub_ct (Int.gcd a b : Int) (a * x) (by rw [Int.natAbs_natCast]; omega) (by omega)
      have d5 := ZDiv_ct ((Int.gcd a b : Int) - a * x) b hb0 (by omega) (by omega)
      repeat first | refine ⟨rfl, ?_⟩ | refine And.intro (by first | omega | (dsimp only; omega)) ?_ | refine ifB_pos rfl ?_ | refine ifB_neg rfl ?_
      refine ⟨_, cb, ?_⟩
      repeat first | refine ⟨rfl, ?_⟩ | refine And.intro (by first | omega | (dsimp only; omega)) ?_ | refine ifB_pos rfl ?_ | refine ifB_neg rfl ?_
      refine ⟨_, d1, ?_⟩
      repeat first | refine ⟨rfl, ?_⟩ | refine And.intro (by first | omega | (dsimp only; omega)) ?_ | refine ifB_pos rfl ?_ | refine ifB_neg rfl ?_
      refine ⟨_, d2, ?_⟩
      repeat first | refine ⟨rfl, ?_⟩ | refine And.intro (by first | omega | (dsimp only; omega)) ?_ | refine ifB_pos rfl ?_ | refine ifB_neg rfl ?_
      refine ⟨_, d3, ?_⟩
      refine ⟨_, d4, ?_⟩
      repeat first | refine ⟨rfl, ?_⟩ | refine And.intro (by first | omega | (dsimp only; omega)) ?_ | refine ifB_pos rfl ?_ | refine ifB_neg rfl ?_
      refine ⟨_, d5, ?_⟩
      repeat first | refine ⟨rfl, ?_⟩ | refine And.intro (by first | omega | (dsimp only; omega)) ?_ | refine ifB_pos rfl ?_ | refine ifB_neg rfl ?_
      exact ⟨_, rfl, .refl _⟩
end Go.Proofs.YtjafmphhnclfjaaDoor
