/- Package whole: the greatest that divides both. -/
import Derived.Test.YtjafmphhnclfjaaDoorWho2
import Derived.Test.YtjafmphhnclfjaaDoorNumL
set_option linter.all false
set_option linter.all false
namespace Go.Proofs.YtjafmphhnclfjaaDoor
open Go GoAbs Num
set_option maxRecDepth 100000
set_option maxHeartbeats 2000000

theorem Small_e (x : Nat) : Ct E 35 [aN x] [] (.tup [iU (if x < 18446744073709551616 then x else 0), .bool (decide (x < 18446744073709551616))]) [] := up (Small_ct x)
theorem ok_words : codeOk E Tryd.f48.ntmps (Tryd.f48.body.getD .skip) = true := by kernel_rfl
theorem words_ct (a b : Nat) (ha : a < 18446744073709551616) (hb : b < 18446744073709551616) : Ct E 48 [iU a, iU b] [] (iU (Nat.gcd a b)) [] := by
  refine Ct_of hE Tryd.func48 rfl rfl (by exact Nat.le_of_ble_eq_true rfl) ok_words ?_
  refine loop_fr [] (fun q : Nat × Nat => Nat.gcd q.1 q.2 = Nat.gcd a b) (fun q => q.2) (fun q => [(0, iU q.1), (1, iU q.2)]) (fun _ => []) (a, b) rfl ⟨rfl, rfl, trivial⟩ trivial ?_
  rintro ⟨x, y⟩ g h v hg
  dsimp only at hg
  refine ⟨fun h1 => ?_, fun h1 => ?_⟩
  · have hy : y ≠ 0 := by rintro rfl; simp at h1
    refine ⟨by first | omega | (dsimp only; omega), ?_⟩
    refine ⟨(y, x % y), ⟨by dsimp only; rw [← hg, Nat.gcd_comm x y, Nat.gcd_rec y x, Nat.gcd_comm], by dsimp only; exact Nat.mod_lt _ (by omega)⟩, ⟨rfl, rfl, trivial⟩, trivial⟩
  · have hy : y = 0 := by
      have : (((y : Nat) : Int) != 0) = false := h1
      simp at this; exact this
    subst hy
    rw [Nat.gcd_zero_right] at hg
    exact ⟨_, rfl, .of_eq (by rw [hg])⟩

theorem ok_top : codeOk E Tryd.f73.ntmps (Tryd.f73.body.getD .skip) = true := by kernel_rfl
theorem top_ct (x k : Nat) (hk : k ≠ 0) (hk2 : k ≤ 65536) (hx : blen x < 1099511627776) (hs : x / 2 ^ k < 9223372036854775808) : Ct E 73 [aN x, iI k] [] (iI ((x / 2 ^ k : Nat) : Int)) [] := by
  refine Ct_of hE Tryd.func73 rfl rfl (by exact Nat.le_of_ble_eq_true rfl) ok_top ?_
  have c := Shift_down x k hk hx
  rw [Nat.min_eq_left hk2] at c
  have c2 := Small_e (x / 2 ^ k)
  rw [if_pos (by omega)] at c2
  refine ⟨rfl, ?_⟩
  refine ⟨by omega, ?_⟩
  refine ⟨_, c.eq (cons_eq rfl (cons_eq (congrArg (AV.int .i64) (by omega)) rfl)), ?_⟩
  refine ⟨_, c2, ?_⟩
  generalize x / 2 ^ k = t at *
  exact ⟨_, rfl, .of_eq (congrArg (AV.int .i64) (wrapI (by omega) (by omega)))⟩

theorem ok_mixed : codeOk E Tryd.f74.ntmps (Tryd.f74.body.getD .skip) = true := by kernel_rfl
theorem mixed_ct (p q : Int) (x y : Nat) (hp : -4611686018427387904 ≤ p ∧ p ≤ 4611686018427387904) (hq : -4611686018427387904 ≤ q ∧ q ≤ 4611686018427387904) (hx : blen x < 137438953472) (hy : blen y < 137438953472) :
    Ct E 74 [iI p, aN x, iI q, aN y] [] (aN (p * x + q * y).natAbs) [] := by
  refine Ct_of hE Tryd.func74 rfl rfl (by exact Nat.le_of_ble_eq_true rfl) ok_mixed ?_
  have bp : blen p.natAbs ≤ 63 := blen_le (n := 63) (by omega)
  have bq : blen q.natAbs ≤ 63 := blen_le (n := 63) (by omega)
  have m1 := blen_times p.natAbs x
  have m2 := blen_times q.natAbs y
  have e1 : (p * ((x : Nat) : Int)).natAbs = p.natAbs * x := by rw [Int.natAbs_mul, Int.natAbs_natCast]
  have e2 : (q * ((y : Nat) : Int)).natAbs = q.natAbs * y := by rw [Int.natAbs_mul, Int.natAbs_natCast]
  have c1 := ZOf_ct p (by omega) (by omega)
  have c2 := ZOf_ct q (by omega) (by omega)
  have f1 := From_f x (by omega)
  have f2 := From_f y (by omega)
  have k1 := ZMul_ct p ((x : Nat) : Int) (by omega) (by rw [Int.natAbs_natCast]; omega)
  have k2 := ZMul_ct q ((y : Nat) : Int) (by omega) (by rw [Int.natAbs_natCast]; omega)
  have k3 := ZAdd_ct (p * ((x : Nat) : Int)) (q * ((y : Nat) : Int)) (by rw [e1]; omega) (by rw [e2]; omega)
  refine ⟨_, c1, ?_⟩
  repeat refine ⟨rfl, ?_⟩
  refine ⟨_, f1, ?_⟩
  refine ⟨_, k1, ?_⟩
  refine ⟨_, c2, ?_⟩
  repeat refine ⟨rfl, ?_⟩
  refine ⟨_, f2, ?_⟩
  refine ⟨_, k2, ?_⟩
  refine ⟨_, k3, ?_⟩
  repeat refine ⟨rfl, ?_⟩
  exact ⟨_, rfl, .refl _⟩

theorem ok_nearer : codeOk E Tryd.f49.ntmps (Tryd.f49.body.getD .skip) = true := by kernel_rfl
/-- The step that several steps of division make. -/
theorem nearer_ct (x y : Nat) (hxy : y ≤ x) (hy : 18446744073709551616 ≤ y) (hx : blen x ≤ 65598) :
    Ct E 49 [aN x, aN y] [] (.tup [aN (lzU x y), aN (lzV x y)]) [] := by
  refine Ct_of hE Tryd.func49 rfl rfl (by exact Nat.le_of_ble_eq_true rfl) ok_nearer ?_
  obtain ⟨w, hk3⟩ := lz_start hxy hy
  have hyx := blen_mono hxy
  have hend : lzEnd x y = Ls.run (y + 1) ⟨((x / 2 ^ (blen x - 62) : Nat) : Int), ((y / 2 ^ (blen x - 62) : Nat) : Int), 1, 0, 0, 1⟩ := rfl
  have hok := Ls.run_ok w (y + 1) (s := ⟨((x / 2 ^ (blen x - 62) : Nat) : Int), ((y / 2 ^ (blen x - 62) : Nat) : Int), 1, 0, 0, 1⟩) (Lz.init w)
  rw [← hend] at hok
  have hinit : Ls.ok _ _ _ _ _ _ _ _ ⟨((x / 2 ^ (blen x - 62) : Nat) : Int), ((y / 2 ^ (blen x - 62) : Nat) : Int), 1, 0, 0, 1⟩ := Lz.init w
  have hdiv := Div_ct x y (by omega) (by omega) (by omega)
  have tx := w.aK
  have ty := w.bK
  obtain ⟨k, hk⟩ : ∃ k, k = blen x - 62 := ⟨_, rfl⟩
  rw [← hk] at hend hok hinit w tx ty hk3
  have c1 := top_ct x k (by omega) (by omega) (by omega) (by omega)
  have c2 := top_ct y k (by omega) (by omega) (by omega) (by omega)
  have ek : ((blen x : Nat) : Int) - 62 = ((k : Nat) : Int) := by omega
  obtain ⟨a0, ha0⟩ : ∃ a0, a0 = ((x / 2 ^ k : Nat) : Int) := ⟨_, rfl⟩
  obtain ⟨b0, hb0⟩ : ∃ b0, b0 = ((y / 2 ^ k : Nat) : Int) := ⟨_, rfl⟩
  rw [← ha0] at c1
  rw [← hb0] at c2
  rw [← ha0, ← hb0] at hend hok hinit w
  repeat refine ⟨rfl, ?_⟩
  refine ⟨_, Bits_e x (by omega), ?_⟩
  refine ⟨by omega, ?_⟩
  repeat refine ⟨rfl, ?_⟩
  refine ⟨_, c1.eq (cons_eq rfl (cons_eq (congrArg (AV.int .i64) ek) rfl)), ?_⟩
  repeat refine ⟨rfl, ?_⟩
  refine ⟨_, c2.eq (cons_eq rfl (cons_eq (congrArg (AV.int .i64) ek) rfl)), ?_⟩
  repeat refine ⟨rfl, ?_⟩
  refine cut_loop 0 (fun s : Ls => s = lzEnd x y) (fun s => [(2, .ref 2 0 0 0), (3, .ref 3 0 0 0), (4, .ref 4 0 0 0), (5, .ref 5 0 0 0), (6, iI k), (9, .ref 9 0 0 0)])
    (fun s => [(2, ⟨true, 1, [aN x], 0, false⟩), (3, ⟨true, 1, [aN y], 0, false⟩), (4, ⟨true, 1, [.agg [.nils]], 0, false⟩), (5, ⟨true, 1, [.agg [.nils]], 0, false⟩), (9, ⟨true, 4, [.agg [iI s.m0, iI s.m1, iI s.m2, iI s.m3]], 0, false⟩)]) ?_ ?_
  · refine loop_fr [] (fun s : Ls => s.ok 4611686018427387903 ((2 ^ k : Nat) : Int) (x : Int) (y : Int) ((x % 2 ^ k : Nat) : Int) ((y % 2 ^ k : Nat) : Int) a0 b0 ∧ ∃ j : Nat, s.v x y < j ∧ s.run j = lzEnd x y) (fun s => (s.v x y).toNat)
      (fun s => [(2, .ref 2 0 0 0), (3, .ref 3 0 0 0), (4, .ref 4 0 0 0), (5, .ref 5 0 0 0), (6, iI k), (7, iI s.a), (8, iI s.b), (9, .ref 9 0 0 0)])
      (fun s => [(2, ⟨true, 1, [aN x], 0, false⟩), (3, ⟨true, 1, [aN y], 0, false⟩), (4, ⟨true, 1, [.agg [.nils]], 0, false⟩), (5, ⟨true, 1, [.agg [.nils]], 0, false⟩), (9, ⟨true, 4, [.agg [iI s.m0, iI s.m1, iI s.m2, iI s.m3]], 0, false⟩)])
      ⟨a0, b0, 1, 0, 0, 1⟩ ⟨hinit, y + 1, by simp [Ls.v]; omega, hend.symm⟩ ⟨rfl, rfl, rfl, rfl, congrArg (AV.int .i64) ek, rfl, rfl, rfl, trivial⟩ ⟨rfl, rfl, rfl, rfl, rfl, trivial⟩ ?_
    rintro s g h v ⟨hs, j, hj, hrun⟩
    obtain ⟨⟨r1, r2⟩, ⟨r3, r4⟩, ⟨r5, r6⟩, ⟨r7, r8⟩, ⟨r9, r10⟩, ⟨r11, r12⟩, r13, r14, r15, r16⟩ := Lz.ranges hs
    have out : ¬ s.go → s = lzEnd x y := fun hg => by rw [← hrun, Ls.stop _ hg]
    have v0 : 0 ≤ s.v x y := hs.V0
    repeat first | refine ⟨rfl, ?_⟩ | refine And.intro (by first | omega | (dsimp only; omega)) ?_ | refine ifB_pos rfl ?_ | refine ifB_neg rfl ?_
    refine ⟨fun h1 => ?_, fun h1 => ?_⟩
    · have d1 : s.b + s.m2 ≠ 0 := by intro h0; rw [h0] at h1; simp at h1
      repeat first | refine ifB_pos h1 ?_ | refine ⟨rfl, ?_⟩ | refine And.intro (by first | omega | (dsimp only; omega)) ?_ | refine ifB_pos rfl ?_ | refine ifB_neg rfl ?_
      refine ⟨fun h2 => ?_, fun h2 => ?_⟩
      · have d2 : s.b + s.m3 ≠ 0 := by intro h0; rw [h0] at h2; simp at h2
        have n1 : s.n = (s.a + s.m0).tdiv (s.b + s.m2) := rfl
        have q1 : 0 ≤ (s.a + s.m0).tdiv (s.b + s.m2) := Int.tdiv_nonneg r13 r15
        have q2 : 0 ≤ (s.a + s.m1).tdiv (s.b + s.m3) := Int.tdiv_nonneg r14 r16
        have q3 : (s.a + s.m0).tdiv (s.b + s.m2) ≤ s.a + s.m0 := Int.tdiv_le_self _ r13
        have q4 : (s.a + s.m1).tdiv (s.b + s.m3) ≤ s.a + s.m1 := Int.tdiv_le_self _ r14
        repeat first | refine ⟨rfl, ?_⟩ | refine And.intro (by first | omega | (dsimp only; omega)) ?_ | refine ifB_pos rfl ?_ | refine ifB_neg rfl ?_
        refine ⟨fun h3 => ?_, fun h3 => ?_⟩
        · have hg : ¬ s.go := fun hg => by
            have := hg.2.2
            rw [n1] at this
            rw [this] at h3; simp at h3
          exact ⟨rfl, s, out hg, ⟨rfl, rfl, rfl, rfl, rfl, rfl, trivial⟩, ⟨rfl, rfl, rfl, rfl, rfl, trivial⟩⟩
        · have hg : s.go := ⟨d1, d2, by rw [n1]; simpa using h3⟩
          obtain ⟨t1, ⟨t2, t3⟩, ⟨t4, t5⟩, ⟨t6, t7⟩, t8⟩ := Ls.next w hs hg
          have v1 : 0 ≤ s.step.v x y := t1.V0
          have t1' := Lz.ranges t1
          obtain ⟨⟨_, _⟩, ⟨u1, u2⟩, _, _, ⟨u3, u4⟩, ⟨u5, u6⟩, _⟩ := t1'
          simp only [Ls.step] at u1 u2 u3 u4 u5 u6
          rw [n1] at t2 t3 t4 t5 t6 t7 u1 u2 u3 u4 u5 u6
          repeat first | refine ⟨rfl, ?_⟩ | refine And.intro (by first | omega | (dsimp only; omega)) ?_ | refine ifB_pos rfl ?_ | refine ifB_neg rfl ?_
          refine ⟨s.step, ⟨⟨t1, j - 1, by omega, ?_⟩, by omega⟩, ⟨rfl, rfl, rfl, rfl, rfl, rfl, rfl, rfl, trivial⟩, ⟨rfl, rfl, rfl, rfl, rfl, trivial⟩⟩
          obtain ⟨i, rfl⟩ : ∃ i, j = i + 1 := ⟨j - 1, by omega⟩
          rw [← hrun]
          show _ = (if s.go then Ls.run i s.step else s)
          rw [if_pos hg]
          rfl
      · have d2 : s.b + s.m3 = 0 := by simpa using h2
        have hg : ¬ s.go := fun hg => hg.2.1 d2
        repeat first | refine ifB_neg h2 ?_ | refine ⟨rfl, ?_⟩ | refine And.intro (by first | omega | (dsimp only; omega)) ?_ | refine ifB_pos rfl ?_ | refine ifB_neg rfl ?_
        exact ⟨s, out hg, ⟨rfl, rfl, rfl, rfl, rfl, rfl, trivial⟩, ⟨rfl, rfl, rfl, rfl, rfl, trivial⟩⟩
    · have d1 : s.b + s.m2 = 0 := by simpa using h1
      have hg : ¬ s.go := fun hg => hg.1 d1
      repeat first | refine ifB_neg h1 ?_ | refine ⟨rfl, ?_⟩ | refine And.intro (by first | omega | (dsimp only; omega)) ?_ | refine ifB_pos rfl ?_ | refine ifB_neg rfl ?_
      exact ⟨s, out hg, ⟨rfl, rfl, rfl, rfl, rfl, rfl, trivial⟩, ⟨rfl, rfl, rfl, rfl, rfl, trivial⟩⟩
  · rintro s g h v rfl
    obtain ⟨⟨r1, r2⟩, ⟨r3, r4⟩, ⟨r5, r6⟩, ⟨r7, r8⟩, ⟨r9, r10⟩, ⟨r11, r12⟩, r13, r14, r15, r16⟩ := Lz.ranges hok
    have ke : ¬ ((k : Nat) : Int) > 65536 := by omega
    unfold lzU lzV
    generalize lzEnd x y = s at *
    have cm1 := mixed_ct s.m0 s.m1 x y (by omega) (by omega) (by omega) (by omega)
    have cm2 := mixed_ct s.m2 s.m3 x y (by omega) (by omega) (by omega) (by omega)
    repeat first | refine ⟨rfl, ?_⟩ | refine And.intro (by first | omega | (dsimp only; omega)) ?_ | refine ifB_pos rfl ?_ | refine ifB_neg rfl ?_
    refine ⟨fun h1 => ?_, fun h1 => ?_⟩
    · have e1 : s.m1 = 0 := by simpa using h1
      rw [if_pos e1, if_pos e1]
      repeat first | refine ifB_pos h1 ?_ | refine ⟨rfl, ?_⟩ | refine And.intro (by first | omega | (dsimp only; omega)) ?_ | refine ifB_pos rfl ?_ | refine ifB_neg rfl ?_
      refine ⟨_, hdiv, ?_⟩
      repeat first | refine ⟨rfl, ?_⟩ | refine And.intro (by first | omega | (dsimp only; omega)) ?_ | refine ifB_pos rfl ?_ | refine ifB_neg rfl ?_
      exact ⟨_, rfl, .refl _⟩
    · have e1 : ¬ s.m1 = 0 := by intro h0; rw [h0] at h1; simp at h1
      have hd : decide (((k : Nat) : Int) > 65536) = false := decide_eq_false ke
      rw [if_neg e1, if_neg e1]
      repeat first | refine ifB_neg h1 ?_ | refine ifB_neg hd ?_ | refine ⟨rfl, ?_⟩ | refine And.intro (by first | omega | (dsimp only; omega)) ?_ | refine ifB_pos rfl ?_ | refine ifB_neg rfl ?_
      refine ⟨_, cm1, ?_⟩
      repeat first | refine ⟨rfl, ?_⟩ | refine And.intro (by first | omega | (dsimp only; omega)) ?_ | refine ifB_pos rfl ?_ | refine ifB_neg rfl ?_
      refine ⟨_, cm2, ?_⟩
      repeat first | refine ⟨rfl, ?_⟩ | refine And.intro (by first | omega | (dsimp only; omega)) ?_ | refine ifB_pos rfl ?_ | refine ifB_neg rfl ?_
      exact ⟨_, rfl, .refl _⟩
end Go.Proofs.YtjafmphhnclfjaaDoor
