/- The document's numbers: held against one another, sums, differences, products. -/
import Derived.Test.YtjafmphhnclfjabGreatDoorRef1
import Derived.Test.YtjafmphhnclfjabGreatDoorNumM
set_option linter.all false
set_option linter.all false
namespace Go.Proofs.YtjafmphhnclfjabGreatDoor
open Go GoAbs Num
set_option maxRecDepth 100000
set_option maxHeartbeats 2000000

theorem ok_NatCmp : codeOk E Tryz.f15.ntmps (Tryz.f15.body.getD .skip) = true := by kernel_rfl
theorem NatCmp_ct (x y : Nat) (hx : blen x < 1099511627776) (hy : blen y < 1099511627776) : Ct E 15 [aR x, aR y] [] (iI (cmp x y)) [] := by
  refine Ct_of hE Tryz.func15 rfl rfl (by exact Nat.le_of_ble_eq_true rfl) ok_NatCmp ?_
  have hlx : (digs 4294967296 x).length < 1099511627776 := Nat.lt_of_le_of_lt (len32 x) hx
  have hly : (digs 4294967296 y).length < 1099511627776 := Nat.lt_of_le_of_lt (len32 y) hy
  have wx : (w32 (digs 4294967296 x)).length = (digs 4294967296 x).length := wk_len _ _
  have wy : (w32 (digs 4294967296 y)).length = (digs 4294967296 y).length := wk_len _ _
  refine ⟨fun h1 => ?_, fun h1 => ?_⟩
  · refine ⟨fun h2 => ?_, fun h2 => ?_⟩
    · have : x < y := digs_len_lt (B := 4294967296) (by decide) (by have := of_decide_eq_true h2; omega)
      exact ⟨_, rfl, .of_eq (by rw [cmp_lt this])⟩
    · have : y < x := digs_len_lt (B := 4294967296) (by decide) (by
        have := of_decide_eq_false h2
        have h1 : ((((w32 (digs 4294967296 x)).length : Nat) : Int) != (((w32 (digs 4294967296 y)).length : Nat) : Int)) = true := h1
        rw [wx, wy] at h1
        simp at h1
        omega)
      exact ⟨_, rfl, .of_eq (by rw [cmp_gt this])⟩
  · have hl : (digs 4294967296 x).length = (digs 4294967296 y).length := by
      have h1 : ((((w32 (digs 4294967296 x)).length : Nat) : Int) != (((w32 (digs 4294967296 y)).length : Nat) : Int)) = false := h1
      rw [wx, wy] at h1
      simp at h1; omega
    refine ⟨by omega, ?_⟩
    refine loop_fr [] (fun i : Nat => i ≤ (digs 4294967296 x).length ∧ (digs 4294967296 x).drop i = (digs 4294967296 y).drop i) (fun i => i)
      (fun i => [(0, aR x), (1, aR y), (5, .int .i64 (((i : Nat) : Int) - 1))]) (fun _ => [])
      (digs 4294967296 x).length ⟨Nat.le_refl _, ?_⟩ ⟨rfl, rfl, congrArg (AV.int .i64) (by omega), trivial⟩ trivial ?_
    · rw [List.drop_eq_nil_of_le (Nat.le_refl _), List.drop_eq_nil_of_le (by omega)]
    rintro i g h v ⟨hi, he⟩
    refine ⟨fun h2 => ?_, fun h2 => ?_⟩
    · obtain ⟨j, rfl⟩ : ∃ j, i = j + 1 := ⟨i - 1, by have := of_decide_eq_true h2; omega⟩
      have hj : ((j + 1 : Nat) : Int) - 1 = ((j : Nat) : Int) := by omega
      have hjx : j < (digs 4294967296 x).length := by omega
      have hjy : j < (digs 4294967296 y).length := by omega
      obtain ⟨a, ha⟩ : ∃ a, (digs 4294967296 x)[j]? = some a := ⟨_, List.getElem?_eq_getElem hjx⟩
      obtain ⟨b, hb⟩ : ∃ b, (digs 4294967296 y)[j]? = some b := ⟨_, List.getElem?_eq_getElem hjy⟩
      have nx : 0 ≤ ((j + 1 : Nat) : Int) - 1 ∧ ((j + 1 : Nat) : Int) - 1 < (w32 (digs 4294967296 x)).length := by omega
      have ny : 0 ≤ ((j + 1 : Nat) : Int) - 1 ∧ ((j + 1 : Nat) : Int) - 1 < (w32 (digs 4294967296 y)).length := by omega
      have lx : (w32 (digs 4294967296 x))[(((j + 1 : Nat) : Int) - 1).toNat]? = some (.int .u32 ((a : Nat) : Int)) := by rw [hj]; exact wk_get ha
      have ly : (w32 (digs 4294967296 y))[(((j + 1 : Nat) : Int) - 1).toNat]? = some (.int .u32 ((b : Nat) : Int)) := by rw [hj]; exact wk_get hb
      refine ⟨nx, ⟨_, lx, ?_⟩⟩
      refine ⟨ny, ⟨_, ly, ?_⟩⟩
      refine ⟨fun h3 => ?_, fun h3 => ?_⟩
      · have hne : a ≠ b := by rintro rfl; simp at h3
        refine ⟨nx, ⟨_, lx, ?_⟩⟩
        refine ⟨ny, ⟨_, ly, ?_⟩⟩
        refine ⟨fun h4 => ?_, fun h4 => ?_⟩
        · have hab : a < b := Int.ofNat_lt.1 (of_decide_eq_true h4)
          exact ⟨_, rfl, .of_eq (by rw [cmp_lt (digs_less (by decide) ha hb he hab)])⟩
        · have hab : b < a := by
            have : ¬ a < b := fun hc => of_decide_eq_false h4 (Int.ofNat_lt.2 hc)
            omega
          exact ⟨_, rfl, .of_eq (by rw [cmp_gt (digs_less (by decide) hb ha he.symm hab)])⟩
      · have hab : a = b := by simp at h3; omega
        subst hab
        refine ⟨by omega, ?_⟩
        exact ⟨j, ⟨⟨by omega, drop_step ha hb he⟩, by omega⟩, ⟨rfl, rfl, congrArg (AV.int .i64) (by omega), trivial⟩, trivial⟩
    · have hi0 : i = 0 := by have := of_decide_eq_false h2; omega
      subst hi0
      have hxy : x = y := digs_inj (B := 4294967296) (by decide) he
      exact ⟨_, rfl, .of_eq (by rw [cmp_eq hxy])⟩

theorem ok_NatOf : codeOk E Tryz.f58.ntmps (Tryz.f58.body.getD .skip) = true := by kernel_rfl
theorem NatOf_ct (n : Nat) (hn : n < 18446744073709551616) : Ct E 58 [iU n] [] (aR n) [] := by
  refine Ct_of hE Tryz.func58 rfl rfl (by exact Nat.le_of_ble_eq_true rfl) ok_NatOf ?_
  have e1 : IntKind.u32.wrap ((n : Nat) : Int) = ((n % 4294967296 : Nat) : Int) := low32 rfl
  have e2 : IntKind.u32.wrap (((n : Nat) : Int).fdiv (2 ^ min (Int.toNat 32) IntKind.u64.bits)) = ((n / 4294967296 : Nat) : Int) := by
    rw [hi32 rfl, low32 rfl]; omega
  have c := rtrim_ct [n % 4294967296, n / 4294967296] (.cons (by omega) (.cons (by omega) (.nil _))) (by simp)
  have hv : val 4294967296 [n % 4294967296, n / 4294967296] = n := by simp [val]; omega
  rw [hv] at c
  refine ⟨by decide, ?_⟩
  refine ⟨_, _, rfl, ?_⟩
  refine ⟨_, c.eq (cons_eq (congrArg (AV.imm false 1) (cons_eq (congrArg (AV.int .u32) e1) (cons_eq (congrArg (AV.int .u32) e2) rfl))) rfl), ?_⟩
  exact ⟨_, rfl, .refl _⟩

theorem ok_at : codeOk E Tryz.f50.ntmps (Tryz.f50.body.getD .skip) = true := by kernel_rfl
theorem at_ct (l : List Nat) (i : Nat) (hs : Small 4294967296 l) : Ct E 50 [.imm false 1 (w32 l), iI i] [] (iU (l.getD i 0)) [] := by
  refine Ct_of hE Tryz.func50 rfl rfl (by exact Nat.le_of_ble_eq_true rfl) ok_at ?_
  have hll : (w32 l).length = l.length := wk_len _ _
  refine ⟨fun h1 => ?_, fun h1 => ?_⟩
  · have hi : i < l.length := by have := of_decide_eq_true h1; omega
    obtain ⟨a, ha⟩ : ∃ a, l[i]? = some a := ⟨_, List.getElem?_eq_getElem hi⟩
    refine ⟨by omega, ?_⟩
    refine ⟨_, wk_get ha, ?_⟩
    have := hs.get ha
    exact ⟨_, rfl, .of_eq (by rw [getD_some ha]; exact congrArg (AV.int .u64) (wU rfl (by omega)))⟩
  · have hi : ¬ i < l.length := by have := of_decide_eq_false h1; omega
    refine ⟨_, rfl, .of_eq ?_⟩
    rw [List.getD_eq_getElem?_getD, List.getElem?_eq_none (by omega)]; rfl

theorem ok_NatAdd : codeOk E Tryz.f11.ntmps (Tryz.f11.body.getD .skip) = true := by kernel_rfl
theorem NatAdd_ct (x y : Nat) (hx : blen x < 1099511627776) (hy : blen y < 1099511627776) : Ct E 11 [aR x, aR y] [] (aR (x + y)) [] := by
  refine Ct_of hE Tryz.func11 rfl rfl (by exact Nat.le_of_ble_eq_true rfl) ok_NatAdd ?_
  have hlx : (digs 4294967296 x).length < 1099511627776 := Nat.lt_of_le_of_lt (len32 x) hx
  have hly : (digs 4294967296 y).length < 1099511627776 := Nat.lt_of_le_of_lt (len32 y) hy
  have sP := digs_small (B := 4294967296) (by decide) x
  have sQ := digs_small (B := 4294967296) (by decide) y
  have vP := digs_val (B := 4294967296) (by decide) x
  have vQ := digs_val (B := 4294967296) (by decide) y
  have bP := digs_lt (B := 4294967296) (by decide) x
  have bQ := digs_lt (B := 4294967296) (by decide) y
  unfold aR
  generalize digs 4294967296 x = P at *
  generalize digs 4294967296 y = Q at *
  have wx : (w32 P).length = P.length := wk_len _ _
  have wy : (w32 Q).length = Q.length := wk_len _ _
  obtain ⟨n, hn⟩ : ∃ n, n = max P.length Q.length := ⟨_, rfl⟩
  have em : (if (((w32 Q).length : Nat) : Int) > (((w32 P).length : Nat) : Int) then (((w32 Q).length : Nat) : Int) else (((w32 P).length : Nat) : Int)) = ((n : Nat) : Int) := by
    rw [wx, wy, hn]; split <;> omega
  refine ⟨by rw [em]; omega, ?_⟩
  refine ⟨by rw [em]; dsimp only; omega, ?_⟩
  have eT : ((if (((w32 Q).length : Nat) : Int) > (((w32 P).length : Nat) : Int) then (((w32 Q).length : Nat) : Int) else (((w32 P).length : Nat) : Int)) + 1).toNat = n + 1 := by rw [em]; rfl
  have hblk : (⟨false, 1, List.replicate ((if (((w32 Q).length : Nat) : Int) > (((w32 P).length : Nat) : Int) then (((w32 Q).length : Nat) : Int) else (((w32 P).length : Nat) : Int)) + 1).toNat (.int .u32 0), 0, true⟩ : Blk) = ⟨false, 1, w32 (List.replicate (n + 1) 0), 0, true⟩ := by
    rw [eT]; exact congrArg (fun l => (⟨false, 1, l, 0, true⟩ : Blk)) (wk_rep .u32 _)
  refine loop_fr [] (fun q : Nat × Nat × List Nat => q.1 ≤ n + 1 ∧ q.2.1 ≤ 1 ∧ q.2.2.length = n + 1 ∧ Small 4294967296 q.2.2 ∧ val 4294967296 (q.2.2.take q.1) + 4294967296 ^ q.1 * q.2.1 = val 4294967296 (P.take q.1) + val 4294967296 (Q.take q.1))
    (fun q => n + 1 - q.1)
    (fun q => [(0, .imm false 1 (w32 P)), (1, .imm false 1 (w32 Q)), (5, iI n), (6, .own 16 0 1 0 (n + 1)), (7, iU q.2.1), (8, iI q.1)])
    (fun q => [(16, ⟨false, 1, w32 q.2.2, 0, true⟩)])
    (0, 0, List.replicate (n + 1) 0) ⟨Nat.zero_le _, Nat.zero_le _, List.length_replicate, .rep (by decide) _, rfl⟩ ⟨rfl, rfl, congrArg (AV.int .i64) em, own_eq rfl eT, rfl, rfl, trivial⟩ ⟨congrArg some hblk, trivial⟩ ?_
  rintro ⟨i, c, out⟩ g h v ⟨hi, hc, hol, hos, hval⟩
  dsimp only at hi hc hol hos hval
  refine ⟨fun h2 => ?_, fun h2 => ?_⟩
  · have hin : i ≤ n := by have := of_decide_eq_true h2; dsimp only at this; omega
    have a1 := at_ct P i sP
    have a2 := at_ct Q i sQ
    have p1 := sP.getD (by decide) i
    have p2 := sQ.getD (by decide) i
    have t1 := val_take_getD 4294967296 P i
    have t2 := val_take_getD 4294967296 Q i
    generalize P.getD i 0 = a at *
    generalize Q.getD i 0 = b at *
    refine ⟨_, a1, ?_⟩
    refine ⟨_, a2, ?_⟩
    have ec : IntKind.u64.wrap (IntKind.u64.wrap (((c : Nat) : Int) + ((a : Nat) : Int)) + ((b : Nat) : Int)) = ((c + a + b : Nat) : Int) := by
      have e1 : IntKind.u64.wrap (((c : Nat) : Int) + ((a : Nat) : Int)) = ((c + a : Nat) : Int) := wU rfl (by omega)
      rw [e1]; exact wU rfl (by omega)
    have el := low32 ec
    have eh := hi32 ec
    refine ⟨by omega, ?_⟩
    refine ⟨rfl, ?_⟩
    have hio : i < out.length := by omega
    refine ⟨wk_in0 hio, ?_⟩
    refine ⟨by decide, ?_⟩
    refine ⟨by dsimp only; omega, ?_⟩
    refine ⟨(i + 1, (c + a + b) / 4294967296, out.set i ((c + a + b) % 4294967296)), ⟨⟨by omega, by dsimp only; omega, by rw [List.length_set]; exact hol, hos.set (by omega), ?_⟩, by dsimp only; omega⟩, ⟨rfl, rfl, rfl, rfl, congrArg (AV.int .u64) eh, rfl, trivial⟩, ⟨?_, trivial⟩⟩
    · dsimp only
      rw [val_set_take hio, t1, t2, Nat.pow_succ]
      have := Nat.div_add_mod (c + a + b) 4294967296
      generalize (c + a + b) / 4294967296 = u at *
      generalize (c + a + b) % 4294967296 = w at *
      generalize 4294967296 ^ i = X at *
      have e : X * w + X * 4294967296 * u = X * (c + a + b) := by rw [← this]; grind
      grind
    · refine congrArg (fun l => some (⟨false, 1, l, 0, true⟩ : Blk)) ((congrArg (fun z => (w32 out).set (0 + ((i : Nat) : Int).toNat) (AV.int .u32 z)) el).trans (wk_set0 ..))
  · have hin : i = n + 1 := by have := of_decide_eq_false h2; dsimp only at this; omega
    subst hin
    rw [List.take_of_length_le (by omega), List.take_of_length_le (by omega), List.take_of_length_le (by omega), vP, vQ] at hval
    have hc0 : c = 0 := by
      have b1 : 4294967296 ^ P.length ≤ 4294967296 ^ n := Nat.pow_le_pow_right (by decide) (by omega)
      have b2 : 4294967296 ^ Q.length ≤ 4294967296 ^ n := Nat.pow_le_pow_right (by decide) (by omega)
      rw [Nat.pow_succ] at hval
      generalize 4294967296 ^ P.length = X at *
      generalize 4294967296 ^ Q.length = Y at *
      generalize 4294967296 ^ n = Z at *
      rcases Nat.eq_zero_or_pos c with h0 | h0
      · exact h0
      · have : c = 1 := by omega
        subst this
        omega
    subst hc0
    have ev : val 4294967296 out = x + y := by rw [← hval, Nat.mul_zero, Nat.add_zero]
    have ct := rtrim_ct out hos (by omega)
    rw [ev] at ct
    refine ⟨_, _, rfl, ?_⟩
    refine ⟨_, ct.eq (cons_eq ?_ rfl), ?_⟩
    · show AV.imm false 1 (((w32 out).drop 0).take (n + 1)) = _
      rw [List.drop_zero, List.take_of_length_le (by rw [wk_len]; omega)]
    exact ⟨_, rfl, .refl _⟩
end Go.Proofs.YtjafmphhnclfjabGreatDoor
