/- The document's numbers: differences, products. -/
import Derived.Test.YtjafmphhnclfjabGreatDoorRef2
set_option linter.all false
set_option linter.all false
namespace Go.Proofs.YtjafmphhnclfjabGreatDoor
open Go GoAbs Num
set_option maxRecDepth 100000
set_option maxHeartbeats 2000000

theorem ok_NatSub : codeOk E Tryz.f17.ntmps (Tryz.f17.body.getD .skip) = true := by kernel_rfl
theorem NatSub_ct (x y : Nat) (hx : blen x < 1099511627776) (hge : y ≤ x) : Ct E 17 [aR x, aR y] [] (aR (x - y)) [] := by
  refine Ct_of hE Tryz.func17 rfl rfl (by exact Nat.le_of_ble_eq_true rfl) ok_NatSub ?_
  have hlx : (digs 4294967296 x).length < 1099511627776 := Nat.lt_of_le_of_lt (len32 x) hx
  have hle : (digs 4294967296 y).length ≤ (digs 4294967296 x).length := digs_len_mono (by decide) hge
  have sP := digs_small (B := 4294967296) (by decide) x
  have sQ := digs_small (B := 4294967296) (by decide) y
  have vP := digs_val (B := 4294967296) (by decide) x
  have vQ := digs_val (B := 4294967296) (by decide) y
  unfold aR
  generalize digs 4294967296 x = P at *
  generalize digs 4294967296 y = Q at *
  have wx : (w32 P).length = P.length := wk_len _ _
  have wy : (w32 Q).length = Q.length := wk_len _ _
  refine ⟨by rw [wx]; dsimp only; omega, ?_⟩
  have hblk : (⟨false, 1, List.replicate (((w32 P).length : Nat) : Int).toNat (.int .u32 0), 0, true⟩ : Blk) = ⟨false, 1, w32 (List.replicate P.length 0), 0, true⟩ := by
    rw [wx]; exact congrArg (fun l => (⟨false, 1, l, 0, true⟩ : Blk)) (wk_rep .u32 _)
  refine loop_fr [] (fun q : Nat × Nat × List Nat => q.1 ≤ P.length ∧ q.2.1 ≤ 1 ∧ q.2.2.length = P.length ∧ Small 4294967296 q.2.2 ∧ val 4294967296 (q.2.2.take q.1) + val 4294967296 (Q.take q.1) = val 4294967296 (P.take q.1) + 4294967296 ^ q.1 * q.2.1)
    (fun q => P.length - q.1)
    (fun q => [(0, .imm false 1 (w32 P)), (1, .imm false 1 (w32 Q)), (5, .own 11 0 1 0 P.length), (6, iU q.2.1), (7, iI q.1)])
    (fun q => [(11, ⟨false, 1, w32 q.2.2, 0, true⟩)])
    (0, 0, List.replicate P.length 0) ⟨Nat.zero_le _, Nat.zero_le _, List.length_replicate, .rep (by decide) _, rfl⟩ ⟨rfl, rfl, own_eq rfl (by rw [wx]; rfl), rfl, rfl, trivial⟩ ⟨congrArg some hblk, trivial⟩ ?_
  rintro ⟨i, c, out⟩ g h v ⟨hi, hc, hol, hos, hval⟩
  dsimp only at hi hc hol hos hval
  refine ⟨fun h2 => ?_, fun h2 => ?_⟩
  · have hin : i < P.length := by have := of_decide_eq_true h2; dsimp only at this; omega
    have a2 := at_ct Q i sQ
    have p2 := sQ.getD (by decide) i
    have t2 := val_take_getD 4294967296 Q i
    obtain ⟨a, ha⟩ : ∃ a, P[i]? = some a := ⟨_, List.getElem?_eq_getElem hin⟩
    have p1 := sP.get ha
    have t1 := val_take_succ (B := 4294967296) ha
    generalize Q.getD i 0 = b at *
    refine ⟨by dsimp only; omega, ?_⟩
    refine ⟨_, wk_get ha, ?_⟩
    refine ⟨_, a2, ?_⟩
    have e0 : IntKind.u64.wrap ((a : Nat) : Int) = ((a : Nat) : Int) := wU rfl (by omega)
    have ec := sub32 p1 p2 hc
    rw [← e0] at ec
    obtain ⟨f1, f2, f3⟩ := sub32_lo p1 p2 hc
    have el := low32 ec
    have eh := hi63 ec
    rw [f1] at el
    rw [f2] at eh
    refine ⟨by dsimp only; omega, ?_⟩
    refine ⟨rfl, ?_⟩
    have hio : i < out.length := by omega
    refine ⟨wk_in0 hio, ?_⟩
    refine ⟨by decide, ?_⟩
    refine ⟨by dsimp only; omega, ?_⟩
    generalize hk : (if a < b + c then 1 else 0) = k at *
    have hk1 : k ≤ 1 := by rw [← hk]; split <;> omega
    refine ⟨(i + 1, k, out.set i ((a + 4294967296 - b - c) % 4294967296)), ⟨⟨by omega, hk1, by rw [List.length_set]; exact hol, hos.set (by omega), ?_⟩, by dsimp only; omega⟩, ⟨rfl, rfl, rfl, congrArg (AV.int .u64) eh, rfl, trivial⟩, ⟨?_, trivial⟩⟩
    · dsimp only
      rw [val_set_take hio, t1, t2, Nat.pow_succ]
      generalize (a + 4294967296 - b - c) % 4294967296 = w at *
      generalize 4294967296 ^ i = X at *
      have e : X * w + X * b + X * c = X * a + X * (4294967296 * k) := by rw [← Nat.mul_add, ← Nat.mul_add, f3, Nat.mul_add]
      grind
    · refine congrArg (fun l => some (⟨false, 1, l, 0, true⟩ : Blk)) ((congrArg (fun z => (w32 out).set (0 + ((i : Nat) : Int).toNat) (AV.int .u32 z)) el).trans (wk_set0 ..))
  · have hin : i = P.length := by have := of_decide_eq_false h2; dsimp only at this; omega
    subst hin
    rw [List.take_of_length_le (by omega), List.take_of_length_le hle, List.take_of_length_le (Nat.le_refl _), vP, vQ] at hval
    have hlt := val_lt hos
    rw [hol] at hlt
    have ev : val 4294967296 out = x - y := by
      generalize 4294967296 ^ P.length = Z at *
      rcases Nat.eq_zero_or_pos c with h0 | h0
      · subst h0; omega
      · have : c = 1 := by omega
        subst this
        omega
    have ct := rtrim_ct out hos (by omega)
    rw [ev] at ct
    refine ⟨_, _, rfl, ?_⟩
    refine ⟨_, ct.eq (cons_eq ?_ rfl), ?_⟩
    · show AV.imm false 1 (((w32 out).drop 0).take P.length) = _
      rw [List.drop_zero, List.take_of_length_le (by rw [wk_len]; omega)]
    exact ⟨_, rfl, .refl _⟩

theorem ok_NatMul : codeOk E Tryz.f13.ntmps (Tryz.f13.body.getD .skip) = true := by kernel_rfl
theorem NatMul_ct (x y : Nat) (hx : blen x < 1099511627776) (hy : blen y < 1099511627776) : Ct E 13 [aR x, aR y] [] (aR (x * y)) [] := by
  refine Ct_of hE Tryz.func13 rfl rfl (by exact Nat.le_of_ble_eq_true rfl) ok_NatMul ?_
  have hlx : (digs 4294967296 x).length < 1099511627776 := Nat.lt_of_le_of_lt (len32 x) hx
  have hly : (digs 4294967296 y).length < 1099511627776 := Nat.lt_of_le_of_lt (len32 y) hy
  have sP := digs_small (B := 4294967296) (by decide) x
  have sQ := digs_small (B := 4294967296) (by decide) y
  have vP := digs_val (B := 4294967296) (by decide) x
  have vQ := digs_val (B := 4294967296) (by decide) y
  unfold aR
  generalize digs 4294967296 x = P at *
  generalize digs 4294967296 y = Q at *
  have wx : (w32 P).length = P.length := wk_len _ _
  have wy : (w32 Q).length = Q.length := wk_len _ _
  obtain ⟨n, hn⟩ : ∃ n, n = P.length + Q.length := ⟨_, rfl⟩
  have em : (((w32 P).length : Nat) : Int) + (((w32 Q).length : Nat) : Int) = ((n : Nat) : Int) := by omega
  have eT : ((((w32 P).length : Nat) : Int) + (((w32 Q).length : Nat) : Int)).toNat = n := by rw [em]; rfl
  refine ⟨by omega, ?_⟩
  refine ⟨by rw [em]; dsimp only; omega, ?_⟩
  have hblk : (⟨false, 1, List.replicate ((((w32 P).length : Nat) : Int) + (((w32 Q).length : Nat) : Int)).toNat (.int .u32 0), 0, true⟩ : Blk) = ⟨false, 1, w32 (List.replicate n 0), 0, true⟩ := by
    rw [eT]; exact congrArg (fun l => (⟨false, 1, l, 0, true⟩ : Blk)) (wk_rep .u32 _)
  refine loop_fr [] (fun q : Nat × List Nat => q.1 ≤ P.length ∧ q.2.length = n ∧ Small 4294967296 q.2 ∧ val 4294967296 (q.2.take (q.1 + Q.length)) = val 4294967296 (P.take q.1) * val 4294967296 Q)
    (fun q => P.length - q.1)
    (fun q => [(0, .imm false 1 (w32 P)), (1, .imm false 1 (w32 Q)), (5, .own 14 0 1 0 n), (6, iI q.1)])
    (fun q => [(14, ⟨false, 1, w32 q.2, 0, true⟩)])
    (0, List.replicate n 0) ⟨Nat.zero_le _, List.length_replicate, .rep (by decide) _, by dsimp only; rw [List.take_replicate, val_rep, List.take_zero, val, Nat.zero_mul]⟩ ⟨rfl, rfl, own_eq rfl eT, rfl, trivial⟩ ⟨congrArg some hblk, trivial⟩ ?_
  rintro ⟨i, out0⟩ g h v ⟨hi, hol0, hos0, hval0⟩
  dsimp only at hi hol0 hos0 hval0
  refine ⟨fun h2 => ?_, fun h2 => ?_⟩
  · have hip : i < P.length := by have := of_decide_eq_true h2; dsimp only at this; omega
    obtain ⟨a, ha⟩ : ∃ a, P[i]? = some a := ⟨_, List.getElem?_eq_getElem hip⟩
    have has := sP.get ha
    have hp := val_take_succ (B := 4294967296) ha
    refine loop_fr [] (fun q : Nat × Nat × List Nat => q.1 ≤ Q.length ∧ q.2.1 < 4294967296 ∧ q.2.2.length = n ∧ Small 4294967296 q.2.2 ∧ q.2.2.drop (i + q.1) = out0.drop (i + q.1) ∧ val 4294967296 (q.2.2.take (i + q.1)) + 4294967296 ^ (i + q.1) * q.2.1 = val 4294967296 (out0.take (i + q.1)) + 4294967296 ^ i * (a * val 4294967296 (Q.take q.1)))
      (fun q => Q.length - q.1)
      (fun q => [(0, .imm false 1 (w32 P)), (1, .imm false 1 (w32 Q)), (5, .own 14 0 1 0 n), (6, iI i), (7, iU q.2.1), (8, iI q.1)])
      (fun q => [(14, ⟨false, 1, w32 q.2.2, 0, true⟩)])
      (0, 0, out0) ⟨Nat.zero_le _, (by decide : (0 : Nat) < 4294967296), hol0, hos0, rfl, by simp [val]⟩ ⟨rfl, rfl, rfl, rfl, rfl, rfl, trivial⟩ ⟨rfl, trivial⟩ ?_
    rintro ⟨j, c, out⟩ g2 h2' v2 ⟨hj, hc, hol, hos, hdr, hval⟩
    dsimp only at hj hc hol hos hdr hval
    refine ⟨fun h3 => ?_, fun h3 => ?_⟩
    · have hjq : j < Q.length := by have := of_decide_eq_true h3; dsimp only at this; omega
      obtain ⟨b, hb⟩ : ∃ b, Q[j]? = some b := ⟨_, List.getElem?_eq_getElem hjq⟩
      have hbs := sQ.get hb
      have hq := val_take_succ (B := 4294967296) hb
      obtain ⟨o, ho⟩ : ∃ o, out[i + j]? = some o := ⟨_, List.getElem?_eq_getElem (by omega)⟩
      have ho0 : out0[i + j]? = some o := by
        have e1 : out[i + j]? = (out.drop (i + j))[0]? := by simp
        have e2 : out0[i + j]? = (out0.drop (i + j))[0]? := by simp
        rw [e2, ← hdr, ← e1, ho]
      have hoo := val_take_succ (B := 4294967296) ho0
      have hos1 := hos.get ho
      obtain ⟨m1, m2⟩ := mul32 hos1 has hbs hc
      have hij : ((i : Nat) : Int) + ((j : Nat) : Int) = ((i + j : Nat) : Int) := by omega
      have u1 : IntKind.u64.wrap ((o : Nat) : Int) = ((o : Nat) : Int) := wU rfl (by omega)
      have u2 : IntKind.u64.wrap ((a : Nat) : Int) = ((a : Nat) : Int) := wU rfl (by omega)
      have u3 : IntKind.u64.wrap ((b : Nat) : Int) = ((b : Nat) : Int) := wU rfl (by omega)
      have u4 : IntKind.u64.wrap (((c : Nat) : Int) + IntKind.u64.wrap ((o : Nat) : Int)) = ((c + o : Nat) : Int) := by rw [u1]; exact wU rfl (by omega)
      have u5 : IntKind.u64.wrap (IntKind.u64.wrap ((a : Nat) : Int) * IntKind.u64.wrap ((b : Nat) : Int)) = ((a * b : Nat) : Int) := by rw [u2, u3]; exact wU rfl (by omega)
      have ec : IntKind.u64.wrap (IntKind.u64.wrap (((c : Nat) : Int) + IntKind.u64.wrap ((o : Nat) : Int)) + IntKind.u64.wrap (IntKind.u64.wrap ((a : Nat) : Int) * IntKind.u64.wrap ((b : Nat) : Int))) = ((c + o + a * b : Nat) : Int) := by
        rw [u4, u5]; exact wU rfl (by omega)
      have el := low32 ec
      have eh := hi32 ec
      have hio : i + j < out.length := by omega
      refine ⟨by first | omega | (dsimp only; omega), ?_⟩
      refine ⟨by first | omega | (dsimp only; omega), ?_⟩
      refine ⟨rfl, ?_⟩
      refine ⟨_, get_at (wk_get ho) (by first | omega | (dsimp only; omega)), ?_⟩
      refine ⟨by first | omega | (dsimp only; omega), ?_⟩
      refine ⟨_, wk_get ha, ?_⟩
      refine ⟨by first | omega | (dsimp only; omega), ?_⟩
      refine ⟨_, wk_get hb, ?_⟩
      refine ⟨by first | omega | (dsimp only; omega), ?_⟩
      refine ⟨by first | omega | (dsimp only; omega), ?_⟩
      refine ⟨rfl, ?_⟩
      refine ⟨by rw [hij]; exact wk_in0 hio, ?_⟩
      refine ⟨by decide, ?_⟩
      refine ⟨by first | omega | (dsimp only; omega), ?_⟩
      refine ⟨(j + 1, (c + o + a * b) / 4294967296, out.set (i + j) ((c + o + a * b) % 4294967296)), ⟨⟨hjq, m2, by rw [List.length_set]; exact hol, hos.set (Nat.mod_lt _ (by decide)), ?_, ?_⟩, by first | omega | (dsimp only; omega)⟩, ⟨rfl, rfl, rfl, rfl, congrArg (AV.int .u64) eh, rfl, trivial⟩, ⟨?_, trivial⟩⟩
      · dsimp only
        have e : i + (j + 1) = (i + j) + 1 := by omega
        rw [drop_set_after (by omega), e, ← List.drop_drop, hdr, List.drop_drop]
      · dsimp only
        have e : i + (j + 1) = (i + j) + 1 := by omega
        have e2 : 4294967296 ^ (i + j) = 4294967296 ^ i * 4294967296 ^ j := Nat.pow_add _ _ _
        rw [e, val_set_take hio, hoo, hq, Nat.pow_succ]
        have m5 := Nat.div_add_mod (c + o + a * b) 4294967296
        generalize (c + o + a * b) / 4294967296 = c' at *
        generalize (c + o + a * b) % 4294967296 = s at *
        generalize 4294967296 ^ (i + j) = X at *
        generalize 4294967296 ^ i = Y at *
        generalize 4294967296 ^ j = Z at *
        have m6 : X * s + X * 4294967296 * c' = X * (c + o + a * b) := by rw [← m5]; grind
        subst e2
        grind
      · refine congrArg (fun l => some (⟨false, 1, l, 0, true⟩ : Blk)) ((congrArg (fun z => (w32 out).set (0 + (((i : Nat) : Int) + ((j : Nat) : Int)).toNat) (AV.int .u32 z)) el).trans ?_)
        rw [hij]; exact wk_set0 ..
    · have hjq : j = Q.length := by have := of_decide_eq_false h3; dsimp only at this; omega
      subst hjq
      have hij : ((i : Nat) : Int) + (((w32 Q).length : Nat) : Int) = ((i + Q.length : Nat) : Int) := by omega
      have hio : i + Q.length < out.length := by omega
      have el : IntKind.u32.wrap ((c : Nat) : Int) = ((c : Nat) : Int) := wu32 rfl hc
      refine ⟨by first | omega | (dsimp only; omega), ?_⟩
      refine ⟨by first | omega | (dsimp only; omega), ?_⟩
      refine ⟨rfl, ?_⟩
      refine ⟨by rw [hij]; exact wk_in0 hio, ?_⟩
      refine ⟨by first | omega | (dsimp only; omega), ?_⟩
      refine ⟨(i + 1, out.set (i + Q.length) c), ⟨⟨hip, by rw [List.length_set]; exact hol, hos.set hc, ?_⟩, by first | omega | (dsimp only; omega)⟩, ⟨rfl, rfl, rfl, rfl, trivial⟩, ⟨?_, trivial⟩⟩
      · dsimp only
        have e : i + 1 + Q.length = (i + Q.length) + 1 := by omega
        rw [e, val_set_take hio, hval, hval0, hp, List.take_of_length_le (Nat.le_refl _)]
        grind
      · refine congrArg (fun l => some (⟨false, 1, l, 0, true⟩ : Blk)) ((congrArg (fun z => (w32 out).set (0 + (((i : Nat) : Int) + (((w32 Q).length : Nat) : Int)).toNat) (AV.int .u32 z)) el).trans ?_)
        rw [hij]; exact wk_set0 ..
  · have hip : i = P.length := by have := of_decide_eq_false h2; dsimp only at this; omega
    subst hip
    have hv : val 4294967296 out0 = x * y := by
      rw [List.take_of_length_le (by omega), List.take_of_length_le (Nat.le_refl _)] at hval0
      rw [hval0, vP, vQ]
    have ct := rtrim_ct out0 hos0 (by omega)
    rw [hv] at ct
    refine ⟨_, _, rfl, ?_⟩
    refine ⟨_, ct.eq (cons_eq ?_ rfl), ?_⟩
    · show AV.imm false 1 (((w32 out0).drop 0).take n) = _
      rw [List.drop_zero, List.take_of_length_le (by rw [wk_len]; omega)]
    exact ⟨_, rfl, .refl _⟩
end Go.Proofs.YtjafmphhnclfjabGreatDoor
