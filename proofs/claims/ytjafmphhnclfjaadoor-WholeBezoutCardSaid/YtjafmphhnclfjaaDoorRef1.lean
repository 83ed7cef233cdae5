/- The document's numbers: bytes in and out. -/
import Derived.Test.YtjafmphhnclfjaaDoorWho1
import Derived.Test.YtjafmphhnclfjaaDoorNumI
set_option linter.all false
namespace Go.Proofs.YtjafmphhnclfjaaDoor
open Go GoAbs Num
set_option maxRecDepth 100000
set_option maxHeartbeats 1000000

theorem ok_rtrim : codeOk E Tryd.f67.ntmps (Tryd.f67.body.getD .skip) = true := by kernel_rfl
theorem rtrim_ct (l : List Nat) (hs : Small 4294967296 l) (hl : l.length < 4398046511104) : Ct E 67 [.imm false 1 (w32 l)] [] (aR (val 4294967296 l)) [] := by
  refine Ct_of hE Tryd.func67 rfl rfl (by exact Nat.le_of_ble_eq_true rfl) ok_rtrim ?_
  have hll : (w32 l).length = l.length := wk_len _ _
  have hd := digs_of (B := 4294967296) (by decide) hs
  refine loop_fr [] (fun n : Nat => n ≤ l.length ∧ trimN (l.take n) = trimN l) (fun n => n) (fun n => [(0, .imm false 1 (w32 l)), (3, iI n)]) (fun _ => []) l.length ⟨Nat.le_refl _, by rw [List.take_length]⟩ ⟨rfl, congrArg (fun z : Nat => iI z) hll, trivial⟩ trivial ?_
  rintro n g h vr ⟨hn1, hn2⟩
  have fin : ∀ m, m ≤ l.length → trimN (l.take m) = l.take m → m = n → (AV.imm false 1 (((w32 l).drop (0 : Int).toNat).take (((m : Nat) : Int) - 0).toNat)) = aR (val 4294967296 l) := by
    intro m hm ht he
    subst he
    unfold aR
    rw [hd, ← hn2, ht]
    show AV.imm false 1 (((w32 l).drop 0).take (((m : Nat) : Int) - 0).toNat) = _
    rw [List.drop_zero, wk_take]
    congr 3
  refine ⟨fun h1 => ?_, fun h1 => ?_⟩
  · have hpos : 0 < n := by have := of_decide_eq_true h1; omega
    obtain ⟨x, hx⟩ : ∃ x, l[n - 1]? = some x := ⟨_, List.getElem?_eq_getElem (by omega)⟩
    have hts : l.take n = l.take (n - 1) ++ [x] := by
      have := take_snoc hx
      rwa [show n - 1 + 1 = n by omega] at this
    repeat refine ifB_pos h1 ?_
    refine ⟨by omega, ?_⟩
    repeat refine ifB_pos h1 ?_
    refine ⟨by rw [hll]; omega, ?_⟩
    repeat refine ifB_pos h1 ?_
    refine ⟨.int .u32 ((x : Nat) : Int), get_at (wk_get hx) (by omega), ?_⟩
    repeat refine ifB_pos h1 ?_
    refine ⟨fun h2 => ?_, fun h2 => ?_⟩
    · have hx0 : x = 0 := by have := eq_of_beq h2; omega
      refine ⟨by omega, ?_⟩
      refine ⟨n - 1, ⟨⟨by omega, ?_⟩, by omega⟩, ⟨rfl, congrArg (AV.int .i64) (by omega), trivial⟩, trivial⟩
      rw [← hn2, hts, hx0, trimN_zero]
    · have hx0 : x ≠ 0 := by rintro rfl; exact absurd h2 (by decide)
      refine ⟨⟨by decide, by omega, by rw [hll]; omega, by rw [hll]; omega, by simp⟩, ?_⟩
      exact ⟨_, rfl, .of_eq (fin n hn1 (by rw [hts, trimN_keep _ _ hx0]) rfl)⟩
  · have hpos : n = 0 := by have := of_decide_eq_false h1; omega
    subst hpos
    repeat refine ifB_neg h1 ?_
    refine ⟨⟨by decide, by omega, by rw [hll]; omega, by rw [hll]; omega, by simp⟩, ?_⟩
    exact ⟨_, rfl, .of_eq (fin 0 hn1 rfl rfl)⟩

theorem ok_NatFrom : codeOk E Tryd.f41.ntmps (Tryd.f41.body.getD .skip) = true := by kernel_rfl
theorem NatFrom_ct (l : List Nat) (hl : Small 256 l) (hlen : l.length < 1099511627776) : Ct E 41 [.imm false 1 (w8 l)] [] (aR (ofBytes l)) [] := by
  refine Ct_of hE Tryd.func41 rfl rfl (by exact Nat.le_of_ble_eq_true rfl) ok_NatFrom ?_
  have hll : (w8 l).length = l.length := wk_len _ _
  obtain ⟨n, hn⟩ : ∃ n, n = (l.length + 3) / 4 := ⟨_, rfl⟩
  have t0 : ((((w8 l).length : Nat) : Int) + 3).tdiv 4 = ((n : Nat) : Int) := by rw [hll, hn]; rfl
  have eT : (((((w8 l).length : Nat) : Int) + 3).tdiv 4).toNat = n := by rw [t0]; rfl
  refine ⟨by omega, ?_⟩
  refine ⟨by decide, ?_⟩
  refine ⟨by rw [t0]; omega, ?_⟩
  refine ⟨by rw [t0]; dsimp only; omega, ?_⟩
  have hblk : (⟨false, 1, List.replicate (((((w8 l).length : Nat) : Int) + 3).tdiv 4).toNat (.int .u32 0), 0, true⟩ : Blk) = ⟨false, 1, w32 (pad 4294967296 n 0), 0, true⟩ := by
    rw [eT, pad_zero]; exact congrArg (fun l => (⟨false, 1, l, 0, true⟩ : Blk)) (wk_rep .u32 _)
  refine loop_fr [] (fun i : Nat => i ≤ l.length) (fun i => l.length - i)
    (fun i => [(0, .imm false 1 (w8 l)), (3, .own 10 0 1 0 n), (4, iI i)])
    (fun i => [(10, ⟨false, 1, w32 (pad 4294967296 n (256 ^ (l.length - i) * ofBytes (l.take i))), 0, true⟩)])
    0 (Nat.zero_le _) ⟨rfl, own_eq rfl eT, rfl, trivial⟩ ⟨(congrArg some hblk).trans (by simp [ofBytes, val]), trivial⟩ ?_
  rintro i g h vr hi
  refine ⟨fun h2 => ?_, fun h2 => ?_⟩
  · have hin : i < l.length := by have := of_decide_eq_true h2; rw [hll] at this; omega
    obtain ⟨d, hd⟩ : ∃ d, l[i]? = some d := ⟨_, List.getElem?_eq_getElem hin⟩
    have hds := hl.get hd
    obtain ⟨k, hk⟩ : ∃ k, k = l.length - 1 - i := ⟨_, rfl⟩
    have hV : 256 ^ (l.length - i) * ofBytes (l.take i) = 256 ^ (k + 1) * ofBytes (l.take i) := by rw [show l.length - i = k + 1 by omega]
    obtain ⟨k1, k2, k3, k4, k5⟩ := from4_step (n := n) hV hds (by omega)
    have hnext : 256 ^ (l.length - i) * ofBytes (l.take i) + 256 ^ k * d = 256 ^ (l.length - (i + 1)) * ofBytes (l.take (i + 1)) := by
      rw [take_snoc hd, ofBytes_snoc, hV, show l.length - (i + 1) = k by omega, Nat.pow_succ, Nat.mul_add, Nat.mul_assoc]
    rw [hnext] at k5
    obtain ⟨x, hx⟩ : ∃ x, x = 256 ^ (l.length - i) * ofBytes (l.take i) / 4294967296 ^ (k / 4) % 4294967296 := ⟨_, rfl⟩
    rw [← hx] at k1 k2 k4 k5
    have ek : (((w8 l).length : Nat) : Int) - 1 - ((i : Nat) : Int) = ((k : Nat) : Int) := by rw [hll]; omega
    have td : ((((w8 l).length : Nat) : Int) - 1 - ((i : Nat) : Int)).tdiv 4 = ((k / 4 : Nat) : Int) := by rw [ek]; rfl
    have tm : ((((w8 l).length : Nat) : Int) - 1 - ((i : Nat) : Int)).tmod 4 = ((k % 4 : Nat) : Int) := by rw [ek]; rfl
    have tw : IntKind.u64.wrap (8 * ((((w8 l).length : Nat) : Int) - 1 - ((i : Nat) : Int)).tmod 4) = ((8 * (k % 4) : Nat) : Int) := by rw [tm]; exact wU (by omega) (by omega)
    have m1 : min (IntKind.u64.wrap (8 * ((((w8 l).length : Nat) : Int) - 1 - ((i : Nat) : Int)).tmod 4)).toNat IntKind.u32.bits = 8 * (k % 4) := by
      rw [tw]; exact Nat.min_eq_left (by have : IntKind.u32.bits = 32 := rfl; rw [this, Int.toNat_natCast]; omega)
    have e32 : (2 : Nat) ^ (8 * (k % 4) + 8) ≤ 4294967296 := by
      have : (2 : Nat) ^ (8 * (k % 4) + 8) ≤ 2 ^ 32 := Nat.pow_le_pow_right (by decide) (by omega)
      exact this
    have esh : IntKind.u32.wrap (IntKind.u32.wrap ((d : Nat) : Int) * 2 ^ min (IntKind.u64.wrap (8 * ((((w8 l).length : Nat) : Int) - 1 - ((i : Nat) : Int)).tmod 4)).toNat IntKind.u32.bits) = ((d * 2 ^ (8 * (k % 4)) : Nat) : Int) := by
      rw [m1, wrap32_id (by omega)]
      exact wu32 (by simp) (by omega)
    have ew := or32 x (d * 2 ^ (8 * (k % 4))) (8 * (k % 4) + 8) (by omega) k2 k3 (by omega) k4
    rw [← esh] at ew
    refine ⟨by rw [hll]; omega, ?_⟩
    refine ⟨by rw [hll]; omega, ?_⟩
    refine ⟨by decide, ?_⟩
    refine ⟨by rw [td]; omega, ?_⟩
    refine ⟨by decide, ?_⟩
    refine ⟨by rw [td]; omega, ?_⟩
    refine ⟨by rw [td]; omega, ?_⟩
    refine ⟨rfl, ?_⟩
    refine ⟨.int .u32 ((x : Nat) : Int), get_at (wk_get k1) (by rw [td]; omega), ?_⟩
    refine ⟨by rw [hll]; omega, ?_⟩
    refine ⟨.int .u8 ((d : Nat) : Int), wk_get hd, ?_⟩
    refine ⟨by decide, ?_⟩
    refine ⟨by rw [tm]; omega, ?_⟩
    refine ⟨by rw [tw]; omega, ?_⟩
    refine ⟨by rw [td]; omega, ?_⟩
    refine ⟨rfl, ?_⟩
    refine ⟨?_, ?_⟩
    · show 0 + (_ : Int).toNat < (w32 (pad _ _ _)).length
      rw [td, wk_len, pad_len]; omega
    refine ⟨by omega, ?_⟩
    refine ⟨i + 1, ⟨hin, by omega⟩, ⟨rfl, rfl, rfl, trivial⟩, ⟨?_, trivial⟩⟩
    refine congrArg (fun l => some (⟨false, 1, l, 0, true⟩ : Blk)) (?_ : (w32 (pad 4294967296 n (256 ^ (l.length - i) * ofBytes (l.take i)))).set (0 + (((((w8 l).length : Nat) : Int) - 1 - ((i : Nat) : Int)).tdiv 4).toNat) (AV.int .u32 _) = _)
    rw [ew, td, wk_set0, k5]
  · have hin : i = l.length := by have := of_decide_eq_false h2; rw [hll] at this; omega
    subst hin
    rw [Nat.sub_self, Nat.pow_zero, Nat.one_mul, List.take_length]
    have hlt := ofBytes_lt hl
    have hb : ofBytes l < 4294967296 ^ n := by
      refine Nat.lt_of_lt_of_le hlt ?_
      have e8 : (4294967296 : Nat) = 256 ^ 4 := by decide
      rw [e8, ← Nat.pow_mul]
      exact Nat.pow_le_pow_right (by decide) (by omega)
    have cr := rtrim_ct (pad 4294967296 n (ofBytes l)) (pad_small (by decide) _ _) (by rw [pad_len]; omega)
    rw [pad_val hb] at cr
    refine ⟨_, _, rfl, ?_⟩
    refine ⟨_, cr.eq ?_, ?_⟩
    · refine cons_eq ?_ rfl
      show AV.imm false 1 (((w32 (pad 4294967296 n (ofBytes l))).drop 0).take n) = _
      rw [List.drop_zero, List.take_of_length_le (by rw [wk_len, pad_len]; exact Nat.le_refl _)]
    exact ⟨_, rfl, .refl _⟩

theorem lenr (x : Nat) : (w32 (digs 4294967296 x)).length = (digs 4294967296 x).length := wk_len _ _
theorem rlen0 {x : Nat} : (digs 4294967296 x).length = 0 ↔ x = 0 := by
  rw [List.length_eq_zero_iff]; exact digs_nil (by decide)
theorem ok_NatBits : codeOk E Tryd.f89.ntmps (Tryd.f89.body.getD .skip) = true := by kernel_rfl
theorem NatBits_ct (x : Nat) (hx : blen x < 1099511627776) : Ct E 89 [aR x] [] (iI (((blen x : Nat) : Int))) [] := by
  refine Ct_of hE Tryd.func89 rfl rfl (by exact Nat.le_of_ble_eq_true rfl) ok_NatBits ?_
  have hlx : (digs 4294967296 x).length < 1099511627776 := Nat.lt_of_le_of_lt (len32 x) hx
  refine ⟨fun h => ?_, fun h => ?_⟩
  · have h0 : x = 0 := by
      have : (w32 (digs 4294967296 x)).length = 0 := by have := eq_of_beq h; omega
      rw [lenr] at this
      exact rlen0.1 this
    exact ⟨_, rfl, .of_eq (congrArg (AV.int .i64) (by rw [h0]; rfl))⟩
  have hx0 : x ≠ 0 := by rintro rfl; exact absurd h (by decide)
  rcases List.eq_nil_or_concat (digs 4294967296 x) with hn | ⟨m, d, hm⟩
  · exact absurd ((digs_nil (by decide)).1 hn) hx0
  have hm : digs 4294967296 x = m ++ [d] := by simpa using hm
  have hd0 := digs_last (by decide) hm
  have hbl := blen_last (k := 32) (by decide) (by decide) hm
  have hlen : (digs 4294967296 x).length = m.length + 1 := by rw [hm]; simp
  have hds : d < 4294967296 := by have := digs_small (B := 4294967296) (by decide) x d (by rw [hm]; simp); exact this
  have hdg : (digs 4294967296 x)[m.length]? = some d := by rw [hm]; simp
  have hbd : blen d ≤ 32 := blen_le (n := 32) hds
  refine ⟨by rw [lenr]; omega, ?_⟩
  refine ⟨by rw [lenr]; omega, ?_⟩
  refine ⟨by rw [lenr]; omega, ?_⟩
  refine ⟨by rw [lenr]; omega, ?_⟩
  refine ⟨.int .u32 ((d : Nat) : Int), get_at (wk_get hdg) (by rw [lenr]; omega), ?_⟩
  refine loop_fr [] (fun q : Nat × Nat => blen q.1 + q.2 = blen d ∧ q.1 < 4294967296) (fun q => q.1) (fun q => [(4, .int .u32 ((q.1 : Nat) : Int)), (3, iI ((32 * m.length + q.2 : Nat) : Int))]) (fun _ => []) (d, 0) ⟨rfl, hds⟩ ⟨rfl, congrArg (AV.int .i64) (by rw [lenr, hlen]; dsimp only; omega), trivial⟩ trivial ?_
  rintro ⟨y, j⟩ g h' vr ⟨hy1, hy2⟩
  dsimp only at hy1 hy2
  refine ⟨fun h2 => ?_, fun h2 => ?_⟩
  · have hy0 : 0 < y := by have := of_decide_eq_true h2; dsimp only at this; omega
    have hb := blen_pos (x := y) (by omega)
    have e1 : (((y : Nat) : Int)).fdiv (2 ^ min (1 : Int).toNat IntKind.u32.bits) = ((y / 2 : Nat) : Int) := fdivU (k := 1) rfl rfl rfl
    have hb2 : blen (y / 2) + 1 = blen y := by
      by_cases h1 : y = 1
      · subst h1; rfl
      · have := blen_div y 1 (by omega)
        rw [this]
    refine ⟨by omega, ?_⟩
    refine ⟨by decide, ?_⟩
    exact ⟨(y / 2, j + 1), ⟨⟨by dsimp only; omega, by dsimp only; omega⟩, by dsimp only; omega⟩, ⟨congrArg (AV.int .u32) e1, congrArg (AV.int .i64) (by dsimp only; omega), trivial⟩, trivial⟩
  · have hy0 : y = 0 := by have := of_decide_eq_false h2; dsimp only at this; omega
    subst hy0
    rw [blen_zero] at hy1
    refine ⟨_, rfl, .of_eq (congrArg (AV.int .i64) (by dsimp only; omega))⟩

theorem ok_NatBytes : codeOk E Tryd.f66.ntmps (Tryd.f66.body.getD .skip) = true := by kernel_rfl
theorem NatBytes_ct (x : Nat) (hx : blen x < 1099511627776) : Ct E 66 [aR x] [] (.imm false 1 (w8 (bytesOf x))) [] := by
  refine Ct_of hE Tryd.func66 rfl rfl (by exact Nat.le_of_ble_eq_true rfl) ok_NatBytes ?_
  obtain ⟨L, hLL⟩ : ∃ L, L = (blen x + 7) / 8 := ⟨_, rfl⟩
  have t0 : (((blen x : Nat) : Int) + 7).tdiv 8 = ((L : Nat) : Int) := by rw [hLL]; rfl
  have eT : ((((blen x : Nat) : Int) + 7).tdiv 8).toNat = L := by rw [t0]; rfl
  refine ⟨_, NatBits_ct x hx, ?_⟩
  refine ⟨by omega, ?_⟩
  refine ⟨by decide, ?_⟩
  refine ⟨by rw [t0]; omega, ?_⟩
  refine ⟨by rw [t0]; dsimp only; omega, ?_⟩
  have hblk : (⟨false, 1, List.replicate ((((blen x : Nat) : Int) + 7).tdiv 8).toNat (.int .u8 0), 0, true⟩ : Blk) = ⟨false, 1, w8 ((pad 256 L 0).reverse), 0, true⟩ := by
    rw [eT, pad_zero, List.reverse_replicate]; exact congrArg (fun l => (⟨false, 1, l, 0, true⟩ : Blk)) (wk_rep .u8 _)
  have hlen : (digs 4294967296 x).length = (L + 3) / 4 := by rw [digs32_len]; omega
  have hdig : ∀ i, i < L → (digs 4294967296 x)[i / 4]? = some (x / 4294967296 ^ (i / 4) % 4294967296) := by
    intro i hi
    have e : digs 4294967296 x = pad 4294967296 ((L + 3) / 4) x := by
      have := pad_of (digs_small (B := 4294967296) (by decide) x)
      rw [digs_val (by decide), hlen] at this
      exact this.symm
    rw [e, pad_get (by omega)]
  have hbo : bytesOf x = (pad 256 L x).reverse := by
    unfold bytesOf
    have := pad_of (digs_small (B := 256) (by decide) x)
    rw [digs_val (by decide), digs256_len, ← hLL] at this
    rw [this]
  refine loop_fr [] (fun q : Nat × List Nat => q.1 ≤ L ∧ q.2.length = L ∧ q.2.take q.1 = (pad 256 L x).take q.1) (fun q => L - q.1)
    (fun q => [(0, aR x), (3, iI L), (4, .own 11 0 1 0 L), (5, iI q.1)])
    (fun q => [(11, ⟨false, 1, w8 q.2.reverse, 0, true⟩)])
    (0, pad 256 L 0) ⟨Nat.zero_le _, pad_len _ _ _, rfl⟩ ⟨rfl, congrArg (AV.int .i64) t0, own_eq rfl eT, rfl, trivial⟩ ⟨congrArg some hblk, trivial⟩ ?_
  rintro ⟨i, p⟩ g h vr ⟨hi, hpl, hpt⟩
  dsimp only at hi hpl hpt
  refine ⟨fun h2 => ?_, fun h2 => ?_⟩
  · have hin : i < L := by have := of_decide_eq_true h2; dsimp only at this; omega
    have td : (((i : Nat) : Int)).tdiv 4 = ((i / 4 : Nat) : Int) := rfl
    have tm : (((i : Nat) : Int)).tmod 4 = ((i % 4 : Nat) : Int) := rfl
    have hd := hdig i hin
    have hb := @byte_at4 x i
    have tw : IntKind.u64.wrap (8 * (((i : Nat) : Int)).tmod 4) = ((8 * (i % 4) : Nat) : Int) := by rw [tm]; exact wU (by omega) (by omega)
    have m1 : min (IntKind.u64.wrap (8 * (((i : Nat) : Int)).tmod 4)).toNat IntKind.u32.bits = 8 * (i % 4) := by
      rw [tw]; exact Nat.min_eq_left (by have : IntKind.u32.bits = 32 := rfl; rw [this, Int.toNat_natCast]; omega)
    have eS : IntKind.u8.wrap ((((x / 4294967296 ^ (i / 4) % 4294967296 : Nat) : Int)).fdiv (2 ^ min (IntKind.u64.wrap (8 * (((i : Nat) : Int)).tmod 4)).toNat IntKind.u32.bits)) = ((x / 256 ^ i % 256 : Nat) : Int) := by
      rw [fdivU (k := 8 * (i % 4)) rfl (by rw [m1]) rfl, wrap8, ← hb]; rfl
    refine ⟨by first | omega | (dsimp only; omega), ?_⟩
    refine ⟨by first | omega | (dsimp only; omega), ?_⟩
    refine ⟨by decide, ?_⟩
    refine ⟨by first | omega | (dsimp only; omega), ?_⟩
    refine ⟨by rw [lenr, hlen]; first | omega | (dsimp only; omega), ?_⟩
    refine ⟨.int .u32 ((x / 4294967296 ^ (i / 4) % 4294967296 : Nat) : Int), wk_get hd, ?_⟩
    refine ⟨by decide, ?_⟩
    refine ⟨by first | omega | (dsimp only; omega), ?_⟩
    refine ⟨by dsimp only; rw [tw]; omega, ?_⟩
    refine ⟨by first | omega | (dsimp only; omega), ?_⟩
    refine ⟨rfl, ?_⟩
    refine ⟨?_, ?_⟩
    · show 0 + (((L : Nat) : Int) - 1 - ((i : Nat) : Int)).toNat < (w8 p.reverse).length
      rw [wk_len, List.length_reverse]; omega
    refine ⟨by first | omega | (dsimp only; omega), ?_⟩
    refine ⟨(i + 1, p.set i (x / 256 ^ i % 256)), ⟨⟨hin, by rw [List.length_set]; exact hpl, ?_⟩, by dsimp only; omega⟩, ⟨rfl, rfl, rfl, rfl, trivial⟩, ⟨?_, trivial⟩⟩
    · dsimp only
      rw [take_set_snoc (by omega), hpt, List.take_add_one, pad_get hin]
      rfl
    · refine congrArg (fun l => some (⟨false, 1, l, 0, true⟩ : Blk)) (Eq.trans (congrArg (fun z => (w8 p.reverse).set (0 + (((L : Nat) : Int) - 1 - ((i : Nat) : Int)).toNat) (AV.int .u8 z)) eS) ?_)
      have e1 : 0 + (((L : Nat) : Int) - 1 - ((i : Nat) : Int)).toNat = p.length - 1 - i := by omega
      rw [e1, wk_set, rev_set (by omega)]
  · have hin : i = L := by have := of_decide_eq_false h2; dsimp only at this; omega
    subst hin
    rw [List.take_of_length_le (by omega), List.take_of_length_le (by rw [pad_len]; exact Nat.le_refl _)] at hpt
    refine ⟨_, rfl, .of_eq ?_⟩
    show AV.imm false 1 (((w8 p.reverse).drop 0).take i) = _
    rw [List.drop_zero, List.take_of_length_le (by rw [wk_len, List.length_reverse]; omega), hpt, hbo]
end Go.Proofs.YtjafmphhnclfjaaDoor
