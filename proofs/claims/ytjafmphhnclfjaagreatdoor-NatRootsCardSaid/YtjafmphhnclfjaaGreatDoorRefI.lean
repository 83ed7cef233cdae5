/- The document's numbers: bytes in and out. Numbers handed over: of bytes, both ways. What a run asks of the model's own functions. -/
import Derived.Test.YtjafmphhnclfjaaGreatDoorWhoI
import Derived.Test.YtjafmphhnclfjaaGreatDoorNumI
import Derived.Test.YtjafmphhnclfjaaGreatDoorAbsIV
set_option linter.all false
section
namespace Go.Proofs.YtjafmphhnclfjaaGreatDoor
open Go GoAbs Num
set_option maxRecDepth 100000
set_option maxHeartbeats 1000000

theorem ok_rtrim : codeOk E Tryz.f54.ntmps (Tryz.f54.body.getD .skip) = true := by kernel_rfl
theorem rtrim_ct (l : List Nat) (hs : Small 4294967296 l) (hl : l.length < 4398046511104) : Ct E 54 [.imm false 1 (w32 l)] [] (aR (val 4294967296 l)) [] := by
  refine Ct_of hE Tryz.func54 rfl rfl (by exact Nat.le_of_ble_eq_true rfl) ok_rtrim ?_
  have hll : (w32 l).length = l.length := wk_len _ _
  have hd := digs_of (B := 4294967296) (by decide) hs
  refine loop_fr [] (fun n : Nat => n ≤ l.length ∧ trimN (l.take n) = trimN l) (fun n => n) (fun n => [(0, .imm false 1 (w32 l)), (3, iI n)]) (fun _ => []) l.length ⟨Nat.le_refl _, by rw [List.take_length]⟩ ⟨rfl, congrArg (fun z : Nat => iI z) hll, trivial⟩ trivial ?_
  rintro n g h vr ⟨hn1, hn2⟩
  have fin : ∀ m, m ≤ l.length → trimN (l.take m) = l.take m → m = n → (AV.imm false 1 (((w32 l).drop (0 : Int).toNat).take (((m : Nat) : Int) - 0).toNat)) = aR (val 4294967296 l) := by
    intro m hm ht he
    subst he
    unfold aR
    rw [hd, ← hn2, ht]
    show AV.imm false 1 (((w32 l).drop 0).take (((m : Nat) : Int) - 0).toNat) = _
    rw [List.drop_zero, wk_take]
    congr 3
  refine ⟨fun h1 => ?_, fun h1 => ?_⟩
  · have hpos : 0 < n := by have := of_decide_eq_true h1; omega
    obtain ⟨x, hx⟩ : ∃ x, l[n - 1]? = some x := ⟨_, List.getElem?_eq_getElem (by omega)⟩
    have hts : l.take n = l.take (n - 1) ++ [x] := by
      have := take_snoc hx
      rwa [show n - 1 + 1 = n by omega] at this
    repeat refine ifB_pos h1 ?_
    refine ⟨by omega, ?_⟩
    repeat refine ifB_pos h1 ?_
    refine ⟨by rw [hll]; omega, ?_⟩
    repeat refine ifB_pos h1 ?_
    refine ⟨.int .u32 ((x : Nat) : Int), get_at (wk_get hx) (by omega), ?_⟩
    repeat refine ifB_pos h1 ?_
    refine ⟨fun h2 => ?_, fun h2 => ?_⟩
    · have hx0 : x = 0 := by have := eq_of_beq h2; omega
      refine ⟨by omega, ?_⟩
      refine ⟨n - 1, ⟨⟨by omega, ?_⟩, by omega⟩, ⟨rfl, congrArg (AV.int .i64) (by omega), trivial⟩, trivial⟩
      rw [← hn2, hts, hx0, trimN_zero]
    · have hx0 : x ≠ 0 := by rintro rfl; exact absurd h2 (by decide)
      refine ⟨⟨by decide, by omega, by rw [hll]; omega, by rw [hll]; omega, by simp⟩, ?_⟩
      exact ⟨_, rfl, .of_eq (fin n hn1 (by rw [hts, trimN_keep _ _ hx0]) rfl)⟩
  · have hpos : n = 0 := by have := of_decide_eq_false h1; omega
    subst hpos
    repeat refine ifB_neg h1 ?_
    refine ⟨⟨by decide, by omega, by rw [hll]; omega, by rw [hll]; omega, by simp⟩, ?_⟩
    exact ⟨_, rfl, .of_eq (fin 0 hn1 rfl rfl)⟩

theorem ok_NatFrom : codeOk E Tryz.f18.ntmps (Tryz.f18.body.getD .skip) = true := by kernel_rfl
theorem NatFrom_ct (l : List Nat) (hl : Small 256 l) (hlen : l.length < 1099511627776) : Ct E 18 [.imm false 1 (w8 l)] [] (aR (ofBytes l)) [] := by
  refine Ct_of hE Tryz.func18 rfl rfl (by exact Nat.le_of_ble_eq_true rfl) ok_NatFrom ?_
  have hll : (w8 l).length = l.length := wk_len _ _
  obtain ⟨n, hn⟩ : ∃ n, n = (l.length + 3) / 4 := ⟨_, rfl⟩
  have t0 : ((((w8 l).length : Nat) : Int) + 3).tdiv 4 = ((n : Nat) : Int) := by rw [hll, hn]; rfl
  have eT : (((((w8 l).length : Nat) : Int) + 3).tdiv 4).toNat = n := by rw [t0]; rfl
  refine ⟨by omega, ?_⟩
  refine ⟨by decide, ?_⟩
  refine ⟨by rw [t0]; omega, ?_⟩
  refine ⟨by rw [t0]; dsimp only; omega, ?_⟩
  have hblk : (⟨false, 1, List.replicate (((((w8 l).length : Nat) : Int) + 3).tdiv 4).toNat (.int .u32 0), 0, true⟩ : Blk) = ⟨false, 1, w32 (pad 4294967296 n 0), 0, true⟩ := by
    rw [eT, pad_zero]; exact congrArg (fun l => (⟨false, 1, l, 0, true⟩ : Blk)) (wk_rep .u32 _)
  refine loop_fr [] (fun i : Nat => i ≤ l.length) (fun i => l.length - i)
    (fun i => [(0, .imm false 1 (w8 l)), (3, .own 10 0 1 0 n), (4, iI i)])
    (fun i => [(10, ⟨false, 1, w32 (pad 4294967296 n (256 ^ (l.length - i) * ofBytes (l.take i))), 0, true⟩)])
    0 (Nat.zero_le _) ⟨rfl, own_eq rfl eT, rfl, trivial⟩ ⟨(congrArg some hblk).trans (by simp [ofBytes, val]), trivial⟩ ?_
  rintro i g h vr hi
  refine ⟨fun h2 => ?_, fun h2 => ?_⟩
  · have hin : i < l.length := by have := of_decide_eq_true h2; rw [hll] at this; omega
    obtain ⟨d, hd⟩ : ∃ d, l[i]? = some d := ⟨_, List.getElem?_eq_getElem hin⟩
    have hds := hl.get hd
    obtain ⟨k, hk⟩ : ∃ k, k = l.length - 1 - i := ⟨_, rfl⟩
    have hV : 256 ^ (l.length - i) * ofBytes (l.take i) = 256 ^ (k + 1) * ofBytes (l.take i) := by rw [show l.length - i = k + 1 by omega]
    obtain ⟨k1, k2, k3, k4, k5⟩ := from4_step (n := n) hV hds (by omega)
    have hnext : 256 ^ (l.length - i) * ofBytes (l.take i) + 256 ^ k * d = 256 ^ (l.length - (i + 1)) * ofBytes (l.take (i + 1)) := by
      rw [take_snoc hd, ofBytes_snoc, hV, show l.length - (i + 1) = k by omega, Nat.pow_succ, Nat.mul_add, Nat.mul_assoc]
    rw [hnext] at k5
    obtain ⟨x, hx⟩ : ∃ x, x = 256 ^ (l.length - i) * ofBytes (l.take i) / 4294967296 ^ (k / 4) % 4294967296 := ⟨_, rfl⟩
    rw [← hx] at k1 k2 k4 k5
    have ek : (((w8 l).length : Nat) : Int) - 1 - ((i : Nat) : Int) = ((k : Nat) : Int) := by rw [hll]; omega
    have td : ((((w8 l).length : Nat) : Int) - 1 - ((i : Nat) : Int)).tdiv 4 = ((k / 4 : Nat) : Int) := by rw [ek]; rfl
    have tm : ((((w8 l).length : Nat) : Int) - 1 - ((i : Nat) : Int)).tmod 4 = ((k % 4 : Nat) : Int) := by rw [ek]; rfl
    have tw : IntKind.u64.wrap (8 * ((((w8 l).length : Nat) : Int) - 1 - ((i : Nat) : Int)).tmod 4) = ((8 * (k % 4) : Nat) : Int) := by rw [tm]; exact wU (by omega) (by omega)
    have m1 : min (IntKind.u64.wrap (8 * ((((w8 l).length : Nat) : Int) - 1 - ((i : Nat) : Int)).tmod 4)).toNat IntKind.u32.bits = 8 * (k % 4) := by
      rw [tw]; exact Nat.min_eq_left (by have : IntKind.u32.bits = 32 := rfl; rw [this, Int.toNat_natCast]; omega)
    have e32 : (2 : Nat) ^ (8 * (k % 4) + 8) ≤ 4294967296 := by
      have : (2 : Nat) ^ (8 * (k % 4) + 8) ≤ 2 ^ 32 := Nat.pow_le_pow_right (by decide) (by omega)
      exact this
    have esh : IntKind.u32.wrap (IntKind.u32.wrap ((d : Nat) : Int) * 2 ^ min (IntKind.u64.wrap (8 * ((((w8 l).length : Nat) : Int) - 1 - ((i : Nat) : Int)).tmod 4)).toNat IntKind.u32.bits) = ((d * 2 ^ (8 * (k % 4)) : Nat) : Int) := by
      rw [m1, wrap32_id (by omega)]
      exact wu32 (by simp) (by omega)
    have ew := or32 x (d * 2 ^ (8 * (k % 4))) (8 * (k % 4) + 8) (by omega) k2 k3 (by omega) k4
    rw [← esh] at ew
    refine ⟨by rw [hll]; omega, ?_⟩
    refine ⟨by rw [hll]; omega, ?_⟩
    refine ⟨by decide, ?_⟩
    refine ⟨by rw [td]; omega, ?_⟩
    refine ⟨by decide, ?_⟩
    refine ⟨by rw [td]; omega, ?_⟩
    refine ⟨by rw [td]; omega, ?_⟩
    refine ⟨rfl, ?_⟩
    refine ⟨.int .u32 ((x : Nat) : Int), get_at (wk_get k1) (by rw [td]; omega), ?_⟩
    refine ⟨by rw [hll]; omega, ?_⟩
    refine ⟨.int .u8 ((d : Nat) : Int), wk_get hd, ?_⟩
    refine ⟨by decide, ?_⟩
    refine ⟨by rw [tm]; omega, ?_⟩
    refine ⟨by rw [tw]; omega, ?_⟩
    refine ⟨by rw [td]; omega, ?_⟩
    refine ⟨rfl, ?_⟩
    refine ⟨?_, ?_⟩
    · show 0 + (_ : Int).toNat < (w32 (pad _ _ _)).length
      rw [td, wk_len, pad_len]; omega
    refine ⟨by omega, ?_⟩
    refine ⟨i + 1, ⟨hin, by omega⟩, ⟨rfl, rfl, rfl, trivial⟩, ⟨?_, trivial⟩⟩
    refine congrArg (fun l => some (⟨false, 1, l, 0, true⟩ : Blk)) (?_ : (w32 (pad 4294967296 n (256 ^ (l.length - i) * ofBytes (l.take i)))).set (0 + (((((w8 l).length : Nat) : Int) - 1 - ((i : Nat) : Int)).tdiv 4).toNat) (AV.int .u32 _) = _)
    rw [ew, td, wk_set0, k5]
  · have hin : i = l.length := by have := of_decide_eq_false h2; rw [hll] at this; omega
    subst hin
    rw [Nat.sub_self, Nat.pow_zero, Nat.one_mul, List.take_length]
    have hlt := ofBytes_lt hl
    have hb : ofBytes l < 4294967296 ^ n := by
      refine Nat.lt_of_lt_of_le hlt ?_
      have e8 : (4294967296 : Nat) = 256 ^ 4 := by decide
      rw [e8, ← Nat.pow_mul]
      exact Nat.pow_le_pow_right (by decide) (by omega)
    have cr := rtrim_ct (pad 4294967296 n (ofBytes l)) (pad_small (by decide) _ _) (by rw [pad_len]; omega)
    rw [pad_val hb] at cr
    refine ⟨_, _, rfl, ?_⟩
    refine ⟨_, cr.eq ?_, ?_⟩
    · refine cons_eq ?_ rfl
      show AV.imm false 1 (((w32 (pad 4294967296 n (ofBytes l))).drop 0).take n) = _
      rw [List.drop_zero, List.take_of_length_le (by rw [wk_len, pad_len]; exact Nat.le_refl _)]
    exact ⟨_, rfl, .refl _⟩

theorem lenr (x : Nat) : (w32 (digs 4294967296 x)).length = (digs 4294967296 x).length := wk_len _ _
theorem rlen0 {x : Nat} : (digs 4294967296 x).length = 0 ↔ x = 0 := by
  rw [List.length_eq_zero_iff]; exact digs_nil (by decide)
theorem ok_NatBits : codeOk E Tryz.f44.ntmps (Tryz.f44.body.getD .skip) = true := by kernel_rfl
theorem NatBits_ct (x : Nat) (hx : blen x < 1099511627776) : Ct E 44 [aR x] [] (iI (((blen x : Nat) : Int))) [] := by
  refine Ct_of hE Tryz.func44 rfl rfl (by exact Nat.le_of_ble_eq_true rfl) ok_NatBits ?_
  have hlx : (digs 4294967296 x).length < 1099511627776 := Nat.lt_of_le_of_lt (len32 x) hx
  refine ⟨fun h => ?_, fun h => ?_⟩
  · have h0 : x = 0 := by
      have : (w32 (digs 4294967296 x)).length = 0 := by have := eq_of_beq h; omega
      rw [lenr] at this
      exact rlen0.1 this
    exact ⟨_, rfl, .of_eq (congrArg (AV.int .i64) (by rw [h0]; rfl))⟩
  have hx0 : x ≠ 0 := by rintro rfl; exact absurd h (by decide)
  rcases List.eq_nil_or_concat (digs 4294967296 x) with hn | ⟨m, d, hm⟩
  · exact absurd ((digs_nil (by decide)).1 hn) hx0
  have hm : digs 4294967296 x = m ++ [d] := by simpa using hm
  have hd0 := digs_last (by decide) hm
  have hbl := blen_last (k := 32) (by decide) (by decide) hm
  have hlen : (digs 4294967296 x).length = m.length + 1 := by rw [hm]; simp
  have hds : d < 4294967296 := by have := digs_small (B := 4294967296) (by decide) x d (by rw [hm]; simp); exact this
  have hdg : (digs 4294967296 x)[m.length]? = some d := by rw [hm]; simp
  have hbd : blen d ≤ 32 := blen_le (n := 32) hds
  refine ⟨by rw [lenr]; omega, ?_⟩
  refine ⟨by rw [lenr]; omega, ?_⟩
  refine ⟨by rw [lenr]; omega, ?_⟩
  refine ⟨by rw [lenr]; omega, ?_⟩
  refine ⟨.int .u32 ((d : Nat) : Int), get_at (wk_get hdg) (by rw [lenr]; omega), ?_⟩
  refine loop_fr [] (fun q : Nat × Nat => blen q.1 + q.2 = blen d ∧ q.1 < 4294967296) (fun q => q.1) (fun q => [(4, .int .u32 ((q.1 : Nat) : Int)), (3, iI ((32 * m.length + q.2 : Nat) : Int))]) (fun _ => []) (d, 0) ⟨rfl, hds⟩ ⟨rfl, congrArg (AV.int .i64) (by rw [lenr, hlen]; dsimp only; omega), trivial⟩ trivial ?_
  rintro ⟨y, j⟩ g h' vr ⟨hy1, hy2⟩
  dsimp only at hy1 hy2
  refine ⟨fun h2 => ?_, fun h2 => ?_⟩
  · have hy0 : 0 < y := by have := of_decide_eq_true h2; dsimp only at this; omega
    have hb := blen_pos (x := y) (by omega)
    have e1 : (((y : Nat) : Int)).fdiv (2 ^ min (1 : Int).toNat IntKind.u32.bits) = ((y / 2 : Nat) : Int) := fdivU (k := 1) rfl rfl rfl
    have hb2 : blen (y / 2) + 1 = blen y := by
      by_cases h1 : y = 1
      · subst h1; rfl
      · have := blen_div y 1 (by omega)
        rw [this]
    refine ⟨by omega, ?_⟩
    refine ⟨by decide, ?_⟩
    exact ⟨(y / 2, j + 1), ⟨⟨by dsimp only; omega, by dsimp only; omega⟩, by dsimp only; omega⟩, ⟨congrArg (AV.int .u32) e1, congrArg (AV.int .i64) (by dsimp only; omega), trivial⟩, trivial⟩
  · have hy0 : y = 0 := by have := of_decide_eq_false h2; dsimp only at this; omega
    subst hy0
    rw [blen_zero] at hy1
    refine ⟨_, rfl, .of_eq (congrArg (AV.int .i64) (by dsimp only; omega))⟩

theorem ok_NatBytes : codeOk E Tryz.f75.ntmps (Tryz.f75.body.getD .skip) = true := by kernel_rfl
theorem NatBytes_ct (x : Nat) (hx : blen x < 1099511627776) : Ct E 75 [aR x] [] (.imm false 1 (w8 (bytesOf x))) [] := by
  refine Ct_of hE Tryz.func75 rfl rfl (by exact Nat.le_of_ble_eq_true rfl) ok_NatBytes ?_
  obtain ⟨L, hLL⟩ : ∃ L, L = (blen x + 7) / 8 := ⟨_, rfl⟩
  have t0 : (((blen x : Nat) : Int) + 7).tdiv 8 = ((L : Nat) : Int) := by rw [hLL]; rfl
  have eT : ((((blen x : Nat) : Int) + 7).tdiv 8).toNat = L := by rw [t0]; rfl
  refine ⟨_, NatBits_ct x hx, ?_⟩
  refine ⟨by omega, ?_⟩
  refine ⟨by decide, ?_⟩
  refine ⟨by rw [t0]; omega, ?_⟩
  refine ⟨by rw [t0]; dsimp only; omega, ?_⟩
  have hblk : (⟨false, 1, List.replicate ((((blen x : Nat) : Int) + 7).tdiv 8).toNat (.int .u8 0), 0, true⟩ : Blk) = ⟨false, 1, w8 ((pad 256 L 0).reverse), 0, true⟩ := by
    rw [eT, pad_zero, List.reverse_replicate]; exact congrArg (fun l => (⟨false, 1, l, 0, true⟩ : Blk)) (wk_rep .u8 _)
  have hlen : (digs 4294967296 x).length = (L + 3) / 4 := by rw [digs32_len]; omega
  have hdig : ∀ i, i < L → (digs 4294967296 x)[i / 4]? = some (x / 4294967296 ^ (i / 4) % 4294967296) := by
    intro i hi
    have e : digs 4294967296 x = pad 4294967296 ((L + 3) / 4) x := by
      have := pad_of (digs_small (B := 4294967296) (by decide) x)
      rw [digs_val (by decide), hlen] at this
      exact this.symm
    rw [e, pad_get (by omega)]
  have hbo : bytesOf x = (pad 256 L x).reverse := by
    unfold bytesOf
    have := pad_of (digs_small (B := 256) (by decide) x)
    rw [digs_val (by decide), digs256_len, ← hLL] at this
    rw [this]
  refine loop_fr [] (fun q : Nat × List Nat => q.1 ≤ L ∧ q.2.length = L ∧ q.2.take q.1 = (pad 256 L x).take q.1) (fun q => L - q.1)
    (fun q => [(0, aR x), (3, iI L), (4, .own 11 0 1 0 L), (5, iI q.1)])
    (fun q => [(11, ⟨false, 1, w8 q.2.reverse, 0, true⟩)])
    (0, pad 256 L 0) ⟨Nat.zero_le _, pad_len _ _ _, rfl⟩ ⟨rfl, congrArg (AV.int .i64) t0, own_eq rfl eT, rfl, trivial⟩ ⟨congrArg some hblk, trivial⟩ ?_
  rintro ⟨i, p⟩ g h vr ⟨hi, hpl, hpt⟩
  dsimp only at hi hpl hpt
  refine ⟨fun h2 => ?_, fun h2 => ?_⟩
  · have hin : i < L := by have := of_decide_eq_true h2; dsimp only at this; omega
    have td : (((i : Nat) : Int)).tdiv 4 = ((i / 4 : Nat) : Int) := rfl
    have tm : (((i : Nat) : Int)).tmod 4 = ((i % 4 : Nat) : Int) := rfl
    have hd := hdig i hin
    have hb := @byte_at4 x i
    have tw : IntKind.u64.wrap (8 * (((i : Nat) : Int)).tmod 4) = ((8 * (i % 4) : Nat) : Int) := by rw [tm]; exact wU (by omega) (by omega)
    have m1 : min (IntKind.u64.wrap (8 * (((i : Nat) : Int)).tmod 4)).toNat IntKind.u32.bits = 8 * (i % 4) := by
      rw [tw]; exact Nat.min_eq_left (by have : IntKind.u32.bits = 32 := rfl; rw [this, Int.toNat_natCast]; omega)
    have eS : IntKind.u8.wrap ((((x / 4294967296 ^ (i / 4) % 4294967296 : Nat) : Int)).fdiv (2 ^ min (IntKind.u64.wrap (8 * (((i : Nat) : Int)).tmod 4)).toNat IntKind.u32.bits)) = ((x / 256 ^ i % 256 : Nat) : Int) := by
      rw [fdivU (k := 8 * (i % 4)) rfl (by rw [m1]) rfl, wrap8, ← hb]; rfl
    refine ⟨by first | omega | (dsimp only; omega), ?_⟩
    refine ⟨by first | omega | (dsimp only; omega), ?_⟩
    refine ⟨by decide, ?_⟩
    refine ⟨by first | omega | (dsimp only; omega), ?_⟩
    refine ⟨by rw [lenr, hlen]; first | omega | (dsimp only; omega), ?_⟩
    refine ⟨.int .u32 ((x / 4294967296 ^ (i / 4) % 4294967296 : Nat) : Int), wk_get hd, ?_⟩
    refine ⟨by decide, ?_⟩
    refine ⟨by first | omega | (dsimp only; omega), ?_⟩
    refine ⟨by dsimp only; rw [tw]; omega, ?_⟩
    refine ⟨by first | omega | (dsimp only; omega), ?_⟩
    refine ⟨rfl, ?_⟩
    refine ⟨?_, ?_⟩
    · show 0 + (((L : Nat) : Int) - 1 - ((i : Nat) : Int)).toNat < (w8 p.reverse).length
      rw [wk_len, List.length_reverse]; omega
    refine ⟨by first | omega | (dsimp only; omega), ?_⟩
    refine ⟨(i + 1, p.set i (x / 256 ^ i % 256)), ⟨⟨hin, by rw [List.length_set]; exact hpl, ?_⟩, by dsimp only; omega⟩, ⟨rfl, rfl, rfl, rfl, trivial⟩, ⟨?_, trivial⟩⟩
    · dsimp only
      rw [take_set_snoc (by omega), hpt, List.take_add_one, pad_get hin]
      rfl
    · refine congrArg (fun l => some (⟨false, 1, l, 0, true⟩ : Blk)) (Eq.trans (congrArg (fun z => (w8 p.reverse).set (0 + (((L : Nat) : Int) - 1 - ((i : Nat) : Int)).toNat) (AV.int .u8 z)) eS) ?_)
      have e1 : 0 + (((L : Nat) : Int) - 1 - ((i : Nat) : Int)).toNat = p.length - 1 - i := by omega
      rw [e1, wk_set, rev_set (by omega)]
  · have hin : i = L := by have := of_decide_eq_false h2; dsimp only at this; omega
    subst hin
    rw [List.take_of_length_le (by omega), List.take_of_length_le (by rw [pad_len]; exact Nat.le_refl _)] at hpt
    refine ⟨_, rfl, .of_eq ?_⟩
    show AV.imm false 1 (((w8 p.reverse).drop 0).take i) = _
    rw [List.drop_zero, List.take_of_length_le (by rw [wk_len, List.length_reverse]; omega), hpt, hbo]
end Go.Proofs.YtjafmphhnclfjaaGreatDoor
end

section
namespace Go.Proofs.YtjafmphhnclfjaaGreatDoor
open Go GoAbs Num
set_option maxRecDepth 100000
set_option maxHeartbeats 1000000

theorem ok_Few : codeOk E Tryz.f19.ntmps (Tryz.f19.body.getD .skip) = true := by kernel_rfl
theorem Few_ct (l : List Nat) (n : Nat) (hl : l.length < 140737488355328) (hn : n < 65536) : Ct E 19 [.imm false 1 (w8 l), iI n] [] (.imm false 1 (w8 (l.take n))) [] := by
  refine Ct_of hE Tryz.func19 rfl rfl (by exact Nat.le_of_ble_eq_true rfl) ok_Few ?_
  have hll : (w8 l).length = l.length := wk_len _ _
  have em : (if ((n : Nat) : Int) < (((w8 l).length : Nat) : Int) then ((n : Nat) : Int) else (((w8 l).length : Nat) : Int)) = ((min l.length n : Nat) : Int) := by rw [hll]; split <;> omega
  refine ⟨⟨by decide, by rw [em]; omega, by rw [em, hll]; omega, by omega, by simp⟩, ?_⟩
  refine ⟨⟨rfl, rfl, ?_⟩, ?_⟩
  · rw [List.length_take]
    dsimp only
    rw [em]
    omega
  refine ⟨_, rfl, .of_eq ?_⟩
  show AV.imm false 1 ((((([] : List AV).drop 0) ++ (((w8 l).drop (0 : Int).toNat).take ((if ((n : Nat) : Int) < (((w8 l).length : Nat) : Int) then ((n : Nat) : Int) else (((w8 l).length : Nat) : Int)) - 0).toNat)).drop 0).take _) = _
  rw [em, List.drop_nil, List.nil_append, List.drop_zero, List.take_of_length_le (by simp)]
  show AV.imm false 1 (((w8 l).drop 0).take _) = _
  rw [List.drop_zero, wk_take]
  congr 2
  rcases Nat.le_total l.length n with h | h
  · rw [List.take_of_length_le (by omega), List.take_of_length_le h]
  · congr 1; omega

/-- A whole number as the document has it. -/
def aRI (n : Int) : AV := .agg [.bool (decide (n < 0)), .imm false 1 (w32 (digs 4294967296 n.natAbs))]
theorem aRI_eq {x y : Int} (h : x = y) : aRI x = aRI y := congrArg aRI h
theorem aRI_mk {b : Bool} {x : Nat} {n : Int} (hb : b = decide (n < 0)) (hx : x = n.natAbs) : AV.agg [.bool b, .imm false 1 (w32 (digs 4294967296 x))] = aRI n := by rw [hb, hx]; rfl
theorem aRI_nil : Le (.agg [.kf, .nils]) (aRI 0) := .agg (.cons .kf (.cons (.nils _ _) .nil))
theorem aR_nil : Le .nils (aR 0) := .nils _ _
theorem ok_I : codeOk E Tryz.f17.ntmps (Tryz.f17.body.getD .skip) = true := by kernel_rfl
theorem I_ct (b : Bool) (x : Nat) : Ct E 17 [.bool b, aR x] [] (aRI (if b then -((x : Nat) : Int) else ((x : Nat) : Int))) [] := by
  refine Ct_of hE Tryz.func17 rfl rfl (by exact Nat.le_of_ble_eq_true rfl) ok_I ?_
  cases b with
  | false =>
    repeat first | refine ifB_neg rfl ?_ | refine ⟨rfl, ?_⟩
    exact ⟨_, rfl, .agg (.cons (Le.kf.trans (.of_eq (congrArg AV.bool (by simp)))) (.cons (.refl _) .nil))⟩
  | true =>
    repeat first | refine ifB_pos rfl ?_ | refine ⟨rfl, ?_⟩
    refine ⟨_, rfl, .of_eq (aRI_mk ?_ (by simp))⟩
    rw [lenr]
    have h0 := @rlen0 x
    simp only [if_true]
    by_cases hx0 : x = 0
    · rw [hx0]; rfl
    · rw [decide_eq_true (by omega), decide_eq_true (by omega)]

theorem ok_HNat : codeOk E Tryz.f56.ntmps (Tryz.f56.body.getD .skip) = true := by kernel_rfl
theorem HNat_ct (x : Nat) (hx : blen x < 1099511627776) : Ct E 56 [aR x] [] (aN x) [] := by
  refine Ct_of hE Tryz.func56 rfl rfl (by exact Nat.le_of_ble_eq_true rfl) ok_HNat ?_
  refine ⟨_, NatBytes_ct x hx, ?_⟩
  refine ⟨_, FromBytes_ct _ (bytesOf_small x) (by rw [bytesOf_len]; omega), ?_⟩
  exact ⟨rfl, rfl, _, rfl, .of_eq (aN_eq (ofBytes_bytesOf x))⟩
theorem ok_HInt : codeOk E Tryz.f21.ntmps (Tryz.f21.body.getD .skip) = true := by kernel_rfl
theorem HInt_ct (n : Int) (hn : blen n.natAbs < 1099511627776) : Ct E 21 [aRI n] [] (aZ n) [] := by
  refine Ct_of hE Tryz.func21 rfl rfl (by exact Nat.le_of_ble_eq_true rfl) ok_HInt ?_
  repeat refine ⟨rfl, ?_⟩
  refine ⟨_, HNat_ct n.natAbs hn, ?_⟩
  refine ⟨_, From_ct (decide (n < 0)) n.natAbs hn, ?_⟩
  refine ⟨rfl, rfl, _, rfl, .of_eq (aZ_eq ?_)⟩
  by_cases h : n < 0
  · rw [decide_eq_true h]; simp; omega
  · rw [decide_eq_false h]; simp; omega

theorem blen_few {l : List Nat} (h : Small 256 l) (n : Nat) : blen (ofBytes (l.take n)) ≤ 8 * n := by
  have h1 := blen_ofBytes (h.take n)
  rw [List.length_take] at h1
  omega
theorem ok_two1 : codeOk E Tryz.f28.ntmps (Tryz.f28.body.getD .skip) = true := by kernel_rfl
theorem two1_ct (a b : List Nat) (sa : Small 256 a) (sb : Small 256 b) (la : a.length < 140737488355328) (lb : b.length < 140737488355328) :
    Ct E 28 [.imm false 1 (w8 a), .imm false 1 (w8 b)] [] (.tup [aN (ofBytes (a.take 48)), aN (ofBytes (b.take 48)), aR (ofBytes (a.take 48)), aR (ofBytes (b.take 48))]) [] := by
  refine Ct_of hE Tryz.func28 rfl rfl (by exact Nat.le_of_ble_eq_true rfl) ok_two1 ?_
  have b1 := blen_few sa 48
  have b2 := blen_few sb 48
  refine ⟨_, Few_ct a 48 la (by decide), ?_⟩
  refine ⟨_, NatFrom_ct _ (sa.take 48) (by rw [List.length_take]; omega), ?_⟩
  refine ⟨_, Few_ct b 48 lb (by decide), ?_⟩
  refine ⟨_, NatFrom_ct _ (sb.take 48) (by rw [List.length_take]; omega), ?_⟩
  refine ⟨_, HNat_ct _ (by omega), ?_⟩
  refine ⟨_, HNat_ct _ (by omega), ?_⟩
  repeat refine ⟨rfl, ?_⟩
  exact ⟨_, rfl, .refl _⟩
theorem two1n_ct (a : List Nat) (sa : Small 256 a) (la : a.length < 140737488355328) :
    Ct E 28 [.imm false 1 (w8 a), .nils] [] (.tup [aN (ofBytes (a.take 48)), aN 0, aR (ofBytes (a.take 48)), aR 0]) [] :=
  (two1_ct a [] sa (.nil _) la (by simp)).args (.cons (.refl _) (.cons (.nils _ _) .nil))
end Go.Proofs.YtjafmphhnclfjaaGreatDoor
end

section
namespace Go.Proofs.YtjafmphhnclfjaaGreatDoor
open Go GoAbs Num
set_option maxRecDepth 100000

def S0add (l : List AV) : Option AV :=
  match l with
  | [.int .u64 (.ofNat x), .int .u64 (.ofNat y), .int .u64 (.ofNat c)] => (match Nat.ble c 1 with
    | true => some (.tup [.int .u64 (.ofNat ((x + y + c) % 18446744073709551616)), .int .u64 (.ofNat ((x + y + c) / 18446744073709551616))])
    | false => none)
  | _ => none
def S0sub (l : List AV) : Option AV :=
  match l with
  | [.int .u64 (.ofNat x), .int .u64 (.ofNat y), .int .u64 (.ofNat c)] => (match Nat.ble c 1 with
    | true => some (.tup [.int .u64 (.ofNat ((x + 18446744073709551616 - y - c) % 18446744073709551616)), .int .u64 (.ofNat (match Nat.blt x (y + c) with | true => 1 | false => 0))])
    | false => none)
  | _ => none
def S0 (f : FuncId) (l : List AV) : Option AV :=
  match Nat.beq f 69 with
  | true => S0add l
  | false => (match Nat.beq f 83 with
    | true => S0sub l
    | false => none)
theorem S0_ok : ∀ f l r, S0 f l = some r → Ct E f l [] r [] := by
  intro f l r h
  unfold S0 at h
  split at h
  · rename_i hf
    have hf := Nat.eq_of_beq_eq_true hf
    subst hf
    unfold S0add at h
    split at h
    · rename_i x y c
      split at h
      · rename_i hc
        simp only [Option.some.injEq] at h
        subst h
        exact add64_e (Nat.le_of_ble_eq_true hc)
      · simp at h
    · simp at h
  · split at h
    · rename_i hf
      have hf := Nat.eq_of_beq_eq_true hf
      subst hf
      unfold S0sub at h
      split at h
      · rename_i x y c
        split at h
        · rename_i hc
          simp only [Option.some.injEq] at h
          subst h
          refine (sub64_e (Nat.le_of_ble_eq_true hc)).weak (.of_eq ?_)
          congr 2
          have e : (if x < y + c then 1 else 0) = (match Nat.blt x (y + c) with | true => 1 | false => 0) := by
            cases hb : Nat.blt x (y + c) with
            | true => rw [if_pos (by simpa [Nat.blt_eq] using hb)]
            | false => rw [if_neg (by intro hc; rw [← Nat.blt_eq] at hc; rw [hc] at hb; simp at hb)]
          rw [e]
          rfl
        · simp at h
      · simp at h
    · simp at h
end Go.Proofs.YtjafmphhnclfjaaGreatDoor
end
