/- Package nat: sums, and what they need. Package nat: small things. Package nat: bits, and holding against one another. Package nat: sums. Package nat: differences. math/bits: products. Package nat: products. -/
import Derived.Test.YtjafmphhnclfjaaDoorNumI
import Derived.Test.YtjafmphhnclfjaaDoorEnv
import Derived.Lib.Mul64
set_option linter.all false
section
namespace Go.Proofs.YtjafmphhnclfjaaDoor
open Go GoAbs Num
set_option maxRecDepth 100000

theorem add64 {x y c : Nat} (hc : c ≤ 1) : Ct E0 62 [iU x, iU y, iU c] [] (.tup [iU ((x + y + c) % 18446744073709551616), iU ((x + y + c) / 18446744073709551616)]) [] :=
  add64_ct (fn := Tryd.f62) Tryd.func62 rfl rfl rfl rfl rfl hc
theorem sub64 {x y c : Nat} (hc : c ≤ 1) : Ct E0 70 [iU x, iU y, iU c] [] (.tup [iU ((x + 18446744073709551616 - y - c) % 18446744073709551616), iU (if x < y + c then 1 else 0)]) [] :=
  sub64_ct (fn := Tryd.f70) Tryd.func70 rfl rfl rfl rfl rfl hc

theorem ok_trim : codeOk E0 Tryd.f53.ntmps (Tryd.f53.body.getD .skip) = true := by kernel_rfl
theorem trim_l (ws : List Nat) (hlen : ws.length < 2^50) : Ct E0 53 [.imm false 1 (w64 ws)] [] (.agg [.imm false 1 (w64 (trimN ws))]) [] := by
  refine Ct_of hE0 Tryd.func53 rfl rfl (by exact Nat.le_of_ble_eq_true rfl) ok_trim ?_
  refine loop_fr [] (fun l : List Nat => trimN l = trimN ws ∧ l.length < 2^50) (fun l => l.length) (fun l => [(0, .imm false 1 (w64 l)), (2, .ref 2 0 0 0)]) (fun _ => [(2, ⟨true, 1, [.agg [.nils]], 0, false⟩)]) ws ⟨rfl, hlen⟩ ⟨rfl, rfl, trivial⟩ ⟨rfl, trivial⟩ ?_
  rintro l g h v ⟨hl, hn⟩
  have hu : ((w64 l).length : Int) = l.length := by simp [wk_len]
  refine ⟨fun h1 => ?_, fun h1 => ?_⟩
  · have hpos : 0 < l.length := by have := of_decide_eq_true h1; omega
    have hw : IntKind.i64.wrap (((w64 l).length : Int) - 1) = (l.length : Int) - 1 := by rw [hu]; exact wrap64_id (by omega) (by omega)
    obtain ⟨l', x, rfl⟩ : ∃ l' x, l = l' ++ [x] := by
      rcases List.eq_nil_or_concat l with rfl | ⟨l', x, rfl⟩
      · simp at hpos
      · exact ⟨l', x, by simp⟩
    repeat refine ifB_pos h1 ?_
    refine ⟨⟨by erw [hw]; omega, by erw [hw, hu]; omega⟩, ?_⟩
    repeat refine ifB_pos h1 ?_
    refine ⟨iU x, by erw [hw]; simp [wk], ?_⟩
    repeat refine ifB_pos h1 ?_
    refine ⟨fun hx => ?_, fun hx => ?_⟩
    · refine ⟨⟨by decide, by erw [hw]; omega, by erw [hw, hu]; omega, by erw [hu]; omega, by simp⟩, ?_⟩
      refine ⟨l', ⟨⟨?_, ?_⟩, ?_⟩, ⟨?_, rfl, trivial⟩, rfl, trivial⟩
      · have hx0 : x = 0 := by simpa using hx
        subst hx0
        rw [← hl, trimN_zero]
      · simp at hn; omega
      · simp
      · show AV.imm false 1 _ = _
        erw [hw]
        simp [wk]
    · have hx0 : x ≠ 0 := by simpa using hx
      have hr : trimN ws = l' ++ [x] := by rw [← hl, trimN_keep _ _ hx0]
      rw [hr]
      exact ⟨rfl, rfl, _, rfl, .refl _⟩
  · have h0 : l = [] := by
      have : ¬ (0 < l.length) := by have := of_decide_eq_false h1; omega
      exact List.length_eq_zero_iff.1 (by omega)
    subst h0
    rw [← hl]
    repeat refine ifB_neg h1 ?_
    exact ⟨rfl, rfl, _, rfl, .refl _⟩
/-- nat.trim, by the number. -/
theorem trim_ct (ws : List Nat) (hlen : ws.length < 2^50) (hs : Small 18446744073709551616 ws) : Ct E0 53 [.imm false 1 (w64 ws)] [] (aN (val 18446744073709551616 ws)) [] := by
  have := trim_l ws hlen
  rw [← digs_of (by decide) hs] at this
  exact this
end Go.Proofs.YtjafmphhnclfjaaDoor
end

section
namespace Go.Proofs.YtjafmphhnclfjaaDoor
open Go GoAbs Num
set_option maxRecDepth 100000

theorem ok_Of : codeOk E0 Tryd.f34.ntmps (Tryd.f34.body.getD .skip) = true := by kernel_rfl
theorem Of_ct (n : Nat) (hn : n < 18446744073709551616) : Ct E0 34 [iU n] [] (aN n) [] := by
  refine Ct_of hE0 Tryd.func34 rfl rfl (by exact Nat.le_of_ble_eq_true rfl) ok_Of ?_
  have h := trim_ct [n] (by simp) (.cons hn (.nil _))
  have hv : val 18446744073709551616 [n] = n := by simp [val]
  rw [hv] at h
  refine ⟨_, _, rfl, ?_⟩
  refine ⟨aN n, h, ?_⟩
  repeat refine ⟨rfl, ?_⟩
  exact ⟨_, rfl, .refl _⟩

theorem ok_Small : codeOk E0 Tryd.f35.ntmps (Tryd.f35.body.getD .skip) = true := by kernel_rfl
theorem Small_ct (x : Nat) : Ct E0 35 [aN x] [] (.tup [iU (if x < 18446744073709551616 then x else 0), .bool (decide (x < 18446744073709551616))]) [] := by
  refine Ct_of hE0 Tryd.func35 rfl rfl (by exact Nat.le_of_ble_eq_true rfl) ok_Small ?_
  repeat refine ⟨rfl, ?_⟩
  refine ⟨fun h0 => ?_, fun h0 => ?_⟩
  · have hx : x = 0 := by
      have : (w64 (digs 18446744073709551616 x)).length = 0 := by simpa using h0
      rw [wk_len] at this
      exact (digs_nil (by decide)).1 (List.length_eq_zero_iff.1 this)
    subst hx
    exact ⟨_, rfl, .tup (.cons (.refl _) (.cons .kt .nil))⟩
  · have hx : x ≠ 0 := by
      rintro rfl
      exact absurd h0 (by decide)
    refine ⟨fun h1 => ?_, fun h1 => ?_⟩
    · have hlen : (digs 18446744073709551616 x).length = 1 := by
        have : (((w64 (digs 18446744073709551616 x)).length : Nat) : Int) = 1 := by simpa using h1
        rw [wk_len] at this; omega
      have hlt : x < 18446744073709551616 := by have := digs_lt (B := 18446744073709551616) (by decide) x; rw [hlen] at this; simpa using this
      repeat refine ⟨rfl, ?_⟩
      refine ⟨⟨by decide, by rw [wk_len, hlen]; decide⟩, ?_⟩
      refine ⟨iU x, by rw [digs_one (by decide) hx hlt]; rfl, ?_⟩
      refine ⟨_, rfl, .tup (.cons (.of_eq ?_) (.cons ?_ .nil))⟩
      · rw [if_pos hlt]
      · rw [decide_eq_true hlt]; exact .kt
    · have hlt : ¬ x < 18446744073709551616 := by
        intro hlt
        rw [digs_one (by decide) hx hlt] at h1
        exact absurd h1 (by simp [wk])
      refine ⟨_, rfl, .tup (.cons (.of_eq ?_) (.cons ?_ .nil))⟩
      · rw [if_neg hlt]; rfl
      · rw [decide_eq_false hlt]; exact .kf

theorem ok_Len64 : codeOk E0 Tryd.f71.ntmps (Tryd.f71.body.getD .skip) = true := by kernel_rfl
def lenTab (s : ByteArray) : Bool := s.size == 256 && (List.range 256).all fun i => byteAt s (((i : Nat) : Int)) == ((blen i : Nat) : Int)
theorem lenTab_at {s : ByteArray} (h : lenTab s = true) {x : Nat} (hx : x < 256) : byteAt s (((x : Nat) : Int)) = ((blen x : Nat) : Int) := by
  unfold lenTab at h
  simp only [Bool.and_eq_true, List.all_eq_true] at h
  simpa using h.2 x (by simpa using hx)
theorem lenTab_in {s : ByteArray} (h : lenTab s = true) (n : Int) : 0 ≤ IntKind.u8.wrap n ∧ IntKind.u8.wrap n < s.size := by
  unfold lenTab at h
  simp only [Bool.and_eq_true, beq_iff_eq] at h
  rw [h.1, wrap8]
  omega
theorem Len64_leaf {s : ByteArray} (hs : lenTab s = true) (x k : Nat) (hk : k ≤ 56) (h0 : k = 0 ∨ 2 ^ k ≤ x) (h1 : x / 2 ^ k < 256) {n y : Int} (hn : n = ((k : Nat) : Int)) (hy : y = ((x / 2 ^ k : Nat) : Int)) : AV.int .i64 (IntKind.i64.wrap (n + IntKind.i64.wrap (byteAt s (IntKind.u8.wrap y)))) = iI (((blen x : Nat) : Int)) := by
  have e1 : IntKind.u8.wrap (((x / 2 ^ k : Nat) : Int)) = ((x / 2 ^ k : Nat) : Int) := by
    rw [wrap8]
    exact Int.emod_eq_of_lt (Int.natCast_nonneg _) (by have := Int.ofNat_lt.2 h1; simpa using this)
  rw [hy, e1, lenTab_at hs h1, hn]
  have hb : blen x = blen (x / 2 ^ k) + k := by
    rcases h0 with rfl | h0
    · simp
    · exact blen_div x k h0
  have h8 : blen (x / 2 ^ k) ≤ 8 := blen_le (n := 8) h1
  have e2 : IntKind.i64.wrap (((blen (x / 2 ^ k) : Nat) : Int)) = ((blen (x / 2 ^ k) : Nat) : Int) := wrapI (by omega) (by omega)
  rw [e2, wrapI (by omega) (by omega), hb]
  exact congrArg _ (by omega)
theorem ge_of {x k : Nat} {y : Int} (hy : y = ((x : Nat) : Int)) (h : decide (y ≥ ((k : Nat) : Int)) = true) : k ≤ x := by
  have := of_decide_eq_true h
  rw [hy] at this
  exact Int.ofNat_le.1 this
theorem lt_of {x k : Nat} {y : Int} (hy : y = ((x : Nat) : Int)) (h : decide (y ≥ ((k : Nat) : Int)) = false) : x < k := by
  have := of_decide_eq_false h
  rw [hy] at this
  exact Nat.lt_of_not_le fun hc => this (Int.ofNat_le.2 hc)
theorem fdivU {x k e : Nat} {y z : Int} (hy : y = ((x : Nat) : Int)) (hz : z = 2 ^ k) (he : e = 2 ^ k) : y.fdiv z = ((x / e : Nat) : Int) := by
  rw [hy, hz, he]
  have : (2 : Int) ^ k = ((2 ^ k : Nat) : Int) := by simp
  rw [this]
  exact (Int.ofNat_fdiv x (2 ^ k)).symm
theorem Len64_ct (x : Nat) (hx : x < 18446744073709551616) : Ct E0 71 [iU x] [] (iI (((blen x : Nat) : Int))) [] := by
  refine Ct_of hE0 Tryd.func71 rfl rfl (by exact Nat.le_of_ble_eq_true rfl) ok_Len64 ?_
  have d : ∀ x a b : Nat, x / a / b = x / (a * b) := fun x a b => Nat.div_div_eq_div_mul x a b
  · refine ⟨fun h1 => ?_, fun h1 => ?_⟩
    · have g1 := ge_of (k := 4294967296) rfl h1
      have y1 : (((x : Nat) : Int)).fdiv (2 ^ min (Int.toNat 32) IntKind.u64.bits) = ((x / 4294967296 : Nat) : Int) := fdivU (k := 32) rfl rfl rfl
      refine ⟨by decide, ?_⟩
      · refine ⟨fun h2 => ?_, fun h2 => ?_⟩
        · have g2 := ge_of (k := 65536) y1 h2
          have y2 : ((((x : Nat) : Int)).fdiv (2 ^ min (Int.toNat 32) IntKind.u64.bits)).fdiv (2 ^ min (Int.toNat 16) IntKind.u64.bits) = ((x / 4294967296 / 65536 : Nat) : Int) := fdivU (k := 16) y1 rfl rfl
          refine ⟨by decide, ?_⟩
          · refine ⟨fun h3 => ?_, fun h3 => ?_⟩
            · have g3 := ge_of (k := 256) y2 h3
              have y3 : (((((x : Nat) : Int)).fdiv (2 ^ min (Int.toNat 32) IntKind.u64.bits)).fdiv (2 ^ min (Int.toNat 16) IntKind.u64.bits)).fdiv (2 ^ min (Int.toNat 8) IntKind.u64.bits) = ((x / 4294967296 / 65536 / 256 : Nat) : Int) := fdivU (k := 8) y2 rfl rfl
              refine ⟨by decide, ?_⟩
              · exact ⟨lenTab_in (by kernel_rfl) _, _, rfl, .of_eq (Len64_leaf (by kernel_rfl) x 56 (by decide) (.inr (by omega)) (by omega) rfl (by rw [d, d] at y3; exact y3))⟩
            · have g3 := lt_of (k := 256) y2 h3
              · exact ⟨lenTab_in (by kernel_rfl) _, _, rfl, .of_eq (Len64_leaf (by kernel_rfl) x 48 (by decide) (.inr (by omega)) (by omega) rfl (by rw [d] at y2; exact y2))⟩
        · have g2 := lt_of (k := 65536) y1 h2
          · refine ⟨fun h3 => ?_, fun h3 => ?_⟩
            · have g3 := ge_of (k := 256) y1 h3
              have y3 : ((((x : Nat) : Int)).fdiv (2 ^ min (Int.toNat 32) IntKind.u64.bits)).fdiv (2 ^ min (Int.toNat 8) IntKind.u64.bits) = ((x / 4294967296 / 256 : Nat) : Int) := fdivU (k := 8) y1 rfl rfl
              refine ⟨by decide, ?_⟩
              · exact ⟨lenTab_in (by kernel_rfl) _, _, rfl, .of_eq (Len64_leaf (by kernel_rfl) x 40 (by decide) (.inr (by omega)) (by omega) rfl (by rw [d] at y3; exact y3))⟩
            · have g3 := lt_of (k := 256) y1 h3
              · exact ⟨lenTab_in (by kernel_rfl) _, _, rfl, .of_eq (Len64_leaf (by kernel_rfl) x 32 (by decide) (.inr (by omega)) (by omega) rfl (y1))⟩
    · have g1 := lt_of (k := 4294967296) rfl h1
      · refine ⟨fun h2 => ?_, fun h2 => ?_⟩
        · have g2 := ge_of (k := 65536) rfl h2
          have y2 : (((x : Nat) : Int)).fdiv (2 ^ min (Int.toNat 16) IntKind.u64.bits) = ((x / 65536 : Nat) : Int) := fdivU (k := 16) rfl rfl rfl
          refine ⟨by decide, ?_⟩
          · refine ⟨fun h3 => ?_, fun h3 => ?_⟩
            · have g3 := ge_of (k := 256) y2 h3
              have y3 : ((((x : Nat) : Int)).fdiv (2 ^ min (Int.toNat 16) IntKind.u64.bits)).fdiv (2 ^ min (Int.toNat 8) IntKind.u64.bits) = ((x / 65536 / 256 : Nat) : Int) := fdivU (k := 8) y2 rfl rfl
              refine ⟨by decide, ?_⟩
              · exact ⟨lenTab_in (by kernel_rfl) _, _, rfl, .of_eq (Len64_leaf (by kernel_rfl) x 24 (by decide) (.inr (by omega)) (by omega) rfl (by rw [d] at y3; exact y3))⟩
            · have g3 := lt_of (k := 256) y2 h3
              · exact ⟨lenTab_in (by kernel_rfl) _, _, rfl, .of_eq (Len64_leaf (by kernel_rfl) x 16 (by decide) (.inr (by omega)) (by omega) rfl (y2))⟩
        · have g2 := lt_of (k := 65536) rfl h2
          · refine ⟨fun h3 => ?_, fun h3 => ?_⟩
            · have g3 := ge_of (k := 256) rfl h3
              have y3 : (((x : Nat) : Int)).fdiv (2 ^ min (Int.toNat 8) IntKind.u64.bits) = ((x / 256 : Nat) : Int) := fdivU (k := 8) rfl rfl rfl
              refine ⟨by decide, ?_⟩
              · exact ⟨lenTab_in (by kernel_rfl) _, _, rfl, .of_eq (Len64_leaf (by kernel_rfl) x 8 (by decide) (.inr (by omega)) (by omega) rfl (y3))⟩
            · have g3 := lt_of (k := 256) rfl h3
              · exact ⟨lenTab_in (by kernel_rfl) _, _, rfl, .of_eq (Len64_leaf (by kernel_rfl) x 0 (by decide) (.inl rfl) (by omega) rfl (by simp))⟩
end Go.Proofs.YtjafmphhnclfjaaDoor
end

section
namespace Go.Proofs.YtjafmphhnclfjaaDoor
open Go GoAbs Num
set_option maxRecDepth 100000

theorem ok_Bits : codeOk E0 Tryd.f46.ntmps (Tryd.f46.body.getD .skip) = true := by kernel_rfl
theorem Bits_ct (x : Nat) (hx : blen x < 1099511627776) : Ct E0 46 [aN x] [] (iI (((blen x : Nat) : Int))) [] := by
  refine Ct_of hE0 Tryd.func46 rfl rfl (by exact Nat.le_of_ble_eq_true rfl) ok_Bits ?_
  repeat refine ⟨rfl, ?_⟩
  rcases List.eq_nil_or_concat (digs 18446744073709551616 x) with hn | ⟨m, d, hm⟩
  · have hx0 := (digs_nil (by decide)).1 hn
    subst hx0
    refine ⟨fun _ => ?_, fun h => absurd h (by decide)⟩
    exact ⟨_, rfl, .refl _⟩
  · have hm : digs 18446744073709551616 x = m ++ [d] := by simpa using hm
    have hb := blen_last (k := 64) (by decide) (by decide) hm
    have hd : d < 18446744073709551616 := (digs_small (by decide) x).get (i := m.length) (by rw [hm]; simp)
    have hl : (w64 (digs 18446744073709551616 x)).length = m.length + 1 := by rw [hm, wk_len]; simp
    have hw : IntKind.i64.wrap (((w64 (digs 18446744073709551616 x)).length : Int) - 1) = ((m.length : Nat) : Int) := by
      rw [hl]
      have : ((m.length + 1 : Nat) : Int) - 1 = ((m.length : Nat) : Int) := by simp
      rw [this]
      exact wrapI (by omega) (by omega)
    refine ⟨fun h => ?_, fun h => ?_⟩
    · exfalso
      have : (((w64 (digs 18446744073709551616 x)).length : Nat) : Int) = 0 := by simpa using h
      rw [hl] at this
      omega
    · repeat refine ⟨rfl, ?_⟩
      refine ⟨⟨by erw [hw]; exact Int.natCast_nonneg _, by erw [hw, hl]; omega⟩, ?_⟩
      refine ⟨iU d, by erw [hw]; exact wk_get (by rw [hm]; simp), ?_⟩
      refine ⟨_, Len64_ct d hd, ?_⟩
      refine ⟨_, rfl, .of_eq ?_⟩
      have h64 : blen d ≤ 64 := blen_le (n := 64) hd
      rw [hw]
      have h2 : IntKind.i64.wrap (64 * ((m.length : Nat) : Int)) = ((64 * m.length : Nat) : Int) := wI (by simp) (by omega) (by omega)
      rw [h2]
      exact congrArg _ (wI (by rw [hb]; simp) (by omega) (by omega))

theorem ok_Cmp : codeOk E0 Tryd.f17.ntmps (Tryd.f17.body.getD .skip) = true := by kernel_rfl
theorem Cmp_ct (x y : Nat) (hx : blen x < 1099511627776) (hy : blen y < 1099511627776) : Ct E0 17 [aN x, aN y] [] (iI (cmp x y)) [] := by
  refine Ct_of hE0 Tryd.func17 rfl rfl (by exact Nat.le_of_ble_eq_true rfl) ok_Cmp ?_
  have hlx : (digs 18446744073709551616 x).length < 1099511627776 := Nat.lt_of_le_of_lt (len64 x) hx
  have hly : (digs 18446744073709551616 y).length < 1099511627776 := Nat.lt_of_le_of_lt (len64 y) hy
  repeat refine ⟨rfl, ?_⟩
  refine ⟨fun h1 => ?_, fun h1 => ?_⟩
  · repeat refine ⟨rfl, ?_⟩
    refine ⟨fun h2 => ?_, fun h2 => ?_⟩
    · have : x < y := digs_len_lt (B := 18446744073709551616) (by decide) (by have := of_decide_eq_true h2; rw [wk_len, wk_len] at this; omega)
      exact ⟨_, rfl, .of_eq (by rw [cmp_lt this])⟩
    · have : y < x := digs_len_lt (B := 18446744073709551616) (by decide) (by
        have := of_decide_eq_false h2
        rw [wk_len, wk_len] at this
        rw [wk_len, wk_len] at h1
        simp at h1
        omega)
      exact ⟨_, rfl, .of_eq (by rw [cmp_gt this])⟩
  · rw [wk_len, wk_len] at h1
    have hl : (digs 18446744073709551616 x).length = (digs 18446744073709551616 y).length := by simp at h1; omega
    repeat refine ⟨rfl, ?_⟩
    have hst : (AV.int .i64 (IntKind.i64.wrap (((w64 (digs 18446744073709551616 x)).length : Int) - 1))) = .int .i64 ((((digs 18446744073709551616 x).length : Nat) : Int) - 1) := by
      rw [wk_len]; exact congrArg _ (wrapI (by omega) (by omega))
    refine loop_fr [] (fun i : Nat => i ≤ (digs 18446744073709551616 x).length ∧ (digs 18446744073709551616 x).drop i = (digs 18446744073709551616 y).drop i) (fun i => i)
      (fun i => [(2, .ref 2 0 0 0), (3, .ref 3 0 0 0), (5, .int .i64 (((i : Nat) : Int) - 1))]) (fun _ => [(2, ⟨true, 1, [aN x], 0, false⟩), (3, ⟨true, 1, [aN y], 0, false⟩)])
      (digs 18446744073709551616 x).length ⟨Nat.le_refl _, ?_⟩ ⟨rfl, rfl, hst, trivial⟩ ⟨rfl, rfl, trivial⟩ ?_
    · rw [List.drop_eq_nil_of_le (Nat.le_refl _), List.drop_eq_nil_of_le (by omega)]
    rintro i g h v ⟨hi, he⟩
    refine ⟨fun h2 => ?_, fun h2 => ?_⟩
    · obtain ⟨j, rfl⟩ : ∃ j, i = j + 1 := ⟨i - 1, by have := of_decide_eq_true h2; simp at this; omega⟩
      have hj : ((j + 1 : Nat) : Int) - 1 = ((j : Nat) : Int) := by simp
      have hjx : j < (digs 18446744073709551616 x).length := by omega
      have hjy : j < (digs 18446744073709551616 y).length := by omega
      obtain ⟨a, ha⟩ : ∃ a, (digs 18446744073709551616 x)[j]? = some a := ⟨_, List.getElem?_eq_getElem hjx⟩
      obtain ⟨b, hb⟩ : ∃ b, (digs 18446744073709551616 y)[j]? = some b := ⟨_, List.getElem?_eq_getElem hjy⟩
      have nx : 0 ≤ ((j + 1 : Nat) : Int) - 1 ∧ ((j + 1 : Nat) : Int) - 1 < (w64 (digs 18446744073709551616 x)).length := by rw [hj, wk_len]; omega
      have ny : 0 ≤ ((j + 1 : Nat) : Int) - 1 ∧ ((j + 1 : Nat) : Int) - 1 < (w64 (digs 18446744073709551616 y)).length := by rw [hj, wk_len]; omega
      have lx : (w64 (digs 18446744073709551616 x))[(((j + 1 : Nat) : Int) - 1).toNat]? = some (iU a) := by rw [hj]; exact wk_get ha
      have ly : (w64 (digs 18446744073709551616 y))[(((j + 1 : Nat) : Int) - 1).toNat]? = some (iU b) := by rw [hj]; exact wk_get hb
      repeat refine ifB_pos h2 ?_
      repeat refine ⟨rfl, ?_⟩
      refine ⟨nx, ⟨iU a, lx, ?_⟩⟩
      repeat refine ⟨rfl, ?_⟩
      refine ⟨ny, ⟨iU b, ly, ?_⟩⟩
      refine ⟨fun h3 => ?_, fun h3 => ?_⟩
      · have hab : a < b := Int.ofNat_lt.1 (of_decide_eq_true h3)
        exact ⟨_, rfl, .of_eq (by rw [cmp_lt (digs_less (by decide) ha hb he hab)])⟩
      · have hab : ¬ a < b := fun hc => of_decide_eq_false h3 (Int.ofNat_lt.2 hc)
        repeat refine ⟨rfl, ?_⟩
        refine ⟨nx, ⟨iU a, lx, ?_⟩⟩
        repeat refine ⟨rfl, ?_⟩
        refine ⟨ny, ⟨iU b, ly, ?_⟩⟩
        refine ⟨fun h4 => ?_, fun h4 => ?_⟩
        · have hab : b < a := Int.ofNat_lt.1 (of_decide_eq_true h4)
          exact ⟨_, rfl, .of_eq (by rw [cmp_gt (digs_less (by decide) hb ha he.symm hab)])⟩
        · have hba : ¬ b < a := fun hc => of_decide_eq_false h4 (Int.ofNat_lt.2 hc)
          have hab : a = b := by omega
          subst hab
          have hnx : (AV.int .i64 (IntKind.i64.wrap (((j + 1 : Nat) : Int) - 1 - 1))) = .int .i64 (((j : Nat) : Int) - 1) := congrArg _ (wI (by rw [hj]) (by omega) (by omega))
          exact ⟨j, ⟨⟨by omega, drop_step ha hb he⟩, by omega⟩, ⟨rfl, rfl, hnx, trivial⟩, rfl, rfl, trivial⟩
    · have hi0 : i = 0 := by have := of_decide_eq_false h2; simp at this; omega
      subst hi0
      have hxy : x = y := digs_inj (B := 18446744073709551616) (by decide) he
      repeat refine ifB_neg h2 ?_
      exact ⟨_, rfl, .of_eq (by rw [cmp_eq hxy])⟩
end Go.Proofs.YtjafmphhnclfjaaDoor
end

section
namespace Go.Proofs.YtjafmphhnclfjaaDoor
open Go GoAbs Num
set_option maxRecDepth 100000
set_option maxHeartbeats 2000000

theorem ok_Add : codeOk E0 Tryd.f36.ntmps (Tryd.f36.body.getD .skip) = true := by kernel_rfl
theorem Add_l (P Q : List Nat) (hP : Small 18446744073709551616 P) (hQ : Small 18446744073709551616 Q) (lP : P.length < 1099511627776) (lQ : Q.length < 1099511627776) (N : Nat) (hN : N = val 18446744073709551616 P + val 18446744073709551616 Q) :
    Ct E0 36 [.agg [.imm false 1 (w64 P)], .agg [.imm false 1 (w64 Q)]] [] (aN N) [] := by
  refine Ct_of hE0 Tryd.func36 rfl rfl (by exact Nat.le_of_ble_eq_true rfl) ok_Add ?_
  repeat refine ⟨rfl, ?_⟩
  refine ⟨fun h1 => ?_, fun h1 => ?_⟩
  focus
    rw [Nat.add_comm] at hN
    revert P Q
    intro Q P hQ hP lQ lP hN h1
    have hle : Q.length ≤ P.length := by have := of_decide_eq_true h1; rw [wk_len, wk_len] at this; omega
  rotate_left
  focus
    have hle : Q.length ≤ P.length := by have := of_decide_eq_false h1; rw [wk_len, wk_len] at this; omega
  all_goals
    clear h1
    have hw : IntKind.i64.wrap (((w64 P).length : Int) + 1) = ((P.length + 1 : Nat) : Int) := wI (by rw [wk_len]; rfl) (by omega) (by omega)
    refine ⟨by erw [hw]; dsimp only; omega, ?_⟩
    have hown : AV.own 25 0 1 0 (IntKind.i64.wrap (((w64 P).length : Int) + 1)).toNat = AV.own 25 0 1 0 (P.length + 1) := by rw [hw]; rfl
    have hblk : (⟨false, 1, List.replicate (IntKind.i64.wrap (((w64 P).length : Int) + 1)).toNat (.int .u64 0), 0, true⟩ : Blk) = ⟨false, 1, w64 (List.replicate (P.length + 1) 0), 0, true⟩ := by rw [hw]; exact congrArg (fun l => (⟨false, 1, l, 0, true⟩ : Blk)) (wk_rep .u64 (P.length + 1))
    have hn : AV.int .i64 ((w64 P).length : Int) = iI P.length := by rw [wk_len]
    refine loop_fr [] (fun q : Nat × Nat × List Nat => q.1 ≤ P.length ∧ q.2.1 ≤ 1 ∧ q.2.2.length = P.length + 1 ∧ Small 18446744073709551616 q.2.2 ∧ val 18446744073709551616 (q.2.2.take q.1) + 18446744073709551616 ^ q.1 * q.2.1 = val 18446744073709551616 (P.take q.1) + val 18446744073709551616 (Q.take q.1))
      (fun q => P.length - q.1)
      (fun q => [(4, .ref 4 0 0 0), (5, .imm false 1 (w64 P)), (6, .imm false 1 (w64 Q)), (7, .own 25 0 1 0 (P.length + 1)), (8, iU q.2.1), (27, iI P.length), (28, iI q.1)])
      (fun q => [(4, ⟨true, 1, [.agg [.nils]], 0, false⟩), (25, ⟨false, 1, w64 q.2.2, 0, true⟩)])
      (0, 0, List.replicate (P.length + 1) 0) ⟨Nat.zero_le _, Nat.zero_le _, List.length_replicate, .rep (by decide) _, rfl⟩ ⟨rfl, rfl, rfl, hown, rfl, hn, rfl, trivial⟩ ⟨rfl, congrArg some hblk, trivial⟩ ?_
    rintro ⟨i, c, out⟩ g h v ⟨hi, hc, hol, hos, hval⟩
    refine ⟨fun h2 => ?_, fun h2 => ?_⟩
    · have hip : i < P.length := Int.ofNat_lt.1 (of_decide_eq_true h2)
      obtain ⟨a, ha⟩ : ∃ a, P[i]? = some a := ⟨_, List.getElem?_eq_getElem hip⟩
      dsimp only at hi hc hol hos hval h2
      have nP : 0 ≤ (i : Int) ∧ (i : Int) < (w64 P).length := by rw [wk_len]; omega
      have gP : (w64 P)[(i : Int).toNat]? = some (iU a) := wk_get ha
      have nO : 0 ≤ (i : Int) ∧ (i : Int) < ((P.length + 1 : Nat) : Int) := by omega
      have hw2 : AV.int .i64 (IntKind.i64.wrap ((i : Int) + 1)) = iI ((i + 1 : Nat) : Int) := congrArg _ (wI (by rfl) (by omega) (by omega))
      have hp := val_take_succ (B := 18446744073709551616) ha
      have has := hP.get ha
      refine ⟨fun h3 => ?_, fun h3 => ?_⟩
      focus
        have hiq : i < Q.length := by have := of_decide_eq_true h3; rw [wk_len] at this; exact Int.ofNat_lt.1 this
        obtain ⟨b, hb⟩ : ∃ b, Q[i]? = some b := ⟨_, List.getElem?_eq_getElem hiq⟩
        have hq := val_take_succ (B := 18446744073709551616) hb
        obtain ⟨hk, hsl, hsk⟩ := add_word has (hQ.get hb) hc
        have hct := add64 (x := a) (y := b) hc
        generalize (a + b + c) / 18446744073709551616 = k, (a + b + c) % 18446744073709551616 = s at hk hsl hsk hct
        have hfin : val 18446744073709551616 (P.take (i + 1)) + val 18446744073709551616 (Q.take (i + 1)) + 18446744073709551616 ^ i * c = val 18446744073709551616 (P.take i) + val 18446744073709551616 (Q.take i) + 18446744073709551616 ^ i * (s + 18446744073709551616 * k) := by rw [hsk, hp, hq]; grind
        refine ⟨by rw [wk_len]; omega, ?_⟩
        refine ⟨iU b, wk_get hb, ?_⟩
      rotate_left
      focus
        have hiq : ¬ i < Q.length := by have := of_decide_eq_false h3; rw [wk_len] at this; intro hc; exact this (Int.ofNat_lt.2 hc)
        have hq : val 18446744073709551616 (Q.take (i + 1)) = val 18446744073709551616 (Q.take i) := by
          rw [List.take_of_length_le (by omega), List.take_of_length_le (by omega)]
        obtain ⟨hk, hsl, hsk⟩ := add_word has (b := 0) (by decide) hc
        have hct := add64 (x := a) (y := 0) hc
        generalize (a + 0 + c) / 18446744073709551616 = k, (a + 0 + c) % 18446744073709551616 = s at hk hsl hsk hct
        have hfin : val 18446744073709551616 (P.take (i + 1)) + val 18446744073709551616 (Q.take (i + 1)) + 18446744073709551616 ^ i * c = val 18446744073709551616 (P.take i) + val 18446744073709551616 (Q.take i) + 18446744073709551616 ^ i * (s + 18446744073709551616 * k) := by rw [hsk, hp, hq]; grind
      all_goals
        refine ⟨nP, ?_⟩
        refine ⟨iU a, gP, ?_⟩
        refine ⟨_, hct, ?_⟩
        refine ⟨nO, ?_⟩
        refine ⟨rfl, ?_⟩
        have hio : i < out.length := by omega
        refine ⟨wk_in0 hio, ?_⟩
        refine ⟨(i + 1, k, out.set i s), ⟨⟨hip, hk, by rw [List.length_set]; exact hol, hos.set hsl, ?_⟩, by dsimp only; omega⟩, ⟨rfl, rfl, rfl, rfl, rfl, rfl, hw2, trivial⟩, ⟨rfl, ?_, trivial⟩⟩
        · dsimp only
          have : val 18446744073709551616 ((out.set i s).take (i + 1)) = val 18446744073709551616 (out.take i) + 18446744073709551616 ^ i * s := by
            rw [val_take_succ (d := s) (by rw [List.getElem?_set_self hio]), List.take_set_of_le (Nat.le_refl i)]
          rw [this, Nat.pow_succ]
          grind
        · exact congrArg (fun l => some (⟨false, 1, l, 0, true⟩ : Blk)) (wk_set0 .u64 out i s)
    · dsimp only at hi hc hol hos hval h2
      have hip : i = P.length := by have := of_decide_eq_false h2; omega
      subst hip
      have hlen : (w64 P).length = P.length := wk_len _ _
      have hn2 : 0 ≤ ((w64 P).length : Int) ∧ ((w64 P).length : Int) < ((P.length + 1 : Nat) : Int) := by omega
      have hol2 : P.length < out.length := by rw [hol]; exact Nat.lt_succ_self _
      refine ⟨hn2, ?_⟩
      refine ⟨rfl, ?_⟩
      refine ⟨by rw [hlen]; exact wk_in0 hol2, ?_⟩
      have hset : (((w64 out).set (0 + (((w64 P).length : Nat) : Int).toNat) (iU c)).drop 0).take (P.length + 1) = w64 (out.set P.length c) := by
        rw [hlen, wk_set0, wk_cut, List.drop_zero, List.take_of_length_le (by rw [List.length_set]; omega)]
      have hv : val 18446744073709551616 (out.set P.length c) = N := by
        rw [List.take_of_length_le (Nat.le_refl _), List.take_of_length_le hle] at hval
        rw [hN, ← hval, val_split _ (out.set P.length c) P.length (by rw [List.length_set]; omega), List.take_set_of_le (Nat.le_refl _), val_drop (d := c) (by rw [List.getElem?_set_self hol2]), List.drop_eq_nil_of_le (by rw [List.length_set]; omega)]
        rfl
      have hct := trim_ct (out.set P.length c) (by rw [List.length_set]; omega) (hos.set (by omega))
      rw [hv] at hct
      refine ⟨_, _, rfl, ?_⟩
      refine ⟨aN N, hct.eq (congrArg (fun l => [AV.imm false 1 l]) hset), ?_⟩
      repeat refine ⟨rfl, ?_⟩
      exact ⟨_, rfl, .refl _⟩
theorem Add_ct (x y : Nat) (hx : blen x < 1099511627776) (hy : blen y < 1099511627776) : Ct E0 36 [aN x, aN y] [] (aN (x + y)) [] :=
  Add_l _ _ (digs_small (by decide) x) (digs_small (by decide) y) (Nat.lt_of_le_of_lt (len64 x) hx) (Nat.lt_of_le_of_lt (len64 y) hy) _ (by rw [digs_val (by decide), digs_val (by decide)])
end Go.Proofs.YtjafmphhnclfjaaDoor
end

section
namespace Go.Proofs.YtjafmphhnclfjaaDoor
open Go GoAbs Num
set_option maxRecDepth 100000
set_option maxHeartbeats 2000000

theorem ok_Sub : codeOk E0 Tryd.f45.ntmps (Tryd.f45.body.getD .skip) = true := by kernel_rfl
theorem Sub_ct (x y : Nat) (hx : blen x < 1099511627776) (hy : blen y < 1099511627776) : Ct E0 45 [aN x, aN y] [] (.tup [aN (x - y), .bool (decide (y ≤ x))]) [] := by
  refine Ct_of hE0 Tryd.func45 rfl rfl (by exact Nat.le_of_ble_eq_true rfl) ok_Sub ?_
  repeat refine ⟨rfl, ?_⟩
  refine ⟨_, Cmp_ct x y hx hy, ?_⟩
  refine ⟨fun h1 => ?_, fun h1 => ?_⟩
  · have hlt : x < y := by
      have := of_decide_eq_true h1
      unfold cmp at this
      split at this
      · assumption
      · split at this <;> omega
    repeat refine ⟨rfl, ?_⟩
    refine ⟨_, rfl, .tup (.cons ?_ (.cons ?_ .nil))⟩
    · rw [Nat.sub_eq_zero_of_le (Nat.le_of_lt hlt)]; exact aN_nil
    · rw [decide_eq_false (by omega)]; exact .kf
  have hge : y ≤ x := by
    rcases Nat.lt_or_ge x y with h | h
    · rw [cmp_lt h] at h1; exact absurd h1 (by decide)
    · exact h
  have hP := digs_small (B := 18446744073709551616) (by decide) x
  have hQ := digs_small (B := 18446744073709551616) (by decide) y
  have lP : (digs 18446744073709551616 x).length < 1099511627776 := Nat.lt_of_le_of_lt (len64 x) hx
  have hle : (digs 18446744073709551616 y).length ≤ (digs 18446744073709551616 x).length := digs_len_mono (by decide) hge
  have vP := digs_val (B := 18446744073709551616) (by decide) x
  have vQ := digs_val (B := 18446744073709551616) (by decide) y
  clear h1
  unfold aN
  generalize digs 18446744073709551616 x = P at *
  generalize digs 18446744073709551616 y = Q at *
  repeat refine ⟨rfl, ?_⟩
  have hlen : (w64 P).length = P.length := wk_len _ _
  refine ⟨by dsimp only; omega, ?_⟩
  repeat refine ⟨rfl, ?_⟩
  have hown : AV.own 18 0 1 0 ((w64 P).length : Int).toNat = AV.own 18 0 1 0 P.length := by rw [hlen]; rfl
  have hblk : (⟨false, 1, List.replicate ((w64 P).length : Int).toNat (.int .u64 0), 0, true⟩ : Blk) = ⟨false, 1, w64 (List.replicate P.length 0), 0, true⟩ := by rw [hlen]; exact congrArg (fun l => (⟨false, 1, l, 0, true⟩ : Blk)) (wk_rep .u64 P.length)
  have hn : AV.int .i64 ((w64 P).length : Int) = iI P.length := by rw [wk_len]
  refine loop_fr [] (fun q : Nat × Nat × List Nat => q.1 ≤ P.length ∧ q.2.1 ≤ 1 ∧ q.2.2.length = P.length ∧ Small 18446744073709551616 q.2.2 ∧ val 18446744073709551616 (q.2.2.take q.1) + val 18446744073709551616 (Q.take q.1) = val 18446744073709551616 (P.take q.1) + 18446744073709551616 ^ q.1 * q.2.1)
    (fun q => P.length - q.1)
    (fun q => [(2, .ref 2 0 0 0), (3, .ref 3 0 0 0), (4, .ref 4 0 0 0), (6, .own 18 0 1 0 P.length), (7, iU q.2.1), (21, iI P.length), (22, iI q.1)])
    (fun q => [(2, ⟨true, 1, [.agg [.imm false 1 (w64 P)]], 0, false⟩), (3, ⟨true, 1, [.agg [.imm false 1 (w64 Q)]], 0, false⟩), (4, ⟨true, 1, [.agg [.nils]], 0, false⟩), (18, ⟨false, 1, w64 q.2.2, 0, true⟩)])
    (0, 0, List.replicate P.length 0) ⟨Nat.zero_le _, Nat.zero_le _, List.length_replicate, .rep (by decide) _, rfl⟩ ⟨rfl, rfl, rfl, hown, rfl, hn, rfl, trivial⟩ ⟨rfl, rfl, rfl, congrArg some hblk, trivial⟩ ?_
  rintro ⟨i, c, out⟩ g h v ⟨hi, hc, hol, hos, hval⟩
  refine ⟨fun h2 => ?_, fun h2 => ?_⟩
  · have hip : i < P.length := Int.ofNat_lt.1 (of_decide_eq_true h2)
    obtain ⟨a, ha⟩ : ∃ a, P[i]? = some a := ⟨_, List.getElem?_eq_getElem hip⟩
    dsimp only at hi hc hol hos hval h2
    have nP : 0 ≤ (i : Int) ∧ (i : Int) < (w64 P).length := by rw [wk_len]; omega
    have gP : (w64 P)[(i : Int).toNat]? = some (iU a) := wk_get ha
    have nO : 0 ≤ (i : Int) ∧ (i : Int) < (P.length : Int) := by omega
    have hw2 : AV.int .i64 (IntKind.i64.wrap ((i : Int) + 1)) = iI ((i + 1 : Nat) : Int) := congrArg _ (wI (by rfl) (by omega) (by omega))
    have hp := val_take_succ (B := 18446744073709551616) ha
    have has := hP.get ha
    repeat refine ⟨rfl, ?_⟩
    refine ⟨fun h3 => ?_, fun h3 => ?_⟩
    focus
      have hiq : i < Q.length := by have := of_decide_eq_true h3; rw [wk_len] at this; exact Int.ofNat_lt.1 this
      obtain ⟨b, hb⟩ : ∃ b, Q[i]? = some b := ⟨_, List.getElem?_eq_getElem hiq⟩
      have hq := val_take_succ (B := 18446744073709551616) hb
      obtain ⟨hk, hsl, hsk⟩ := sub_word has (hQ.get hb) hc
      have hct := sub64 (x := a) (y := b) hc
      generalize (if a < b + c then 1 else 0) = k, (a + 18446744073709551616 - b - c) % 18446744073709551616 = s at hk hsl hsk hct
      have hfin : 18446744073709551616 ^ i * s + val 18446744073709551616 (Q.take (i + 1)) + 18446744073709551616 ^ i * c = val 18446744073709551616 (Q.take i) + 18446744073709551616 ^ i * (a + 18446744073709551616 * k) := by rw [← hsk, hq]; grind
      repeat refine ⟨rfl, ?_⟩
      refine ⟨by rw [wk_len]; omega, ?_⟩
      refine ⟨iU b, wk_get hb, ?_⟩
    rotate_left
    focus
      have hiq : ¬ i < Q.length := by have := of_decide_eq_false h3; rw [wk_len] at this; intro hc; exact this (Int.ofNat_lt.2 hc)
      have hq : val 18446744073709551616 (Q.take (i + 1)) = val 18446744073709551616 (Q.take i) := by
        rw [List.take_of_length_le (by omega), List.take_of_length_le (by omega)]
      obtain ⟨hk, hsl, hsk⟩ := sub_word has (b := 0) (by decide) hc
      have hct := sub64 (x := a) (y := 0) hc
      generalize (if a < 0 + c then 1 else 0) = k, (a + 18446744073709551616 - 0 - c) % 18446744073709551616 = s at hk hsl hsk hct
      have hfin : 18446744073709551616 ^ i * s + val 18446744073709551616 (Q.take (i + 1)) + 18446744073709551616 ^ i * c = val 18446744073709551616 (Q.take i) + 18446744073709551616 ^ i * (a + 18446744073709551616 * k) := by rw [← hsk, hq]; grind
    all_goals
      repeat refine ⟨rfl, ?_⟩
      refine ⟨nP, ?_⟩
      refine ⟨iU a, gP, ?_⟩
      refine ⟨_, hct, ?_⟩
      refine ⟨nO, ?_⟩
      refine ⟨rfl, ?_⟩
      have hio : i < out.length := by omega
      refine ⟨wk_in0 hio, ?_⟩
      refine ⟨(i + 1, k, out.set i s), ⟨⟨hip, hk, by rw [List.length_set]; exact hol, hos.set hsl, ?_⟩, by dsimp only; omega⟩, ⟨rfl, rfl, rfl, rfl, rfl, rfl, hw2, trivial⟩, ⟨rfl, rfl, rfl, ?_, trivial⟩⟩
      · dsimp only
        have : val 18446744073709551616 ((out.set i s).take (i + 1)) = val 18446744073709551616 (out.take i) + 18446744073709551616 ^ i * s := by
          rw [val_take_succ (d := s) (by rw [List.getElem?_set_self hio]), List.take_set_of_le (Nat.le_refl i)]
        rw [this, hp, Nat.pow_succ]
        grind
      · exact congrArg (fun l => some (⟨false, 1, l, 0, true⟩ : Blk)) (wk_set0 .u64 out i s)
  · dsimp only at hi hc hol hos hval h2
    have hip : i = P.length := by have := of_decide_eq_false h2; omega
    subst hip
    have hset : ((w64 out).drop 0).take P.length = w64 out := by
      rw [List.drop_zero, List.take_of_length_le (by rw [wk_len]; omega)]
    have hv : val 18446744073709551616 out = x - y := by
      rw [List.take_of_length_le (Nat.le_refl _), List.take_of_length_le hle, List.take_of_length_le (by omega), vP, vQ] at hval
      have hlt := val_lt hos
      rw [hol] at hlt
      have hc0 : c = 0 := by
        rcases Nat.eq_zero_or_pos c with h | h
        · exact h
        · have : c = 1 := by omega
          subst this
          omega
      subst hc0
      omega
    have hct := trim_ct out (by omega) hos
    rw [hv] at hct
    refine ⟨_, _, rfl, ?_⟩
    refine ⟨_, hct.eq (congrArg (fun l => [AV.imm false 1 l]) hset), ?_⟩
    repeat refine ⟨rfl, ?_⟩
    refine ⟨_, rfl, .tup (.cons (.refl _) (.cons ?_ .nil))⟩
    rw [decide_eq_true hge]; exact .kt
end Go.Proofs.YtjafmphhnclfjaaDoor
end

section
namespace Go.Proofs.YtjafmphhnclfjaaDoor
open Go GoAbs Num
set_option maxRecDepth 100000
set_option maxHeartbeats 2000000

theorem ok_Mul64 : codeOk E0 Tryd.f69.ntmps (Tryd.f69.body.getD .skip) = true := by kernel_rfl
theorem Mul64_ct (x y : Nat) (hx : x < 18446744073709551616) (hy : y < 18446744073709551616) : Ct E0 69 [iU x, iU y] [] (.tup [iU (x * y / 18446744073709551616), iU (x * y % 18446744073709551616)]) [] := by
  refine Ct_of hE0 Tryd.func69 rfl rfl (by exact Nat.le_of_ble_eq_true rfl) ok_Mul64 ?_
  obtain ⟨m1, m2, m3, m4⟩ := Lib.mul64_hi x y hx hy
  have hd := Lib.half_mul_le (a := x / 4294967296) (b := y / 4294967296) (by omega) (by omega)
  have hb := Lib.half_mul_le (a := x / 4294967296) (b := y % 4294967296) (by omega) (by omega)
  have hc := Lib.half_mul_le (a := x % 4294967296) (b := y / 4294967296) (by omega) (by omega)
  have hq : x * y / 18446744073709551616 < 18446744073709551616 := by
    have : x * y < 18446744073709551616 * 18446744073709551616 := Nat.mul_lt_mul_of_lt_of_le hx (Nat.le_of_lt hy) (by decide)
    exact Nat.div_lt_of_lt_mul this
  have u : ∀ {z : Int} {n : Nat}, z = ((n : Nat) : Int) → n < 18446744073709551616 → IntKind.u64.wrap z = ((n : Nat) : Int) := fun h k => by rw [h]; exact wrapU_id (by omega) (by omega)
  have x0 : bitA .and .u64 ((x : Nat) : Int) 4294967295 = ((x % 4294967296 : Nat) : Int) := and64 x 32 hx (by decide)
  have y0 : bitA .and .u64 ((y : Nat) : Int) 4294967295 = ((y % 4294967296 : Nat) : Int) := and64 y 32 hy (by decide)
  have x1 : ((x : Nat) : Int).fdiv (2 ^ min (Int.toNat 32) IntKind.u64.bits) = ((x / 4294967296 : Nat) : Int) := fdivU (k := 32) rfl rfl rfl
  have y1 : ((y : Nat) : Int).fdiv (2 ^ min (Int.toNat 32) IntKind.u64.bits) = ((y / 4294967296 : Nat) : Int) := fdivU (k := 32) rfl rfl rfl
  generalize ex0 : bitA .and .u64 ((x : Nat) : Int) 4294967295 = X0 at x0
  generalize ey0 : bitA .and .u64 ((y : Nat) : Int) 4294967295 = Y0 at y0
  generalize ex1 : ((x : Nat) : Int).fdiv (2 ^ min (Int.toNat 32) IntKind.u64.bits) = X1 at x1
  generalize ey1 : ((y : Nat) : Int).fdiv (2 ^ min (Int.toNat 32) IntKind.u64.bits) = Y1 at y1
  have w0 := u (z := X0 * Y0) (by rw [x0, y0]; rfl) m1
  have w0s := fdivU (k := 32) (z := 2 ^ min (Int.toNat 32) IntKind.u64.bits) w0 rfl rfl
  have p1 := u (z := X1 * Y0) (by rw [x1, y0]; rfl) (by omega)
  have t := u (z := IntKind.u64.wrap (X1 * Y0) + (IntKind.u64.wrap (X0 * Y0)).fdiv (2 ^ min (Int.toNat 32) IntKind.u64.bits)) (by rw [p1, w0s]; rfl) m2
  generalize eT : IntKind.u64.wrap (IntKind.u64.wrap (X1 * Y0) + (IntKind.u64.wrap (X0 * Y0)).fdiv (2 ^ min (Int.toNat 32) IntKind.u64.bits)) = T at t
  have w1 := and64 _ 32 m2 (by decide)
  rw [← t] at w1
  have w2 := fdivU (k := 32) (z := 2 ^ min (Int.toNat 32) IntKind.u64.bits) t rfl rfl
  have p2 := u (z := X0 * Y1) (by rw [x0, y1]; rfl) (by omega)
  have w1' := u (z := bitA .and .u64 T 4294967295 + IntKind.u64.wrap (X0 * Y1)) (by rw [p2]; exact congrArg (· + _) w1) m3
  have w1s := fdivU (k := 32) (z := 2 ^ min (Int.toNat 32) IntKind.u64.bits) w1' rfl rfl
  have p3 := u (z := X1 * Y1) (by rw [x1, y1]; rfl) (by omega)
  have s1 := u (z := IntKind.u64.wrap (X1 * Y1) + T.fdiv (2 ^ min (Int.toNat 32) IntKind.u64.bits)) (by rw [p3, w2]; rfl) (by omega)
  have hi := u (z := IntKind.u64.wrap (IntKind.u64.wrap (X1 * Y1) + T.fdiv (2 ^ min (Int.toNat 32) IntKind.u64.bits)) + (IntKind.u64.wrap (bitA .and .u64 T 4294967295 + IntKind.u64.wrap (X0 * Y1))).fdiv (2 ^ min (Int.toNat 32) IntKind.u64.bits)) (by rw [s1, w1s]; exact congrArg (fun n : Nat => (n : Int)) m4) hq
  have lo : IntKind.u64.wrap (((x : Nat) : Int) * ((y : Nat) : Int)) = ((x * y % 18446744073709551616 : Nat) : Int) := by rw [wrapU]; omega
  subst eT ex0 ey0 ex1 ey1
  repeat refine ⟨by decide, ?_⟩
  exact ⟨_, rfl, .tup (.cons (.of_eq (congrArg (AV.int .u64) hi)) (.cons (.of_eq (congrArg (AV.int .u64) lo)) .nil))⟩
end Go.Proofs.YtjafmphhnclfjaaDoor
end

section
namespace Go.Proofs.YtjafmphhnclfjaaDoor
open Go GoAbs Num
set_option maxRecDepth 100000
set_option maxHeartbeats 4000000

theorem ok_Mul : codeOk E0 Tryd.f44.ntmps (Tryd.f44.body.getD .skip) = true := by kernel_rfl
theorem Mul_l (P Q : List Nat) (hP : Small 18446744073709551616 P) (hQ : Small 18446744073709551616 Q) (lP : P.length < 1099511627776) (lQ : Q.length < 1099511627776) (N : Nat) (hN : N = val 18446744073709551616 P * val 18446744073709551616 Q) :
    Ct E0 44 [.agg [.imm false 1 (w64 P)], .agg [.imm false 1 (w64 Q)]] [] (aN N) [] := by
  refine Ct_of hE0 Tryd.func44 rfl rfl (by exact Nat.le_of_ble_eq_true rfl) ok_Mul ?_
  repeat refine ⟨rfl, ?_⟩
  have hlP : (w64 P).length = P.length := wk_len _ _
  have hlQ : (w64 Q).length = Q.length := wk_len _ _
  have hw : IntKind.i64.wrap (((w64 P).length : Int) + ((w64 Q).length : Int)) = ((P.length + Q.length : Nat) : Int) := wI (by rw [hlP, hlQ]; rfl) (by omega) (by omega)
  refine ⟨by erw [hw]; dsimp only; omega, ?_⟩
  repeat refine ⟨rfl, ?_⟩
  have hown : AV.own 21 0 1 0 (IntKind.i64.wrap (((w64 P).length : Int) + ((w64 Q).length : Int))).toNat = AV.own 21 0 1 0 (P.length + Q.length) := by rw [hw]; rfl
  have hblk : (⟨false, 1, List.replicate (IntKind.i64.wrap (((w64 P).length : Int) + ((w64 Q).length : Int))).toNat (.int .u64 0), 0, true⟩ : Blk) = ⟨false, 1, w64 (List.replicate (P.length + Q.length) 0), 0, true⟩ := by rw [hw]; exact congrArg (fun l => (⟨false, 1, l, 0, true⟩ : Blk)) (wk_rep .u64 (P.length + Q.length))
  have hnP : AV.int .i64 ((w64 P).length : Int) = iI P.length := by rw [hlP]
  have hnQ : AV.int .i64 ((w64 Q).length : Int) = iI Q.length := by rw [hlQ]
  refine loop_fr [] (fun q : Nat × List Nat => q.1 ≤ P.length ∧ q.2.length = P.length + Q.length ∧ Small 18446744073709551616 q.2 ∧ val 18446744073709551616 (q.2.take (q.1 + Q.length)) = val 18446744073709551616 (P.take q.1) * val 18446744073709551616 Q)
    (fun q => P.length - q.1)
    (fun q => [(3, .ref 3 0 0 0), (4, .ref 4 0 0 0), (5, .own 21 0 1 0 (P.length + Q.length)), (23, .imm false 1 (w64 P)), (24, iI P.length), (25, iI q.1)])
    (fun q => [(3, ⟨true, 1, [.agg [.imm false 1 (w64 Q)]], 0, false⟩), (4, ⟨true, 1, [.agg [.nils]], 0, false⟩), (21, ⟨false, 1, w64 q.2, 0, true⟩)])
    (0, List.replicate (P.length + Q.length) 0) ⟨Nat.zero_le _, List.length_replicate, .rep (by decide) _, by dsimp only; rw [List.take_replicate, val_rep, List.take_zero, val, Nat.zero_mul]⟩ ⟨rfl, rfl, hown, rfl, hnP, rfl, trivial⟩ ⟨rfl, rfl, congrArg some hblk, trivial⟩ ?_
  rintro ⟨i, out0⟩ g h v ⟨hi, hol0, hos0, hval0⟩
  dsimp only at hi hol0 hos0 hval0
  refine ⟨fun h2 => ?_, fun h2 => ?_⟩
  · have hip : i < P.length := Int.ofNat_lt.1 (of_decide_eq_true h2)
    obtain ⟨a, ha⟩ : ∃ a, P[i]? = some a := ⟨_, List.getElem?_eq_getElem hip⟩
    have has := hP.get ha
    have hp := val_take_succ (B := 18446744073709551616) ha
    refine ⟨by rw [wk_len]; dsimp only; omega, ?_⟩
    refine ⟨iU a, wk_get ha, ?_⟩
    repeat refine ⟨rfl, ?_⟩
    refine loop_fr [] (fun q : Nat × Nat × List Nat => q.1 ≤ Q.length ∧ q.2.1 < 18446744073709551616 ∧ q.2.2.length = P.length + Q.length ∧ Small 18446744073709551616 q.2.2 ∧ q.2.2.drop (i + q.1) = out0.drop (i + q.1) ∧ val 18446744073709551616 (q.2.2.take (i + q.1)) + 18446744073709551616 ^ (i + q.1) * q.2.1 = val 18446744073709551616 (out0.take (i + q.1)) + 18446744073709551616 ^ i * (a * val 18446744073709551616 (Q.take q.1)))
      (fun q => Q.length - q.1)
      (fun q => [(3, .ref 3 0 0 0), (4, .ref 4 0 0 0), (5, .own 21 0 1 0 (P.length + Q.length)), (23, .imm false 1 (w64 P)), (24, iI P.length), (25, iI i), (6, iI i), (7, iU a), (8, iU q.2.1), (31, .imm false 1 (w64 Q)), (32, iI Q.length), (33, iI q.1)])
      (fun q => [(3, ⟨true, 1, [.agg [.imm false 1 (w64 Q)]], 0, false⟩), (4, ⟨true, 1, [.agg [.nils]], 0, false⟩), (21, ⟨false, 1, w64 q.2.2, 0, true⟩)])
      (0, 0, out0) ⟨Nat.zero_le _, Nat.zero_lt_succ _, hol0, hos0, rfl, by simp [val]⟩ ⟨rfl, rfl, rfl, rfl, rfl, rfl, rfl, rfl, rfl, rfl, hnQ, rfl, trivial⟩ ⟨rfl, rfl, rfl, trivial⟩ ?_
    rintro ⟨j, c, out⟩ g2 h2' v2 ⟨hj, hc, hol, hos, hdr, hval⟩
    dsimp only at hj hc hol hos hdr hval
    refine ⟨fun h3 => ?_, fun h3 => ?_⟩
    · have hjq : j < Q.length := Int.ofNat_lt.1 (of_decide_eq_true h3)
      obtain ⟨b, hb⟩ : ∃ b, Q[j]? = some b := ⟨_, List.getElem?_eq_getElem hjq⟩
      have hbs := hQ.get hb
      have hq := val_take_succ (B := 18446744073709551616) hb
      obtain ⟨o, ho⟩ : ∃ o, out[i + j]? = some o := ⟨_, List.getElem?_eq_getElem (by omega)⟩
      have ho0 : out0[i + j]? = some o := by
        have e1 : out[i + j]? = (out.drop (i + j))[0]? := by simp
        have e2 : out0[i + j]? = (out0.drop (i + j))[0]? := by simp
        rw [e2, ← hdr, ← e1, ho]
      have hoo := val_take_succ (B := 18446744073709551616) ho0
      obtain ⟨m1, m2, m3, m4⟩ := mul_word (mul_lt_sq has hbs) hc (hos.get ho)
      have c1 := Mul64_ct a b has hbs
      have c2 := add64 (x := a * b % 18446744073709551616) (y := c) (c := 0) (by decide)
      have c3 := add64 (x := o) (y := (a * b % 18446744073709551616 + c + 0) % 18446744073709551616) (c := 0) (by decide)
      generalize a * b / 18446744073709551616 = hi, a * b % 18446744073709551616 = lo at *
      generalize (lo + c + 0) / 18446744073709551616 = k1, (lo + c + 0) % 18446744073709551616 = l2 at *
      generalize (o + l2 + 0) / 18446744073709551616 = k2, (o + l2 + 0) % 18446744073709551616 = s at *
      have hij : IntKind.i64.wrap ((i : Int) + (j : Int)) = ((i + j : Nat) : Int) := wI (by rfl) (by omega) (by omega)
      have hin : 0 ≤ IntKind.i64.wrap ((i : Int) + (j : Int)) ∧ IntKind.i64.wrap ((i : Int) + (j : Int)) < ((P.length + Q.length : Nat) : Int) := by rw [hij]; omega
      have hio : i + j < out.length := by omega
      have hjj : AV.int .i64 (IntKind.i64.wrap ((j : Int) + 1)) = iI ((j + 1 : Nat) : Int) := congrArg _ (wI (by rfl) (by omega) (by omega))
      have hcc : AV.int .u64 (IntKind.u64.wrap (IntKind.u64.wrap ((hi : Int) + (k1 : Int)) + (k2 : Int))) = iU (hi + k1 + k2) := by
        have e1 : IntKind.u64.wrap ((hi : Int) + (k1 : Int)) = ((hi + k1 : Nat) : Int) := wrapU_id (by omega) (by omega)
        rw [e1]
        exact congrArg _ (wrapU_id (by omega) (by omega))
      refine ⟨by rw [wk_len]; dsimp only; omega, ?_⟩
      refine ⟨iU b, wk_get hb, ?_⟩
      refine ⟨_, c1, ?_⟩
      refine ⟨_, c2, ?_⟩
      refine ⟨hin, ?_⟩
      refine ⟨rfl, ?_⟩
      refine ⟨iU o, by rw [hij]; exact wk_get0 ho, ?_⟩
      refine ⟨_, c3, ?_⟩
      refine ⟨hin, ?_⟩
      refine ⟨rfl, ?_⟩
      refine ⟨by rw [hij]; exact wk_in0 hio, ?_⟩
      have hset : (w64 out).set (0 + (IntKind.i64.wrap ((i : Int) + (j : Int))).toNat) (iU s) = w64 (out.set (i + j) s) := by rw [hij]; exact wk_set0 ..
      refine ⟨(j + 1, hi + k1 + k2, out.set (i + j) s), ⟨⟨hjq, m2, by rw [List.length_set]; exact hol, hos.set m3, ?_, ?_⟩, by dsimp only; omega⟩, ⟨rfl, rfl, rfl, rfl, rfl, rfl, rfl, rfl, hcc, rfl, rfl, hjj, trivial⟩, ⟨rfl, rfl, congrArg (fun l => some (⟨false, 1, l, 0, true⟩ : Blk)) hset, trivial⟩⟩
      · dsimp only
        have e : i + (j + 1) = (i + j) + 1 := by omega
        rw [drop_set_after (by omega), e, ← List.drop_drop, hdr, List.drop_drop]
      · dsimp only
        have e : i + (j + 1) = (i + j) + 1 := by omega
        have e2 : 18446744073709551616 ^ (i + j) = 18446744073709551616 ^ i * 18446744073709551616 ^ j := Nat.pow_add _ _ _
        rw [e, val_set_take hio, hoo, hq, Nat.pow_succ]
        have m5 : 18446744073709551616 ^ (i + j) * (s + 18446744073709551616 * (hi + k1 + k2)) = 18446744073709551616 ^ (i + j) * (o + c + a * b) := by rw [m4]
        generalize hi + k1 + k2 = c' at *
        generalize 18446744073709551616 ^ (i + j) = X at *
        generalize 18446744073709551616 ^ i = Y at *
        generalize 18446744073709551616 ^ j = Z at *
        subst e2
        grind
    · have hjq : j = Q.length := by have := of_decide_eq_false h3; dsimp only at this; omega
      subst hjq
      have hin : IntKind.i64.wrap ((i : Int) + ((w64 Q).length : Int)) = ((i + Q.length : Nat) : Int) := wI (by rw [hlQ]; rfl) (by omega) (by omega)
      have hio : i + Q.length < out.length := by omega
      have hii : AV.int .i64 (IntKind.i64.wrap ((i : Int) + 1)) = iI ((i + 1 : Nat) : Int) := congrArg _ (wI (by rfl) (by omega) (by omega))
      repeat refine ⟨rfl, ?_⟩
      refine ⟨by rw [hin]; omega, ?_⟩
      refine ⟨rfl, ?_⟩
      refine ⟨by rw [hin]; exact wk_in0 hio, ?_⟩
      have hset : (w64 out).set (0 + (IntKind.i64.wrap ((i : Int) + ((w64 Q).length : Int))).toNat) (iU c) = w64 (out.set (i + Q.length) c) := by rw [hin]; exact wk_set0 ..
      refine ⟨(i + 1, out.set (i + Q.length) c), ⟨⟨hip, by rw [List.length_set]; exact hol, hos.set hc, ?_⟩, by dsimp only; omega⟩, ⟨rfl, rfl, rfl, rfl, rfl, hii, trivial⟩, ⟨rfl, rfl, congrArg (fun l => some (⟨false, 1, l, 0, true⟩ : Blk)) hset, trivial⟩⟩
      dsimp only
      have e : i + 1 + Q.length = (i + Q.length) + 1 := by omega
      rw [e, val_set_take hio, hval, hval0, hp, List.take_of_length_le (Nat.le_refl _)]
      grind
  · have hip : i = P.length := by have := of_decide_eq_false h2; dsimp only at this; omega
    subst hip
    have hset : ((w64 out0).drop 0).take (P.length + Q.length) = w64 out0 := by
      rw [List.drop_zero, List.take_of_length_le (by rw [wk_len]; omega)]
    have hv : val 18446744073709551616 out0 = N := by
      rw [List.take_of_length_le (by omega), List.take_of_length_le (Nat.le_refl _)] at hval0
      rw [hN, hval0]
    have hct := trim_ct out0 (by omega) hos0
    rw [hv] at hct
    refine ⟨_, _, rfl, ?_⟩
    refine ⟨_, hct.eq (congrArg (fun l => [AV.imm false 1 l]) hset), ?_⟩
    repeat refine ⟨rfl, ?_⟩
    exact ⟨_, rfl, .refl _⟩
theorem Mul_ct (x y : Nat) (hx : blen x < 1099511627776) (hy : blen y < 1099511627776) : Ct E0 44 [aN x, aN y] [] (aN (x * y)) [] :=
  Mul_l _ _ (digs_small (by decide) x) (digs_small (by decide) y) (Nat.lt_of_le_of_lt (len64 x) hx) (Nat.lt_of_le_of_lt (len64 y) hy) _ (by rw [digs_val (by decide), digs_val (by decide)])
end Go.Proofs.YtjafmphhnclfjaaDoor
end
