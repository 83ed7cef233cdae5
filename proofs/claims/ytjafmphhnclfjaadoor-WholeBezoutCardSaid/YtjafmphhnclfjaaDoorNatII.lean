/- math/bits: a quotient of two words by one. Package nat: division by one word. Package nat: words moved by bits. Package nat: words moved down by bits. Package nat: one row taken off another, and put back. -/
import Derived.Test.YtjafmphhnclfjaaDoorNatI
import Derived.Test.YtjafmphhnclfjaaDoorNumI
set_option linter.all false
section
namespace Go.Proofs.YtjafmphhnclfjaaDoor
open Go GoAbs Num
set_option maxRecDepth 100000
set_option maxHeartbeats 4000000

theorem ok_LeadingZeros64 : codeOk E0 Tryd.f91.ntmps (Tryd.f91.body.getD .skip) = true := by kernel_rfl
theorem LeadingZeros64_ct (x : Nat) (hx : x < 18446744073709551616) : Ct E0 91 [iU x] [] (iI ((64 - blen x : Nat) : Int)) [] := by
  refine Ct_of hE0 Tryd.func91 rfl rfl (by exact Nat.le_of_ble_eq_true rfl) ok_LeadingZeros64 ?_
  refine ⟨_, Len64_ct x hx, ?_⟩
  have := blen_le (x := x) (n := 64) hx
  exact ⟨_, rfl, .of_eq (congrArg _ (wI (by omega) (by omega) (by omega)))⟩

theorem ok_Div64 : codeOk E0 Tryd.f75.ntmps (Tryd.f75.body.getD .skip) = true := by kernel_rfl
theorem Div64_ct (h l v : Nat) (hl : l < 18446744073709551616) (hv : v < 18446744073709551616) (hh : h < v) : Ct E0 75 [iU h, iU l, iU v] [] (.tup [iU ((h * 18446744073709551616 + l) / v), iU ((h * 18446744073709551616 + l) % v)]) [] := by
  refine Ct_of hE0 Tryd.func75 rfl rfl (by exact Nat.le_of_ble_eq_true rfl) ok_Div64 ?_
  refine ⟨fun h1 => absurd h1 (by simp; omega), fun h1 => ?_⟩
  refine ⟨fun h2 => absurd (of_decide_eq_true h2) (by omega), fun h2 => ?_⟩
  refine ⟨fun h3 => ?_, fun h3 => ?_⟩
  · have h0 : h = 0 := by simpa using h3
    subst h0
    refine ⟨by omega, ?_⟩
    refine ⟨by omega, ?_⟩
    refine ⟨_, rfl, .tup (.cons (.of_eq (congrArg (AV.int .u64) ?_)) (.cons (.of_eq (congrArg (AV.int .u64) ?_)) .nil))⟩
    · have e : ((l : Nat) : Int).tdiv ((v : Nat) : Int) = ((l / v : Nat) : Int) := rfl
      have hlt := Nat.div_le_self l v
      rw [Nat.zero_mul, Nat.zero_add]
      exact wU e (Nat.lt_of_le_of_lt hlt hl)
    · rw [Nat.zero_mul, Nat.zero_add]; rfl
  · refine ⟨_, LeadingZeros64_ct v hv, ?_⟩
    have hb64 := blen_le (x := v) (n := 64) hv
    have v0 : v ≠ 0 := by omega
    have hge := blen_ge v0
    have hlt := blen_lt v
    obtain ⟨k, hk⟩ : ∃ k, k = 64 - blen v := ⟨_, rfl⟩
    have hbk : blen v = 64 - k := by omega
    have hb0 : blen v ≠ 0 := by rw [blen_pos v0]; omega
    rw [← hk]
    have hk64 : k < 64 := by omega
    -- the numbers
    have hp2 : (2 : Nat) ^ 64 = 2 ^ blen v * 2 ^ k := by rw [← Nat.pow_add, hbk]; congr 1; omega
    have hp1 : (2 : Nat) ^ blen v = 2 ^ (blen v - 1) * 2 := by rw [← Nat.pow_succ]; congr 1; omega
    have hkp := Nat.two_pow_pos k
    have hVlt : v * 2 ^ k < 18446744073709551616 := by
      have := Nat.mul_lt_mul_of_pos_right hlt hkp
      rw [← hp2] at this; exact this
    have hVge : 9223372036854775808 ≤ v * 2 ^ k := by
      have h4 := Nat.mul_le_mul_right (2 ^ k) hge
      have h5 : 2 ^ (blen v - 1) * 2 ^ k * 2 = 18446744073709551616 := by rw [Nat.mul_right_comm, ← hp1, ← hp2]
      omega
    have hhV : h * 2 ^ k + 2 ^ k ≤ v * 2 ^ k := by
      have := Nat.mul_le_mul_right (2 ^ k) hh
      rw [Nat.succ_mul] at this
      exact this
    have hpk : (2 : Nat) ^ 64 = 2 ^ k * 2 ^ (64 - k) := by rw [← Nat.pow_add]; congr 1; omega
    have hl2 : l / 2 ^ (64 - k) < 2 ^ k := by
      rw [Nat.div_lt_iff_lt_mul (Nat.two_pow_pos _), ← hpk]; exact hl
    have hUT : (h * 2 ^ k + l / 2 ^ (64 - k)) * 18446744073709551616 + l * 2 ^ k % 18446744073709551616 = (h * 18446744073709551616 + l) * 2 ^ k := by
      have h4 : l * 2 ^ k / 18446744073709551616 = l / 2 ^ (64 - k) := by
        have : (18446744073709551616 : Nat) = 2 ^ (64 - k) * 2 ^ k := by rw [Nat.mul_comm, ← hpk]
        rw [this, Nat.mul_div_mul_right _ _ hkp]
      have h5 := Nat.div_add_mod (l * 2 ^ k) 18446744073709551616
      rw [h4] at h5
      rw [Nat.add_mul, Nat.add_mul (h * 18446744073709551616), ← h5, Nat.mul_right_comm]
      omega
    -- what the machine has for them
    have eS : IntKind.u64.wrap ((k : Nat) : Int) = ((k : Nat) : Int) := wU rfl (by omega)
    have m1 : min (IntKind.u64.wrap ((k : Nat) : Int)).toNat IntKind.u64.bits = k := by
      rw [eS]; exact Nat.min_eq_left (by have : IntKind.u64.bits = 64 := rfl; rw [this, Int.toNat_natCast]; omega)
    have m2 : min (IntKind.u64.wrap (64 - IntKind.u64.wrap ((k : Nat) : Int))).toNat IntKind.u64.bits = 64 - k := by
      rw [eS, wU (n := 64 - k) (by omega) (by omega)]; exact Nat.min_eq_left (by have : IntKind.u64.bits = 64 := rfl; rw [this, Int.toNat_natCast]; omega)
    have eV : IntKind.u64.wrap (((v : Nat) : Int) * 2 ^ min (IntKind.u64.wrap ((k : Nat) : Int)).toNat IntKind.u64.bits) = ((v * 2 ^ k : Nat) : Int) := by
      rw [shlU rfl (by rw [m1]) rfl, Nat.mod_eq_of_lt hVlt]
    have eH : IntKind.u64.wrap (((h : Nat) : Int) * 2 ^ min (IntKind.u64.wrap ((k : Nat) : Int)).toNat IntKind.u64.bits) = ((h * 2 ^ k : Nat) : Int) := by
      rw [shlU rfl (by rw [m1]) rfl, Nat.mod_eq_of_lt (by omega)]
    have eT : IntKind.u64.wrap (((l : Nat) : Int) * 2 ^ min (IntKind.u64.wrap ((k : Nat) : Int)).toNat IntKind.u64.bits) = ((l * 2 ^ k % 18446744073709551616 : Nat) : Int) := by
      rw [shlU rfl (by rw [m1]) rfl]
    have eL : ((l : Nat) : Int).fdiv (2 ^ min (IntKind.u64.wrap (64 - IntKind.u64.wrap ((k : Nat) : Int))).toNat IntKind.u64.bits) = ((l / 2 ^ (64 - k) : Nat) : Int) := fdivU rfl (by rw [m2]) rfl
    have eU : bitA .or .u64 (IntKind.u64.wrap (((h : Nat) : Int) * 2 ^ min (IntKind.u64.wrap ((k : Nat) : Int)).toNat IntKind.u64.bits)) (((l : Nat) : Int).fdiv (2 ^ min (IntKind.u64.wrap (64 - IntKind.u64.wrap ((k : Nat) : Int))).toNat IntKind.u64.bits)) = ((h * 2 ^ k + l / 2 ^ (64 - k) : Nat) : Int) := by
      rw [eH, eL]; exact or64 _ _ k (by omega) ⟨h, Nat.mul_comm _ _⟩ hl2 (by omega) (by omega)
    obtain ⟨V, hV⟩ : ∃ V, V = v * 2 ^ k := ⟨_, rfl⟩
    obtain ⟨U, hU⟩ : ∃ U, U = h * 2 ^ k + l / 2 ^ (64 - k) := ⟨_, rfl⟩
    obtain ⟨T, hT⟩ : ∃ T, T = l * 2 ^ k % 18446744073709551616 := ⟨_, rfl⟩
    rw [← hV] at eV hVlt hVge hhV
    rw [← hU] at eU hUT
    rw [← hT] at eT hUT
    have hUV : U < V := by omega
    have hTlt : T < 18446744073709551616 := by rw [hT]; exact Nat.mod_lt _ (by decide)
    have hpw : V / 4294967296 * 4294967296 + V % 4294967296 = V := Nat.div_add_mod' V 4294967296
    have hTT : T / 4294967296 * 4294967296 + T % 4294967296 = T := Nat.div_add_mod' T 4294967296
    obtain ⟨p, hp⟩ : ∃ p, p = V / 4294967296 := ⟨_, rfl⟩
    obtain ⟨w, hw⟩ : ∃ w, w = V % 4294967296 := ⟨_, rfl⟩
    obtain ⟨n1, hn1⟩ : ∃ n, n = T / 4294967296 := ⟨_, rfl⟩
    obtain ⟨n0, hn0⟩ : ∃ n, n = T % 4294967296 := ⟨_, rfl⟩
    rw [← hp, ← hw] at hpw
    rw [← hn1, ← hn0] at hTT
    have ep := (fdivU (k := 32) (z := 2 ^ min (Int.toNat 32) IntKind.u64.bits) eV rfl rfl).trans (congrArg (fun n : Nat => (n : Int)) hp.symm)
    have ew : bitA .and .u64 (IntKind.u64.wrap (((v : Nat) : Int) * 2 ^ min (IntKind.u64.wrap ((k : Nat) : Int)).toNat IntKind.u64.bits)) 4294967295 = ((w : Nat) : Int) := by rw [eV, hw]; exact and64 V 32 hVlt (by decide)
    have en1 := (fdivU (k := 32) (z := 2 ^ min (Int.toNat 32) IntKind.u64.bits) eT rfl rfl).trans (congrArg (fun n : Nat => (n : Int)) hn1.symm)
    have en0 : bitA .and .u64 (IntKind.u64.wrap (((l : Nat) : Int) * 2 ^ min (IntKind.u64.wrap ((k : Nat) : Int)).toNat IntKind.u64.bits)) 4294967295 = ((n0 : Nat) : Int) := by rw [eT, hn0]; exact and64 T 32 hTlt (by decide)
    have hp31 : 4294967296 ≤ 2 * p := by omega
    have hp32 : p < 4294967296 := by omega
    have hw32 : w < 4294967296 := by omega
    have hn32 : n1 < 4294967296 := by omega
    have hn032 : n0 < 4294967296 := by omega
    have g0 := gs_first (b := 4294967296) (p := p) (w := w) (u := U) (n := n1) (by decide) hp31 hw32 hn32 (by omega)
    have hqB : U / p < 18446744073709551616 := Nat.lt_of_le_of_lt g0.le (by decide)
    have eq0 : IntKind.u64.wrap (((U : Nat) : Int).tdiv ((p : Nat) : Int)) = ((U / p : Nat) : Int) := wU rfl hqB
    have er0 : IntKind.u64.wrap (((U : Nat) : Int) - IntKind.u64.wrap (((U / p : Nat) : Int) * ((p : Nat) : Int))) = ((U % p : Nat) : Int) := by
      have h4 := Nat.div_add_mod' U p
      have h5 : U / p * p ≤ U := Nat.div_mul_le_self U p
      have h6 := Nat.mod_lt U (show 0 < p by omega)
      have e1 : IntKind.u64.wrap (((U / p : Nat) : Int) * ((p : Nat) : Int)) = ((U / p * p : Nat) : Int) := wU (Int.natCast_mul _ _).symm (by omega)
      rw [e1]
      generalize U / p * p = z at *
      generalize U % p = y at *
      exact wU (by omega) (by omega)
    refine ⟨by rw [eS]; omega, ?_⟩
    refine ⟨by decide, ?_⟩
    refine ⟨by rw [eS]; omega, ?_⟩
    refine ⟨by rw [eS, wU (n := 64 - k) (by omega) (by omega)]; omega, ?_⟩
    refine ⟨by rw [eS]; omega, ?_⟩
    refine ⟨by decide, ?_⟩
    refine ⟨by erw [ep]; omega, ?_⟩
    refine cut_loop 0 (fun q : Nat => q = (U * 4294967296 + n1) / V) (fun q => [(2, iU V), (8, iU k), (9, iU p), (10, iU w), (11, iU U), (13, iU n1), (14, iU n0), (15, iU q)]) (fun _ => []) ?_ ?_
    · refine loop_fr [] (fun q : Nat × Nat => Gs 4294967296 p w U n1 q.1 q.2 ∧ q.2 < 4294967296) (fun q => q.1) (fun q => [(2, iU V), (8, iU k), (9, iU p), (10, iU w), (11, iU U), (13, iU n1), (14, iU n0), (15, iU q.1), (16, iU q.2)]) (fun _ => []) (U / p, U % p) ⟨g0, Nat.lt_trans (Nat.mod_lt _ (by omega)) hp32⟩
        ⟨congrArg (AV.int .u64) eV, congrArg (AV.int .u64) eS, congrArg (AV.int .u64) ep, congrArg (AV.int .u64) ew, congrArg (AV.int .u64) eU, congrArg (AV.int .u64) en1, congrArg (AV.int .u64) en0, ?_, ?_, trivial⟩ trivial ?_
      · refine Eq.trans (congrArg (AV.int .u64) ?_) (congrArg (AV.int .u64) eq0)
        rw [← eU, ← ep]
      · refine Eq.trans (congrArg (AV.int .u64) ?_) (congrArg (AV.int .u64) er0)
        rw [← eq0, ← eU, ← ep]
      · rintro ⟨q, r⟩ g h' vr ⟨hg, hr⟩
        dsimp only at hg hr
        have hgle := hg.le
        have a1 : IntKind.u64.wrap (((4294967296 : Int)) * ((r : Nat) : Int)) = ((r * 4294967296 : Nat) : Int) := wU (by omega) (by omega)
        have a2 : IntKind.u64.wrap (IntKind.u64.wrap (((4294967296 : Int)) * ((r : Nat) : Int)) + ((n1 : Nat) : Int)) = ((r * 4294967296 + n1 : Nat) : Int) := by rw [a1]; exact wU (by omega) (by omega)
        have bigway : (4294967296 ≤ q ∨ r * 4294967296 + n1 < q * w) → ∃ y : Nat × Nat, (Gs 4294967296 p w U n1 y.1 y.2 ∧ y.2 < 4294967296 + p ∧ y.1 + 1 = q ∧ IntKind.u64.wrap (((q : Nat) : Int) - 1) = ((y.1 : Nat) : Int) ∧ IntKind.u64.wrap (((r : Nat) : Int) + ((p : Nat) : Int)) = ((y.2 : Nat) : Int)) := by
          intro ht
          obtain ⟨q0, hg2⟩ := gs_big (by decide) hp31 (by omega) hn32 hg ht
          exact ⟨(q - 1, r + p), hg2, by dsimp only; omega, by dsimp only; omega, wU (by omega) (by omega), wU (by omega) (by omega)⟩
        refine ⟨fun h4 => ?_, fun h4 => ?_⟩
        · have ht := bigway (.inl (Int.ofNat_le.1 (of_decide_eq_true h4)))
          repeat refine ifB_pos h4 ?_
          obtain ⟨y, hy1, hy2, hy3, hy4, hy5⟩ := ht
          refine ⟨fun h6 => ?_, fun h6 => ?_⟩
          · have hr4 := ge_of (k := 4294967296) hy5 h6
            have hq4 := gs_out (by decide) hp31 hw32 hy1 (by omega) hr4
            rw [hpw] at hq4
            exact ⟨rfl, y.1, hq4, ⟨rfl, rfl, rfl, rfl, rfl, rfl, rfl, congrArg (AV.int .u64) hy4, trivial⟩, trivial⟩
          · have hr4 := lt_of (k := 4294967296) hy5 h6
            exact ⟨y, ⟨⟨hy1, hr4⟩, by dsimp only; omega⟩, ⟨rfl, rfl, rfl, rfl, rfl, rfl, rfl, congrArg (AV.int .u64) hy4, congrArg (AV.int .u64) hy5, trivial⟩, trivial⟩
        · have hq4 : q < 4294967296 := lt_of (k := 4294967296) rfl h4
          have hqw : q * w ≤ 4294967295 * 4294967295 := Nat.mul_le_mul (by omega) (by omega)
          have a3 : IntKind.u64.wrap (((q : Nat) : Int) * ((w : Nat) : Int)) = ((q * w : Nat) : Int) := wU (Int.natCast_mul _ _).symm (by omega)
          repeat refine ifB_neg h4 ?_
          refine ⟨fun h5 => ?_, fun h5 => ?_⟩
          · have ht := bigway (.inr (by
              have := of_decide_eq_true h5
              erw [a2, a3] at this
              exact Int.ofNat_lt.1 this))
            obtain ⟨y, hy1, hy2, hy3, hy4, hy5⟩ := ht
            refine ⟨fun h6 => ?_, fun h6 => ?_⟩
            · have hr4 := ge_of (k := 4294967296) hy5 h6
              have hq4 := gs_out (by decide) hp31 hw32 hy1 (by omega) hr4
              rw [hpw] at hq4
              exact ⟨rfl, y.1, hq4, ⟨rfl, rfl, rfl, rfl, rfl, rfl, rfl, congrArg (AV.int .u64) hy4, trivial⟩, trivial⟩
            · have hr4 := lt_of (k := 4294967296) hy5 h6
              exact ⟨y, ⟨⟨hy1, hr4⟩, by dsimp only; omega⟩, ⟨rfl, rfl, rfl, rfl, rfl, rfl, rfl, congrArg (AV.int .u64) hy4, congrArg (AV.int .u64) hy5, trivial⟩, trivial⟩
          · have hle : q * w ≤ r * 4294967296 + n1 := by
              have := of_decide_eq_false h5
              erw [a2, a3] at this
              exact Nat.le_of_not_lt fun hc => this (Int.ofNat_lt.2 hc)
            have hq5 := gs_small (by decide) hp31 hg hle
            rw [hpw] at hq5
            exact ⟨rfl, q, hq5, ⟨rfl, rfl, rfl, rfl, rfl, rfl, rfl, rfl, trivial⟩, trivial⟩
    · rintro q1 g h' vr hq1
      have hVp : 0 < V := by omega
      have e1 := Nat.div_add_mod (U * 4294967296 + n1) V
      rw [← hq1] at e1
      have hR1 := Nat.mod_lt (U * 4294967296 + n1) hVp
      obtain ⟨R, hR⟩ : ∃ R, R = (U * 4294967296 + n1) % V := ⟨_, rfl⟩
      rw [← hR] at e1 hR1
      have eR : IntKind.u64.wrap (IntKind.u64.wrap (IntKind.u64.wrap (((U : Nat) : Int) * 4294967296) + ((n1 : Nat) : Int)) - IntKind.u64.wrap (((q1 : Nat) : Int) * ((V : Nat) : Int))) = ((R : Nat) : Int) := by
        rw [wrapU, wrapU, wrapU, wrapU, ← Int.natCast_mul, Nat.mul_comm q1]
        generalize V * q1 = z at *
        omega
      have g1 := gs_first (b := 4294967296) (p := p) (w := w) (u := R) (n := n0) (by decide) hp31 hw32 hn032 (by omega)
      have hqB : R / p < 18446744073709551616 := Nat.lt_of_le_of_lt g1.le (by decide)
      have eq0 : IntKind.u64.wrap (((R : Nat) : Int).tdiv ((p : Nat) : Int)) = ((R / p : Nat) : Int) := wU rfl hqB
      have er0 : IntKind.u64.wrap (((R : Nat) : Int) - IntKind.u64.wrap (((R / p : Nat) : Int) * ((p : Nat) : Int))) = ((R % p : Nat) : Int) := by
        have h4 := Nat.div_add_mod' R p
        have h5 : R / p * p ≤ R := Nat.div_mul_le_self R p
        have h6 := Nat.mod_lt R (show 0 < p by omega)
        have e1 : IntKind.u64.wrap (((R / p : Nat) : Int) * ((p : Nat) : Int)) = ((R / p * p : Nat) : Int) := wU (Int.natCast_mul _ _).symm (by omega)
        rw [e1]
        generalize R / p * p = z at *
        generalize R % p = y at *
        exact wU (by omega) (by omega)
      refine ⟨by omega, ?_⟩
      refine cut_loop 2 (fun q : Nat => q = (R * 4294967296 + n0) / V) (fun q => [(2, iU V), (8, iU k), (14, iU n0), (15, iU q1), (17, iU R), (18, iU q)]) (fun _ => []) ?_ ?_
      · refine loop_fr [] (fun q : Nat × Nat => Gs 4294967296 p w R n0 q.1 q.2 ∧ q.2 < 4294967296) (fun q => q.1) (fun q => [(2, iU V), (8, iU k), (9, iU p), (10, iU w), (14, iU n0), (15, iU q1), (17, iU R), (18, iU q.1), (16, iU q.2)]) (fun _ => []) (R / p, R % p) ⟨g1, Nat.lt_trans (Nat.mod_lt _ (by omega)) hp32⟩
          ⟨rfl, rfl, rfl, rfl, rfl, rfl, congrArg (AV.int .u64) eR, ?_, ?_, trivial⟩ trivial ?_
        · refine Eq.trans (congrArg (AV.int .u64) ?_) (congrArg (AV.int .u64) eq0)
          rw [← eR]
        · refine Eq.trans (congrArg (AV.int .u64) ?_) (congrArg (AV.int .u64) er0)
          rw [← eq0, ← eR]
        · rintro ⟨q, r⟩ g h' vr ⟨hg, hr⟩
          dsimp only at hg hr
          have hgle := hg.le
          have a1 : IntKind.u64.wrap (((4294967296 : Int)) * ((r : Nat) : Int)) = ((r * 4294967296 : Nat) : Int) := wU (by omega) (by omega)
          have a2 : IntKind.u64.wrap (IntKind.u64.wrap (((4294967296 : Int)) * ((r : Nat) : Int)) + ((n0 : Nat) : Int)) = ((r * 4294967296 + n0 : Nat) : Int) := by rw [a1]; exact wU (by omega) (by omega)
          have bigway : (4294967296 ≤ q ∨ r * 4294967296 + n0 < q * w) → ∃ y : Nat × Nat, (Gs 4294967296 p w R n0 y.1 y.2 ∧ y.2 < 4294967296 + p ∧ y.1 + 1 = q ∧ IntKind.u64.wrap (((q : Nat) : Int) - 1) = ((y.1 : Nat) : Int) ∧ IntKind.u64.wrap (((r : Nat) : Int) + ((p : Nat) : Int)) = ((y.2 : Nat) : Int)) := by
            intro ht
            obtain ⟨q0, hg2⟩ := gs_big (by decide) hp31 (by omega) hn032 hg ht
            exact ⟨(q - 1, r + p), hg2, by dsimp only; omega, by dsimp only; omega, wU (by omega) (by omega), wU (by omega) (by omega)⟩
          refine ⟨fun h4 => ?_, fun h4 => ?_⟩
          · have ht := bigway (.inl (Int.ofNat_le.1 (of_decide_eq_true h4)))
            repeat refine ifB_pos h4 ?_
            obtain ⟨y, hy1, hy2, hy3, hy4, hy5⟩ := ht
            refine ⟨fun h6 => ?_, fun h6 => ?_⟩
            · have hr4 := ge_of (k := 4294967296) hy5 h6
              have hq4 := gs_out (by decide) hp31 hw32 hy1 (by omega) hr4
              rw [hpw] at hq4
              exact ⟨rfl, y.1, hq4, ⟨rfl, rfl, rfl, rfl, rfl, congrArg (AV.int .u64) hy4, trivial⟩, trivial⟩
            · have hr4 := lt_of (k := 4294967296) hy5 h6
              exact ⟨y, ⟨⟨hy1, hr4⟩, by dsimp only; omega⟩, ⟨rfl, rfl, rfl, rfl, rfl, rfl, rfl, congrArg (AV.int .u64) hy4, congrArg (AV.int .u64) hy5, trivial⟩, trivial⟩
          · have hq4 : q < 4294967296 := lt_of (k := 4294967296) rfl h4
            have hqw : q * w ≤ 4294967295 * 4294967295 := Nat.mul_le_mul (by omega) (by omega)
            have a3 : IntKind.u64.wrap (((q : Nat) : Int) * ((w : Nat) : Int)) = ((q * w : Nat) : Int) := wU (Int.natCast_mul _ _).symm (by omega)
            repeat refine ifB_neg h4 ?_
            refine ⟨fun h5 => ?_, fun h5 => ?_⟩
            · have ht := bigway (.inr (by
                have := of_decide_eq_true h5
                erw [a2, a3] at this
                exact Int.ofNat_lt.1 this))
              obtain ⟨y, hy1, hy2, hy3, hy4, hy5⟩ := ht
              refine ⟨fun h6 => ?_, fun h6 => ?_⟩
              · have hr4 := ge_of (k := 4294967296) hy5 h6
                have hq4 := gs_out (by decide) hp31 hw32 hy1 (by omega) hr4
                rw [hpw] at hq4
                exact ⟨rfl, y.1, hq4, ⟨rfl, rfl, rfl, rfl, rfl, congrArg (AV.int .u64) hy4, trivial⟩, trivial⟩
              · have hr4 := lt_of (k := 4294967296) hy5 h6
                exact ⟨y, ⟨⟨hy1, hr4⟩, by dsimp only; omega⟩, ⟨rfl, rfl, rfl, rfl, rfl, rfl, rfl, congrArg (AV.int .u64) hy4, congrArg (AV.int .u64) hy5, trivial⟩, trivial⟩
            · have hle : q * w ≤ r * 4294967296 + n0 := by
                have := of_decide_eq_false h5
                erw [a2, a3] at this
                exact Nat.le_of_not_lt fun hc => this (Int.ofNat_lt.2 hc)
              have hq5 := gs_small (by decide) hp31 hg hle
              rw [hpw] at hq5
              exact ⟨rfl, q, hq5, ⟨rfl, rfl, rfl, rfl, rfl, rfl, trivial⟩, trivial⟩
      · rintro q0 g h' vr hq0
        obtain ⟨d1, d2, d3, d4⟩ := two_digits (q0 := q0) hVp hUV hn32 hn032 hq1 (by rw [← hR]; exact hq0)
        have hUT2 : U * (4294967296 * 4294967296) + (n1 * 4294967296 + n0) = (h * 18446744073709551616 + l) * 2 ^ k := by rw [hTT]; exact hUT
        rw [hUT2, hV] at d3 d4
        rw [Nat.mul_div_mul_right _ _ hkp] at d3
        rw [Nat.mul_mod_mul_right, ← hV, ← hR] at d4
        have e0 := Nat.div_add_mod (R * 4294967296 + n0) V
        rw [← hq0] at e0
        have hR0 := Nat.mod_lt (R * 4294967296 + n0) hVp
        rw [← d4] at e0 hR0
        have eF : IntKind.u64.wrap (IntKind.u64.wrap (IntKind.u64.wrap (((R : Nat) : Int) * 4294967296) + ((n0 : Nat) : Int)) - IntKind.u64.wrap (((q0 : Nat) : Int) * ((V : Nat) : Int))) = (((h * 18446744073709551616 + l) % v * 2 ^ k : Nat) : Int) := by
          rw [wrapU, wrapU, wrapU, wrapU, ← Int.natCast_mul, Nat.mul_comm q0]
          generalize V * q0 = z at *
          generalize (h * 18446744073709551616 + l) % v * 2 ^ k = y at *
          omega
        have m3 : min (((k : Nat) : Int)).toNat IntKind.u64.bits = k := by
          exact Nat.min_eq_left (by have : IntKind.u64.bits = 64 := rfl; rw [this, Int.toNat_natCast]; omega)
        have eF2 : (IntKind.u64.wrap (IntKind.u64.wrap (IntKind.u64.wrap (((R : Nat) : Int) * 4294967296) + ((n0 : Nat) : Int)) - IntKind.u64.wrap (((q0 : Nat) : Int) * ((V : Nat) : Int)))).fdiv (2 ^ min (((k : Nat) : Int)).toNat IntKind.u64.bits) = (((h * 18446744073709551616 + l) % v : Nat) : Int) := by
          rw [fdivU (k := k) (e := 2 ^ k) eF (by rw [m3]) rfl, Nat.mul_div_cancel _ hkp]
        have eQ : IntKind.u64.wrap (IntKind.u64.wrap (((q1 : Nat) : Int) * 4294967296) + ((q0 : Nat) : Int)) = (((h * 18446744073709551616 + l) / v : Nat) : Int) := by
          have e5 : IntKind.u64.wrap (((q1 : Nat) : Int) * 4294967296) = ((q1 * 4294967296 : Nat) : Int) := wU (by omega) (by omega)
          rw [d3, e5]
          exact wU (by omega) (by omega)
        refine ⟨by omega, ?_⟩
        exact ⟨_, rfl, .tup (.cons (.of_eq (congrArg (AV.int .u64) eQ)) (.cons (.of_eq (congrArg (AV.int .u64) eF2)) .nil))⟩
end Go.Proofs.YtjafmphhnclfjaaDoor
end

section
namespace Go.Proofs.YtjafmphhnclfjaaDoor
open Go GoAbs Num
set_option maxRecDepth 100000
set_option maxHeartbeats 1000000

theorem ok_short : codeOk E0 Tryd.f50.ntmps (Tryd.f50.body.getD .skip) = true := by kernel_rfl
theorem short_ct (U : List Nat) (v : Nat) (hU : Small 18446744073709551616 U) (lU : U.length < 1099511627777) (hv0 : 0 < v) (hv : v < 18446744073709551616) :
    Ct E0 50 [.imm false 1 (w64 U), iU v] [] (.tup [.imm false 1 (w64 (sdiv 18446744073709551616 v U).1), iU (sdiv 18446744073709551616 v U).2]) [] := by
  refine Ct_of hE0 Tryd.func50 rfl rfl (by exact Nat.le_of_ble_eq_true rfl) ok_short ?_
  have hlen : (w64 U).length = U.length := wk_len _ _
  refine ⟨by dsimp only; omega, ?_⟩
  have hown : AV.own 11 0 1 0 ((w64 U).length : Int).toNat = AV.own 11 0 1 0 U.length := by rw [hlen]; rfl
  have hblk : (⟨false, 1, List.replicate ((w64 U).length : Int).toNat (.int .u64 0), 0, true⟩ : Blk) = ⟨false, 1, w64 (List.replicate U.length 0), 0, true⟩ := by rw [hlen]; exact congrArg (fun l => (⟨false, 1, l, 0, true⟩ : Blk)) (wk_rep .u64 U.length)
  have hst : (AV.int .i64 (IntKind.i64.wrap (((w64 U).length : Int) - 1))) = .int .i64 ((U.length : Int) - 1) := by
    rw [hlen]; exact congrArg _ (wrapI (by omega) (by omega))
  refine loop_fr [] (fun q : Nat × List Nat => q.1 ≤ U.length ∧ q.2.length = U.length ∧ q.2.drop q.1 = (sdiv 18446744073709551616 v (U.drop q.1)).1) (fun q => q.1)
    (fun q => [(0, .imm false 1 (w64 U)), (1, iU v), (6, .own 11 0 1 0 U.length), (7, iU (sdiv 18446744073709551616 v (U.drop q.1)).2), (8, .int .i64 ((q.1 : Int) - 1))])
    (fun q => [(11, ⟨false, 1, w64 q.2, 0, true⟩)])
    (U.length, List.replicate U.length 0) ⟨Nat.le_refl _, List.length_replicate, ?_⟩ ⟨rfl, rfl, hown, ?_, hst, trivial⟩ ⟨congrArg some hblk, trivial⟩ ?_
  · dsimp only
    rw [List.drop_eq_nil_of_le (by rw [List.length_replicate]; exact Nat.le_refl _), List.drop_eq_nil_of_le (Nat.le_refl _)]; rfl
  · dsimp only
    rw [List.drop_eq_nil_of_le (Nat.le_refl _)]; rfl
  rintro ⟨i, out⟩ g h vr ⟨hi, hol, hdr⟩
  dsimp only at hi hol hdr
  refine ⟨fun h2 => ?_, fun h2 => ?_⟩
  · obtain ⟨j, rfl⟩ : ∃ j, i = j + 1 := ⟨i - 1, by have := of_decide_eq_true h2; dsimp only at this; omega⟩
    have hj : ((j + 1 : Nat) : Int) - 1 = ((j : Nat) : Int) := by omega
    obtain ⟨a, ha⟩ : ∃ a, U[j]? = some a := ⟨_, List.getElem?_eq_getElem hi⟩
    obtain ⟨_, _, hr⟩ := sdiv_ok hv0 (hU.drop (j + 1))
    obtain ⟨r, hrr⟩ : ∃ r, r = (sdiv 18446744073709551616 v (U.drop (j + 1))).2 := ⟨_, rfl⟩
    rw [← hrr] at hr
    have hct := Div64_ct r a v (hU.get ha) hv hr
    obtain ⟨qd, hqd⟩ : ∃ q, q = (r * 18446744073709551616 + a) / v := ⟨_, rfl⟩
    obtain ⟨rd, hrd⟩ : ∃ q, q = (r * 18446744073709551616 + a) % v := ⟨_, rfl⟩
    have hsd : sdiv 18446744073709551616 v (U.drop j) = (qd :: (sdiv 18446744073709551616 v (U.drop (j + 1))).1, rd) := by
      rw [drop_cons ha, hqd, hrd, hrr]; rfl
    rw [← hqd, ← hrd] at hct
    have hrx : iU (sdiv 18446744073709551616 v (U.drop (j + 1))).2 = iU r := by rw [hrr]
    have hnx : (AV.int .i64 (IntKind.i64.wrap (((j + 1 : Nat) : Int) - 1 - 1))) = .int .i64 ((j : Int) - 1) := congrArg _ (wI (by rw [hj]) (by omega) (by omega))
    have hjo : j < out.length := by omega
    refine ⟨by rw [hlen]; dsimp only; omega, ?_⟩
    refine ⟨iU a, by rw [hj]; exact wk_get ha, ?_⟩
    refine ⟨_, hct.eq (congrArg (fun x => [x, iU a, iU v]) hrx), ?_⟩
    refine ⟨by dsimp only; omega, ?_⟩
    refine ⟨rfl, ?_⟩
    refine ⟨by rw [hj]; exact wk_in0 hjo, ?_⟩
    have hset : (w64 out).set (0 + (((j + 1 : Nat) : Int) - 1).toNat) (iU qd) = w64 (out.set j qd) := by rw [hj]; exact wk_set0 ..
    refine ⟨(j, out.set j qd), ⟨⟨by dsimp only; omega, by rw [List.length_set]; exact hol, ?_⟩, by dsimp only; omega⟩, ⟨rfl, rfl, rfl, ?_, hnx, trivial⟩, ⟨congrArg (fun l => some (⟨false, 1, l, 0, true⟩ : Blk)) hset, trivial⟩⟩
    · dsimp only
      rw [drop_set_cons hjo, hdr, hsd]
    · dsimp only
      rw [hsd]
      rfl
  · have hi0 : i = 0 := by have := of_decide_eq_false h2; dsimp only at this; omega
    subst hi0
    rw [List.drop_zero, List.drop_zero] at hdr
    refine ⟨_, rfl, .tup (.cons (.of_eq ?_) (.cons (.refl _) .nil))⟩
    rw [← hdr]
    exact congrArg _ (by rw [List.drop_zero, List.take_of_length_le (by rw [wk_len]; exact Nat.le_of_eq hol)])
end Go.Proofs.YtjafmphhnclfjaaDoor
end

section
namespace Go.Proofs.YtjafmphhnclfjaaDoor
open Go GoAbs Num
set_option maxRecDepth 100000
set_option maxHeartbeats 1000000

theorem ok_left : codeOk E0 Tryd.f92.ntmps (Tryd.f92.body.getD .skip) = true := by kernel_rfl
theorem left_ct (U : List Nat) (s n : Nat) (hU : Small 18446744073709551616 U) (hn : n < 2199023255552) (hUn : U.length ≤ n) (hs : s < 64) (N : Nat) (hN : N = val 18446744073709551616 U * 2 ^ s) (hlt : N < 18446744073709551616 ^ n) :
    Ct E0 92 [.imm false 1 (w64 U), iI s, iI n] [] (.own (ioB + 0) 0 1 0 n) [⟨false, 1, w64 (pad 18446744073709551616 n N), 0, true⟩] := by
  refine Ct_of_new (outs := []) hE0 Tryd.func92 rfl rfl (by exact Nat.le_of_ble_eq_true rfl) ok_left rfl ?_
  refine ⟨by dsimp only; omega, ?_⟩
  have hlen : (w64 U).length = U.length := wk_len _ _
  have hown : AV.own 12 0 1 0 (n : Int).toNat = AV.own 12 0 1 0 n := rfl
  have hblk : (⟨false, 1, List.replicate (n : Int).toNat (.int .u64 0), 0, true⟩ : Blk) = ⟨false, 1, w64 (List.replicate n 0), 0, true⟩ := congrArg (fun l => (⟨false, 1, l, 0, true⟩ : Blk)) (wk_rep .u64 n)
  have m1 : min (((s : Nat) : Int)).toNat IntKind.u64.bits = s := by
    exact Nat.min_eq_left (by have : IntKind.u64.bits = 64 := rfl; rw [this, Int.toNat_natCast]; omega)
  have e64 : IntKind.i64.wrap (64 - ((s : Nat) : Int)) = ((64 - s : Nat) : Int) := wI (by omega) (by omega) (by omega)
  have m2 : min (IntKind.i64.wrap (64 - ((s : Nat) : Int))).toNat IntKind.u64.bits = 64 - s := by
    rw [e64]; exact Nat.min_eq_left (by have : IntKind.u64.bits = 64 := rfl; rw [this, Int.toNat_natCast]; omega)
  refine loop_fr [] (fun q : Nat × Nat × List Nat => q.1 ≤ n ∧ q.2.1 < 2 ^ s ∧ q.2.2.length = n ∧ Small 18446744073709551616 q.2.2 ∧ val 18446744073709551616 (q.2.2.take q.1) + 18446744073709551616 ^ q.1 * q.2.1 = val 18446744073709551616 (U.take q.1) * 2 ^ s)
    (fun q => n - q.1)
    (fun q => [(0, .imm false 1 (w64 U)), (1, iI s), (7, .own 12 0 1 0 n), (8, iU q.2.1), (14, iI n), (15, iI q.1)])
    (fun q => [(12, ⟨false, 1, w64 q.2.2, 0, true⟩)])
    (0, 0, List.replicate n 0) ⟨Nat.zero_le _, Nat.two_pow_pos _, List.length_replicate, .rep (by decide) _, by simp [val]⟩ ⟨rfl, rfl, hown, rfl, rfl, rfl, trivial⟩ ⟨congrArg some hblk, trivial⟩ ?_
  rintro ⟨i, c, out⟩ g h vr ⟨hi, hc, hol, hos, hval⟩
  dsimp only at hi hc hol hos hval
  refine ⟨fun h2 => ?_, fun h2 => ?_⟩
  · have hin : i < n := by have := of_decide_eq_true h2; dsimp only at this; omega
    have hio : i < out.length := by omega
    have hw2 : AV.int .i64 (IntKind.i64.wrap ((i : Int) + 1)) = iI ((i + 1 : Nat) : Int) := congrArg _ (wI (by rfl) (by omega) (by omega))
    have key : ∀ a : Nat, a < 18446744073709551616 → val 18446744073709551616 (U.take (i + 1)) = val 18446744073709551616 (U.take i) + 18446744073709551616 ^ i * a →
        ∃ wd c' : Nat, wd < 18446744073709551616 ∧ c' < 2 ^ s ∧ bitA .or .u64 (IntKind.u64.wrap (((a : Nat) : Int) * 2 ^ min (((s : Nat) : Int)).toNat IntKind.u64.bits)) ((c : Nat) : Int) = ((wd : Nat) : Int) ∧ ((a : Nat) : Int).fdiv (2 ^ min (IntKind.i64.wrap (64 - ((s : Nat) : Int))).toNat IntKind.u64.bits) = ((c' : Nat) : Int) ∧
          val 18446744073709551616 ((out.set i wd).take (i + 1)) + 18446744073709551616 ^ (i + 1) * c' = val 18446744073709551616 (U.take (i + 1)) * 2 ^ s := by
      intro a ha hu
      obtain ⟨k1, k2, k3, k4⟩ := left_word hs ha hc
      refine ⟨a * 2 ^ s % 18446744073709551616 + c, a / 2 ^ (64 - s), k1, k2, ?_, fdivU rfl (by rw [m2]) rfl, ?_⟩
      · rw [shlU rfl (by rw [m1]) rfl]
        have h2s : 2 ^ s < 18446744073709551616 := by
          have : 2 ^ s ≤ 2 ^ 63 := Nat.pow_le_pow_right (by decide) (by omega)
          omega
        exact or64 _ _ s (Nat.mod_lt _ (by decide)) k4 hc (by omega) k1
      · rw [val_set_take hio, hu, Nat.pow_succ]
        generalize a * 2 ^ s % 18446744073709551616 + c = wd at *
        generalize a / 2 ^ (64 - s) = c' at *
        have k5 : 18446744073709551616 ^ i * (wd + 18446744073709551616 * c') = 18446744073709551616 ^ i * (c + a * 2 ^ s) := by rw [k3]
        generalize 18446744073709551616 ^ i = X at *
        generalize 2 ^ s = Y at *
        grind
    refine ⟨fun h3 => ?_, fun h3 => ?_⟩
    focus
      have hiu : i < U.length := by have := of_decide_eq_true h3; rw [hlen] at this; exact Int.ofNat_lt.1 this
      obtain ⟨a, ha⟩ : ∃ a, U[i]? = some a := ⟨_, List.getElem?_eq_getElem hiu⟩
      obtain ⟨wd, c', k1, k2, k3, k4, k5⟩ := key a (hU.get ha) (val_take_succ ha)
      refine ⟨by rw [hlen]; dsimp only; omega, ?_⟩
      refine ⟨iU a, wk_get ha, ?_⟩
    rotate_left
    focus
      have hiu : ¬ i < U.length := by have := of_decide_eq_false h3; rw [hlen] at this; intro hc; exact this (Int.ofNat_lt.2 hc)
      obtain ⟨wd, c', k1, k2, k3, k4, k5⟩ := key 0 (by decide) (by rw [List.take_of_length_le (by omega), List.take_of_length_le (by omega)]; rfl)
    all_goals
      refine ⟨by omega, ?_⟩
      refine ⟨by dsimp only; omega, ?_⟩
      refine ⟨rfl, ?_⟩
      refine ⟨wk_in0 hio, ?_⟩
      refine ⟨by rw [e64]; omega, ?_⟩
      have hset : ((w64 out).set (0 + ((i : Nat) : Int).toNat) (iU wd)) = w64 (out.set i wd) := wk_set0 ..
      refine ⟨(i + 1, c', out.set i wd), ⟨⟨hin, k2, by rw [List.length_set]; exact hol, hos.set k1, k5⟩, by dsimp only; omega⟩, ⟨rfl, rfl, rfl, congrArg (AV.int .u64) k4, rfl, hw2, trivial⟩, ⟨?_, trivial⟩⟩
      refine congrArg (fun l => some (⟨false, 1, l, 0, true⟩ : Blk)) (Eq.trans (congrArg (fun x => (w64 out).set (0 + ((i : Nat) : Int).toNat) (AV.int .u64 x)) k3) hset)
  · have hin : i = n := by have := of_decide_eq_false h2; dsimp only at this; omega
    subst hin
    rw [List.take_of_length_le (by omega), List.take_of_length_le hUn, ← hN] at hval
    have hc0 : c = 0 := by
      rcases Nat.eq_zero_or_pos c with h | h
      · exact h
      · have := Nat.mul_le_mul_left (18446744073709551616 ^ i) h
        omega
    subst hc0
    have hv : val 18446744073709551616 out = N := by omega
    refine ⟨12, rfl, ⟨0, ?_⟩, rfl, ⟨_, rfl, .refl _⟩, trivial⟩
    rw [← pad_eq hos hol hv]
    rfl
end Go.Proofs.YtjafmphhnclfjaaDoor
end

section
namespace Go.Proofs.YtjafmphhnclfjaaDoor
open Go GoAbs Num
set_option maxRecDepth 100000
set_option maxHeartbeats 1000000

theorem ok_right : codeOk E Tryd.f96.ntmps (Tryd.f96.body.getD .skip) = true := by kernel_rfl
theorem right_ct (U : List Nat) (s : Nat) (hU : Small 18446744073709551616 U) (lU : U.length < 2199023255552) (hs : s < 64) (N : Nat) (hN : N = val 18446744073709551616 U / 2 ^ s) :
    Ct E 96 [.imm false 1 (w64 U), iI s] [] (.imm false 1 (w64 (pad 18446744073709551616 U.length N))) [] := by
  refine Ct_of hE Tryd.func96 rfl rfl (by exact Nat.le_of_ble_eq_true rfl) ok_right ?_
  have hlen : (w64 U).length = U.length := wk_len _ _
  refine ⟨by dsimp only; omega, ?_⟩
  have hown : AV.own 9 0 1 0 ((w64 U).length : Int).toNat = AV.own 9 0 1 0 U.length := by rw [hlen]; rfl
  have hblk : (⟨false, 1, List.replicate ((w64 U).length : Int).toNat (.int .u64 0), 0, true⟩ : Blk) = ⟨false, 1, w64 (List.replicate U.length 0), 0, true⟩ := by rw [hlen]; exact congrArg (fun l => (⟨false, 1, l, 0, true⟩ : Blk)) (wk_rep .u64 U.length)
  have hn : AV.int .i64 ((w64 U).length : Int) = iI U.length := by rw [hlen]
  have m1 : min (((s : Nat) : Int)).toNat IntKind.u64.bits = s := by
    exact Nat.min_eq_left (by have : IntKind.u64.bits = 64 := rfl; rw [this, Int.toNat_natCast]; omega)
  have m2 : min (64 - ((s : Nat) : Int)).toNat IntKind.u64.bits = 64 - s := by
    have e64 : 64 - ((s : Nat) : Int) = ((64 - s : Nat) : Int) := by omega
    rw [e64]; exact Nat.min_eq_left (by have : IntKind.u64.bits = 64 := rfl; rw [this, Int.toNat_natCast]; omega)
  refine loop_fr [] (fun q : Nat × List Nat => q.1 ≤ U.length ∧ q.2.length = U.length ∧ Small 18446744073709551616 q.2 ∧ val 18446744073709551616 (q.2.take q.1) + 18446744073709551616 ^ q.1 * (val 18446744073709551616 (U.drop q.1) / 2 ^ s) = N)
    (fun q => U.length - q.1)
    (fun q => [(0, .imm false 1 (w64 U)), (1, iI s), (5, .own 9 0 1 0 U.length), (11, iI U.length), (12, iI q.1)])
    (fun q => [(9, ⟨false, 1, w64 q.2, 0, true⟩)])
    (0, List.replicate U.length 0) ⟨Nat.zero_le _, List.length_replicate, .rep (by decide) _, by simp [val, hN]⟩ ⟨rfl, rfl, hown, hn, rfl, trivial⟩ ⟨congrArg some hblk, trivial⟩ ?_
  rintro ⟨i, out⟩ g h vr ⟨hi, hol, hos, hval⟩
  dsimp only at hi hol hos hval
  refine ⟨fun h2 => ?_, fun h2 => ?_⟩
  · have hin : i < U.length := by have := of_decide_eq_true h2; dsimp only at this; omega
    have hio : i < out.length := by omega
    obtain ⟨a, ha⟩ : ∃ a, U[i]? = some a := ⟨_, List.getElem?_eq_getElem hin⟩
    have has := hU.get ha
    have k0 : ((a : Nat) : Int).fdiv (2 ^ min (((s : Nat) : Int)).toNat IntKind.u64.bits) = ((a / 2 ^ s : Nat) : Int) := fdivU rfl (by rw [m1]) rfl
    have hset0 : ((w64 out).set (0 + ((i : Nat) : Int).toNat) (iU (a / 2 ^ s))) = w64 (out.set i (a / 2 ^ s)) := wk_set0 ..
    have hset1 : ((w64 out).set (0 + ((i : Nat) : Int).toNat) (AV.int .u64 (((a : Nat) : Int).fdiv (2 ^ min (((s : Nat) : Int)).toNat IntKind.u64.bits)))) = w64 (out.set i (a / 2 ^ s)) := by rw [k0]; exact hset0
    have key : ∀ n : Nat, val 18446744073709551616 (U.drop (i + 1)) % 2 ^ s = n % 2 ^ s →
        ∃ wd : Nat, wd < 18446744073709551616 ∧ wd = a / 2 ^ s + n * 2 ^ (64 - s) % 18446744073709551616 ∧ bitA .or .u64 (((a / 2 ^ s : Nat) : Int)) (IntKind.u64.wrap (((n : Nat) : Int) * 2 ^ min (64 - ((s : Nat) : Int)).toNat IntKind.u64.bits)) = ((wd : Nat) : Int) ∧
          val 18446744073709551616 ((out.set i wd).take (i + 1)) + 18446744073709551616 ^ (i + 1) * (val 18446744073709551616 (U.drop (i + 1)) / 2 ^ s) = N := by
      intro n hD
      obtain ⟨k1, k2, k3, k4⟩ := right_word hs has hD
      have hm := Nat.mod_lt (n * 2 ^ (64 - s)) (show 0 < 18446744073709551616 by decide)
      have eM := shlU (x := n) (k := 64 - s) (y := ((n : Nat) : Int)) (z := 2 ^ min (64 - ((s : Nat) : Int)).toNat IntKind.u64.bits) rfl (by rw [m2]) rfl
      obtain ⟨M, hM⟩ : ∃ M, M = n * 2 ^ (64 - s) % 18446744073709551616 := ⟨_, rfl⟩
      obtain ⟨A, hA⟩ : ∃ A, A = a / 2 ^ s := ⟨_, rfl⟩
      rw [← hM] at k1 k2 k3 hm eM
      rw [← hA] at k1 k2 k4
      rw [← hM, ← hA]
      refine ⟨A + M, k1, rfl, ?_, ?_⟩
      · rw [eM]
        have := or64 M A (64 - s) hm k3 k4 (by omega) (by omega)
        rw [Nat.add_comm] at this
        rw [← this]
        unfold bitA
        simp only [ofInt_nat]
        rw [BitVec.or_comm]
      · rw [val_set_take hio, ← hval, val_drop ha, k2, Nat.pow_succ, Nat.mul_add (18446744073709551616 ^ i) (A + M), Nat.mul_assoc, Nat.add_assoc]
    refine ⟨by rw [hlen]; dsimp only; omega, ?_⟩
    refine ⟨iU a, wk_get ha, ?_⟩
    refine ⟨by omega, ?_⟩
    refine ⟨by dsimp only; omega, ?_⟩
    refine ⟨rfl, ?_⟩
    refine ⟨wk_in0 hio, ?_⟩
    refine ⟨by omega, ?_⟩
    refine ⟨fun h3 => ?_, fun h3 => ?_⟩
    · have hin1 : i + 1 < U.length := by
        have := of_decide_eq_true h3
        rw [hlen] at this
        omega
      have hb : U[i + 1]? = some U[i + 1] := List.getElem?_eq_getElem hin1
      have hD : val 18446744073709551616 (U.drop (i + 1)) % 2 ^ s = U[i + 1] % 2 ^ s := (congrArg (· % 2 ^ s) (val_drop (B := 18446744073709551616) hb)).trans (low_mod hs)
      refine Exists.elim (key U[i + 1] hD) fun wd k => ?_
      have k1 := k.1
      have k3 := k.2.2.1
      have k4 := k.2.2.2
      refine ⟨by dsimp only; omega, ?_⟩
      refine ⟨rfl, ?_⟩
      refine ⟨iU (a / 2 ^ s), ?_, ?_⟩
      · rw [hset1]; exact wk_get0 (List.getElem?_set_self hio)
      refine ⟨by omega, ?_⟩
      refine ⟨by rw [hlen]; omega, ?_⟩
      refine ⟨iU U[i + 1], ?_, ?_⟩
      · exact wk_get hb
      refine ⟨by omega, ?_⟩
      refine ⟨by omega, ?_⟩
      refine ⟨by dsimp only; omega, ?_⟩
      refine ⟨rfl, ?_⟩
      refine ⟨by rw [hset1]; exact wk_in0 (by rw [List.length_set]; exact hio), ?_⟩
      refine ⟨by omega, ?_⟩
      refine ⟨(i + 1, out.set i wd), ⟨⟨hin, by rw [List.length_set]; exact hol, hos.set k1, k4⟩, by dsimp only; omega⟩, ⟨rfl, rfl, rfl, rfl, rfl, trivial⟩, ⟨?_, trivial⟩⟩
      have e1 : (w64 (out.set i (a / 2 ^ s))).set (0 + ((i : Nat) : Int).toNat) (iU wd) = w64 (out.set i wd) := by rw [wk_set0, List.set_set]
      refine congrArg (fun l => some (⟨false, 1, l, 0, true⟩ : Blk)) (Eq.trans (congrArg (fun x => ((w64 out).set (0 + ((i : Nat) : Int).toNat) (AV.int .u64 (((a : Nat) : Int).fdiv (2 ^ min (((s : Nat) : Int)).toNat IntKind.u64.bits)))).set (0 + ((i : Nat) : Int).toNat) (AV.int .u64 x)) k3) ?_)
      rw [hset1]; exact e1
    · have hin1 : ¬ i + 1 < U.length := by
        have := of_decide_eq_false h3
        rw [hlen] at this
        omega
      refine Exists.elim (key 0 (by rw [List.drop_eq_nil_of_le (by omega)]; rfl)) fun wd k => ?_
      have k1 := k.1
      have hwd : wd = a / 2 ^ s := by rw [k.2.1]; simp
      have k4 := k.2.2.2
      refine ⟨by omega, ?_⟩
      refine ⟨(i + 1, out.set i wd), ⟨⟨hin, by rw [List.length_set]; exact hol, hos.set k1, k4⟩, by dsimp only; omega⟩, ⟨rfl, rfl, rfl, rfl, rfl, trivial⟩, ⟨?_, trivial⟩⟩
      rw [hwd]
      exact congrArg (fun l => some (⟨false, 1, l, 0, true⟩ : Blk)) hset1
  · have hin : i = U.length := by have := of_decide_eq_false h2; dsimp only at this; omega
    subst hin
    rw [List.take_of_length_le (by omega), List.drop_eq_nil_of_le (Nat.le_refl _)] at hval
    have hv : val 18446744073709551616 out = N := by rw [← hval]; simp [val]
    refine ⟨_, rfl, .of_eq ?_⟩
    rw [← pad_eq hos hol hv]
    exact congrArg _ (by rw [List.drop_zero, List.take_of_length_le (by rw [wk_len]; exact Nat.le_of_eq hol)])
end Go.Proofs.YtjafmphhnclfjaaDoor
end

section
namespace Go.Proofs.YtjafmphhnclfjaaDoor
open Go GoAbs Num
set_option maxRecDepth 100000
set_option maxHeartbeats 1000000

theorem Mul64_e (x y : Nat) (hx : x < 18446744073709551616) (hy : y < 18446744073709551616) : Ct E 69 [iU x, iU y] [] (.tup [iU (x * y / 18446744073709551616), iU (x * y % 18446744073709551616)]) [] := up (Mul64_ct x y hx hy)
theorem add64_e {x y c : Nat} (hc : c ≤ 1) : Ct E 62 [iU x, iU y, iU c] [] (.tup [iU ((x + y + c) % 18446744073709551616), iU ((x + y + c) / 18446744073709551616)]) [] := up (add64 hc)
theorem sub64_e {x y c : Nat} (hc : c ≤ 1) : Ct E 70 [iU x, iU y, iU c] [] (.tup [iU ((x + 18446744073709551616 - y - c) % 18446744073709551616), iU (if x < y + c then 1 else 0)]) [] := up (sub64 hc)

theorem ok_less : codeOk E Tryd.f94.ntmps (Tryd.f94.body.getD .skip) = true := by kernel_rfl
theorem less_ct (X Y : List Nat) (j d vx vy n : Nat) (hn : n = Y.length) (hX : Small 18446744073709551616 X) (hY : Small 18446744073709551616 Y) (hd : d < 18446744073709551616) (hj : j + (n + 1) ≤ X.length) (lX : X.length < 4398046511104) (p' : List Nat)
    (hp' : p' = pad 18446744073709551616 (n + 1) ((val 18446744073709551616 ((X.drop j).take (n + 1)) + 18446744073709551616 ^ (n + 1) - d * val 18446744073709551616 Y) % 18446744073709551616 ^ (n + 1))) :
    Ct E 94 [.own (ioB + 0) vx 1 j (n + 1), .own (ioB + 1) vy 1 0 n, iU d] [⟨false, 1, w64 X, vx, true⟩, ⟨false, 1, w64 Y, vy, true⟩]
      (.bool (decide (val 18446744073709551616 ((X.drop j).take (n + 1)) < d * val 18446744073709551616 Y)))
      [⟨false, 1, w64 (putAt X j p'), vx, true⟩, ⟨false, 1, w64 Y, vy, true⟩] := by
  refine Ct_of_io hE Tryd.func94 rfl rfl (by exact Nat.le_of_ble_eq_true rfl) ok_less rfl ?_
  have hP0l : ((X.drop j).take (n + 1)).length = n + 1 := by simp; omega
  have hP0s : Small 18446744073709551616 ((X.drop j).take (n + 1)) := (hX.drop j).take _
  have hX0 : putAt X j ((X.drop j).take (n + 1)) = X := putAt_self hj
  obtain ⟨P0, hP0⟩ : ∃ P0, P0 = (X.drop j).take (n + 1) := ⟨_, rfl⟩
  rw [← hP0] at hP0l hP0s hX0 hp' ⊢
  refine loop_fr [] (fun q : Nat × List Nat × Nat × Nat => q.1 ≤ n ∧ q.2.1.length = n + 1 ∧ Small 18446744073709551616 q.2.1 ∧ q.2.1.drop q.1 = P0.drop q.1 ∧ q.2.2.1 < 18446744073709551616 ∧ q.2.2.2 ≤ 1 ∧
      val 18446744073709551616 (q.2.1.take q.1) + d * val 18446744073709551616 (Y.take q.1) = val 18446744073709551616 (P0.take q.1) + 18446744073709551616 ^ q.1 * (q.2.2.1 + q.2.2.2))
    (fun q => n - q.1)
    (fun q => [(0, .own (ioB + 0) vx 1 j (n + 1)), (1, .own (ioB + 1) vy 1 0 n), (2, iU d), (7, iU q.2.2.1), (8, iU q.2.2.2), (14, .own (ioB + 1) vy 1 0 n), (15, iI n), (16, iI q.1)])
    (fun q => [(1000000, ⟨false, 1, w64 (putAt X j q.2.1), vx, true⟩), (1000001, ⟨false, 1, w64 Y, vy, true⟩)])
    (0, P0, 0, 0) ⟨Nat.zero_le _, hP0l, hP0s, rfl, Nat.zero_lt_succ _, Nat.zero_le _, by simp [val]⟩ ⟨rfl, rfl, rfl, rfl, rfl, rfl, rfl, rfl, trivial⟩ ⟨congrArg (fun l => some (⟨false, 1, w64 l, vx, true⟩ : Blk)) hX0.symm, rfl, trivial⟩ ?_
  rintro ⟨i, p, k, u⟩ g h vr ⟨hi, hpl, hps, hdr, hk, hu, hval⟩
  dsimp only at hi hpl hps hdr hk hu hval
  refine ⟨fun h2 => ?_, fun h2 => ?_⟩
  · have hin : i < n := by have := of_decide_eq_true h2; dsimp only at this; omega
    obtain ⟨y, hy⟩ : ∃ y, Y[i]? = some y := ⟨_, List.getElem?_eq_getElem (by omega)⟩
    obtain ⟨x, hx⟩ : ∃ x, p[i]? = some x := ⟨_, List.getElem?_eq_getElem (by omega)⟩
    have hys := hY.get hy
    have hxs := hps.get hx
    have hx0 : P0[i]? = some x := by
      have e1 : p[i]? = (p.drop i)[0]? := by simp
      have e2 : P0[i]? = (P0.drop i)[0]? := by simp
      rw [e2, ← hdr, ← e1, hx]
    obtain ⟨m1, m2, m3, m4⟩ := less_word hd hys hk hxs hu
    have c1 := Mul64_e d y hd hys
    have c2 := add64_e (x := d * y % 18446744073709551616) (y := k) (c := 0) (by decide)
    have c3 := sub64_e (x := x) (y := (d * y % 18446744073709551616 + k + 0) % 18446744073709551616) (c := u) hu
    generalize d * y / 18446744073709551616 = hi', d * y % 18446744073709551616 = lo at *
    generalize (lo + k + 0) / 18446744073709551616 = k1, (lo + k + 0) % 18446744073709551616 = l2 at *
    generalize (x + 18446744073709551616 - l2 - u) % 18446744073709551616 = x', (if x < l2 + u then 1 else 0) = u' at *
    have ek : IntKind.u64.wrap (((hi' : Nat) : Int) + ((k1 : Nat) : Int)) = ((hi' + k1 : Nat) : Int) := wU (by omega) m1
    have gx : (putAt X j p)[j + i]? = some x := by rw [putAt_get (by omega) (by omega)]; exact hx
    have hval' : val 18446744073709551616 ((p.set i x').take (i + 1)) + d * val 18446744073709551616 (Y.take (i + 1)) = val 18446744073709551616 (P0.take (i + 1)) + 18446744073709551616 ^ (i + 1) * (hi' + k1 + u') := by
      rw [val_set_take (by omega), val_take_succ hy, val_take_succ hx0, Nat.pow_succ, Nat.mul_add]
      generalize 18446744073709551616 ^ i = Z at *
      have e := congrArg (fun z => Z * z) m4
      grind
    refine ⟨by dsimp only; omega, ?_⟩
    refine ⟨rfl, ?_⟩
    refine ⟨iU y, wk_get0 hy, ?_⟩
    refine ⟨_, c1, ?_⟩
    refine ⟨_, c2, ?_⟩
    refine ⟨by dsimp only; omega, ?_⟩
    refine ⟨rfl, ?_⟩
    refine ⟨iU x, wk_get gx, ?_⟩
    refine ⟨_, c3, ?_⟩
    refine ⟨by dsimp only; omega, ?_⟩
    refine ⟨rfl, ?_⟩
    refine ⟨?_, ?_⟩
    · show j + i < (w64 (putAt X j p)).length
      rw [wk_len, putAt_len (by omega)]; omega
    refine ⟨by dsimp only; omega, ?_⟩
    refine ⟨(i + 1, p.set i x', hi' + k1, u'), ⟨⟨hin, by rw [List.length_set]; exact hpl, hps.set m2, ?_, m1, m3, hval'⟩, by dsimp only; omega⟩, ⟨rfl, rfl, rfl, congrArg (AV.int .u64) ek, rfl, rfl, rfl, rfl, trivial⟩, ⟨?_, rfl, trivial⟩⟩
    · dsimp only
      rw [drop_set_after (Nat.lt_succ_self i)]
      have := congrArg (List.drop 1) hdr
      rw [List.drop_drop, List.drop_drop] at this
      exact this
    · refine congrArg (fun l => some (⟨false, 1, l, vx, true⟩ : Blk)) ?_
      show (w64 (putAt X j p)).set (j + i) (iU x') = w64 (putAt X j (p.set i x'))
      rw [wk_set, putAt_set (by omega) (by omega)]
  · have hin : i = n := by have := of_decide_eq_false h2; dsimp only at this; omega
    subst hin
    obtain ⟨x, hx⟩ : ∃ x, p[i]? = some x := ⟨_, List.getElem?_eq_getElem (by omega)⟩
    have hxs := hps.get hx
    have hx0 : P0[i]? = some x := by
      have e1 : p[i]? = (p.drop i)[0]? := by simp
      have e2 : P0[i]? = (P0.drop i)[0]? := by simp
      rw [e2, ← hdr, ← e1, hx]
    have gx : (putAt X j p)[j + i]? = some x := by rw [putAt_get (by omega) (by omega)]; exact hx
    have c3 := sub64_e (x := x) (y := k) (c := u) hu
    obtain ⟨m1, m2, m3⟩ := sub_last hxs hk hu
    generalize (x + 18446744073709551616 - k - u) % 18446744073709551616 = x', (if x < k + u then 1 else 0) = u' at *
    have hfin : val 18446744073709551616 (p.set i x') + d * val 18446744073709551616 Y = val 18446744073709551616 P0 + 18446744073709551616 ^ (i + 1) * u' := by
      have e1 := val_set_take (B := 18446744073709551616) (l := p) (i := i) (d := x') (by omega)
      have e2 := val_take_succ (B := 18446744073709551616) hx0
      rw [List.take_of_length_le (by rw [List.length_set]; omega)] at e1
      rw [List.take_of_length_le (by omega)] at e2
      rw [List.take_of_length_le (l := Y) (by omega)] at hval
      rw [e1, e2, Nat.pow_succ]
      generalize 18446744073709551616 ^ i = Z at *
      have e := congrArg (fun z => Z * z) m3
      grind
    have hsm := hps.set (i := i) m1
    have hlt := val_lt hsm
    rw [List.length_set, hpl] at hlt
    obtain ⟨f1, f2⟩ := less_end hfin hlt m2
    have hpe : p.set i x' = p' := by rw [hp']; exact pad_eq hsm (by rw [List.length_set]; exact hpl) f2
    refine ⟨by omega, ?_⟩
    refine ⟨rfl, ?_⟩
    refine ⟨iU x, wk_get gx, ?_⟩
    refine ⟨_, c3, ?_⟩
    refine ⟨by omega, ?_⟩
    refine ⟨rfl, ?_⟩
    refine ⟨?_, ?_⟩
    · show j + i < (w64 (putAt X j p)).length
      rw [wk_len, putAt_len (by omega)]; omega
    refine ⟨⟨_, rfl, .of_eq (congrArg AV.bool f1)⟩, ⟨?_, rfl, rfl, rfl, trivial⟩⟩
    refine congrArg (fun l => some (⟨false, 1, l, vx, true⟩ : Blk)) ?_
    show (w64 (putAt X j p)).set (j + i) (iU x') = w64 (putAt X j p')
    rw [wk_set, putAt_set (by omega) (by omega), hpe]

theorem ok_more : codeOk E Tryd.f95.ntmps (Tryd.f95.body.getD .skip) = true := by kernel_rfl
theorem more_ct (X Y : List Nat) (j vx vy n : Nat) (hn : n = Y.length) (hX : Small 18446744073709551616 X) (hY : Small 18446744073709551616 Y) (hj : j + (n + 1) ≤ X.length) (lX : X.length < 4398046511104) (p' : List Nat)
    (hp' : p' = pad 18446744073709551616 (n + 1) ((val 18446744073709551616 ((X.drop j).take (n + 1)) + val 18446744073709551616 Y) % 18446744073709551616 ^ (n + 1))) :
    Ct E 95 [.own (ioB + 0) vx 1 j (n + 1), .own (ioB + 1) vy 1 0 n] [⟨false, 1, w64 X, vx, true⟩, ⟨false, 1, w64 Y, vy, true⟩]
      (.bool (decide (18446744073709551616 ^ (n + 1) ≤ val 18446744073709551616 ((X.drop j).take (n + 1)) + val 18446744073709551616 Y)))
      [⟨false, 1, w64 (putAt X j p'), vx, true⟩, ⟨false, 1, w64 Y, vy, true⟩] := by
  refine Ct_of_io hE Tryd.func95 rfl rfl (by exact Nat.le_of_ble_eq_true rfl) ok_more rfl ?_
  have hP0l : ((X.drop j).take (n + 1)).length = n + 1 := by simp; omega
  have hP0s : Small 18446744073709551616 ((X.drop j).take (n + 1)) := (hX.drop j).take _
  have hX0 : putAt X j ((X.drop j).take (n + 1)) = X := putAt_self hj
  obtain ⟨P0, hP0⟩ : ∃ P0, P0 = (X.drop j).take (n + 1) := ⟨_, rfl⟩
  rw [← hP0] at hP0l hP0s hX0 hp' ⊢
  refine loop_fr [] (fun q : Nat × List Nat × Nat => q.1 ≤ n ∧ q.2.1.length = n + 1 ∧ Small 18446744073709551616 q.2.1 ∧ q.2.1.drop q.1 = P0.drop q.1 ∧ q.2.2 ≤ 1 ∧
      val 18446744073709551616 (q.2.1.take q.1) + 18446744073709551616 ^ q.1 * q.2.2 = val 18446744073709551616 (P0.take q.1) + val 18446744073709551616 (Y.take q.1))
    (fun q => n - q.1)
    (fun q => [(0, .own (ioB + 0) vx 1 j (n + 1)), (1, .own (ioB + 1) vy 1 0 n), (5, iU q.2.2), (8, .own (ioB + 1) vy 1 0 n), (9, iI n), (10, iI q.1)])
    (fun q => [(1000000, ⟨false, 1, w64 (putAt X j q.2.1), vx, true⟩), (1000001, ⟨false, 1, w64 Y, vy, true⟩)])
    (0, P0, 0) ⟨Nat.zero_le _, hP0l, hP0s, rfl, Nat.zero_le _, by simp [val]⟩ ⟨rfl, rfl, rfl, rfl, rfl, rfl, trivial⟩ ⟨congrArg (fun l => some (⟨false, 1, w64 l, vx, true⟩ : Blk)) hX0.symm, rfl, trivial⟩ ?_
  rintro ⟨i, p, u⟩ g h vr ⟨hi, hpl, hps, hdr, hu, hval⟩
  dsimp only at hi hpl hps hdr hu hval
  refine ⟨fun h2 => ?_, fun h2 => ?_⟩
  · have hin : i < n := by have := of_decide_eq_true h2; dsimp only at this; omega
    obtain ⟨y, hy⟩ : ∃ y, Y[i]? = some y := ⟨_, List.getElem?_eq_getElem (by omega)⟩
    obtain ⟨x, hx⟩ : ∃ x, p[i]? = some x := ⟨_, List.getElem?_eq_getElem (by omega)⟩
    have hys := hY.get hy
    have hxs := hps.get hx
    have hx0 : P0[i]? = some x := by
      have e1 : p[i]? = (p.drop i)[0]? := by simp
      have e2 : P0[i]? = (P0.drop i)[0]? := by simp
      rw [e2, ← hdr, ← e1, hx]
    have c3 := add64_e (x := x) (y := y) (c := u) hu
    obtain ⟨m1, m2, m3⟩ := add_word hxs hys hu
    generalize (x + y + u) % 18446744073709551616 = x', (x + y + u) / 18446744073709551616 = u' at *
    have gx : (putAt X j p)[j + i]? = some x := by rw [putAt_get (by omega) (by omega)]; exact hx
    have hval' : val 18446744073709551616 ((p.set i x').take (i + 1)) + 18446744073709551616 ^ (i + 1) * u' = val 18446744073709551616 (P0.take (i + 1)) + val 18446744073709551616 (Y.take (i + 1)) := by
      rw [val_set_take (by omega), val_take_succ hy, val_take_succ hx0, Nat.pow_succ]
      generalize 18446744073709551616 ^ i = Z at *
      have e := congrArg (fun z => Z * z) m3
      grind
    refine ⟨by dsimp only; omega, ?_⟩
    refine ⟨rfl, ?_⟩
    refine ⟨iU y, wk_get0 hy, ?_⟩
    refine ⟨by dsimp only; omega, ?_⟩
    refine ⟨rfl, ?_⟩
    refine ⟨iU x, wk_get gx, ?_⟩
    refine ⟨_, c3, ?_⟩
    refine ⟨by dsimp only; omega, ?_⟩
    refine ⟨rfl, ?_⟩
    refine ⟨?_, ?_⟩
    · show j + i < (w64 (putAt X j p)).length
      rw [wk_len, putAt_len (by omega)]; omega
    refine ⟨by dsimp only; omega, ?_⟩
    refine ⟨(i + 1, p.set i x', u'), ⟨⟨hin, by rw [List.length_set]; exact hpl, hps.set m2, ?_, m1, hval'⟩, by dsimp only; omega⟩, ⟨rfl, rfl, rfl, rfl, rfl, rfl, trivial⟩, ⟨?_, rfl, trivial⟩⟩
    · dsimp only
      rw [drop_set_after (Nat.lt_succ_self i)]
      have := congrArg (List.drop 1) hdr
      rw [List.drop_drop, List.drop_drop] at this
      exact this
    · refine congrArg (fun l => some (⟨false, 1, l, vx, true⟩ : Blk)) ?_
      show (w64 (putAt X j p)).set (j + i) (iU x') = w64 (putAt X j (p.set i x'))
      rw [wk_set, putAt_set (by omega) (by omega)]
  · have hin : i = n := by have := of_decide_eq_false h2; dsimp only at this; omega
    subst hin
    obtain ⟨x, hx⟩ : ∃ x, p[i]? = some x := ⟨_, List.getElem?_eq_getElem (by omega)⟩
    have hxs := hps.get hx
    have hx0 : P0[i]? = some x := by
      have e1 : p[i]? = (p.drop i)[0]? := by simp
      have e2 : P0[i]? = (P0.drop i)[0]? := by simp
      rw [e2, ← hdr, ← e1, hx]
    have gx : (putAt X j p)[j + i]? = some x := by rw [putAt_get (by omega) (by omega)]; exact hx
    have c3 := add64_e (x := x) (y := 0) (c := u) hu
    obtain ⟨m1, m2, m3⟩ := add_word hxs (show 0 < 18446744073709551616 by decide) hu
    generalize (x + 0 + u) % 18446744073709551616 = x', (x + 0 + u) / 18446744073709551616 = u' at *
    have hfin : val 18446744073709551616 (p.set i x') + 18446744073709551616 ^ (i + 1) * u' = val 18446744073709551616 P0 + val 18446744073709551616 Y := by
      have e1 := val_set_take (B := 18446744073709551616) (l := p) (i := i) (d := x') (by omega)
      have e2 := val_take_succ (B := 18446744073709551616) hx0
      rw [List.take_of_length_le (by rw [List.length_set]; omega)] at e1
      rw [List.take_of_length_le (by omega)] at e2
      rw [List.take_of_length_le (l := Y) (by omega)] at hval
      rw [e1, e2, Nat.pow_succ]
      generalize 18446744073709551616 ^ i = Z at *
      have e := congrArg (fun z => Z * z) m3
      grind
    have hsm := hps.set (i := i) m2
    have hlt := val_lt hsm
    rw [List.length_set, hpl] at hlt
    have hPl := val_lt hP0s
    rw [hP0l] at hPl
    have hYl := val_lt hY
    have hYl2 : val 18446744073709551616 Y < 18446744073709551616 ^ (i + 1) := Nat.lt_of_lt_of_le hYl (Nat.pow_le_pow_right (by decide) (by omega))
    obtain ⟨f1, f2⟩ := more_end hfin hlt hPl hYl2 m1
    have hpe : p.set i x' = p' := by rw [hp']; exact pad_eq hsm (by rw [List.length_set]; exact hpl) f2
    refine ⟨by omega, ?_⟩
    refine ⟨rfl, ?_⟩
    refine ⟨iU x, wk_get gx, ?_⟩
    refine ⟨_, c3, ?_⟩
    refine ⟨by omega, ?_⟩
    refine ⟨rfl, ?_⟩
    refine ⟨?_, ?_⟩
    · show j + i < (w64 (putAt X j p)).length
      rw [wk_len, putAt_len (by omega)]; omega
    refine ⟨⟨_, rfl, .of_eq (congrArg AV.bool f1)⟩, ⟨?_, rfl, rfl, rfl, trivial⟩⟩
    refine congrArg (fun l => some (⟨false, 1, l, vx, true⟩ : Blk)) ?_
    show (w64 (putAt X j p)).set (j + i) (iU x') = w64 (putAt X j p')
    rw [wk_set, putAt_set (by omega) (by omega), hpe]
end Go.Proofs.YtjafmphhnclfjaaDoor
end
