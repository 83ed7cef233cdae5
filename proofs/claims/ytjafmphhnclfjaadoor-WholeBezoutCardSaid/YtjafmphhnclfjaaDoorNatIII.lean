/- Package nat: a quotient's digit. Package nat: long division. Package nat: quotients. Package nat: bytes. Package nat: numbers moved by bits. -/
import Derived.Test.YtjafmphhnclfjaaDoorNatII
import Derived.Test.YtjafmphhnclfjaaDoorNumI
set_option linter.all false
section
namespace Go.Proofs.YtjafmphhnclfjaaDoor
open Go GoAbs Num
set_option maxRecDepth 100000
set_option maxHeartbeats 1000000

theorem hilo {q w r c hi lo : Nat} (h : hi = q * w / 18446744073709551616) (l : lo = q * w % 18446744073709551616) (hc : c < 18446744073709551616) : (q * w ≤ r * 18446744073709551616 + c) ↔ (hi < r ∨ hi = r ∧ lo ≤ c) := by
  generalize q * w = z at *
  omega
theorem ok_guess : codeOk E Tryd.f93.ntmps (Tryd.f93.body.getD .skip) = true := by kernel_rfl
theorem guess_ct (a b c v w : Nat) (ha : a < 18446744073709551616) (hb : b < 18446744073709551616) (hc : c < 18446744073709551616) (hv : v < 18446744073709551616) (hw : w < 18446744073709551616) (hn : 18446744073709551616 ≤ 2 * v) (q0 : Nat)
    (hq0 : q0 = if v ≤ a then 18446744073709551615 else ((a * 18446744073709551616 + b) * 18446744073709551616 + c) / (v * 18446744073709551616 + w)) :
    Ct E 93 [iU a, iU b, iU c, iU v, iU w] [] (iU q0) [] := by
  refine Ct_of hE Tryd.func93 rfl rfl (by exact Nat.le_of_ble_eq_true rfl) ok_guess ?_
  refine ⟨fun h1 => ?_, fun h1 => ?_⟩
  · have h2 : v ≤ a := Int.ofNat_le.1 (of_decide_eq_true h1)
    rw [if_pos h2] at hq0
    subst hq0
    exact ⟨_, rfl, .refl _⟩
  · have h2 : a < v := Nat.lt_of_not_le fun hc => of_decide_eq_false h1 (Int.ofNat_le.2 hc)
    rw [if_neg (by omega)] at hq0
    refine ⟨_, up (Div64_ct a b v hb hv h2), ?_⟩
    have hu : a * 18446744073709551616 + b < v * 18446744073709551616 + w := by omega
    have g1 := gs_first (b := 18446744073709551616) (p := v) (w := w) (u := a * 18446744073709551616 + b) (n := c) (by decide) hn hw hc hu
    have hqB : (a * 18446744073709551616 + b) / v < 18446744073709551616 := by
      rw [Nat.div_lt_iff_lt_mul (by omega)]; omega
    have hrB : (a * 18446744073709551616 + b) % v < 18446744073709551616 := Nat.lt_trans (Nat.mod_lt _ (by omega)) hv
    refine loop_fr [] (fun q : Nat × Nat => Gs 18446744073709551616 v w (a * 18446744073709551616 + b) c q.1 q.2 ∧ q.1 < 18446744073709551616 ∧ q.2 < 18446744073709551616) (fun q => q.1)
      (fun q => [(2, iU c), (3, iU v), (4, iU w), (11, iU q.1), (12, iU q.2)]) (fun _ => []) (_, _) ⟨g1, hqB, hrB⟩ ⟨rfl, rfl, rfl, rfl, rfl, trivial⟩ trivial ?_
    rintro ⟨q, r⟩ g h vr ⟨hg, hq, hr⟩
    dsimp only at hg hq hr
    have hl := hilo (r := r) (q := q) (w := w) rfl rfl hc
    have c1 := Mul64_e q w hq hw
    generalize q * w / 18446744073709551616 = hi, q * w % 18446744073709551616 = lo at *
    have good : q * w ≤ r * 18446744073709551616 + c → AV.int .u64 ((q : Nat) : Int) = iU q0 := fun h => congrArg (fun z : Nat => iU z) ((gs_small (by decide) hn hg h).trans hq0.symm)
    have bad : ¬ q * w ≤ r * 18446744073709551616 + c → q ≠ 0 ∧ Gs 18446744073709551616 v w (a * 18446744073709551616 + b) c (q - 1) (r + v) := fun h => gs_big (by decide) hn hu hc hg (.inr (Nat.lt_of_not_le h))
    have c2 := add64_e (x := r) (y := v) (c := 0) (by decide)
    refine ⟨_, c1, ?_⟩
    have tail : ¬ q * w ≤ r * 18446744073709551616 + c → (IntKind.u64.wrap (((q : Nat) : Int) - 1) = ((q - 1 : Nat) : Int)) ∧ (18446744073709551616 ≤ r + v → q - 1 = q0) := by
      intro h
      obtain ⟨h3, h4⟩ := bad h
      refine ⟨wU (by omega) (by omega), fun h5 => ?_⟩
      rw [hq0]
      exact gs_out (by decide) hn hw h4 (by omega) h5
    refine ⟨fun h3 => ?_, fun h3 => ?_⟩
    · have h4 : hi < r := Int.ofNat_lt.1 (of_decide_eq_true h3)
      repeat refine ifB_pos h3 ?_
      exact ⟨_, rfl, .of_eq (good (hl.2 (.inl h4)))⟩
    · have h4 : ¬ hi < r := fun hc => of_decide_eq_false h3 (Int.ofNat_lt.2 hc)
      repeat refine ifB_neg h3 ?_
      refine ⟨fun h5 => ?_, fun h5 => ?_⟩
      · have h6 : hi = r := Int.ofNat_inj.1 (eq_of_beq h5)
        repeat first | refine ifB_pos h5 ?_ | refine ifB_neg h3 ?_
        refine ⟨fun h7 => ?_, fun h7 => ?_⟩
        · have h8 : lo ≤ c := Int.ofNat_le.1 (of_decide_eq_true h7)
          repeat first | refine ifB_pos h7 ?_ | refine ifB_neg h3 ?_ | refine ifB_pos h5 ?_
          exact ⟨_, rfl, .of_eq (good (hl.2 (.inr ⟨h6, h8⟩)))⟩
        · have h8 : ¬ lo ≤ c := fun hc => of_decide_eq_false h7 (Int.ofNat_le.2 hc)
          have hbad : ¬ q * w ≤ r * 18446744073709551616 + c := fun h => by rcases hl.1 h with h9 | h9 <;> omega
          repeat first | refine ifB_neg h7 ?_ | refine ifB_neg h3 ?_ | refine ifB_pos h5 ?_
          obtain ⟨t1, t2⟩ := tail hbad
          obtain ⟨b1, b2⟩ := bad hbad
          refine ⟨_, c2, ?_⟩
          refine ⟨fun h8 => ?_, fun h8 => ?_⟩
          · have h9 : 18446744073709551616 ≤ r + v := by
              rcases Nat.lt_or_ge (r + v) 18446744073709551616 with hlt | hge
              · have e : (r + v + 0) / 18446744073709551616 = 0 := Nat.div_eq_of_lt hlt
                rw [e] at h8
                exact absurd h8 (by decide)
              · exact hge
            exact ⟨_, rfl, .of_eq ((congrArg (AV.int .u64) t1).trans (congrArg (fun z : Nat => iU z) (t2 h9)))⟩
          · have h9 : r + v < 18446744073709551616 := by
              rcases Nat.lt_or_ge (r + v) 18446744073709551616 with hlt | hge
              · exact hlt
              · have e : (r + v + 0) / 18446744073709551616 = 1 := by omega
                rw [e] at h8
                exact absurd h8 (by decide)
            have e2 : (r + v + 0) % 18446744073709551616 = r + v := Nat.mod_eq_of_lt h9
            exact ⟨(q - 1, r + v), ⟨⟨b2, by dsimp only; omega, h9⟩, by dsimp only; omega⟩, ⟨rfl, rfl, rfl, congrArg (AV.int .u64) t1, congrArg (fun z : Nat => iU z) e2, trivial⟩, trivial⟩
      · have h6 : ¬ hi = r := fun hc => by subst hc; simp at h5
        have hbad : ¬ q * w ≤ r * 18446744073709551616 + c := fun h => by rcases hl.1 h with h9 | h9 <;> omega
        repeat first | refine ifB_neg h5 ?_ | refine ifB_neg h3 ?_
        obtain ⟨t1, t2⟩ := tail hbad
        obtain ⟨b1, b2⟩ := bad hbad
        refine ⟨_, c2, ?_⟩
        refine ⟨fun h8 => ?_, fun h8 => ?_⟩
        · have h9 : 18446744073709551616 ≤ r + v := by
            rcases Nat.lt_or_ge (r + v) 18446744073709551616 with hlt | hge
            · have e : (r + v + 0) / 18446744073709551616 = 0 := Nat.div_eq_of_lt hlt
              rw [e] at h8
              exact absurd h8 (by decide)
            · exact hge
          exact ⟨_, rfl, .of_eq ((congrArg (AV.int .u64) t1).trans (congrArg (fun z : Nat => iU z) (t2 h9)))⟩
        · have h9 : r + v < 18446744073709551616 := by
            rcases Nat.lt_or_ge (r + v) 18446744073709551616 with hlt | hge
            · exact hlt
            · have e : (r + v + 0) / 18446744073709551616 = 1 := by omega
              rw [e] at h8
              exact absurd h8 (by decide)
          have e2 : (r + v + 0) % 18446744073709551616 = r + v := Nat.mod_eq_of_lt h9
          exact ⟨(q - 1, r + v), ⟨⟨b2, by dsimp only; omega, h9⟩, by dsimp only; omega⟩, ⟨rfl, rfl, rfl, congrArg (AV.int .u64) t1, congrArg (fun z : Nat => iU z) e2, trivial⟩, trivial⟩
end Go.Proofs.YtjafmphhnclfjaaDoor
end

section
namespace Go.Proofs.YtjafmphhnclfjaaDoor
open Go GoAbs Num
set_option maxRecDepth 100000
set_option maxHeartbeats 1000000

theorem own_eq {i v z o o' l l' : Nat} (h : o = o') (k : l = l') : AV.own i v z o l = AV.own i v z o' l' := by rw [h, k]
theorem cons_eq {a b : AV} {l m : List AV} (h : a = b) (k : l = m) : a :: l = b :: m := by rw [h, k]
theorem get_at {l : List AV} {i j : Nat} {v : AV} (h : l[j]? = some v) (e : i = j) : l[i]? = some v := e ▸ h

theorem ok_long : codeOk E Tryd.f72.ntmps (Tryd.f72.body.getD .skip) = true := by kernel_rfl
theorem long_ct (U V : List Nat) (n : Nat) (hU : Small 18446744073709551616 U) (hV : Small 18446744073709551616 V) (hn : V.length = n) (hn2 : 2 ≤ n) (hnU : n ≤ U.length) (lU : U.length < 1099511627777) (d : Nat) (hd : V[n - 1]? = some d) (hd0 : d ≠ 0) :
    Ct E 72 [.imm false 1 (w64 U), .imm false 1 (w64 V)] [] (.tup [.imm false 1 (w64 (pad 18446744073709551616 (U.length - n + 1) (val 18446744073709551616 U / val 18446744073709551616 V))), .imm false 1 (w64 (pad 18446744073709551616 n (val 18446744073709551616 U % val 18446744073709551616 V)))]) [] := by
  refine Ct_of hE Tryd.func72 rfl rfl (by exact Nat.le_of_ble_eq_true rfl) ok_long ?_
  have hlU : (w64 U).length = U.length := wk_len _ _
  have hlV : (w64 V).length = n := (wk_len _ _).trans hn
  have hds := hV.get hd
  refine ⟨by rw [hlV]; omega, ?_⟩
  refine ⟨by rw [hlV]; omega, ?_⟩
  refine ⟨iU d, ?_, ?_⟩
  · rw [hlV]
    exact get_at (wk_get hd) (by omega)
  refine ⟨_, up (LeadingZeros64_ct d hds), ?_⟩
  obtain ⟨s, hs⟩ : ∃ s, s = 64 - blen d := ⟨_, rfl⟩
  have hbl : blen d ≤ 64 := blen_le (n := 64) hds
  have hbl0 : blen d ≠ 0 := by rw [blen_pos hd0]; omega
  rw [← hs]
  obtain ⟨nv1, nv2, nv3⟩ := norm_val hV hn (by omega) hd hd0 hs
  obtain ⟨X0, hX0⟩ : ∃ X0, X0 = pad 18446744073709551616 (U.length + 1) (val 18446744073709551616 U * 2 ^ s) := ⟨_, rfl⟩
  obtain ⟨Y, hY⟩ : ∃ Y, Y = pad 18446744073709551616 n (val 18446744073709551616 V * 2 ^ s) := ⟨_, rfl⟩
  have hUlt := val_lt hU
  have hs64 : 2 ^ s ≤ 18446744073709551616 := by
    have : 2 ^ s ≤ 2 ^ 64 := Nat.pow_le_pow_right (by decide) (by omega)
    exact this
  have hX0lt : val 18446744073709551616 U * 2 ^ s < 18446744073709551616 ^ (U.length + 1) := by
    rw [Nat.pow_succ]
    exact Nat.mul_lt_mul_of_lt_of_le hUlt hs64 (by decide)
  have hX0l : X0.length = U.length + 1 := by rw [hX0, pad_len]
  have hYl : Y.length = n := by rw [hY, pad_len]
  have hX0s : Small 18446744073709551616 X0 := by rw [hX0]; exact pad_small (by decide) _ _
  have hYs : Small 18446744073709551616 Y := by rw [hY]; exact pad_small (by decide) _ _
  have hX0v : val 18446744073709551616 X0 = val 18446744073709551616 U * 2 ^ s := by rw [hX0]; exact pad_val hX0lt
  have hYv : val 18446744073709551616 Y = val 18446744073709551616 V * 2 ^ s := by rw [hY]; exact pad_val nv1
  have hsp := Nat.two_pow_pos s
  have hZp : 0 < 18446744073709551616 ^ (n - 1) := Nat.pow_pos (by decide)
  have hYp : 0 < val 18446744073709551616 Y := by rw [hYv]; exact Nat.mul_pos (by omega) hsp
  have hYlt : val 18446744073709551616 Y < 18446744073709551616 ^ n := by rw [hYv]; exact nv1
  obtain ⟨v, hv⟩ : ∃ v, Y[n - 1]? = some v := ⟨_, List.getElem?_eq_getElem (by omega)⟩
  obtain ⟨w, hw⟩ : ∃ w, Y[n - 2]? = some w := ⟨_, List.getElem?_eq_getElem (by omega)⟩
  have hvn := top_word hYs hYl (by omega) hv (by rw [hYv]; exact nv2)
  have htop : val 18446744073709551616 (X0.drop (U.length - n + 1)) < val 18446744073709551616 Y := by
    have e := val_split 18446744073709551616 X0 (U.length - n + 1) (by omega)
    rw [hX0v] at e
    rw [hYv]
    have p3 : 18446744073709551616 ^ U.length = 18446744073709551616 ^ (U.length - n + 1) * 18446744073709551616 ^ (n - 1) := by
      rw [← Nat.pow_add, show U.length - n + 1 + (n - 1) = U.length by omega]
    have h5 : val 18446744073709551616 U * 2 ^ s < 18446744073709551616 ^ (U.length - n + 1) * (val 18446744073709551616 V * 2 ^ s) := by
      rw [← Nat.mul_assoc]
      refine Nat.mul_lt_mul_of_pos_right ?_ hsp
      rw [p3] at hUlt
      exact Nat.lt_of_lt_of_le hUlt (Nat.mul_le_mul_left _ nv3)
    have h6 : 18446744073709551616 ^ (U.length - n + 1) * val 18446744073709551616 (X0.drop (U.length - n + 1)) < 18446744073709551616 ^ (U.length - n + 1) * (val 18446744073709551616 V * 2 ^ s) := by omega
    exact Nat.lt_of_mul_lt_mul_left h6
  refine ⟨by rw [hlU]; omega, ?_⟩
  refine ⟨_, _, (up (left_ct U s (U.length + 1) hU (by omega) (by omega) (by omega) _ rfl hX0lt)).eq ?_, ⟨rfl, rfl⟩, ?_⟩
  · refine cons_eq rfl (cons_eq rfl (cons_eq (congrArg (AV.int .i64) ?_) rfl))
    rw [hlU]; rfl
  refine ⟨_, _, (up (left_ct V s n hV (by omega) (by omega) (by omega) _ rfl nv1)).eq ?_, ⟨rfl, rfl⟩, ?_⟩
  · refine cons_eq rfl (cons_eq rfl (cons_eq (congrArg (AV.int .i64) ?_) rfl))
    rw [hlV]
  rw [← hX0, ← hY]
  have eL : (((w64 U).length : Nat) : Int) - (((w64 V).length : Nat) : Int) = ((U.length - n : Nat) : Int) := by rw [hlU, hlV]; omega
  have eT : ((((w64 U).length : Nat) : Int) - (((w64 V).length : Nat) : Int) + 1).toNat = U.length - n + 1 := by rw [eL]; rfl
  refine ⟨by rw [hlU, hlV]; omega, ?_⟩
  refine ⟨by rw [hlU, hlV]; omega, ?_⟩
  refine ⟨by rw [hlU, hlV]; dsimp only; omega, ?_⟩
  refine ⟨by rw [hlU, hlV]; omega, ?_⟩
  have hblk : (⟨false, 1, List.replicate ((((w64 U).length : Nat) : Int) - (((w64 V).length : Nat) : Int) + 1).toNat (.int .u64 0), 0, true⟩ : Blk) = ⟨false, 1, w64 (List.replicate (U.length - n + 1) 0), 0, true⟩ := by rw [eT]; exact congrArg (fun l => (⟨false, 1, l, 0, true⟩ : Blk)) (wk_rep .u64 _)
  refine loop_fr [] (fun q : Int × List Nat × List Nat => -1 ≤ q.1 ∧ q.1 ≤ ((U.length - n : Nat) : Int) ∧ q.2.1.length = U.length + 1 ∧ Small 18446744073709551616 q.2.1 ∧ q.2.2.length = U.length - n + 1 ∧ Small 18446744073709551616 q.2.2 ∧
      val 18446744073709551616 (q.2.1.drop (q.1 + 1).toNat) < val 18446744073709551616 Y ∧
      val 18446744073709551616 X0 = val 18446744073709551616 (q.2.2.drop (q.1 + 1).toNat) * 18446744073709551616 ^ (q.1 + 1).toNat * val 18446744073709551616 Y + val 18446744073709551616 q.2.1)
    (fun q => (q.1 + 1).toNat)
    (fun q => [(6, iI n), (7, iI s), (8, .own 28 0 1 0 (U.length + 1)), (9, .own 32 0 1 0 n), (10, .own 38 0 1 0 (U.length - n + 1)), (11, iI q.1)])
    (fun q => [(28, ⟨false, 1, w64 q.2.1, 0, true⟩), (32, ⟨false, 1, w64 Y, 0, true⟩), (38, ⟨false, 1, w64 q.2.2, 0, true⟩)])
    ((U.length - n : Nat), X0, List.replicate (U.length - n + 1) 0)
    ⟨by dsimp only; omega, Int.le_refl _, hX0l, hX0s, List.length_replicate, .rep (by decide) _, htop, by
      show _ = val 18446744073709551616 ((List.replicate (U.length - n + 1) 0).drop (U.length - n + 1)) * _ * _ + _
      rw [List.drop_of_length_le (by rw [List.length_replicate]; omega)]; simp [val]⟩
    ⟨congrArg (fun z : Nat => iI z) hlV, rfl, rfl, rfl, own_eq rfl eT, congrArg (AV.int .i64) eL, trivial⟩ ⟨rfl, rfl, congrArg some hblk, trivial⟩ ?_
  rintro ⟨z, X, Q⟩ g h vr ⟨hz1, hz2, hXl, hXs, hQl, hQs, hlow, hinv⟩
  dsimp only at hz1 hz2 hXl hXs hQl hQs hlow hinv
  refine ⟨fun h2 => ?_, fun h2 => ?_⟩
  · obtain ⟨j, rfl⟩ : ∃ j : Nat, z = ((j : Nat) : Int) := ⟨z.toNat, by have := of_decide_eq_true h2; dsimp only at this; omega⟩
    have ej : (((j : Nat) : Int) + 1).toNat = j + 1 := rfl
    rw [ej] at hlow hinv
    have hjn : j + n < X.length := by omega
    obtain ⟨P, hP⟩ : ∃ P, P = val 18446744073709551616 ((X.drop j).take (n + 1)) := ⟨_, rfl⟩
    obtain ⟨q, hq⟩ : ∃ q, q = P / val 18446744073709551616 Y := ⟨_, rfl⟩
    obtain ⟨r1, r2, r3, r4, r5⟩ := long_round (q := q) hXs (by decide) hYlt hYp hjn hlow (by rw [← hP]; exact hq)
    rw [← hP] at r1 r3 r5
    obtain ⟨a, ha⟩ : ∃ a, X[j + n]? = some a := ⟨_, List.getElem?_eq_getElem hjn⟩
    obtain ⟨b, hb⟩ : ∃ b, X[j + n - 1]? = some b := ⟨_, List.getElem?_eq_getElem (by omega)⟩
    obtain ⟨c, hc⟩ : ∃ c, X[j + n - 2]? = some c := ⟨_, List.getElem?_eq_getElem (by omega)⟩
    obtain ⟨q0, hq0⟩ : ∃ q0, q0 = if v ≤ a then 18446744073709551615 else ((a * 18446744073709551616 + b) * 18446744073709551616 + c) / (v * 18446744073709551616 + w) := ⟨_, rfl⟩
    obtain ⟨g1, g2⟩ := guess_fin (q := q) hXs hYs hYl hn2 hjn ha hb hc hv hw hvn (by rw [← hP]; exact hq) r2 hq0
    have cg := guess_ct a b c v w (hXs.get ha) (hXs.get hb) (hXs.get hc) (hYs.get hv) (hYs.get hw) hvn q0 hq0
    obtain ⟨Z, hZ⟩ : ∃ Z, Z = 18446744073709551616 ^ (n + 1) := ⟨_, rfl⟩
    have hYZ : ∀ d', d' < 18446744073709551616 → d' * val 18446744073709551616 Y < Z := by
      intro d' hd'
      rw [hZ, Nat.pow_succ, Nat.mul_comm _ 18446744073709551616]
      exact Nat.mul_lt_mul_of_le_of_lt (Nat.le_of_lt hd') hYlt (by omega)
    have hPmZ : P % val 18446744073709551616 Y < Z := by
      have := Nat.mod_lt P hYp
      have := hYZ 1 (by decide)
      omega
    have pdl : ∀ x : Nat, (pad 18446744073709551616 (n + 1) x).length = n + 1 := pad_len _ _
    have pds : ∀ x : Nat, Small 18446744073709551616 (pad 18446744073709551616 (n + 1) x) := pad_small (by decide) _
    have hput : ∀ x : Nat, (putAt X j (pad 18446744073709551616 (n + 1) x)).length = U.length + 1 := fun x => by rw [putAt_len (by rw [pdl]; omega)]; exact hXl
    have hputs : ∀ x : Nat, Small 18446744073709551616 (putAt X j (pad 18446744073709551616 (n + 1) x)) := fun x => putAt_small hXs (pds x)
    have cl := less_ct X Y j q0 0 0 n hYl.symm hXs hYs g2 (by omega) (by omega) _ rfl
    rw [← hP, ← hZ] at cl
    refine ⟨by omega, ?_⟩
    refine ⟨by omega, ?_⟩
    refine ⟨rfl, ?_⟩
    refine ⟨iU a, get_at (wk_get ha) (by omega), ?_⟩
    refine ⟨by omega, ?_⟩
    refine ⟨by omega, ?_⟩
    refine ⟨by omega, ?_⟩
    refine ⟨rfl, ?_⟩
    refine ⟨iU b, get_at (wk_get hb) (by omega), ?_⟩
    refine ⟨by omega, ?_⟩
    refine ⟨by omega, ?_⟩
    refine ⟨by omega, ?_⟩
    refine ⟨rfl, ?_⟩
    refine ⟨iU c, get_at (wk_get hc) (by omega), ?_⟩
    refine ⟨by omega, ?_⟩
    refine ⟨by omega, ?_⟩
    refine ⟨rfl, ?_⟩
    refine ⟨iU v, get_at (wk_get hv) (by omega), ?_⟩
    refine ⟨by omega, ?_⟩
    refine ⟨by omega, ?_⟩
    refine ⟨rfl, ?_⟩
    refine ⟨iU w, get_at (wk_get hw) (by omega), ?_⟩
    refine ⟨_, cg, ?_⟩
    refine ⟨by omega, ?_⟩
    refine ⟨by omega, ?_⟩
    refine ⟨⟨by omega, by omega, by omega, by omega, by simp⟩, ?_⟩
    refine ⟨_, _, cl.eq ?_, ⟨rfl, rfl⟩, ?_⟩
    · exact cons_eq (own_eq (by omega) (by omega)) rfl
    refine loop_fr [] (fun dd : Nat => q ≤ dd ∧ dd < 18446744073709551616) (fun dd => dd)
      (fun dd => [(6, iI n), (7, iI s), (8, .own 28 0 1 0 (U.length + 1)), (9, .own 32 0 1 0 n), (10, .own 38 0 1 0 (U.length - n + 1)), (11, iI j), (12, iU dd), (13, .own 28 0 1 j (n + 1)), (14, .bool (decide (P < dd * val 18446744073709551616 Y)))])
      (fun dd => [(28, ⟨false, 1, w64 (putAt X j (pad 18446744073709551616 (n + 1) ((P + Z - dd * val 18446744073709551616 Y) % Z))), 0, true⟩), (32, ⟨false, 1, w64 Y, 0, true⟩), (38, ⟨false, 1, w64 Q, 0, true⟩)])
      q0 ⟨g1, g2⟩ ⟨rfl, rfl, rfl, rfl, rfl, rfl, rfl, own_eq (by omega) (by omega), rfl, trivial⟩ ⟨rfl, rfl, rfl, trivial⟩ ?_
    rintro dd g' h' vr' ⟨hd1, hd2⟩
    have hdY := hYZ dd hd2
    refine ⟨fun h3 => ?_, fun h3 => ?_⟩
    · have h4 : P < dd * val 18446744073709551616 Y := of_decide_eq_true h3
      have hdd0 : dd ≠ 0 := by rintro rfl; simp at h4
      have hdq : q ≤ dd - 1 := by
        rcases Nat.lt_or_ge q dd with h5 | h5
        · omega
        · exfalso
          have h6 : dd ≤ P / val 18446744073709551616 Y := by omega
          rw [Nat.le_div_iff_mul_le hYp] at h6
          omega
      have cm := more_ct (putAt X j (pad 18446744073709551616 (n + 1) ((P + Z - dd * val 18446744073709551616 Y) % Z))) Y j 0 0 n hYl.symm (hputs _) hYs (by rw [hput]; omega) (by rw [hput]; omega) _ rfl
      have epart : (((putAt X j (pad 18446744073709551616 (n + 1) ((P + Z - dd * val 18446744073709551616 Y) % Z))).drop j).take (n + 1)) = pad 18446744073709551616 (n + 1) ((P + Z - dd * val 18446744073709551616 Y) % Z) := by
        have := putAt_part (l := X) (p := pad 18446744073709551616 (n + 1) ((P + Z - dd * val 18446744073709551616 Y) % Z)) (j := j) (by omega)
        rw [pdl] at this
        exact this
      have hZp2 : 0 < Z := by omega
      have epv : val 18446744073709551616 (pad 18446744073709551616 (n + 1) ((P + Z - dd * val 18446744073709551616 Y) % Z)) = (P + Z - dd * val 18446744073709551616 Y) % Z := pad_val (by rw [← hZ]; exact Nat.mod_lt _ hZp2)
      rw [epart, epv, ← hZ, putAt_putAt (by omega) (by rw [pdl, pdl])] at cm
      obtain ⟨s1, s2⟩ := more_step h4 hdY rfl
      rw [s2] at cm
      have ew : IntKind.u64.wrap (((dd : Nat) : Int) - 1) = ((dd - 1 : Nat) : Int) := wU (by omega) (by omega)
      repeat refine ifB_pos h3 ?_
      refine ⟨_, _, cm, ⟨rfl, rfl⟩, ?_⟩
      exact ⟨dd - 1, ⟨⟨hdq, by omega⟩, by omega⟩, ⟨rfl, rfl, rfl, rfl, rfl, rfl, congrArg (AV.int .u64) ew, rfl, congrArg AV.bool s1, trivial⟩, ⟨rfl, rfl, rfl, trivial⟩⟩
    · have h4 : ¬ P < dd * val 18446744073709551616 Y := of_decide_eq_false h3
      obtain ⟨o1, o2⟩ := less_out (Z := Z) hYp hq h4 hd1 hPmZ
      obtain ⟨f1, f2⟩ := r5 _ rfl
      rw [← o2] at f1 f2
      have hget : j < Q.length := by omega
      have hQd := val_drop_set (B := 18446744073709551616) (d := dd) hget
      repeat refine ifB_neg h3 ?_
      refine ⟨by omega, ?_⟩
      refine ⟨rfl, ?_⟩
      refine ⟨?_, ?_⟩
      · show 0 + ((j : Nat) : Int).toNat < (w64 Q).length
        rw [wk_len]; omega
      refine ⟨by omega, ?_⟩
      refine ⟨(((j : Nat) : Int) - 1, putAt X j (pad 18446744073709551616 (n + 1) ((P + Z - dd * val 18446744073709551616 Y) % Z)), Q.set j dd), ⟨⟨by dsimp only; omega, by dsimp only; omega, hput _, hputs _, by rw [List.length_set]; exact hQl, hQs.set hd2, ?_, ?_⟩, ?_⟩, ⟨rfl, rfl, rfl, rfl, rfl, rfl, trivial⟩, ⟨rfl, rfl, ?_, trivial⟩⟩
      · dsimp only
        have e5 : (((j : Nat) : Int) - 1 + 1).toNat = j := by omega
        rw [e5]
        exact f1
      · dsimp only
        have e5 : (((j : Nat) : Int) - 1 + 1).toNat = j := by omega
        rw [e5, hQd, hinv, f2, ← o1, Nat.pow_succ]
        generalize 18446744073709551616 ^ j = Zj at *
        grind
      · dsimp only; omega
      · exact congrArg (fun l => some (⟨false, 1, l, 0, true⟩ : Blk)) (wk_set0 ..)
  · have hz : z = -1 := by have := of_decide_eq_false h2; dsimp only at this; omega
    subst hz
    have e0 : ((-1 : Int) + 1).toNat = 0 := rfl
    rw [e0, List.drop_zero, Nat.pow_zero, Nat.mul_one, hX0v, hYv] at hinv
    rw [e0, List.drop_zero, hYv] at hlow
    obtain ⟨f1, f2⟩ := long_fin hsp hinv hlow
    have hXn : val 18446744073709551616 (X.take n) = val 18446744073709551616 X := by
      have e := val_split 18446744073709551616 X n (by omega)
      rcases Nat.eq_zero_or_pos (val 18446744073709551616 (X.drop n)) with h0 | h0
      · rw [h0] at e; omega
      · have : 18446744073709551616 ^ n * 1 ≤ 18446744073709551616 ^ n * val 18446744073709551616 (X.drop n) := Nat.mul_le_mul_left _ h0
        omega
    have hXl2 : (X.take n).length = n := by rw [List.length_take]; omega
    have hr := right_ct (X.take n) s (hXs.take n) (by rw [hXl2]; omega) (by omega) (val 18446744073709551616 U % val 18446744073709551616 V) (by rw [hXn, f2, Nat.mul_div_cancel _ hsp])
    rw [hXl2] at hr
    refine ⟨⟨by decide, by omega, by omega, by omega, by simp⟩, ?_⟩
    refine ⟨_, _, rfl, ?_⟩
    refine ⟨_, hr.eq ?_, ?_⟩
    · refine cons_eq ?_ rfl
      show AV.imm false 1 (((w64 X).drop 0).take n) = _
      rw [List.drop_zero, wk_take]
    refine ⟨_, rfl, .tup (.cons (.of_eq ?_) (.cons (.refl _) .nil))⟩
    have hQe : Q = pad 18446744073709551616 (U.length - n + 1) (val 18446744073709551616 U / val 18446744073709551616 V) := pad_eq hQs hQl f1.symm
    rw [← hQe]
    show AV.imm false 1 (((w64 Q).drop 0).take (U.length - n + 1)) = _
    rw [List.drop_zero, List.take_of_length_le (by rw [wk_len]; omega)]
end Go.Proofs.YtjafmphhnclfjaaDoor
end

section
namespace Go.Proofs.YtjafmphhnclfjaaDoor
open Go GoAbs Num
set_option maxRecDepth 100000
set_option maxHeartbeats 1000000

theorem len_digs {x : Nat} (hx : blen x < 1099511627776) : (digs 18446744073709551616 x).length < 1099511627776 := Nat.lt_of_le_of_lt (len64 x) hx
theorem lenw (x : Nat) : (w64 (digs 18446744073709551616 x)).length = (digs 18446744073709551616 x).length := wk_len _ _
theorem len0 {x : Nat} : (digs 18446744073709551616 x).length = 0 ↔ x = 0 := by
  rw [List.length_eq_zero_iff]; exact digs_nil (by decide)
theorem aN_eq {x y : Nat} (h : x = y) : aN x = aN y := congrArg aN h

theorem ok_Div : codeOk E Tryd.f47.ntmps (Tryd.f47.body.getD .skip) = true := by kernel_rfl
theorem Div0_ct (x : Nat) : Ct E 47 [aN x, aN 0] [] (.tup [aN 0, aN 0, .bool false]) [] := by
  refine Ct_of hE Tryd.func47 rfl rfl (by exact Nat.le_of_ble_eq_true rfl) ok_Div ?_
  repeat refine ⟨rfl, ?_⟩
  refine ⟨fun h1 => ?_, fun h1 => absurd h1 (by decide)⟩
  repeat refine ⟨rfl, ?_⟩
  exact ⟨_, rfl, .tup (.cons aN_nil (.cons aN_nil (.cons .kf .nil)))⟩
theorem Div_ct (x y : Nat) (hx : blen x < 1099511627776) (hy : blen y < 1099511627776) (hy0 : y ≠ 0) : Ct E 47 [aN x, aN y] [] (.tup [aN (x / y), aN (x % y), .bool true]) [] := by
  refine Ct_of hE Tryd.func47 rfl rfl (by exact Nat.le_of_ble_eq_true rfl) ok_Div ?_
  have hlx := len_digs hx
  have hly := len_digs hy
  have sx := digs_small (B := 18446744073709551616) (by decide) x
  have sy := digs_small (B := 18446744073709551616) (by decide) y
  have vx := digs_val (B := 18446744073709551616) (by decide) x
  have vy := digs_val (B := 18446744073709551616) (by decide) y
  repeat refine ⟨rfl, ?_⟩
  refine ⟨fun h1 => ?_, fun h1 => ?_⟩
  · exfalso
    have h2 : (w64 (digs 18446744073709551616 y)).length = 0 := by simpa using h1
    rw [lenw] at h2
    exact hy0 (len0.1 h2)
  repeat refine ⟨rfl, ?_⟩
  refine ⟨_, up (Cmp_ct x y hx hy), ?_⟩
  refine ⟨fun h2 => ?_, fun h2 => ?_⟩
  · have hxy : x < y := by
      have := of_decide_eq_true h2
      rcases Nat.lt_trichotomy x y with h | h | h
      · exact h
      · rw [cmp_eq h] at this; exact absurd this (by decide)
      · rw [cmp_gt h] at this; exact absurd this (by decide)
    repeat refine ⟨rfl, ?_⟩
    exact ⟨_, rfl, .tup (.cons (by rw [Nat.div_eq_of_lt hxy]; exact aN_nil) (.cons (.of_eq (aN_eq (Nat.mod_eq_of_lt hxy).symm)) (.cons .kt .nil)))⟩
  · have hxy : y ≤ x := by
      have := of_decide_eq_false h2
      rcases Nat.lt_or_ge x y with h | h
      · rw [cmp_lt h] at this; exact absurd (by decide) this
      · exact h
    have hll := digs_len_mono (B := 18446744073709551616) (by decide) hxy
    repeat refine ⟨rfl, ?_⟩
    refine ⟨fun h3 => ?_, fun h3 => ?_⟩
    · have h4 : (digs 18446744073709551616 y).length = 1 := by
        have h4 : (((w64 (digs 18446744073709551616 y)).length : Nat) : Int) = 1 := by simpa using h3
        rw [lenw] at h4; omega
      have hlt : y < 18446744073709551616 := by have := digs_lt (B := 18446744073709551616) (by decide) y; rw [h4] at this; simpa using this
      have e1 := digs_one (B := 18446744073709551616) (by decide) hy0 hlt
      obtain ⟨q1, q2⟩ := sdiv_div (B := 18446744073709551616) (v := y) (by omega) sx
      obtain ⟨q3, _, q4⟩ := sdiv_ok (B := 18446744073709551616) (v := y) (by omega) sx
      have hsl := sdiv_len 18446744073709551616 y (digs 18446744073709551616 x)
      rw [vx] at q1 q2
      repeat refine ⟨rfl, ?_⟩
      refine ⟨by rw [lenw, h4]; decide, ?_⟩
      refine ⟨iU y, by rw [e1]; rfl, ?_⟩
      refine ⟨_, up (short_ct _ y sx (by omega) (by omega) hlt), ?_⟩
      refine ⟨_, up (trim_ct _ (by omega) q3), ?_⟩
      refine ⟨_, up (Of_ct _ (by omega)), ?_⟩
      repeat refine ⟨rfl, ?_⟩
      exact ⟨_, rfl, .tup (.cons (.of_eq (aN_eq q1)) (.cons (.of_eq (aN_eq q2)) (.cons .kt .nil)))⟩
    · have h4 : (digs 18446744073709551616 y).length ≠ 1 := by
        intro h4
        rw [lenw, h4] at h3
        exact absurd h3 (by decide)
      have h5 : (digs 18446744073709551616 y).length ≠ 0 := fun h => hy0 (len0.1 h)
      rcases List.eq_nil_or_concat (digs 18446744073709551616 y) with hn | ⟨m, d, hm⟩
      · rw [hn] at h5; exact absurd rfl h5
      have hm : digs 18446744073709551616 y = m ++ [d] := by simpa using hm
      have hd0 := digs_last (by decide) hm
      have hdg : (digs 18446744073709551616 y)[(digs 18446744073709551616 y).length - 1]? = some d := by rw [hm]; simp
      have cl := long_ct _ _ _ sx sy rfl (by omega) hll (by omega) d hdg hd0
      rw [vx, vy] at cl
      have hxB := digs_lt (B := 18446744073709551616) (by decide) x
      have hyB := digs_lt (B := 18446744073709551616) (by decide) y
      have hyp : 0 < y := by omega
      have b1 : x / y < 18446744073709551616 ^ ((digs 18446744073709551616 x).length - (digs 18446744073709551616 y).length + 1) := by
        rw [Nat.div_lt_iff_lt_mul hyp]
        have h6 := digs_ge (B := 18446744073709551616) (by decide) hy0
        have h7 : 18446744073709551616 ^ (digs 18446744073709551616 x).length = 18446744073709551616 ^ ((digs 18446744073709551616 x).length - (digs 18446744073709551616 y).length + 1) * 18446744073709551616 ^ ((digs 18446744073709551616 y).length - 1) := by
          rw [← Nat.pow_add]; congr 1; omega
        rw [h7] at hxB
        exact Nat.lt_of_lt_of_le hxB (Nat.mul_le_mul_left _ h6)
      have b2 : x % y < 18446744073709551616 ^ (digs 18446744073709551616 y).length := Nat.lt_trans (Nat.mod_lt _ hyp) hyB
      repeat refine ⟨rfl, ?_⟩
      refine ⟨_, cl, ?_⟩
      refine ⟨_, up (trim_ct _ (by rw [pad_len]; omega) (pad_small (by decide) _ _)), ?_⟩
      refine ⟨_, up (trim_ct _ (by rw [pad_len]; omega) (pad_small (by decide) _ _)), ?_⟩
      repeat refine ⟨rfl, ?_⟩
      exact ⟨_, rfl, .tup (.cons (.of_eq (aN_eq (pad_val b1))) (.cons (.of_eq (aN_eq (pad_val b2))) (.cons .kt .nil)))⟩
end Go.Proofs.YtjafmphhnclfjaaDoor
end

section
namespace Go.Proofs.YtjafmphhnclfjaaDoor
open Go GoAbs Num
set_option maxRecDepth 100000
set_option maxHeartbeats 1000000

theorem wrapU8 {n : Nat} (h : n < 18446744073709551616) : IntKind.u64.wrap ((n : Nat) : Int) = ((n : Nat) : Int) := wU rfl h
theorem ok_FromBytes : codeOk E Tryd.f90.ntmps (Tryd.f90.body.getD .skip) = true := by kernel_rfl
theorem FromBytes_ct (l : List Nat) (hl : Small 256 l) (hlen : l.length < 1099511627776) : Ct E 90 [.imm false 1 (w8 l)] [] (aN (ofBytes l)) [] := by
  refine Ct_of hE Tryd.func90 rfl rfl (by exact Nat.le_of_ble_eq_true rfl) ok_FromBytes ?_
  have hll : (w8 l).length = l.length := wk_len _ _
  have td : ∀ i : Nat, (((i : Nat) : Int)).tdiv 8 = ((i / 8 : Nat) : Int) := fun _ => rfl
  have tm : ∀ i : Nat, (((i : Nat) : Int)).tmod 8 = ((i % 8 : Nat) : Int) := fun _ => rfl
  have eT : ((((w8 l).length : Nat) : Int).tdiv 8 + 1).toNat = l.length / 8 + 1 := by rw [hll]; rfl
  have t0 := td (w8 l).length
  refine ⟨by decide, ?_⟩
  refine ⟨by omega, ?_⟩
  refine ⟨by omega, ?_⟩
  refine ⟨by rw [t0, hll]; dsimp only; omega, ?_⟩
  have hblk : (⟨false, 1, List.replicate ((((w8 l).length : Nat) : Int).tdiv 8 + 1).toNat (.int .u64 0), 0, true⟩ : Blk) = ⟨false, 1, w64 (pad 18446744073709551616 (l.length / 8 + 1) 0), 0, true⟩ := by
    rw [eT, pad_zero]; exact congrArg (fun l => (⟨false, 1, l, 0, true⟩ : Blk)) (wk_rep .u64 _)
  refine loop_fr [] (fun i : Nat => i ≤ l.length) (fun i => l.length - i)
    (fun i => [(0, .imm false 1 (w8 l)), (2, .ref 2 0 0 0), (3, .own 9 0 1 0 (l.length / 8 + 1)), (11, iI l.length), (12, iI i)])
    (fun i => [(2, ⟨true, 1, [.agg [.nils]], 0, false⟩), (9, ⟨false, 1, w64 (pad 18446744073709551616 (l.length / 8 + 1) (val 256 (l.reverse.take i))), 0, true⟩)])
    0 (Nat.zero_le _) ⟨rfl, rfl, own_eq rfl eT, congrArg (fun z : Nat => iI z) hll, rfl, trivial⟩ ⟨rfl, congrArg some hblk, trivial⟩ ?_
  rintro i g h vr hi
  refine ⟨fun h2 => ?_, fun h2 => ?_⟩
  · have hin : i < l.length := by have := of_decide_eq_true h2; omega
    obtain ⟨d, hd⟩ : ∃ d, l[l.length - 1 - i]? = some d := ⟨_, List.getElem?_eq_getElem (by omega)⟩
    have hds := hl.get hd
    obtain ⟨k1, k2, k3, k4⟩ := word8_step (n := l.length / 8 + 1) (ofBytes_take_lt hl i) hds (by omega)
    have hvs := val_rev_take hin hd
    rw [← hvs] at k4
    obtain ⟨x, hx⟩ : ∃ x, x = val 256 (l.reverse.take i) / 18446744073709551616 ^ (i / 8) := ⟨_, rfl⟩
    rw [← hx] at k1 k2 k3 k4
    have ti := td i
    have tj := tm i
    have m1 : min ((((i : Nat) : Int)).tmod 8 * 8).toNat IntKind.u64.bits = i % 8 * 8 := by
      rw [tj]; exact Nat.min_eq_left (by have : IntKind.u64.bits = 64 := rfl; rw [this]; omega)
    have ew : bitA .or .u64 ((x : Nat) : Int) (IntKind.u64.wrap ((IntKind.u64.wrap ((d : Nat) : Int)) * 2 ^ min ((((i : Nat) : Int)).tmod 8 * 8).toNat IntKind.u64.bits)) = ((d * 2 ^ (i % 8 * 8) + x : Nat) : Int) := by
      have hdm : d * 2 ^ (i % 8 * 8) < 18446744073709551616 := by omega
      have := shlU (x := d) (k := i % 8 * 8) (y := IntKind.u64.wrap ((d : Nat) : Int)) (z := 2 ^ min ((((i : Nat) : Int)).tmod 8 * 8).toNat IntKind.u64.bits) (wrapU8 (by omega)) (by rw [m1]) rfl
      rw [this, Nat.mod_eq_of_lt hdm]
      have h3 := or64 (d * 2 ^ (i % 8 * 8)) x (i % 8 * 8) hdm ⟨d, Nat.mul_comm _ _⟩ k2 (by omega) k3
      rw [← h3]
      unfold bitA
      simp only [ofInt_nat]
      rw [BitVec.or_comm]
    have hbyte : (w8 l)[((((w8 l).length : Nat) : Int) - 1 - ((i : Nat) : Int)).toNat]? = some (.int .u8 ((d : Nat) : Int)) := get_at (wk_get hd) (by rw [hll]; omega)
    refine ⟨by decide, ?_⟩
    refine ⟨by omega, ?_⟩
    refine ⟨by omega, ?_⟩
    refine ⟨rfl, ?_⟩
    refine ⟨iU x, wk_get0 k1, ?_⟩
    refine ⟨by rw [hll]; omega, ?_⟩
    refine ⟨by rw [hll]; omega, ?_⟩
    refine ⟨by rw [hll]; omega, ?_⟩
    refine ⟨.int .u8 ((d : Nat) : Int), hbyte, ?_⟩
    refine ⟨by decide, ?_⟩
    refine ⟨by omega, ?_⟩
    refine ⟨by omega, ?_⟩
    refine ⟨by omega, ?_⟩
    refine ⟨rfl, ?_⟩
    refine ⟨wk_in0 (i := i / 8) (by rw [pad_len]; omega), ?_⟩
    refine ⟨by omega, ?_⟩
    refine ⟨i + 1, ⟨hin, by omega⟩, ⟨rfl, rfl, rfl, rfl, rfl, trivial⟩, ⟨rfl, ?_, trivial⟩⟩
    refine congrArg (fun l => some (⟨false, 1, l, 0, true⟩ : Blk)) (Eq.trans (congrArg (fun z => (w64 (pad 18446744073709551616 (l.length / 8 + 1) (val 256 (l.reverse.take i)))).set (0 + ((i / 8 : Nat) : Int).toNat) (AV.int .u64 z)) ew) ?_)
    rw [wk_set0, k4]
  · have hin : i = l.length := by have := of_decide_eq_false h2; omega
    subst hin
    have hlt := ofBytes_take_lt hl l.length
    rw [List.take_of_length_le (by rw [List.length_reverse]; exact Nat.le_refl _)] at hlt
    have hb : val 256 l.reverse < 18446744073709551616 ^ (l.length / 8 + 1) := by
      refine Nat.lt_of_lt_of_le hlt ?_
      have e8 : (18446744073709551616 : Nat) = 256 ^ 8 := by decide
      rw [e8, ← Nat.pow_mul]
      exact Nat.pow_le_pow_right (by decide) (by omega)
    refine ⟨_, _, rfl, ?_⟩
    refine ⟨_, (up (trim_ct (pad 18446744073709551616 (l.length / 8 + 1) (val 256 l.reverse)) (by rw [pad_len]; omega) (pad_small (by decide) _ _))).eq ?_, ?_⟩
    · refine cons_eq ?_ rfl
      show AV.imm false 1 (((w64 (pad 18446744073709551616 (l.length / 8 + 1) (val 256 (l.reverse.take l.length)))).drop 0).take (l.length / 8 + 1)) = _
      rw [List.drop_zero, List.take_of_length_le (by rw [wk_len, pad_len]; exact Nat.le_refl _), List.take_of_length_le (by rw [List.length_reverse]; exact Nat.le_refl _)]
    exact ⟨rfl, rfl, _, rfl, .of_eq (aN_eq (pad_val hb))⟩

theorem ok_Bytes : codeOk E Tryd.f65.ntmps (Tryd.f65.body.getD .skip) = true := by kernel_rfl
theorem Bytes_ct (x : Nat) (hx : blen x < 1099511627776) : Ct E 65 [aN x] [] (.imm false 1 (w8 (bytesOf x))) [] := by
  refine Ct_of hE Tryd.func65 rfl rfl (by exact Nat.le_of_ble_eq_true rfl) ok_Bytes ?_
  have hL := bytesOf_len x
  obtain ⟨L, hLL⟩ : ∃ L, L = (blen x + 7) / 8 := ⟨_, rfl⟩
  have td : ∀ i : Nat, (((i : Nat) : Int)).tdiv 8 = ((i / 8 : Nat) : Int) := fun _ => rfl
  have tm : ∀ i : Nat, (((i : Nat) : Int)).tmod 8 = ((i % 8 : Nat) : Int) := fun _ => rfl
  have t0 : (((blen x : Nat) : Int) + 7).tdiv 8 = (((blen x + 7) / 8 : Nat) : Int) := rfl
  have eT : ((((blen x : Nat) : Int) + 7).tdiv 8).toNat = L := by rw [hLL]; rfl
  repeat refine ⟨rfl, ?_⟩
  refine ⟨_, up (Bits_ct x hx), ?_⟩
  refine ⟨by omega, ?_⟩
  refine ⟨by decide, ?_⟩
  refine ⟨by omega, ?_⟩
  refine ⟨by dsimp only; omega, ?_⟩
  have hblk : (⟨false, 1, List.replicate ((((blen x : Nat) : Int) + 7).tdiv 8).toNat (.int .u8 0), 0, true⟩ : Blk) = ⟨false, 1, w8 ((pad 256 L 0).reverse), 0, true⟩ := by
    rw [eT, pad_zero, List.reverse_replicate]; exact congrArg (fun l => (⟨false, 1, l, 0, true⟩ : Blk)) (wk_rep .u8 _)
  have hlen : (digs 18446744073709551616 x).length = (L + 7) / 8 := by rw [digs64_len]; omega
  have hdig : ∀ i, i < L → (digs 18446744073709551616 x)[i / 8]? = some (x / 18446744073709551616 ^ (i / 8) % 18446744073709551616) := by
    intro i hi
    have e : digs 18446744073709551616 x = pad 18446744073709551616 ((L + 7) / 8) x := by
      have := pad_of (digs_small (B := 18446744073709551616) (by decide) x)
      rw [digs_val (by decide), hlen] at this
      exact this.symm
    rw [e, pad_get (by omega)]
  have hbo : bytesOf x = (pad 256 L x).reverse := by
    unfold bytesOf
    have := pad_of (digs_small (B := 256) (by decide) x)
    rw [digs_val (by decide), digs256_len, ← hLL] at this
    rw [this]
  refine loop_fr [] (fun q : Nat × List Nat => q.1 ≤ L ∧ q.2.length = L ∧ q.2.take q.1 = (pad 256 L x).take q.1) (fun q => L - q.1)
    (fun q => [(1, .ref 1 0 0 0), (3, .own 9 0 1 0 L), (11, iI L), (12, iI q.1)])
    (fun q => [(1, ⟨true, 1, [aN x], 0, false⟩), (9, ⟨false, 1, w8 q.2.reverse, 0, true⟩)])
    (0, pad 256 L 0) ⟨Nat.zero_le _, pad_len _ _ _, rfl⟩ ⟨rfl, own_eq rfl eT, congrArg (fun z : Nat => iI z) eT, rfl, trivial⟩ ⟨rfl, congrArg some hblk, trivial⟩ ?_
  rintro ⟨i, p⟩ g h vr ⟨hi, hpl, hpt⟩
  dsimp only at hi hpl hpt
  refine ⟨fun h2 => ?_, fun h2 => ?_⟩
  · have hin : i < L := by have := of_decide_eq_true h2; dsimp only at this; omega
    have ti := td i
    have tj := tm i
    have hd := hdig i hin
    have hb := @byte_at x i
    have hwl : i / 8 < (w64 (digs 18446744073709551616 x)).length := by rw [lenw, hlen]; omega
    have m1 : min ((((i : Nat) : Int)).tmod 8 * 8).toNat IntKind.u64.bits = i % 8 * 8 := by
      rw [tj]; exact Nat.min_eq_left (by have : IntKind.u64.bits = 64 := rfl; rw [this]; omega)
    have eS : IntKind.u8.wrap ((((x / 18446744073709551616 ^ (i / 8) % 18446744073709551616 : Nat) : Int)).fdiv (2 ^ min ((((i : Nat) : Int)).tmod 8 * 8).toNat IntKind.u64.bits)) = ((x / 256 ^ i % 256 : Nat) : Int) := by
      rw [fdivU (k := i % 8 * 8) rfl (by rw [m1]) rfl, wrap8, ← hb]; rfl
    have hbs : x / 256 ^ i % 256 < 256 := Nat.mod_lt _ (by decide)
    refine ⟨by first | omega | (dsimp only; omega), ?_⟩
    refine ⟨by first | omega | (dsimp only; omega), ?_⟩
    refine ⟨rfl, ?_⟩
    refine ⟨by decide, ?_⟩
    refine ⟨by first | omega | (dsimp only; omega), ?_⟩
    refine ⟨by first | omega | (dsimp only; omega), ?_⟩
    refine ⟨iU (x / 18446744073709551616 ^ (i / 8) % 18446744073709551616), wk_get hd, ?_⟩
    refine ⟨by decide, ?_⟩
    refine ⟨by first | omega | (dsimp only; omega), ?_⟩
    refine ⟨by first | omega | (dsimp only; omega), ?_⟩
    refine ⟨by first | omega | (dsimp only; omega), ?_⟩
    refine ⟨rfl, ?_⟩
    refine ⟨?_, ?_⟩
    · show 0 + (((L : Nat) : Int) - 1 - ((i : Nat) : Int)).toNat < (w8 p.reverse).length
      rw [wk_len, List.length_reverse]; omega
    refine ⟨by first | omega | (dsimp only; omega), ?_⟩
    refine ⟨(i + 1, p.set i (x / 256 ^ i % 256)), ⟨⟨hin, by rw [List.length_set]; exact hpl, ?_⟩, by dsimp only; omega⟩, ⟨rfl, rfl, rfl, rfl, trivial⟩, ⟨rfl, ?_, trivial⟩⟩
    · dsimp only
      rw [take_set_snoc (by omega), hpt, List.take_add_one, pad_get hin]
      rfl
    · refine congrArg (fun l => some (⟨false, 1, l, 0, true⟩ : Blk)) (Eq.trans (congrArg (fun z => (w8 p.reverse).set (0 + (((L : Nat) : Int) - 1 - ((i : Nat) : Int)).toNat) (AV.int .u8 z)) eS) ?_)
      have e1 : 0 + (((L : Nat) : Int) - 1 - ((i : Nat) : Int)).toNat = p.length - 1 - i := by omega
      rw [e1, wk_set, rev_set (by omega)]
  · have hin : i = L := by have := of_decide_eq_false h2; dsimp only at this; omega
    subst hin
    rw [List.take_of_length_le (by omega), List.take_of_length_le (by rw [pad_len]; exact Nat.le_refl _)] at hpt
    refine ⟨_, rfl, .of_eq ?_⟩
    show AV.imm false 1 (((w8 p.reverse).drop 0).take i) = _
    rw [List.drop_zero, List.take_of_length_le (by rw [wk_len, List.length_reverse]; omega), hpt, hbo]
end Go.Proofs.YtjafmphhnclfjaaDoor
end

section
namespace Go.Proofs.YtjafmphhnclfjaaDoor
open Go GoAbs Num
set_option maxRecDepth 100000
set_option maxHeartbeats 1000000

theorem powB (n : Nat) : 18446744073709551616 ^ n = 2 ^ (64 * n) := by rw [Nat.pow_mul]
theorem clampUp (k : Nat) : (if (65536 : Int) < (if (-65536 : Int) > ((k : Nat) : Int) then (-65536 : Int) else ((k : Nat) : Int)) then (65536 : Int) else (if (-65536 : Int) > ((k : Nat) : Int) then (-65536 : Int) else ((k : Nat) : Int))) = ((min k 65536 : Nat) : Int) := by
  split <;> split at * <;> omega
theorem clampDown (k : Nat) : (if (65536 : Int) < (if (-65536 : Int) > -((k : Nat) : Int) then (-65536 : Int) else -((k : Nat) : Int)) then (65536 : Int) else (if (-65536 : Int) > -((k : Nat) : Int) then (-65536 : Int) else -((k : Nat) : Int))) = -((min k 65536 : Nat) : Int) := by
  split <;> split at * <;> omega
theorem ok_Shift : codeOk E Tryd.f88.ntmps (Tryd.f88.body.getD .skip) = true := by kernel_rfl
theorem Shift_up (x k : Nat) (hx : blen x < 1099511627776) : Ct E 88 [aN x, iI k] [] (aN (x * 2 ^ min k 65536)) [] := by
  refine Ct_of hE Tryd.func88 rfl rfl (by exact Nat.le_of_ble_eq_true rfl) ok_Shift ?_
  have hc := clampUp k
  obtain ⟨K, hK⟩ : ∃ K, K = min k 65536 := ⟨_, rfl⟩
  rw [← hK] at hc ⊢
  have hKle : K ≤ 65536 := by omega
  have hlx := len_digs hx
  have sx := digs_small (B := 18446744073709551616) (by decide) x
  have vx := digs_val (B := 18446744073709551616) (by decide) x
  have td : (((K : Nat) : Int)).tdiv 64 = ((K / 64 : Nat) : Int) := rfl
  have tm : (((K : Nat) : Int)).tmod 64 = ((K % 64 : Nat) : Int) := rfl
  refine ⟨by decide, ?_⟩
  refine ⟨by rw [hc, td]; omega, ?_⟩
  refine ⟨by decide, ?_⟩
  refine ⟨fun h1 => ?_, fun h1 => ?_⟩
  · have hv := left_ct (digs 18446744073709551616 x) (K % 64) ((digs 18446744073709551616 x).length + 1) sx (by omega) (by omega) (by omega) (x * 2 ^ (K % 64)) (by rw [vx]) (by
      have h1 := digs_lt (B := 18446744073709551616) (by decide) x
      rw [Nat.pow_succ]
      refine Nat.mul_lt_mul_of_lt_of_le h1 ?_ (by decide)
      have : 2 ^ (K % 64) ≤ 2 ^ 64 := Nat.pow_le_pow_right (by decide) (by omega)
      exact this)
    have hb : x * 2 ^ (K % 64) < 18446744073709551616 ^ ((digs 18446744073709551616 x).length + 1) := by
      have h1 := digs_lt (B := 18446744073709551616) (by decide) x
      rw [Nat.pow_succ]
      refine Nat.mul_lt_mul_of_lt_of_le h1 ?_ (by decide)
      have : 2 ^ (K % 64) ≤ 2 ^ 64 := Nat.pow_le_pow_right (by decide) (by omega)
      exact this
    refine ⟨by rw [hc, td]; dsimp only; omega, ?_⟩
    refine ⟨rfl, ?_⟩
    refine ⟨rfl, ?_⟩
    refine ⟨by rw [lenw]; omega, ?_⟩
    refine ⟨_, _, (up hv).eq ?_, ⟨rfl, rfl⟩, ?_⟩
    · refine cons_eq rfl (cons_eq (congrArg (AV.int .i64) ?_) (cons_eq (congrArg (AV.int .i64) ?_) rfl))
      · exact (congrArg (fun z : Int => z.tmod 64) hc).trans tm
      · rw [lenw]; rfl
    have eK : ((if (65536 : Int) < (if (-65536 : Int) > ((k : Nat) : Int) then (-65536 : Int) else ((k : Nat) : Int)) then (65536 : Int) else (if (-65536 : Int) > ((k : Nat) : Int) then (-65536 : Int) else ((k : Nat) : Int))).tdiv 64).toNat = K / 64 := by rw [hc, td]; rfl
    refine ⟨rfl, ?_⟩
    refine ⟨⟨rfl, ?_, ?_⟩, ?_⟩
    · show 0 + _ = (List.replicate _ _).length
      rw [List.length_replicate, Nat.zero_add]
    · show (_ + (((w64 (pad _ _ _)).drop 0).take _).length) * 8 ≤ _
      rw [eK, List.length_take, List.length_drop, wk_len, pad_len]
      omega
    have hl2 : (List.replicate (K / 64) 0 ++ pad 18446744073709551616 ((digs 18446744073709551616 x).length + 1) (x * 2 ^ (K % 64))).length = K / 64 + ((digs 18446744073709551616 x).length + 1) := by
      rw [List.length_append, List.length_replicate, pad_len]
    have hs2 : Small 18446744073709551616 (List.replicate (K / 64) 0 ++ pad 18446744073709551616 ((digs 18446744073709551616 x).length + 1) (x * 2 ^ (K % 64))) := (Small.rep (by decide) _).app (pad_small (by decide) _ _)
    refine ⟨_, _, rfl, ?_⟩
    refine ⟨_, (up (trim_ct _ (by rw [hl2]; omega) hs2)).eq ?_, ?_⟩
    · refine cons_eq ?_ rfl
      show AV.imm false 1 ((((List.replicate _ (AV.int .u64 0)).drop 0 ++ ((w64 (pad _ _ _)).drop 0).take _).drop 0).take _) = _
      rw [eK, List.drop_zero, List.drop_zero, List.drop_zero, List.take_of_length_le (l := w64 _) (by rw [wk_len, pad_len]; exact Nat.le_refl _), wk_rep, wk_app, List.take_of_length_le (by rw [wk_len, hl2, wk_len, pad_len]; exact Nat.le_refl _)]
    refine ⟨rfl, rfl, ?_⟩
    refine ⟨_, rfl, .of_eq (aN_eq ?_)⟩
    rw [val_app, val_rep, pad_val hb, List.length_replicate, Nat.zero_add]
    have e8 : (18446744073709551616 : Nat) = 2 ^ 64 := by decide
    rw [e8, ← Nat.pow_mul, Nat.mul_comm, Nat.mul_assoc, ← Nat.pow_add]
    congr 2
    omega
  · exfalso
    have := of_decide_eq_false h1
    rw [hc] at this
    omega
theorem Shift_down (x k : Nat) (hk : k ≠ 0) (hx : blen x < 1099511627776) : Ct E 88 [aN x, iI (-((k : Nat) : Int))] [] (aN (x / 2 ^ min k 65536)) [] := by
  refine Ct_of hE Tryd.func88 rfl rfl (by exact Nat.le_of_ble_eq_true rfl) ok_Shift ?_
  have hc := clampDown k
  obtain ⟨K, hK⟩ : ∃ K, K = min k 65536 := ⟨_, rfl⟩
  rw [← hK] at hc ⊢
  have hKle : K ≤ 65536 := by omega
  have hK0 : K ≠ 0 := by omega
  have hlx := len_digs hx
  have sx := digs_small (B := 18446744073709551616) (by decide) x
  have vx := digs_val (B := 18446744073709551616) (by decide) x
  have lx := digs_lt (B := 18446744073709551616) (by decide) x
  have e8 : (18446744073709551616 : Nat) = 2 ^ 64 := by decide
  have td : (-((K : Nat) : Int)).tdiv 64 = -((K / 64 : Nat) : Int) := by rw [Int.neg_tdiv]; rfl
  have tm : (-((K : Nat) : Int)).tmod 64 = -((K % 64 : Nat) : Int) := by rw [Int.neg_tmod]; rfl
  have td2 := (congrArg (fun z : Int => z.tdiv 64) hc).trans td
  have tm2 := (congrArg (fun z : Int => z.tmod 64) hc).trans tm
  refine ⟨by decide, ?_⟩
  refine ⟨by rw [td2]; omega, ?_⟩
  refine ⟨by decide, ?_⟩
  refine ⟨fun h1 => ?_, fun h1 => ?_⟩
  · exfalso
    have := of_decide_eq_true h1
    rw [hc] at this
    omega
  have hneg : ∀ z : Int, z = -((K / 64 : Nat) : Int) → 0 - z = ((K / 64 : Nat) : Int) := fun z h => by omega
  refine ⟨by rw [td2]; omega, ?_⟩
  refine ⟨rfl, ?_⟩
  refine ⟨fun h3 => ?_, fun h3 => ?_⟩
  · have h4 : (digs 18446744073709551616 x).length ≤ K / 64 := by
      have := of_decide_eq_true h3
      rw [td2, lenw] at this
      omega
    have h5 : x / 2 ^ K = 0 := by
      refine Nat.div_eq_of_lt (Nat.lt_of_lt_of_le lx ?_)
      rw [powB]
      exact Nat.pow_le_pow_right (by decide) (by omega)
    rw [h5]
    exact ⟨rfl, rfl, _, rfl, aN_nil⟩
  · have h4 : K / 64 < (digs 18446744073709551616 x).length := by
      have := of_decide_eq_false h3
      rw [td2, lenw] at this
      omega
    have hs2 : Small 18446744073709551616 ((digs 18446744073709551616 x).drop (K / 64)) := sx.drop _
    have hl2 : ((digs 18446744073709551616 x).drop (K / 64)).length = (digs 18446744073709551616 x).length - K / 64 := List.length_drop
    have hsp := val_split 18446744073709551616 (digs 18446744073709551616 x) (K / 64) (by omega)
    rw [vx] at hsp
    have htl := val_lt (sx.take (K / 64))
    rw [List.length_take, Nat.min_eq_left (by omega)] at htl
    have hq : val 18446744073709551616 ((digs 18446744073709551616 x).drop (K / 64)) / 2 ^ (K % 64) = x / 2 ^ K := by
      have hp : 0 < 18446744073709551616 ^ (K / 64) := Nat.pow_pos (by decide)
      have e1 : val 18446744073709551616 ((digs 18446744073709551616 x).drop (K / 64)) = x / 18446744073709551616 ^ (K / 64) := by
        generalize val 18446744073709551616 ((digs 18446744073709551616 x).drop (K / 64)) = D at *
        generalize val 18446744073709551616 ((digs 18446744073709551616 x).take (K / 64)) = T at *
        conv => rhs; rw [hsp]
        rw [Nat.add_mul_div_left _ _ hp, Nat.div_eq_of_lt htl, Nat.zero_add]
      have e2 : 2 ^ K = 18446744073709551616 ^ (K / 64) * 2 ^ (K % 64) := by
        rw [powB, ← Nat.pow_add, Nat.div_add_mod]
      rw [e1, e2, Nat.div_div_eq_div_mul]
    have hr := right_ct _ (K % 64) hs2 (by rw [hl2]; omega) (by omega) (x / 2 ^ K) hq.symm
    have hxl : x / 2 ^ K < 18446744073709551616 ^ ((digs 18446744073709551616 x).drop (K / 64)).length := by
      rw [← hq]
      exact Nat.lt_of_le_of_lt (Nat.div_le_self _ _) (val_lt hs2)
    refine ⟨rfl, ?_⟩
    refine ⟨by rw [td2]; omega, ?_⟩
    refine ⟨⟨by rw [td2]; omega, by rw [td2, lenw]; omega, by omega, by omega, by simp⟩, ?_⟩
    refine ⟨by rw [tm2]; omega, ?_⟩
    refine ⟨_, hr.eq ?_, ?_⟩
    · refine cons_eq ?_ (cons_eq (congrArg (AV.int .i64) ?_) rfl)
      · show AV.imm false 1 (((w64 (digs 18446744073709551616 x)).drop _).take _) = _
        rw [td2, List.take_of_length_le (by rw [List.length_drop, lenw]; omega), wk_drop]
        congr 3
        omega
      · rw [tm2]; omega
    refine ⟨_, up (trim_ct _ (by rw [pad_len, hl2]; omega) (pad_small (by decide) _ _)), ?_⟩
    exact ⟨rfl, rfl, _, rfl, .of_eq (aN_eq (pad_val hxl))⟩
end Go.Proofs.YtjafmphhnclfjaaDoor
end
