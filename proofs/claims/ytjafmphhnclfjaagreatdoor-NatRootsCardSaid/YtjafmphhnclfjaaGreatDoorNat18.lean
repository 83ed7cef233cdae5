/- Package nat: the root. -/
import Derived.Test.YtjafmphhnclfjaaGreatDoorWhoI
import Derived.Test.YtjafmphhnclfjaaGreatDoorNumH
set_option linter.all false
namespace Go.Proofs.YtjafmphhnclfjaaGreatDoor
open Go GoAbs Num
set_option maxRecDepth 100000
set_option maxHeartbeats 1000000

theorem ok_Root : codeOk E Tryz.f35.ntmps (Tryz.f35.body.getD .skip) = true := by kernel_rfl
theorem Root_ct (a : Nat) (ha : blen a < 549755813888) : Ct E 35 [aN a] [] (aN (root a)) [] := by
  refine Ct_of hE Tryz.func35 rfl rfl (by exact Nat.le_of_ble_eq_true rfl) ok_Root ?_
  have hr := root_is a
  repeat refine ⟨rfl, ?_⟩
  refine ⟨fun h => ?_, fun h => ?_⟩
  · have h0 : a = 0 := by
      have : (w64 (digs 18446744073709551616 a)).length = 0 := by have := eq_of_beq h; omega
      rw [lenw] at this
      exact len0.1 this
    repeat refine ⟨rfl, ?_⟩
    exact ⟨_, rfl, by rw [h0, root_zero]; exact aN_nil⟩
  have ha0 : a ≠ 0 := by rintro rfl; exact absurd h (by decide)
  obtain ⟨H, hH⟩ : ∃ H, H = (blen a + 1) / 2 := ⟨_, rfl⟩
  have t1 : (((blen a : Nat) : Int) + 1).tdiv 2 = ((H : Nat) : Int) := by rw [hH]; rfl
  have t2 : (((H : Nat) : Int)).tdiv 64 = ((H / 64 : Nat) : Int) := rfl
  have t3 : (((H : Nat) : Int)).tmod 64 = ((H % 64 : Nat) : Int) := rfl
  have t4 := (congrArg (fun z : Int => z.tdiv 64) t1).trans t2
  have t5 := (congrArg (fun z : Int => z.tmod 64) t1).trans t3
  repeat refine ⟨rfl, ?_⟩
  refine ⟨_, Bits_e a (by omega), ?_⟩
  refine ⟨by omega, ?_⟩
  refine ⟨by decide, ?_⟩
  refine ⟨by rw [t1]; omega, ?_⟩
  refine ⟨by decide, ?_⟩
  refine ⟨by rw [t4]; omega, ?_⟩
  refine ⟨by rw [t4]; omega, ?_⟩
  refine ⟨by rw [t4]; dsimp only; omega, ?_⟩
  have eT : (((((blen a : Nat) : Int) + 1).tdiv 2).tdiv 64 + 1).toNat = H / 64 + 1 := by rw [t4]; rfl
  have m1 : min ((((((blen a : Nat) : Int) + 1).tdiv 2).tmod 64)).toNat IntKind.u64.bits = H % 64 := by
    rw [t5]; exact Nat.min_eq_left (by have : IntKind.u64.bits = 64 := rfl; rw [this]; omega)
  have hp64 : 2 ^ (H % 64) < 18446744073709551616 := by
    have : 2 ^ (H % 64) < 2 ^ 64 := Nat.pow_lt_pow_right (by decide) (by omega)
    exact this
  have eS : IntKind.u64.wrap ((1 : Int) * 2 ^ min ((((((blen a : Nat) : Int) + 1).tdiv 2).tmod 64)).toNat IntKind.u64.bits) = ((2 ^ (H % 64) : Nat) : Int) := by
    refine (shlU (x := 1) (k := H % 64) (e := 2 ^ (H % 64)) rfl (by rw [m1]) rfl).trans ?_
    rw [Nat.one_mul, Nat.mod_eq_of_lt hp64]
  refine ⟨by decide, ?_⟩
  refine ⟨by rw [t4]; omega, ?_⟩
  refine ⟨by decide, ?_⟩
  refine ⟨by rw [t5]; omega, ?_⟩
  refine ⟨by rw [t4]; omega, ?_⟩
  refine ⟨rfl, ?_⟩
  refine ⟨?_, ?_⟩
  · show 0 + (_ : Int).toNat < (List.replicate _ _).length
    rw [t4, List.length_replicate]; omega
  repeat refine ⟨rfl, ?_⟩
  have hl0 : (List.replicate (H / 64 + 1) 0).set (H / 64) (2 ^ (H % 64)) = digs 18446744073709551616 (2 ^ H) := by
    have e1 : (List.replicate (H / 64 + 1) 0).set (H / 64) (2 ^ (H % 64)) = List.replicate (H / 64) 0 ++ [2 ^ (H % 64)] := by
      rw [List.replicate_succ', List.set_append_right _ _ (by simp), List.length_replicate, Nat.sub_self]; rfl
    have hs : Small 18446744073709551616 (List.replicate (H / 64) 0 ++ [2 ^ (H % 64)]) := (Small.rep (by decide) _).app (.cons hp64 (.nil _))
    have e2 := digs_of (by decide) hs
    rw [trimN_keep _ _ (Nat.ne_of_gt (Nat.two_pow_pos _)), val_snoc, val_rep, List.length_replicate, Nat.zero_add, powB, ← Nat.pow_add, Nat.div_add_mod] at e2
    rw [e1, e2]
  have hrH : root a ≤ 2 ^ H := by
    rcases Nat.lt_or_ge (2 ^ H) (root a) with h1 | h1
    · exfalso
      have h2 := Nat.mul_le_mul (Nat.le_of_lt h1) (Nat.le_of_lt h1)
      have h3 := hr.le
      have h4 := blen_lt a
      have h5 : 2 ^ blen a ≤ 2 ^ H * 2 ^ H := by
        rw [← Nat.pow_add]; exact Nat.pow_le_pow_right (by decide) (by omega)
      omega
    · exact h1
  have hr0 : 0 < root a := by
    rcases Nat.eq_zero_or_pos (root a) with h1 | h1
    · have := hr.lt; rw [h1] at this; omega
    · exact h1
  have hbH : blen (2 ^ H) ≤ H + 1 := blen_le (by rw [Nat.pow_succ]; have := Nat.two_pow_pos H; omega)
  refine loop_fr [{ slot := 0, site := 22, ag := false, sz := 0, fz := true }] (fun x : Nat => root a ≤ x ∧ x ≤ 2 ^ H) (fun x => x)
    (fun _ => [(1, .ref 1 0 0 0), (2, .ref 2 0 0 0), (5, .ref 5 0 0 0)])
    (fun x => [(1, ⟨true, 1, [aN a], 0, false⟩), (2, ⟨true, 1, [.agg [.nils]], 0, false⟩), (5, ⟨true, 1, [aN x], 0, false⟩)])
    (2 ^ H) ⟨hrH, Nat.le_refl _⟩ ⟨rfl, rfl, rfl, trivial⟩ ⟨rfl, rfl, ?_, trivial⟩ ?_
  · refine congrArg (fun l => some (⟨true, 1, [.agg [.imm false 1 l]], 0, false⟩ : Blk)) (?_ : (((List.replicate (((((blen a : Nat) : Int) + 1).tdiv 2).tdiv 64 + 1).toNat (AV.int .u64 0)).set (0 + ((((((blen a : Nat) : Int) + 1).tdiv 2).tdiv 64)).toNat) (AV.int .u64 (IntKind.u64.wrap ((1 : Int) * 2 ^ min ((((((blen a : Nat) : Int) + 1).tdiv 2).tmod 64)).toNat IntKind.u64.bits)))).drop 0).take (((((blen a : Nat) : Int) + 1).tdiv 2).tdiv 64 + 1).toNat = w64 (digs 18446744073709551616 (2 ^ H)))
    rw [eT, eS, t4, List.drop_zero, List.take_of_length_le (by rw [List.length_set, List.length_replicate]; exact Nat.le_refl _), wk_rep, wk_set0, hl0]
  rintro x g h' vr ⟨hx1, hx2⟩
  have hbx : blen x ≤ H + 1 := Nat.le_trans (blen_mono hx2) hbH
  have hbq : blen (a / x) ≤ blen a := blen_mono (Nat.div_le_self _ _)
  have hbs : blen (x + a / x) < 1099511627775 := by have := blen_add x (a / x); omega
  have hn1 := newton_ge (x := x) (by omega) hr.le
  repeat refine ⟨rfl, ?_⟩
  refine ⟨_, Div_ct a x (by omega) (by omega) (by omega), ?_⟩
  repeat refine ⟨rfl, ?_⟩
  refine ⟨_, Add_e x (a / x) (by omega) (by omega), ?_⟩
  repeat refine ⟨rfl, ?_⟩
  refine ⟨_, Shift_down (x + a / x) 1 (by decide) (by omega), ?_⟩
  repeat refine ⟨rfl, ?_⟩
  have e1 : (x + a / x) / 2 ^ min 1 65536 = (x + a / x) / 2 := rfl
  rw [e1]
  refine ⟨_, Cmp_e _ x (by have := blen_mono (Nat.div_le_self (x + a / x) 2); omega) (by omega), ?_⟩
  refine ⟨fun h3 => ?_, fun h3 => ?_⟩
  · have h4 : x ≤ (x + a / x) / 2 := by
      have := of_decide_eq_true h3
      rcases Nat.lt_or_ge ((x + a / x) / 2) x with h5 | h5
      · rw [cmp_lt h5] at this; exact absurd this (by decide)
      · exact h5
    have h5 := newton_end hr (by omega) hx1 h4
    repeat refine ⟨rfl, ?_⟩
    exact ⟨_, rfl, .of_eq (aN_eq h5)⟩
  · have h4 : (x + a / x) / 2 < x := by
      have := of_decide_eq_false h3
      rcases Nat.lt_or_ge ((x + a / x) / 2) x with h5 | h5
      · exact h5
      · exfalso
        rcases Nat.eq_or_lt_of_le h5 with h6 | h6
        · rw [cmp_eq h6.symm] at this; exact absurd (by decide) this
        · rw [cmp_gt h6] at this; exact absurd (by decide) this
    repeat refine ⟨rfl, ?_⟩
    exact ⟨(x + a / x) / 2, ⟨⟨hn1, by omega⟩, h4⟩, ⟨rfl, rfl, rfl, trivial⟩, ⟨rfl, rfl, rfl, trivial⟩⟩
end Go.Proofs.YtjafmphhnclfjaaGreatDoor
