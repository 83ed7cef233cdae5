/- Numbers handed over: of bytes, both ways. -/
import Derived.Test.YtjafmphhnclfjabGreatDoorRef1
set_option linter.all false
namespace Go.Proofs.YtjafmphhnclfjabGreatDoor
open Go GoAbs Num
set_option maxRecDepth 100000
set_option maxHeartbeats 1000000

theorem ok_Few : codeOk E Tryz.f39.ntmps (Tryz.f39.body.getD .skip) = true := by kernel_rfl
theorem Few_ct (l : List Nat) (n : Nat) (hl : l.length < 140737488355328) (hn : n < 65536) : Ct E 39 [.imm false 1 (w8 l), iI n] [] (.imm false 1 (w8 (l.take n))) [] := by
  refine Ct_of hE Tryz.func39 rfl rfl (by exact Nat.le_of_ble_eq_true rfl) ok_Few ?_
  have hll : (w8 l).length = l.length := wk_len _ _
  have em : (if ((n : Nat) : Int) < (((w8 l).length : Nat) : Int) then ((n : Nat) : Int) else (((w8 l).length : Nat) : Int)) = ((min l.length n : Nat) : Int) := by rw [hll]; split <;> omega
  refine ⟨⟨by decide, by rw [em]; omega, by rw [em, hll]; omega, by omega, by simp⟩, ?_⟩
  refine ⟨⟨rfl, rfl, ?_⟩, ?_⟩
  · rw [List.length_take]
    dsimp only
    rw [em]
    omega
  refine ⟨_, rfl, .of_eq ?_⟩
  show AV.imm false 1 ((((([] : List AV).drop 0) ++ (((w8 l).drop (0 : Int).toNat).take ((if ((n : Nat) : Int) < (((w8 l).length : Nat) : Int) then ((n : Nat) : Int) else (((w8 l).length : Nat) : Int)) - 0).toNat)).drop 0).take _) = _
  rw [em, List.drop_nil, List.nil_append, List.drop_zero, List.take_of_length_le (by simp)]
  show AV.imm false 1 (((w8 l).drop 0).take _) = _
  rw [List.drop_zero, wk_take]
  congr 2
  rcases Nat.le_total l.length n with h | h
  · rw [List.take_of_length_le (by omega), List.take_of_length_le h]
  · congr 1; omega

theorem aR_nil : Le .nils (aR 0) := .nils _ _
theorem ok_HNat : codeOk E Tryz.f40.ntmps (Tryz.f40.body.getD .skip) = true := by kernel_rfl
theorem HNat_ct (x : Nat) (hx : blen x < 1099511627776) : Ct E 40 [aR x] [] (aN x) [] := by
  refine Ct_of hE Tryz.func40 rfl rfl (by exact Nat.le_of_ble_eq_true rfl) ok_HNat ?_
  refine ⟨_, NatBytes_ct x hx, ?_⟩
  refine ⟨_, FromBytes_ct _ (bytesOf_small x) (by rw [bytesOf_len]; omega), ?_⟩
  exact ⟨rfl, rfl, _, rfl, .of_eq (aN_eq (ofBytes_bytesOf x))⟩
theorem blen_few {l : List Nat} (h : Small 256 l) (n : Nat) : blen (ofBytes (l.take n)) ≤ 8 * n := by
  have h1 := blen_ofBytes (h.take n)
  rw [List.length_take] at h1
  omega
end Go.Proofs.YtjafmphhnclfjabGreatDoor
