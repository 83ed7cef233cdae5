/- Numbers handed over: of bytes, both ways. -/
import Derived.Test.YtjafmphhnclfjaaDoorRef1
set_option linter.all false
namespace Go.Proofs.YtjafmphhnclfjaaDoor
open Go GoAbs Num
set_option maxRecDepth 100000
set_option maxHeartbeats 1000000

theorem ok_Few : codeOk E Tryd.f30.ntmps (Tryd.f30.body.getD .skip) = true := by kernel_rfl
theorem Few_ct (l : List Nat) (n : Nat) (hl : l.length < 140737488355328) (hn : n < 65536) : Ct E 30 [.imm false 1 (w8 l), iI n] [] (.imm false 1 (w8 (l.take n))) [] := by
  refine Ct_of hE Tryd.func30 rfl rfl (by exact Nat.le_of_ble_eq_true rfl) ok_Few ?_
  have hll : (w8 l).length = l.length := wk_len _ _
  have em : (if ((n : Nat) : Int) < (((w8 l).length : Nat) : Int) then ((n : Nat) : Int) else (((w8 l).length : Nat) : Int)) = ((min l.length n : Nat) : Int) := by rw [hll]; split <;> omega
  refine ⟨⟨by decide, by rw [em]; omega, by rw [em, hll]; omega, by omega, by simp⟩, ?_⟩
  refine ⟨⟨rfl, rfl, ?_⟩, ?_⟩
  · rw [List.length_take]
    dsimp only
    rw [em]
    omega
  refine ⟨_, rfl, .of_eq ?_⟩
  show AV.imm false 1 ((((([] : List AV).drop 0) ++ (((w8 l).drop (0 : Int).toNat).take ((if ((n : Nat) : Int) < (((w8 l).length : Nat) : Int) then ((n : Nat) : Int) else (((w8 l).length : Nat) : Int)) - 0).toNat)).drop 0).take _) = _
  rw [em, List.drop_nil, List.nil_append, List.drop_zero, List.take_of_length_le (by simp)]
  show AV.imm false 1 (((w8 l).drop 0).take _) = _
  rw [List.drop_zero, wk_take]
  congr 2
  rcases Nat.le_total l.length n with h | h
  · rw [List.take_of_length_le (by omega), List.take_of_length_le h]
  · congr 1; omega

/-- A whole number as the document has it. -/
def aRI (n : Int) : AV := .agg [.bool (decide (n < 0)), .imm false 1 (w32 (digs 4294967296 n.natAbs))]
theorem aRI_eq {x y : Int} (h : x = y) : aRI x = aRI y := congrArg aRI h
theorem aRI_mk {b : Bool} {x : Nat} {n : Int} (hb : b = decide (n < 0)) (hx : x = n.natAbs) : AV.agg [.bool b, .imm false 1 (w32 (digs 4294967296 x))] = aRI n := by rw [hb, hx]; rfl
theorem aRI_nil : Le (.agg [.kf, .nils]) (aRI 0) := .agg (.cons .kf (.cons (.nils _ _) .nil))
theorem aR_nil : Le .nils (aR 0) := .nils _ _
theorem ok_I : codeOk E Tryd.f40.ntmps (Tryd.f40.body.getD .skip) = true := by kernel_rfl
theorem I_ct (b : Bool) (x : Nat) : Ct E 40 [.bool b, aR x] [] (aRI (if b then -((x : Nat) : Int) else ((x : Nat) : Int))) [] := by
  refine Ct_of hE Tryd.func40 rfl rfl (by exact Nat.le_of_ble_eq_true rfl) ok_I ?_
  cases b with
  | false =>
    repeat first | refine ifB_neg rfl ?_ | refine ⟨rfl, ?_⟩
    exact ⟨_, rfl, .agg (.cons (Le.kf.trans (.of_eq (congrArg AV.bool (by simp)))) (.cons (.refl _) .nil))⟩
  | true =>
    repeat first | refine ifB_pos rfl ?_ | refine ⟨rfl, ?_⟩
    refine ⟨_, rfl, .of_eq (aRI_mk ?_ (by simp))⟩
    rw [lenr]
    have h0 := @rlen0 x
    simp only [if_true]
    by_cases hx0 : x = 0
    · rw [hx0]; rfl
    · rw [decide_eq_true (by omega), decide_eq_true (by omega)]

theorem ok_HNat : codeOk E Tryd.f68.ntmps (Tryd.f68.body.getD .skip) = true := by kernel_rfl
theorem HNat_ct (x : Nat) (hx : blen x < 1099511627776) : Ct E 68 [aR x] [] (aN x) [] := by
  refine Ct_of hE Tryd.func68 rfl rfl (by exact Nat.le_of_ble_eq_true rfl) ok_HNat ?_
  refine ⟨_, NatBytes_ct x hx, ?_⟩
  refine ⟨_, FromBytes_ct _ (bytesOf_small x) (by rw [bytesOf_len]; omega), ?_⟩
  exact ⟨rfl, rfl, _, rfl, .of_eq (aN_eq (ofBytes_bytesOf x))⟩
theorem ok_HInt : codeOk E Tryd.f42.ntmps (Tryd.f42.body.getD .skip) = true := by kernel_rfl
theorem HInt_ct (n : Int) (hn : blen n.natAbs < 1099511627776) : Ct E 42 [aRI n] [] (aZ n) [] := by
  refine Ct_of hE Tryd.func42 rfl rfl (by exact Nat.le_of_ble_eq_true rfl) ok_HInt ?_
  repeat refine ⟨rfl, ?_⟩
  refine ⟨_, HNat_ct n.natAbs hn, ?_⟩
  refine ⟨_, From_ct (decide (n < 0)) n.natAbs hn, ?_⟩
  refine ⟨rfl, rfl, _, rfl, .of_eq (aZ_eq ?_)⟩
  by_cases h : n < 0
  · rw [decide_eq_true h]; simp; omega
  · rw [decide_eq_false h]; simp; omega

theorem blen_few {l : List Nat} (h : Small 256 l) (n : Nat) : blen (ofBytes (l.take n)) ≤ 8 * n := by
  have h1 := blen_ofBytes (h.take n)
  rw [List.length_take] at h1
  omega
end Go.Proofs.YtjafmphhnclfjaaDoor
