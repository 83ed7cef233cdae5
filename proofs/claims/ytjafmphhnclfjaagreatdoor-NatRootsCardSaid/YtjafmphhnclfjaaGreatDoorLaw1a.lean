/- NatBack, NatRoots, NatRing: the walks. -/
import Derived.Test.YtjafmphhnclfjaaGreatDoorKno1
set_option linter.all false
namespace Go.Proofs.YtjafmphhnclfjaaGreatDoor
open Go GoAbs Num
set_option maxRecDepth 100000

theorem cmp_self (x : Nat) : cmp x x = 0 := cmp_eq rfl
theorem few_in {a : List Nat} (sa : Num.Small 256 a) : ∃ x, x = ofBytes (a.take 48) ∧ blen x < 1000 := ⟨_, rfl, by have := blen_few sa 48; omega⟩

theorem ok_NatBack : codeOk E Tryz.f5.ntmps (Tryz.f5.body.getD .skip) = true := by kernel_rfl
theorem NatBack_ct (a b : List Nat) (sa : Num.Small 256 a) (sb : Num.Small 256 b) (la : a.length < 140737488355328) (lb : b.length < 140737488355328) :
    Ct E 5 [.imm false 1 (w8 a), .imm false 1 (w8 b)] [] .kt [] := by
  have htwo := two1_ct a b sa sb la lb
  obtain ⟨x, hx, bx⟩ := few_in sa
  obtain ⟨y, hy, by'⟩ := few_in sb
  rw [← hx, ← hy] at htwo
  clear hx hy
  refine Ct_of hE Tryz.func5 rfl rfl (by exact Nat.le_of_ble_eq_true rfl) ok_NatBack ?_
  refine ⟨_, htwo, ?_⟩
  repeat refine ⟨rfl, ?_⟩
  by_cases h0 : y = 0
  · subst h0
    refine ⟨_, Div0_ct x, ?_⟩
    repeat refine ⟨rfl, ?_⟩
    refine ⟨fun h => ?_, fun h => absurd h (by decide)⟩
    refine ⟨.kt, ?_⟩
    refine ⟨known1_ct, ?_⟩
    repeat refine ⟨rfl, ?_⟩
    refine ⟨_, Bits_e 0 (by decide), ?_⟩
    exact ⟨_, rfl, .tt⟩
  · have bq : blen (x / y) < 1000 := Nat.lt_of_le_of_lt (blen_mono (Nat.div_le_self _ _)) bx
    have br : blen (x % y) < 1000 := Nat.lt_of_le_of_lt (blen_mono (Nat.mod_le _ _)) bx
    have bm := blen_times x y
    have bqm := blen_times (x / y) y
    have ba := blen_add (x / y * y) (x % y)
    have hlt : x % y < y := Nat.mod_lt _ (by omega)
    have c1 := Mul_e x y (by omega) (by omega)
    have c2 := Div_ct (x * y) y (by omega) (by omega) h0
    rw [Nat.mul_div_cancel _ (by omega : 0 < y), Nat.mul_mod_left] at c2
    have c3 := Mul_e (x / y) y (by omega) (by omega)
    have c4 := Add_e (x / y * y) (x % y) (by omega) (by omega)
    rw [Nat.div_add_mod'] at c4
    have c5 := Cmp_e x x (by omega) (by omega)
    rw [cmp_self] at c5
    have c6 := Cmp_e (x % y) y (by omega) (by omega)
    rw [cmp_lt hlt] at c6
    refine ⟨_, Div_ct x y (by omega) (by omega) h0, ?_⟩
    repeat refine ⟨rfl, ?_⟩
    refine ⟨fun h => absurd h (by decide), fun h => ?_⟩
    repeat refine ⟨rfl, ?_⟩
    refine ⟨_, c1, ?_⟩
    repeat refine ⟨rfl, ?_⟩
    refine ⟨_, c2, ?_⟩
    repeat refine ⟨rfl, ?_⟩
    refine ⟨.kt, ?_⟩
    refine ⟨known1_ct, ?_⟩
    repeat refine ⟨rfl, ?_⟩
    refine ⟨_, c3, ?_⟩
    repeat refine ⟨rfl, ?_⟩
    refine ⟨_, c4, ?_⟩
    repeat refine ⟨rfl, ?_⟩
    refine ⟨_, c5, ?_⟩
    repeat first | refine ifB_pos rfl ?_ | refine ⟨rfl, ?_⟩
    refine ⟨_, c6, ?_⟩
    repeat first | refine ifB_pos rfl ?_ | refine ⟨rfl, ?_⟩
    refine ⟨_, c5, ?_⟩
    repeat first | refine ifB_pos rfl ?_ | refine ⟨rfl, ?_⟩
    refine ⟨_, Bits_e 0 (by decide), ?_⟩
    repeat refine ifB_pos rfl ?_
    exact ⟨_, rfl, .tt⟩
end Go.Proofs.YtjafmphhnclfjaaGreatDoor
