/- NatSums: the walk. -/
import Derived.Test.YtjafmphhnclfjabGreatDoorIs1
import Derived.Test.YtjafmphhnclfjabGreatDoorRef3
import Derived.Test.YtjafmphhnclfjabGreatDoorKno1
import Derived.Test.YtjafmphhnclfjabGreatDoorTwo1
set_option linter.all false
set_option linter.all false
namespace Go.Proofs.YtjafmphhnclfjabGreatDoor
open Go GoAbs Num
set_option maxRecDepth 100000
set_option maxHeartbeats 4000000

theorem few_in {a : List Nat} (sa : Num.Small 256 a) : ∃ x, x = ofBytes (a.take 48) ∧ blen x < 1000 := ⟨_, rfl, by have := blen_few sa 48; omega⟩
theorem cmp_neg_iff' {x y : Nat} : (decide (cmp x y < 0) = true ↔ x < y) ∧ (decide (cmp x y < 0) = false ↔ y ≤ x) := by
  unfold cmp
  split
  · simp; omega
  · split <;> simp <;> omega
theorem ok_NatSums : codeOk E Tryz.f3.ntmps (Tryz.f3.body.getD .skip) = true := by kernel_rfl
theorem NatSums_ct (a b : List Nat) (sa : Num.Small 256 a) (sb : Num.Small 256 b) (la : a.length < 140737488355328) (lb : b.length < 140737488355328) :
    Ct E 3 [.imm false 1 (w8 a), .imm false 1 (w8 b)] [] .kt [] := by
  have htwo := two1_ct a b sa sb la lb
  obtain ⟨x, hx, bx⟩ := few_in sa
  obtain ⟨y, hy, by'⟩ := few_in sb
  rw [← hx, ← hy] at htwo
  clear hx hy
  have bxy := blen_add x y
  have mxy := blen_times x y
  have hc : (cmp x y != cmp x y) = false := by simp
  have bs : blen (x - y) ≤ blen x := blen_mono (Nat.sub_le _ _)
  refine Ct_of hE Tryz.func3 rfl rfl (by exact Nat.le_of_ble_eq_true rfl) ok_NatSums ?_
  refine ⟨_, htwo, ?_⟩
  repeat first | refine ⟨rfl, ?_⟩ | refine And.intro (by first | omega | (dsimp only; omega)) ?_ | refine ifB_pos rfl ?_ | refine ifB_neg rfl ?_
  refine ⟨_, Sub_e x y (by omega) (by omega), ?_⟩
  repeat first | refine ⟨rfl, ?_⟩ | refine And.intro (by first | omega | (dsimp only; omega)) ?_ | refine ifB_pos rfl ?_ | refine ifB_neg rfl ?_
  refine ⟨.kt, known1_ct, ?_⟩
  repeat first | refine ⟨rfl, ?_⟩ | refine And.intro (by first | omega | (dsimp only; omega)) ?_ | refine ifB_pos rfl ?_ | refine ifB_neg rfl ?_
  refine ⟨_, Add_e x y (by omega) (by omega), ?_⟩
  repeat first | refine ⟨rfl, ?_⟩ | refine And.intro (by first | omega | (dsimp only; omega)) ?_ | refine ifB_pos rfl ?_ | refine ifB_neg rfl ?_
  refine ⟨_, NatAdd_ct x y (by omega) (by omega), ?_⟩
  repeat first | refine ⟨rfl, ?_⟩ | refine And.intro (by first | omega | (dsimp only; omega)) ?_ | refine ifB_pos rfl ?_ | refine ifB_neg rfl ?_
  refine ⟨_, is1_ct (x + y) (by omega), ?_⟩
  repeat first | refine ⟨rfl, ?_⟩ | refine And.intro (by first | omega | (dsimp only; omega)) ?_ | refine ifB_pos rfl ?_ | refine ifB_neg rfl ?_
  refine ⟨_, Mul_e x y (by omega) (by omega), ?_⟩
  repeat first | refine ⟨rfl, ?_⟩ | refine And.intro (by first | omega | (dsimp only; omega)) ?_ | refine ifB_pos rfl ?_ | refine ifB_neg rfl ?_
  refine ⟨_, NatMul_ct x y (by omega) (by omega), ?_⟩
  repeat first | refine ⟨rfl, ?_⟩ | refine And.intro (by first | omega | (dsimp only; omega)) ?_ | refine ifB_pos rfl ?_ | refine ifB_neg rfl ?_
  refine ⟨_, is1_ct (x * y) (by omega), ?_⟩
  repeat first | refine ⟨rfl, ?_⟩ | refine And.intro (by first | omega | (dsimp only; omega)) ?_ | refine ifB_pos rfl ?_ | refine ifB_neg rfl ?_
  refine ⟨_, Cmp_e x y (by omega) (by omega), ?_⟩
  repeat first | refine ⟨rfl, ?_⟩ | refine And.intro (by first | omega | (dsimp only; omega)) ?_ | refine ifB_pos rfl ?_ | refine ifB_neg rfl ?_
  refine ⟨_, NatCmp_ct x y (by omega) (by omega), ?_⟩
  repeat first | refine ifB_neg hc ?_ | refine ⟨rfl, ?_⟩ | refine And.intro (by first | omega | (dsimp only; omega)) ?_ | refine ifB_pos rfl ?_ | refine ifB_neg rfl ?_
  refine ⟨_, NatCmp_ct x y (by omega) (by omega), ?_⟩
  repeat first | refine ⟨rfl, ?_⟩ | refine And.intro (by first | omega | (dsimp only; omega)) ?_ | refine ifB_pos rfl ?_ | refine ifB_neg rfl ?_
  refine ⟨fun h1 => ?_, fun h1 => ?_⟩
  · have hlt := cmp_neg_iff'.1.1 h1
    have hk : (!decide (y ≤ x)) = true := by rw [decide_eq_false (by omega)]; rfl
    have hz : (((blen (x - y) : Nat) : Int) == 0) = true := by rw [show x - y = 0 by omega]; rfl
    repeat first | refine ifB_pos hk ?_ | refine ⟨rfl, ?_⟩ | refine And.intro (by first | omega | (dsimp only; omega)) ?_ | refine ifB_pos rfl ?_ | refine ifB_neg rfl ?_
    refine ⟨_, Bits_e (x - y) (by omega), ?_⟩
    repeat first | refine ifB_pos hk ?_ | refine ⟨rfl, ?_⟩ | refine And.intro (by first | omega | (dsimp only; omega)) ?_ | refine ifB_pos rfl ?_ | refine ifB_neg rfl ?_
    exact ⟨_, rfl, (Le.of_eq (congrArg AV.bool hz)).trans .tt⟩
  · have hge := cmp_neg_iff'.2.1 h1
    have hk : decide (y ≤ x) = true := decide_eq_true hge
    repeat first | refine ifB_pos hk ?_ | refine ⟨rfl, ?_⟩ | refine And.intro (by first | omega | (dsimp only; omega)) ?_ | refine ifB_pos rfl ?_ | refine ifB_neg rfl ?_
    refine ⟨_, NatSub_ct x y (by omega) hge, ?_⟩
    repeat first | refine ifB_pos hk ?_ | refine ⟨rfl, ?_⟩ | refine And.intro (by first | omega | (dsimp only; omega)) ?_ | refine ifB_pos rfl ?_ | refine ifB_neg rfl ?_
    refine ⟨_, is1_ct (x - y) (by omega), ?_⟩
    repeat first | refine ifB_pos hk ?_ | refine ⟨rfl, ?_⟩ | refine And.intro (by first | omega | (dsimp only; omega)) ?_ | refine ifB_pos rfl ?_ | refine ifB_neg rfl ?_
    exact ⟨_, rfl, .refl _⟩
end Go.Proofs.YtjafmphhnclfjabGreatDoor
