/- NatRing: the walk. -/
import Derived.Test.YtjafmphhnclfjaaGreatDoorLaw1a
set_option linter.all false
namespace Go.Proofs.YtjafmphhnclfjaaGreatDoor
open Go GoAbs Num
set_option maxRecDepth 100000
set_option maxHeartbeats 2000000

theorem ok_NatRing : codeOk E Tryz.f9.ntmps (Tryz.f9.body.getD .skip) = true := by kernel_rfl
theorem NatRing_ct (a b c : List Nat) (sa : Num.Small 256 a) (sb : Num.Small 256 b) (sc : Num.Small 256 c) (la : a.length < 140737488355328) (lb : b.length < 140737488355328) (lc : c.length < 140737488355328) :
    Ct E 9 [.imm false 1 (w8 a), .imm false 1 (w8 b), .imm false 1 (w8 c)] [] .kt [] := by
  have htwo := two1_ct a b sa sb la lb
  have htwo' := two1n_ct c sc lc
  obtain ⟨x, hx, bx⟩ := few_in sa
  obtain ⟨y, hy, by'⟩ := few_in sb
  obtain ⟨z, hz, bz⟩ := few_in sc
  rw [← hx, ← hy] at htwo
  rw [← hz] at htwo'
  clear hx hy hz
  have bxy := blen_add x y
  have bxyz := blen_add (x + y) z
  have byz := blen_add y z
  have mxy := blen_times x y
  have mxz := blen_times x z
  have myz := blen_times y z
  have mxyz := blen_times (x * y) z
  have mmyz := blen_times x (y + z)
  have mmm := blen_times x (y * z)
  have bdd := blen_add (x * y) (x * z)
  have dis : x * (y + z) = x * y + x * z := Nat.mul_add _ _ _
  have add1 := Add_e x y (by omega) (by omega)
  have sub1 := Sub_e (x + y) y (by omega) (by omega)
  rw [Nat.add_sub_cancel, decide_eq_true (by omega : y ≤ x + y)] at sub1
  have add2 := Add_e y x (by omega) (by omega)
  rw [Nat.add_comm y x] at add2
  have cxy := Cmp_e (x + y) (x + y) (by omega) (by omega)
  rw [cmp_self] at cxy
  have mul1 := Mul_e x y (by omega) (by omega)
  have mul2 := Mul_e y x (by omega) (by omega)
  rw [Nat.mul_comm y x] at mul2
  have cm := Cmp_e (x * y) (x * y) (by omega) (by omega)
  rw [cmp_self] at cm
  have add3 := Add_e (x + y) z (by omega) (by omega)
  have add4 := Add_e y z (by omega) (by omega)
  have add5 := Add_e x (y + z) (by omega) (by omega)
  rw [← Nat.add_assoc] at add5
  have ca := Cmp_e (x + y + z) (x + y + z) (by omega) (by omega)
  rw [cmp_self] at ca
  have mul3 := Mul_e (x * y) z (by omega) (by omega)
  have mul4 := Mul_e y z (by omega) (by omega)
  have mul5 := Mul_e x (y * z) (by omega) (by omega)
  rw [← Nat.mul_assoc] at mul5
  have cmm := Cmp_e (x * y * z) (x * y * z) (by omega) (by omega)
  rw [cmp_self] at cmm
  have mul6 := Mul_e x (y + z) (by omega) (by omega)
  rw [dis] at mul6
  have mul7 := Mul_e x z (by omega) (by omega)
  have add6 := Add_e (x * y) (x * z) (by omega) (by omega)
  have cd := Cmp_e (x * y + x * z) (x * y + x * z) (by omega) (by omega)
  rw [cmp_self] at cd
  have cx := Cmp_e x x (by omega) (by omega)
  rw [cmp_self] at cx
  refine Ct_of hE Tryz.func9 rfl rfl (by exact Nat.le_of_ble_eq_true rfl) ok_NatRing ?_
  refine ⟨_, htwo, ?_⟩
  repeat refine ⟨rfl, ?_⟩
  refine ⟨_, htwo', ?_⟩
  repeat refine ⟨rfl, ?_⟩
  refine ⟨_, add1, ?_⟩
  repeat refine ⟨rfl, ?_⟩
  refine ⟨_, sub1, ?_⟩
  repeat refine ⟨rfl, ?_⟩
  refine ⟨.kt, ?_⟩
  refine ⟨known1_ct, ?_⟩
  repeat first | refine ifB_pos rfl ?_ | refine ⟨rfl, ?_⟩
  refine ⟨_, add1, ?_⟩
  repeat first | refine ifB_pos rfl ?_ | refine ⟨rfl, ?_⟩
  refine ⟨_, add2, ?_⟩
  repeat first | refine ifB_pos rfl ?_ | refine ⟨rfl, ?_⟩
  refine ⟨_, cxy, ?_⟩
  repeat first | refine ifB_pos rfl ?_ | refine ⟨rfl, ?_⟩
  refine ⟨_, mul1, ?_⟩
  repeat first | refine ifB_pos rfl ?_ | refine ⟨rfl, ?_⟩
  refine ⟨_, mul2, ?_⟩
  repeat first | refine ifB_pos rfl ?_ | refine ⟨rfl, ?_⟩
  refine ⟨_, cm, ?_⟩
  repeat first | refine ifB_pos rfl ?_ | refine ⟨rfl, ?_⟩
  refine ⟨_, add1, ?_⟩
  repeat first | refine ifB_pos rfl ?_ | refine ⟨rfl, ?_⟩
  refine ⟨_, add3, ?_⟩
  repeat first | refine ifB_pos rfl ?_ | refine ⟨rfl, ?_⟩
  refine ⟨_, add4, ?_⟩
  repeat first | refine ifB_pos rfl ?_ | refine ⟨rfl, ?_⟩
  refine ⟨_, add5, ?_⟩
  repeat first | refine ifB_pos rfl ?_ | refine ⟨rfl, ?_⟩
  refine ⟨_, ca, ?_⟩
  repeat first | refine ifB_pos rfl ?_ | refine ⟨rfl, ?_⟩
  refine ⟨_, mul1, ?_⟩
  repeat first | refine ifB_pos rfl ?_ | refine ⟨rfl, ?_⟩
  refine ⟨_, mul3, ?_⟩
  repeat first | refine ifB_pos rfl ?_ | refine ⟨rfl, ?_⟩
  refine ⟨_, mul4, ?_⟩
  repeat first | refine ifB_pos rfl ?_ | refine ⟨rfl, ?_⟩
  refine ⟨_, mul5, ?_⟩
  repeat first | refine ifB_pos rfl ?_ | refine ⟨rfl, ?_⟩
  refine ⟨_, cmm, ?_⟩
  repeat first | refine ifB_pos rfl ?_ | refine ⟨rfl, ?_⟩
  refine ⟨_, add4, ?_⟩
  repeat first | refine ifB_pos rfl ?_ | refine ⟨rfl, ?_⟩
  refine ⟨_, mul6, ?_⟩
  repeat first | refine ifB_pos rfl ?_ | refine ⟨rfl, ?_⟩
  refine ⟨_, mul1, ?_⟩
  repeat first | refine ifB_pos rfl ?_ | refine ⟨rfl, ?_⟩
  refine ⟨_, mul7, ?_⟩
  repeat first | refine ifB_pos rfl ?_ | refine ⟨rfl, ?_⟩
  refine ⟨_, add6, ?_⟩
  repeat first | refine ifB_pos rfl ?_ | refine ⟨rfl, ?_⟩
  refine ⟨_, cd, ?_⟩
  repeat first | refine ifB_pos rfl ?_ | refine ⟨rfl, ?_⟩
  refine ⟨_, cx, ?_⟩
  repeat refine ifB_pos rfl ?_
  exact ⟨_, rfl, .tt⟩
end Go.Proofs.YtjafmphhnclfjaaGreatDoor
