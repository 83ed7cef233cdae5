/- NatRoots and NatRing: the walks. -/
import Derived.Test.YtjafmphhnclfjaaGreatDoorLaw1a
import Derived.Test.YtjafmphhnclfjaaGreatDoorNat18
set_option linter.all false
namespace Go.Proofs.YtjafmphhnclfjaaGreatDoor
open Go GoAbs Num
set_option maxRecDepth 100000
set_option maxHeartbeats 2000000

theorem blen_root {a : Nat} : blen (root a) ≤ blen a := by
  have h := root_is a
  refine blen_mono ?_
  have := h.le
  rcases Nat.eq_zero_or_pos (root a) with h0 | h0
  · omega
  · exact Nat.le_trans (Nat.le_mul_of_pos_left _ h0) this
theorem root_sq (x : Nat) : root (x * x) = x := root_eq ⟨Nat.le_refl _, by
  have : (x + 1) * (x + 1) = x * x + x + x + 1 := by rw [Nat.add_mul, Nat.mul_add]; omega
  omega⟩

theorem ok_NatRoots : codeOk E Tryz.f6.ntmps (Tryz.f6.body.getD .skip) = true := by kernel_rfl
theorem NatRoots_ct (a : List Nat) (sa : Num.Small 256 a) (la : a.length < 140737488355328) :
    Ct E 6 [.imm false 1 (w8 a)] [] .kt [] := by
  have htwo := two1n_ct a sa la
  obtain ⟨x, hx, bx⟩ := few_in sa
  rw [← hx] at htwo
  clear hx
  have hr := root_is x
  have br : blen (root x) ≤ blen x := blen_root
  obtain ⟨r, er⟩ : ∃ r, r = root x := ⟨_, rfl⟩
  have c0 := Root_ct x (by omega)
  rw [← er] at hr br c0
  have c1 := Of_e 1 (by decide)
  have b1 : blen 1 = 1 := by decide
  have bn := blen_add r 1
  rw [b1] at bn
  have c2 := Add_e r 1 (by omega) (by rw [b1]; omega)
  have brr := blen_times r r
  have bnn := blen_times (r + 1) (r + 1)
  have bxx := blen_times x x
  have c3 := Mul_e r r (by omega) (by omega)
  have c4 := Cmp_e (r * r) x (by omega) (by omega)
  have c5 := Mul_e (r + 1) (r + 1) (by omega) (by omega)
  have c6 := Cmp_e ((r + 1) * (r + 1)) x (by omega) (by omega)
  rw [cmp_gt hr.lt] at c6
  have c7 := Mul_e x x (by omega) (by omega)
  have c8 := Root_ct (x * x) (by omega)
  rw [root_sq] at c8
  have c9 := Cmp_e x x (by omega) (by omega)
  rw [cmp_self] at c9
  have d1 := Shift_up x 7 (by omega)
  rw [show min 7 65536 = 7 from rfl] at d1
  have bs : blen (x * 2 ^ 7) < 2000 := by
    have := blen_times x (2 ^ 7)
    have h8 : blen (2 ^ 7) = 8 := by decide
    rw [h8] at this
    omega
  have d2 := Shift_down (x * 2 ^ 7) 7 (by decide) (by omega)
  rw [show min 7 65536 = 7 from rfl, Nat.mul_div_cancel _ (by decide)] at d2
  have d3 := Shift_up x 1 (by omega)
  rw [show min 1 65536 = 1 from rfl, show x * 2 ^ 1 = x + x by omega] at d3
  have d4 := Add_e x x (by omega) (by omega)
  have bxa := blen_add x x
  have d5 := Cmp_e (x + x) (x + x) (by omega) (by omega)
  rw [cmp_self] at d5
  have hle : cmp (r * r) x ≤ 0 := by
    rcases Nat.lt_or_ge (r * r) x with h | h
    · rw [cmp_lt h]; decide
    · rw [cmp_eq (Nat.le_antisymm hr.le h)]; decide
  refine Ct_of hE Tryz.func6 rfl rfl (by exact Nat.le_of_ble_eq_true rfl) ok_NatRoots ?_
  refine ⟨_, htwo, ?_⟩
  repeat refine ⟨rfl, ?_⟩
  refine ⟨_, c0, ?_⟩
  repeat refine ⟨rfl, ?_⟩
  refine ⟨_, c1, ?_⟩
  refine ⟨_, c2, ?_⟩
  repeat refine ⟨rfl, ?_⟩
  refine ⟨.kt, ?_⟩
  refine ⟨known1_ct, ?_⟩
  repeat refine ⟨rfl, ?_⟩
  refine ⟨_, c3, ?_⟩
  repeat refine ⟨rfl, ?_⟩
  refine ⟨_, c4, ?_⟩
  repeat first | refine ifB_pos (decide_eq_true hle) ?_ | refine ⟨rfl, ?_⟩
  refine ⟨_, c5, ?_⟩
  repeat first | refine ifB_pos (decide_eq_true hle) ?_ | refine ⟨rfl, ?_⟩
  refine ⟨_, c6, ?_⟩
  repeat first | refine ifB_pos (decide_eq_true hle) ?_ | refine ifB_pos rfl ?_ | refine ⟨rfl, ?_⟩
  refine ⟨_, c7, ?_⟩
  repeat first | refine ifB_pos rfl ?_ | refine ⟨rfl, ?_⟩
  refine ⟨_, c8, ?_⟩
  repeat first | refine ifB_pos rfl ?_ | refine ⟨rfl, ?_⟩
  refine ⟨_, c9, ?_⟩
  repeat first | refine ifB_pos rfl ?_ | refine ⟨rfl, ?_⟩
  refine ⟨_, d1, ?_⟩
  repeat first | refine ifB_pos rfl ?_ | refine ⟨rfl, ?_⟩
  refine ⟨_, d2, ?_⟩
  repeat first | refine ifB_pos rfl ?_ | refine ⟨rfl, ?_⟩
  refine ⟨_, c9, ?_⟩
  repeat first | refine ifB_pos rfl ?_ | refine ⟨rfl, ?_⟩
  refine ⟨_, d3, ?_⟩
  repeat first | refine ifB_pos rfl ?_ | refine ⟨rfl, ?_⟩
  refine ⟨_, d4, ?_⟩
  repeat first | refine ifB_pos rfl ?_ | refine ⟨rfl, ?_⟩
  refine ⟨_, d5, ?_⟩
  repeat refine ifB_pos rfl ?_
  exact ⟨_, rfl, .tt⟩
end Go.Proofs.YtjafmphhnclfjaaGreatDoor
