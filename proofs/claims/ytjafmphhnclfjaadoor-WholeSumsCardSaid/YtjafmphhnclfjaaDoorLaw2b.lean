/- WholeSums: the walk. -/
import Derived.Test.YtjafmphhnclfjaaDoorTwo2
import Derived.Test.YtjafmphhnclfjaaDoorIs2
import Derived.Test.YtjafmphhnclfjaaDoorZCmp
import Derived.Test.YtjafmphhnclfjaaDoorKno2
set_option linter.all false
set_option linter.all false
namespace Go.Proofs.YtjafmphhnclfjaaDoor
open Go GoAbs Num
set_option maxRecDepth 100000
set_option maxHeartbeats 4000000

theorem ok_IntCmp : codeOk E Tryd.f27.ntmps (Tryd.f27.body.getD .skip) = true := by kernel_rfl
theorem IntCmp_ct (n m : Int) (hn : blen n.natAbs < 1099511627776) (hm : blen m.natAbs < 1099511627776) : Ct E 27 [aRI n, aRI m] [] (iI (zcmp n m)) [] := by
  refine Ct_of hE Tryd.func27 rfl rfl (by exact Nat.le_of_ble_eq_true rfl) ok_IntCmp ?_
  have e : (n - m).sign = zcmp n m := by
    unfold zcmp
    split
    · exact Int.sign_eq_neg_one_of_neg (by omega)
    · split
      · exact Int.sign_eq_one_of_pos (by omega)
      · rw [show n - m = 0 by omega]; rfl
  repeat first | refine ⟨rfl, ?_⟩ | refine And.intro (by first | omega | (dsimp only; omega)) ?_ | refine ifB_pos rfl ?_ | refine ifB_neg rfl ?_
  refine ⟨_, IntSub_ct n m hn hm, ?_⟩
  refine ⟨_, IntSign_ct (n - m), ?_⟩
  exact ⟨_, rfl, .of_eq (congrArg (AV.int .i64) e)⟩

theorem ok_WholeSums : codeOk E Tryd.f5.ntmps (Tryd.f5.body.getD .skip) = true := by kernel_rfl
theorem WholeSums_ct (a b : List Nat) (p q : Bool) (sa : Num.Small 256 a) (sb : Num.Small 256 b) (la : a.length < 140737488355328) (lb : b.length < 140737488355328) :
    Ct E 5 [.imm false 1 (w8 a), .imm false 1 (w8 b), .bool p, .bool q] [] .kt [] := by
  have htwo := two2_ct a b p q sa sb la lb
  have b1 := blen_zOf sa p
  have b2 := blen_zOf sb q
  generalize zOf p a = n at *
  generalize zOf q b = m at *
  have e1 := blen_add n.natAbs m.natAbs
  have e2 := blen_times n.natAbs m.natAbs
  rw [← Int.natAbs_mul] at e2
  have e3 : blen (n + m).natAbs ≤ blen (n.natAbs + m.natAbs) := blen_mono (by omega)
  have e4 : blen (n - m).natAbs ≤ blen (n.natAbs + m.natAbs) := blen_mono (by omega)
  have hc : (zcmp n m == zcmp n m) = true := beq_self_eq_true _
  have hs : (n.sign == n.sign) = true := beq_self_eq_true _
  refine Ct_of hE Tryd.func5 rfl rfl (by exact Nat.le_of_ble_eq_true rfl) ok_WholeSums ?_
  refine ⟨_, htwo, ?_⟩
  repeat first | refine ⟨rfl, ?_⟩ | refine And.intro (by first | omega | (dsimp only; omega)) ?_ | refine ifB_pos rfl ?_ | refine ifB_neg rfl ?_
  refine ⟨.kt, known2_ct, ?_⟩
  repeat first | refine ⟨rfl, ?_⟩ | refine And.intro (by first | omega | (dsimp only; omega)) ?_ | refine ifB_pos rfl ?_ | refine ifB_neg rfl ?_
  refine ⟨_, ZAdd_ct n m (by omega) (by omega), ?_⟩
  repeat first | refine ⟨rfl, ?_⟩ | refine And.intro (by first | omega | (dsimp only; omega)) ?_ | refine ifB_pos rfl ?_ | refine ifB_neg rfl ?_
  refine ⟨_, IntAdd_ct n m (by omega) (by omega), ?_⟩
  repeat first | refine ⟨rfl, ?_⟩ | refine And.intro (by first | omega | (dsimp only; omega)) ?_ | refine ifB_pos rfl ?_ | refine ifB_neg rfl ?_
  refine ⟨_, is2_ct (n + m) (by omega), ?_⟩
  repeat first | refine ⟨rfl, ?_⟩ | refine And.intro (by first | omega | (dsimp only; omega)) ?_ | refine ifB_pos rfl ?_ | refine ifB_neg rfl ?_
  refine ⟨_, ZSub_ct n m (by omega) (by omega), ?_⟩
  repeat first | refine ⟨rfl, ?_⟩ | refine And.intro (by first | omega | (dsimp only; omega)) ?_ | refine ifB_pos rfl ?_ | refine ifB_neg rfl ?_
  refine ⟨_, IntSub_ct n m (by omega) (by omega), ?_⟩
  repeat first | refine ⟨rfl, ?_⟩ | refine And.intro (by first | omega | (dsimp only; omega)) ?_ | refine ifB_pos rfl ?_ | refine ifB_neg rfl ?_
  refine ⟨_, is2_ct (n - m) (by omega), ?_⟩
  repeat first | refine ⟨rfl, ?_⟩ | refine And.intro (by first | omega | (dsimp only; omega)) ?_ | refine ifB_pos rfl ?_ | refine ifB_neg rfl ?_
  refine ⟨_, ZMul_ct n m (by omega) (by omega), ?_⟩
  repeat first | refine ⟨rfl, ?_⟩ | refine And.intro (by first | omega | (dsimp only; omega)) ?_ | refine ifB_pos rfl ?_ | refine ifB_neg rfl ?_
  refine ⟨_, IntMul_ct n m (by omega) (by omega), ?_⟩
  repeat first | refine ⟨rfl, ?_⟩ | refine And.intro (by first | omega | (dsimp only; omega)) ?_ | refine ifB_pos rfl ?_ | refine ifB_neg rfl ?_
  refine ⟨_, is2_ct (n * m) (by omega), ?_⟩
  repeat first | refine ⟨rfl, ?_⟩ | refine And.intro (by first | omega | (dsimp only; omega)) ?_ | refine ifB_pos rfl ?_ | refine ifB_neg rfl ?_
  refine ⟨_, ZCmp_ct n m (by omega) (by omega), ?_⟩
  repeat first | refine ⟨rfl, ?_⟩ | refine And.intro (by first | omega | (dsimp only; omega)) ?_ | refine ifB_pos rfl ?_ | refine ifB_neg rfl ?_
  refine ⟨_, IntCmp_ct n m (by omega) (by omega), ?_⟩
  repeat first | refine ifB_pos hc ?_ | refine ⟨rfl, ?_⟩ | refine And.intro (by first | omega | (dsimp only; omega)) ?_ | refine ifB_pos rfl ?_ | refine ifB_neg rfl ?_
  refine ⟨_, Neg_ct n (by omega), ?_⟩
  repeat first | refine ifB_pos hc ?_ | refine ⟨rfl, ?_⟩ | refine And.intro (by first | omega | (dsimp only; omega)) ?_ | refine ifB_pos rfl ?_ | refine ifB_neg rfl ?_
  refine ⟨_, IntNeg_ct n, ?_⟩
  repeat first | refine ifB_pos hc ?_ | refine ⟨rfl, ?_⟩ | refine And.intro (by first | omega | (dsimp only; omega)) ?_ | refine ifB_pos rfl ?_ | refine ifB_neg rfl ?_
  refine ⟨_, is2_ct (-n) (by rw [Int.natAbs_neg]; omega), ?_⟩
  repeat first | refine ifB_pos hc ?_ | refine ⟨rfl, ?_⟩ | refine And.intro (by first | omega | (dsimp only; omega)) ?_ | refine ifB_pos rfl ?_ | refine ifB_neg rfl ?_
  refine ⟨_, Sign_ct n (by omega), ?_⟩
  repeat first | refine ifB_pos hc ?_ | refine ⟨rfl, ?_⟩ | refine And.intro (by first | omega | (dsimp only; omega)) ?_ | refine ifB_pos rfl ?_ | refine ifB_neg rfl ?_
  refine ⟨_, IntSign_ct n, ?_⟩
  repeat first | refine ifB_pos hc ?_ | refine ⟨rfl, ?_⟩ | refine And.intro (by first | omega | (dsimp only; omega)) ?_ | refine ifB_pos rfl ?_ | refine ifB_neg rfl ?_
  exact ⟨_, rfl, (Le.of_eq (congrArg AV.bool hs)).trans .tt⟩
end Go.Proofs.YtjafmphhnclfjaaDoor
