/- Numbers of bytes and signs: law 2's two. -/
import Derived.Test.YtjafmphhnclfjaaDoorHand1
import Derived.Test.YtjafmphhnclfjaaDoorWho2
import Derived.Test.YtjafmphhnclfjaaDoorNumQ
set_option linter.all false
set_option linter.all false
namespace Go.Proofs.YtjafmphhnclfjaaDoor
open Go GoAbs Num
set_option maxRecDepth 100000
set_option maxHeartbeats 2000000

/-- The number that bytes and a sign make. -/
def zOf (b : Bool) (l : List Nat) : Int := if b then -((ofBytes (l.take 40) : Nat) : Int) else ((ofBytes (l.take 40) : Nat) : Int)
theorem blen_zOf {l : List Nat} (h : Num.Small 256 l) (b : Bool) : blen (zOf b l).natAbs ≤ 320 := by
  have := blen_few h 40
  have e : (zOf b l).natAbs = ofBytes (l.take 40) := by unfold zOf; cases b <;> simp
  rw [e]; omega
theorem ok_two2 : codeOk E Tryd.f8.ntmps (Tryd.f8.body.getD .skip) = true := by kernel_rfl
theorem two2_ct (a b : List Nat) (p q : Bool) (sa : Num.Small 256 a) (sb : Num.Small 256 b) (la : a.length < 140737488355328) (lb : b.length < 140737488355328) :
    Ct E 8 [.imm false 1 (w8 a), .imm false 1 (w8 b), .bool p, .bool q] [] (.tup [aZ (zOf p a), aZ (zOf q b), aRI (zOf p a), aRI (zOf q b)]) [] := by
  have b1 := blen_zOf sa p
  have b2 := blen_zOf sb q
  have ia : Ct E 40 [.bool p, aR (ofBytes (a.take 40))] [] (aRI (zOf p a)) [] := I_ct p (ofBytes (a.take 40))
  have ib : Ct E 40 [.bool q, aR (ofBytes (b.take 40))] [] (aRI (zOf q b)) [] := I_ct q (ofBytes (b.take 40))
  have fa := Few_ct a 40 la (by decide)
  have fb := Few_ct b 40 lb (by decide)
  have na := NatFrom_ct _ (sa.take 40) (by rw [List.length_take]; omega)
  have nb := NatFrom_ct _ (sb.take 40) (by rw [List.length_take]; omega)
  obtain ⟨n, en⟩ : ∃ n, n = zOf p a := ⟨_, rfl⟩
  obtain ⟨m, em⟩ : ∃ m, m = zOf q b := ⟨_, rfl⟩
  rw [← en] at ia b1
  rw [← em] at ib b2
  rw [← en, ← em]
  have ha := HInt_ct n (by omega)
  have hb := HInt_ct m (by omega)
  refine Ct_of hE Tryd.func8 rfl rfl (by exact Nat.le_of_ble_eq_true rfl) ok_two2 ?_
  repeat refine ⟨rfl, ?_⟩
  refine ⟨_, fa, ?_⟩
  refine ⟨_, na, ?_⟩
  refine ⟨_, ia, ?_⟩
  repeat refine ⟨rfl, ?_⟩
  refine ⟨_, fb, ?_⟩
  refine ⟨_, nb, ?_⟩
  refine ⟨_, ib, ?_⟩
  repeat refine ⟨rfl, ?_⟩
  refine ⟨_, ha, ?_⟩
  repeat refine ⟨rfl, ?_⟩
  refine ⟨_, hb, ?_⟩
  repeat refine ⟨rfl, ?_⟩
  exact ⟨_, rfl, .refl _⟩
theorem two2n_ct (a : List Nat) (p : Bool) (sa : Num.Small 256 a) (la : a.length < 140737488355328) :
    Ct E 8 [.imm false 1 (w8 a), .nils, .bool p, .kf] [] (.tup [aZ (zOf p a), aZ 0, aRI (zOf p a), aRI 0]) [] :=
  (two2_ct a [] p false sa (.nil _) la (by simp)).args (.cons (.refl _) (.cons (.nils _ _) (.cons (.refl _) (.cons .kf .nil))))
end Go.Proofs.YtjafmphhnclfjaaDoor
