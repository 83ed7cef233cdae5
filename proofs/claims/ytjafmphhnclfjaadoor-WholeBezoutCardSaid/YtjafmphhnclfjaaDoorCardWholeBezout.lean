/- The card of WholeBezout: for every input the law returns true, and its arguments read as before. No condition beyond the row's own. -/
import Derived.Test.YtjafmphhnclfjaaDoorCards
import Derived.Test.YtjafmphhnclfjaaDoorTie
import Derived.Test.YtjafmphhnclfjaaDoorLaw2e
set_option linter.all false
namespace Go.Proofs.YtjafmphhnclfjaaDoor.cardWholeBezout
open Go Go.ChangeShapes Go.WideShapes Go.ChangeAt Go.RowKit GoAbs Num
set_option maxRecDepth 100000

theorem own : ownKnob Tryd.prog.godebug = none := by kernel_rfl
theorem contract (H : Type) (enc : TypeId × Value → H) (W : World) (base : Nat) (args : Array Value) (ds gs : List (DataW H)) (before : List MemPlace)
    (hval : ∀ (j : Nat) t v, Tryd.f3.params[j]? = some t → args[j]? = some v → Value.okWide Tryd.prog W .any base t v)
    (hW : DataW.Whole enc Tryd.prog Tryd.f3.params.toList Rows.wholeBezoutSpec.vars false W args.toList ds gs before)
    (hz : (DataW.weightsEach Tryd.prog (Tryd.f3.params.toList ++ (OpenSpec.ofChange Rows.wholeBezoutSpec).bare.plain.varTypes Tryd.prog) (ds ++ gs)).all (· ≤ reachBytes) = true) :
    Calls Tryd.prog 3 args W fun e W' => ∃ v, e = .returned v ∧ Rows.wholeBezoutSpec.post enc Tryd.prog Tryd.f3 false true false false W args v W' := by
  have hW' := hW
  obtain ⟨p, q, hA0, hV, rfl, hfz, hnd⟩ := hW
  have hA : DataW.TrodAll enc Tryd.prog W 0 (fun _ => true) true Tryd.f3.params.toList args.toList ds p := hA0
  have hlt : ∀ x ∈ p, x.block < W.heap.size := fun x hx => hW'.lt x (List.mem_append.2 (.inl hx))
  have hz : ∀ n ∈ DataW.weightsEach Tryd.prog (Tryd.f3.params.toList ++ (OpenSpec.ofChange Rows.wholeBezoutSpec).bare.plain.varTypes Tryd.prog) (ds ++ gs), n ≤ reachBytes := fun n hn => by simpa using List.all_eq_true.1 hz n hn
  rw [Tryd.params3] at hA hval hz
  obtain ⟨v0, vs0, d0, ds0, p0, q0, ha0, rfl, rfl, h0, r0⟩ := trodAll_cons hA
  obtain ⟨v1, vs1, d1, ds1, p1, q1, ha1, rfl, rfl, h1, r1⟩ := trodAll_cons r0
  obtain ⟨v2, vs2, d2, ds2, p2, q2, ha2, rfl, rfl, h2, r2⟩ := trodAll_cons r1
  obtain ⟨v3, vs3, d3, ds3, p3, q3, ha3, rfl, rfl, h3, r3⟩ := trodAll_cons r2
  obtain ⟨e1, rfl, rfl⟩ := trodAll_nil r3
  obtain rfl : args = #[v0, v1, v2, v3] := by cases args; simp_all
  obtain ⟨rfl, rfl⟩ := trodVars_none hV
  obtain ⟨b0, s0, l0, x0⟩ := open_bytes Tryd.underlying22 Tryd.underlying5 (by kernel_rfl) (by kernel_rfl) (hval 0 22 v0 rfl rfl) h0 (fun x hx => hlt x (by simp [hx])) (fun n hn => hz n (by
    simp only [List.cons_append, DataW.weightsEach, List.mem_append]
    exact .inl hn))
  obtain ⟨b1, s1, l1, x1⟩ := open_bytes Tryd.underlying22 Tryd.underlying5 (by kernel_rfl) (by kernel_rfl) (hval 1 22 v1 rfl rfl) h1 (fun x hx => hlt x (by simp [hx])) (fun n hn => hz n (by
    simp only [List.cons_append, DataW.weightsEach, List.mem_append]
    exact .inr (.inl hn)))
  obtain ⟨b2, rfl, rfl, rfl⟩ := open_bool Tryd.underlying4 (hval 2 4 v2 rfl rfl) h2
  obtain ⟨b3, rfl, rfl, rfl⟩ := open_bool Tryd.underlying4 (hval 3 4 v3 rfl rfl) h3
  exact law_row (E := E) Tryd.func3 rfl rfl (by kernel_rfl) (by kernel_rfl) rfl Tryd.underlying4 rfl rfl hW' trivial (.cons _ _ _ _ _ (x0 _) (.cons _ _ _ _ _ (x1 _) (.cons _ _ _ _ _ (.bool _ _) (.cons _ _ _ _ _ (.bool _ _) (.nil _))))) (WholeBezout_ct b0 b1 b2 b3 s0 s1 l0 l1)

theorem laid_met (os : Os) : laidMetH Tryd.prog Rows.wholeBezoutRow.laid ((World.laidAll Tryd.prog os Rows.wholeBezoutRow.laid).forCall (fun _ _ => 0) ⟨#[], #[.slice none 0 0, .slice none 0 0, .bool false, .bool false], []⟩).memory := by
  rw [MakeChecks.laidMetH_plain _ _ _ (by kernel_rfl)]
  exact laidMet_laidAll _ (by kernel_rfl) (by kernel_rfl)
theorem reads (os : Os) {H : Type} (enc : TypeId × Value → H) : ∃ places, DataW.whole enc Tryd.prog ((World.laidAll Tryd.prog os Rows.wholeBezoutRow.laid).forCall (fun _ _ => 0) ⟨#[], #[.slice none 0 0, .slice none 0 0, .bool false, .bool false], []⟩).memory Tryd.f3.params.toList Rows.wholeBezoutSpec.vars false (#[.slice none 0 0, .slice none 0 0, .bool false, .bool false] : Array Value).toList 8 = some ([.nil, .nil, .lit (.bool false), .lit (.bool false)], [], places) :=
  ⟨[], by kernel_rfl⟩
theorem lifted (os : Os) (started : os.Started) (H : Type) (enc : TypeId × Value → H) (F : Stop.Interp) :
    ReturnsInHanded {} Tryd.checked os 3 .any ((OpenSpec.ofChange Rows.wholeBezoutSpec).preRow enc Tryd.prog Tryd.f3 Rows.wholeBezoutRow.domain false Rows.wholeBezoutRow.laid) (((OpenSpec.ofChange Rows.wholeBezoutSpec).at F).post enc Tryd.prog Tryd.f3 false true false false) := by
  obtain ⟨places, hx⟩ := reads os enc
  refine returnsInHanded_of_row (C := Tryd.checked) (s := OpenSpec.ofChange Rows.wholeBezoutSpec) own started (by kernel_rfl) Tryd.func3
    (witness_row_at (enc := enc) (C := Tryd.checked) false (World.laidAll Tryd.prog os Rows.wholeBezoutRow.laid) #[.slice none 0 0, .slice none 0 0, .bool false, .bool false] (World.laidAll_os _ _ _) (by kernel_rfl) (by kernel_rfl) (by kernel_rfl)
      (OpenSpec.preRow_of_cond 8 hx rfl (fun k hk => by cases hk) (by kernel_rfl) (laid_met os))) ?_
  intro W base args ds gs before hval hW _ _ hz _ _ _
  exact contract H enc W base args ds gs before hval hW hz
theorem said : Rows.WholeBezoutSaid :=
  OpenClaim.holds_of_cond 3 Tryd.f3 rfl rfl rfl rfl rfl rfl rfl ⟨rfl, rfl, rfl, rfl, rfl⟩ rfl rfl rfl rfl rfl (by kernel_rfl) Tryd.func3 (by kernel_rfl)
    (of_decide_eq_true (by kernel_rfl)) (by unfold Func.isWrapper; first | (rw [if_pos (by decide +kernel)]; kernel_rfl) | (rw [if_neg (by decide +kernel)]; exact ⟨rfl, rfl⟩))
    (fun os started H enc _ F => by rw [OpenClaim.pre_eq_preRow]; exact lifted os started H enc F)
theorem plain (f : FuncId) (fn : Func) (hf : Tryd.pinned.checked.prog.funcNamed "abaculus/abaculuslaw2.WholeBezout" = some f) (hfn : Tryd.pinned.checked.prog.funcs[f]? = some fn) :
    true = Tryd.pinned.checked.prog.looks [] ∧ ∀ (j : Nat) t, fn.params[j]? = some t → Tryd.pinned.checked.prog.wantsStandIn t = false := by
  obtain rfl : f = 3 := Option.some.inj ((show Tryd.prog.funcNamed "abaculus/abaculuslaw2.WholeBezout" = some 3 by kernel_rfl).symm.trans hf) |>.symm
  obtain rfl : fn = Tryd.f3 := (Option.some.inj (Tryd.func3.symm.trans hfn)).symm
  refine ⟨by kernel_rfl, fun j t ht => ?_⟩
  rw [Tryd.params3] at ht
  have hm : t ∈ [22, 22, 4, 4] := by simpa using Array.mem_of_getElem? ht
  have hall : ([22, 22, 4, 4].all fun u => !Tryd.prog.wantsStandIn u) = true := by kernel_rfl
  exact (show Tryd.prog.wantsStandIn t = false by simpa using List.all_eq_true.1 hall t hm)
theorem card : Rows.WholeBezoutCardSaid :=
  Claim7.holds_tied_plain_at .later [] _ _ _ _ said (fun _ h => by cases h) (by kernel_rfl) (fun _ h => by cases h) wholeBezout_row_tie rfl ⟨rfl, rfl⟩ (by kernel_rfl) rfl plain (by kernel_rfl)
end Go.Proofs.YtjafmphhnclfjaaDoor.cardWholeBezout
