/- Law 1's known, by a run. -/
import Derived.Test.YtjafmphhnclfjaaGreatDoorRefI
set_option linter.all false
namespace Go.Proofs.YtjafmphhnclfjaaGreatDoor
open Go GoAbs Num
set_option maxRecDepth 100000
noncomputable def T1 : List FnT := [⟨42, Tryz.f42⟩, ⟨61, Tryz.f61⟩, ⟨79, Tryz.f79⟩, ⟨105, Tryz.f105⟩, ⟨123, Tryz.f123⟩, ⟨125, Tryz.f125⟩, ⟨124, Tryz.f124⟩, ⟨81, Tryz.f81⟩, ⟨82, Tryz.f82⟩, ⟨64, Tryz.f64⟩, ⟨65, Tryz.f65⟩, ⟨80, Tryz.f80⟩, ⟨30, Tryz.f30⟩, ⟨40, Tryz.f40⟩, ⟨36, Tryz.f36⟩, ⟨29, Tryz.f29⟩, ⟨35, Tryz.f35⟩, ⟨34, Tryz.f34⟩, ⟨31, Tryz.f31⟩, ⟨67, Tryz.f67⟩, ⟨33, Tryz.f33⟩, ⟨37, Tryz.f37⟩, ⟨70, Tryz.f70⟩, ⟨71, Tryz.f71⟩, ⟨90, Tryz.f90⟩, ⟨91, Tryz.f91⟩, ⟨66, Tryz.f66⟩, ⟨68, Tryz.f68⟩, ⟨92, Tryz.f92⟩, ⟨93, Tryz.f93⟩, ⟨94, Tryz.f94⟩, ⟨32, Tryz.f32⟩, ⟨47, Tryz.f47⟩]
theorem T1_ok : T1.all (fnOk E) = true := by kernel_rfl
theorem T1_fn : ∀ x ∈ T1, E.P.funcs[x.id]? = some x.fn := fns_cons Tryz.func42 (fns_cons Tryz.func61 (fns_cons Tryz.func79 (fns_cons Tryz.func105 (fns_cons Tryz.func123 (fns_cons Tryz.func125 (fns_cons Tryz.func124 (fns_cons Tryz.func81 (fns_cons Tryz.func82 (fns_cons Tryz.func64 (fns_cons Tryz.func65 (fns_cons Tryz.func80 (fns_cons Tryz.func30 (fns_cons Tryz.func40 (fns_cons Tryz.func36 (fns_cons Tryz.func29 (fns_cons Tryz.func35 (fns_cons Tryz.func34 (fns_cons Tryz.func31 (fns_cons Tryz.func67 (fns_cons Tryz.func33 (fns_cons Tryz.func37 (fns_cons Tryz.func70 (fns_cons Tryz.func71 (fns_cons Tryz.func90 (fns_cons Tryz.func91 (fns_cons Tryz.func66 (fns_cons Tryz.func68 (fns_cons Tryz.func92 (fns_cons Tryz.func93 (fns_cons Tryz.func94 (fns_cons Tryz.func32 (fns_cons Tryz.func47 fns_nil))))))))))))))))))))))))))))))))
noncomputable def run1 : Nat → Orc := orcX E S0 T1 100
theorem run1_ok (d : Nat) : OrcOk E (run1 d) := orcX_sound hE S0_ok (fun x hx => ⟨T1_fn x hx, List.all_eq_true.1 T1_ok x hx⟩) d
theorem known1_ct : Ct E 30 [] [] .kt [] := (run1_ok 12).call _ _ _ (by kernel_rfl)
end Go.Proofs.YtjafmphhnclfjaaGreatDoor
