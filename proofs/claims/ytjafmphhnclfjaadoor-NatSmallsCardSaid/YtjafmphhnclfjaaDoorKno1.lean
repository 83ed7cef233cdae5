/- Law 1's known, by a run. -/
import Derived.Test.YtjafmphhnclfjaaDoorRun0
set_option linter.all false
namespace Go.Proofs.YtjafmphhnclfjaaDoor
open Go GoAbs Num
set_option maxRecDepth 100000
noncomputable def T1 : List FnT := [⟨20, Tryd.f20⟩, ⟨35, Tryd.f35⟩, ⟨51, Tryd.f51⟩, ⟨76, Tryd.f76⟩, ⟨97, Tryd.f97⟩, ⟨99, Tryd.f99⟩, ⟨98, Tryd.f98⟩, ⟨54, Tryd.f54⟩, ⟨55, Tryd.f55⟩, ⟨50, Tryd.f50⟩, ⟨53, Tryd.f53⟩, ⟨52, Tryd.f52⟩, ⟨37, Tryd.f37⟩, ⟨63, Tryd.f63⟩, ⟨34, Tryd.f34⟩, ⟨47, Tryd.f47⟩, ⟨64, Tryd.f64⟩, ⟨17, Tryd.f17⟩, ⟨46, Tryd.f46⟩, ⟨71, Tryd.f71⟩, ⟨36, Tryd.f36⟩, ⟨88, Tryd.f88⟩, ⟨92, Tryd.f92⟩, ⟨96, Tryd.f96⟩, ⟨75, Tryd.f75⟩, ⟨91, Tryd.f91⟩, ⟨72, Tryd.f72⟩, ⟨69, Tryd.f69⟩, ⟨93, Tryd.f93⟩, ⟨94, Tryd.f94⟩, ⟨95, Tryd.f95⟩, ⟨44, Tryd.f44⟩, ⟨45, Tryd.f45⟩]
theorem T1_ok : T1.all (fnOk E) = true := by kernel_rfl
theorem T1_fn : ∀ x ∈ T1, E.P.funcs[x.id]? = some x.fn := fns_cons Tryd.func20 (fns_cons Tryd.func35 (fns_cons Tryd.func51 (fns_cons Tryd.func76 (fns_cons Tryd.func97 (fns_cons Tryd.func99 (fns_cons Tryd.func98 (fns_cons Tryd.func54 (fns_cons Tryd.func55 (fns_cons Tryd.func50 (fns_cons Tryd.func53 (fns_cons Tryd.func52 (fns_cons Tryd.func37 (fns_cons Tryd.func63 (fns_cons Tryd.func34 (fns_cons Tryd.func47 (fns_cons Tryd.func64 (fns_cons Tryd.func17 (fns_cons Tryd.func46 (fns_cons Tryd.func71 (fns_cons Tryd.func36 (fns_cons Tryd.func88 (fns_cons Tryd.func92 (fns_cons Tryd.func96 (fns_cons Tryd.func75 (fns_cons Tryd.func91 (fns_cons Tryd.func72 (fns_cons Tryd.func69 (fns_cons Tryd.func93 (fns_cons Tryd.func94 (fns_cons Tryd.func95 (fns_cons Tryd.func44 (fns_cons Tryd.func45 fns_nil))))))))))))))))))))))))))))))))
noncomputable def run1 : Nat → Orc := orcX E S0 T1 100
theorem run1_ok (d : Nat) : OrcOk E (run1 d) := orcX_sound hE S0_ok (fun x hx => ⟨T1_fn x hx, List.all_eq_true.1 T1_ok x hx⟩) d
theorem known1_ct : Ct E 37 [] [] .kt [] := (run1_ok 12).call _ _ _ (by kernel_rfl)
end Go.Proofs.YtjafmphhnclfjaaDoor
