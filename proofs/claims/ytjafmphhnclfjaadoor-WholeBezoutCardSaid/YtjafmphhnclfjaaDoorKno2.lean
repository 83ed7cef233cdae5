/- A run of abaculuslaw2.known. -/
import Derived.Test.YtjafmphhnclfjaaDoorRun0
set_option linter.all false
namespace Go.Proofs.YtjafmphhnclfjaaDoor
open Go GoAbs Num
set_option maxRecDepth 100000
noncomputable def T_known2 : List FnT := [⟨10, Tryd.f10⟩, ⟨33, Tryd.f33⟩, ⟨19, Tryd.f19⟩, ⟨9, Tryd.f9⟩, ⟨43, Tryd.f43⟩, ⟨34, Tryd.f34⟩, ⟨15, Tryd.f15⟩, ⟨47, Tryd.f47⟩, ⟨46, Tryd.f46⟩, ⟨36, Tryd.f36⟩, ⟨45, Tryd.f45⟩, ⟨14, Tryd.f14⟩, ⟨16, Tryd.f16⟩, ⟨11, Tryd.f11⟩, ⟨21, Tryd.f21⟩, ⟨20, Tryd.f20⟩, ⟨53, Tryd.f53⟩, ⟨17, Tryd.f17⟩, ⟨50, Tryd.f50⟩, ⟨72, Tryd.f72⟩, ⟨71, Tryd.f71⟩, ⟨35, Tryd.f35⟩, ⟨48, Tryd.f48⟩, ⟨49, Tryd.f49⟩, ⟨44, Tryd.f44⟩, ⟨22, Tryd.f22⟩, ⟨12, Tryd.f12⟩, ⟨51, Tryd.f51⟩, ⟨52, Tryd.f52⟩, ⟨54, Tryd.f54⟩, ⟨55, Tryd.f55⟩, ⟨75, Tryd.f75⟩, ⟨91, Tryd.f91⟩, ⟨92, Tryd.f92⟩, ⟨93, Tryd.f93⟩, ⟨94, Tryd.f94⟩, ⟨95, Tryd.f95⟩, ⟨96, Tryd.f96⟩, ⟨73, Tryd.f73⟩, ⟨74, Tryd.f74⟩, ⟨69, Tryd.f69⟩, ⟨76, Tryd.f76⟩, ⟨88, Tryd.f88⟩, ⟨97, Tryd.f97⟩, ⟨98, Tryd.f98⟩, ⟨99, Tryd.f99⟩]
theorem T_known2_ok : T_known2.all (fnOk E) = true := by kernel_rfl
theorem T_known2_fn : ∀ x ∈ T_known2, E.P.funcs[x.id]? = some x.fn := fns_cons Tryd.func10 (fns_cons Tryd.func33 (fns_cons Tryd.func19 (fns_cons Tryd.func9 (fns_cons Tryd.func43 (fns_cons Tryd.func34 (fns_cons Tryd.func15 (fns_cons Tryd.func47 (fns_cons Tryd.func46 (fns_cons Tryd.func36 (fns_cons Tryd.func45 (fns_cons Tryd.func14 (fns_cons Tryd.func16 (fns_cons Tryd.func11 (fns_cons Tryd.func21 (fns_cons Tryd.func20 (fns_cons Tryd.func53 (fns_cons Tryd.func17 (fns_cons Tryd.func50 (fns_cons Tryd.func72 (fns_cons Tryd.func71 (fns_cons Tryd.func35 (fns_cons Tryd.func48 (fns_cons Tryd.func49 (fns_cons Tryd.func44 (fns_cons Tryd.func22 (fns_cons Tryd.func12 (fns_cons Tryd.func51 (fns_cons Tryd.func52 (fns_cons Tryd.func54 (fns_cons Tryd.func55 (fns_cons Tryd.func75 (fns_cons Tryd.func91 (fns_cons Tryd.func92 (fns_cons Tryd.func93 (fns_cons Tryd.func94 (fns_cons Tryd.func95 (fns_cons Tryd.func96 (fns_cons Tryd.func73 (fns_cons Tryd.func74 (fns_cons Tryd.func69 (fns_cons Tryd.func76 (fns_cons Tryd.func88 (fns_cons Tryd.func97 (fns_cons Tryd.func98 (fns_cons Tryd.func99 fns_nil)))))))))))))))))))))))))))))))))))))))))))))
noncomputable def run_known2 : Nat → Orc := orcX E S0 T_known2 400
theorem run_known2_ok (d : Nat) : OrcOk E (run_known2 d) := orcX_sound hE S0_ok (fun x hx => ⟨T_known2_fn x hx, List.all_eq_true.1 T_known2_ok x hx⟩) d
theorem known2_ct : Ct E 10 [] [] .kt [] := ((run_known2_ok 16).call _ _ (.bool true) (by kernel_rfl)).weak .tt
end Go.Proofs.YtjafmphhnclfjaaDoor
