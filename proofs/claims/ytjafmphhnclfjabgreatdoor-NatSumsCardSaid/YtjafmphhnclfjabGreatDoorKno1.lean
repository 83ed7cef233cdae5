/- Law 1's known, by a run. -/
import Derived.Test.YtjafmphhnclfjabGreatDoorRun0
set_option linter.all false
namespace Go.Proofs.YtjafmphhnclfjabGreatDoor
open Go GoAbs Num
set_option maxRecDepth 100000
noncomputable def T1 : List FnT := [⟨46, Tryz.f46⟩, ⟨59, Tryz.f59⟩, ⟨69, Tryz.f69⟩, ⟨91, Tryz.f91⟩, ⟨108, Tryz.f108⟩, ⟨110, Tryz.f110⟩, ⟨109, Tryz.f109⟩, ⟨71, Tryz.f71⟩, ⟨72, Tryz.f72⟩, ⟨67, Tryz.f67⟩, ⟨42, Tryz.f42⟩, ⟨70, Tryz.f70⟩, ⟨8, Tryz.f8⟩, ⟨43, Tryz.f43⟩, ⟨44, Tryz.f44⟩, ⟨45, Tryz.f45⟩, ⟨22, Tryz.f22⟩, ⟨14, Tryz.f14⟩, ⟨16, Tryz.f16⟩, ⟨53, Tryz.f53⟩, ⟨10, Tryz.f10⟩, ⟨20, Tryz.f20⟩, ⟨55, Tryz.f55⟩, ⟨56, Tryz.f56⟩, ⟨86, Tryz.f86⟩, ⟨87, Tryz.f87⟩, ⟨68, Tryz.f68⟩, ⟨52, Tryz.f52⟩, ⟨88, Tryz.f88⟩, ⟨89, Tryz.f89⟩, ⟨90, Tryz.f90⟩, ⟨12, Tryz.f12⟩, ⟨7, Tryz.f7⟩]
theorem T1_ok : T1.all (fnOk E) = true := by kernel_rfl
theorem T1_fn : ∀ x ∈ T1, E.P.funcs[x.id]? = some x.fn := fns_cons Tryz.func46 (fns_cons Tryz.func59 (fns_cons Tryz.func69 (fns_cons Tryz.func91 (fns_cons Tryz.func108 (fns_cons Tryz.func110 (fns_cons Tryz.func109 (fns_cons Tryz.func71 (fns_cons Tryz.func72 (fns_cons Tryz.func67 (fns_cons Tryz.func42 (fns_cons Tryz.func70 (fns_cons Tryz.func8 (fns_cons Tryz.func43 (fns_cons Tryz.func44 (fns_cons Tryz.func45 (fns_cons Tryz.func22 (fns_cons Tryz.func14 (fns_cons Tryz.func16 (fns_cons Tryz.func53 (fns_cons Tryz.func10 (fns_cons Tryz.func20 (fns_cons Tryz.func55 (fns_cons Tryz.func56 (fns_cons Tryz.func86 (fns_cons Tryz.func87 (fns_cons Tryz.func68 (fns_cons Tryz.func52 (fns_cons Tryz.func88 (fns_cons Tryz.func89 (fns_cons Tryz.func90 (fns_cons Tryz.func12 (fns_cons Tryz.func7 fns_nil))))))))))))))))))))))))))))))))
noncomputable def run1 : Nat → Orc := orcX E S0 T1 100
theorem run1_ok (d : Nat) : OrcOk E (run1 d) := orcX_sound hE S0_ok (fun x hx => ⟨T1_fn x hx, List.all_eq_true.1 T1_ok x hx⟩) d
theorem known1_ct : Ct E 8 [] [] .kt [] := (run1_ok 12).call _ _ _ (by kernel_rfl)
end Go.Proofs.YtjafmphhnclfjabGreatDoor
