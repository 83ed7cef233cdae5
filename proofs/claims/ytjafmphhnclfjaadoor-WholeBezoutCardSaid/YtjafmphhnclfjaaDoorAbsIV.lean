/- From the contract of a law to its row and its card. -/
import Derived.Test.YtjafmphhnclfjaaDoorAbsR
import Derived.Test.YtjafmphhnclfjaaDoorNumI
import Derived.Deep.DeepHandedRow
import Derived.Deep.Slices
import Derived.Carry
import Derived.Lay
import Derived.SevenTiedAt
import Derived.SizedLaws
import Derived.OpenShut
import Derived.MakeChecks
import Derived.ChangeMaps5
set_option linter.all false
namespace GoAbs
open Go Go.RowKit Go.ChangeShapes Go.WideShapes Go.ChangeAt Num
section
variable {H : Type} {enc : TypeId × Value → H} {P : Program}
theorem post_below {f : Func} {s : ChangeSpec} {apart fresh handsOn again : Bool} {W W' : World} {args : Array Value} {v : Value} {ds gs : List (DataW H)} {before pa pv : List MemPlace}
    (hW : DataW.Whole enc P f.params.toList s.vars apart W args.toList ds gs before)
    (hres : ∀ (b : Nat) (sp : Nat → Bool) (hd : Bool), DataW.TrodAll enc P W' b sp hd f.resultTypes.toList (v.resultList f.resultTypes.size) (s.fn H (ds ++ gs)).results [])
    (hargs : ∀ sp : Nat → Bool, (∀ p ∈ before, sp p.block = true) → DataW.TrodAll enc P W' 0 sp true f.params.toList args.toList (s.fn H (ds ++ gs)).args pa)
    (hvars : ∀ sp : Nat → Bool, (∀ p ∈ before, sp p.block = true) → DataW.TrodVars enc P W' sp s.vars (s.fn H (ds ++ gs)).vars pv)
    (hps : before = pa ++ pv) (hb : Below W.heap.size W W')
    (hok : ∀ (j : Nat) (t : TypeId) (r : Value), f.resultTypes[j]? = some t → (v.resultList f.resultTypes.size)[j]? = some r → Value.okWide P W' .any 0 t r) :
    s.post enc P f apart fresh handsOn again W args v W' := by
  have hlt : ∀ p ∈ before, p.block < W.heap.size := fun p hp => hW.lt p hp
  have hold : ∀ p ∈ before, (fun b => decide (b < W.heap.size)) p.block = true := fun p hp => by simpa using hlt p hp
  refine ⟨ds, gs, before, [], pa, pv, hW, hres _ _ _, hargs _ hold, hvars _ hold, World.keptBut_mono (fun p hp => ⟨hp, ?_⟩) (hb.frame (· ∈ before)), fun _ => ?_⟩
  · rw [hps, List.mem_append] at hp
    exact Or.inr hp
  · obtain ⟨_, _, _, _, _, hz, hn⟩ := hW
    refine ⟨hok, _, _, ([] ++ pa) ++ pv, ⟨[] ++ pa, pv, trodAll_append (hargs _ (fun _ _ => rfl)) (hres _ _ _), hvars _ (fun _ _ => rfl), rfl, ?_, ?_⟩, ?_⟩
    · intro b off hp
      have hin : MemPlace.cell b off ∈ before := by rw [hps]; simpa using hp
      rw [hb.frozen (hlt _ hin)]
      exact hz b off hin
    · intro ha
      have := hn ha
      rw [hps] at this
      simpa using this
    · intro p hp _
      rw [hps]
      simpa using hp

theorem trodAll_stays (hl : laidOutB P = true) {W W' : World} (hb : Below W.heap.size W W') {sp : Nat → Bool} : ∀ {ts : List TypeId} {vs : List Value} {ds : List (DataW H)} {ps : List MemPlace},
    (∀ t ∈ ts, P.readableRec t = true ∧ t < P.types.size) → (∀ p ∈ ps, p.block < W.heap.size) → (∀ p ∈ ps, sp p.block = true) →
    DataW.TrodAll enc P W 0 (fun _ => true) true ts vs ds ps → DataW.TrodAll enc P W' 0 sp true ts vs ds ps
  | [], vs, ds, ps, _, _, _, h => by
    obtain ⟨rfl, rfl, rfl⟩ := trodAll_nil h
    rfl
  | t :: ts, vs, ds, ps, hr, hlt, hs, h => by
    obtain ⟨v, vs', d, ds', p, q, rfl, rfl, rfl, h1, h2⟩ := trodAll_cons h
    refine trodAll_cons_mk (WideElems.Trod_stays hl (hr t List.mem_cons_self).1 (hr t List.mem_cons_self).2 h1 (fun x hx => hb.same (hlt x (List.mem_append.2 (.inl hx)))) (fun x hx => hs x (List.mem_append.2 (.inl hx)))) ?_
    exact trodAll_stays hl hb (fun t ht => hr t (List.mem_cons_of_mem _ ht)) (fun x hx => hlt x (List.mem_append.2 (.inr hx))) (fun x hx => hs x (List.mem_append.2 (.inr hx))) h2
end

theorem fns_nil {P : Program} : ∀ x ∈ ([] : List FnT), P.funcs[x.id]? = some x.fn := fun _ h => by cases h
theorem fns_cons {P : Program} {id : Nat} {fn : Func} {l : List FnT} (h : P.funcs[id]? = some fn) (t : ∀ x ∈ l, P.funcs[x.id]? = some x.fn) : ∀ x ∈ (⟨id, fn⟩ :: l : List FnT), P.funcs[x.id]? = some x.fn := fun x hx => by
  rcases List.mem_cons.1 hx with rfl | hx
  · exact h
  · exact t x hx

/-- A law's contract, as the row wants it. -/
theorem law_calls {E : Env} {f : FuncId} {fn : Func} {c : Code} (hf : E.P.funcs[f]? = some fn) (hb : fn.body = some c) (hname : (fn.name == "runtime.NumGoroutine") = false) 
    {W : World} (hG : E.G W) {L : List AV} {vals : List Value} (hv : RVs W (· < W.heap.size) noφ L vals) (hct : Ct E f L [] .kt []) :
    Calls E.P f vals.toArray W fun e W' => e = .returned (.bool true) ∧ Below W.heap.size W W' := by
  have hbn : fn.body.isNone = false := by rw [hb]; rfl
  have hcall : (callFunc f vals.toArray).run E.P W = .ok (.enter f vals.toArray) W := by
    unfold callFunc
    rw [Sem.run_bind, run_program, Result.andThen_ok]
    simp only [hf, hname, hbn, Bool.false_eq_true, if_false, Sem.run_pure]
  have hio : ∀ M, ioOf [] M = fun _ => False := by
    intro M
    funext k
    simp [ioOf, ioGet]
  have h := hct W vals (fun _ => .virt) (· < W.heap.size) ?_ ?_
  · unfold CallW at h
    rw [hcall] at h
    refine Calls.mono h fun e W' he => ?_
    cases e <;> try exact he.elim
    obtain ⟨M', ok', hl, hr⟩ := he
    cases hr
    refine ⟨rfl, ⟨hl.hr.os, hl.hr.tape, hl.hr.output, hl.hr.size, fun k hk => hl.hr.frame k hk ?_⟩⟩
    rw [hio]
    exact fun h => h
  · exact { blk := fun id b h => by simp [hsOf, ioGet] at h, ver := fun id b h => by simp [hsOf, ioGet] at h, inj := fun id _ b _ _ _ _ _ _ _ _ _ _ h => by simp [hsOf, ioGet] at h,
            lo := fun id b _ _ _ _ _ h => by simp [hsOf, ioGet] at h, okb := fun k hk => ⟨hk, fun id b _ _ _ _ h => by simp [hsOf, ioGet] at h⟩, frame := fun _ _ _ => rfl, size := Nat.le_refl _, os := rfl, output := rfl, tape := rfl, G := hG }
  · rw [place_nil]
    exact hv

section
variable {H : Type} {enc : TypeId × Value → H} {W : World}

/-- The row's contract, out of the law's. -/
theorem law_row {E : Env} {f : FuncId} {fn : Func} {c : Code} {s : ChangeSpec} (hf : E.P.funcs[f]? = some fn) (hb : fn.body = some c) (hname : (fn.name == "runtime.NumGoroutine") = false) 
    (hlo : laidOutB E.P = true) (hro : (fn.params.toList.all fun t => E.P.readableRec t && decide (t < E.P.types.size)) = true) {tb : TypeId} (hrt : fn.resultTypes = #[tb]) (htb : E.P.underlying tb = some .bool)
    (hvars : s.vars = []) {args : Array Value} {ds gs : List (DataW H)} {before : List MemPlace} (hsp : s.fn H ds = { results := [.lit (.bool true)], args := ds })
    (hW : DataW.Whole enc E.P fn.params.toList s.vars false W args.toList ds gs before) (hG : E.G W) {L : List AV} (hv : RVs W (· < W.heap.size) noφ L args.toList) (hct : Ct E f L [] .kt []) :
    Calls E.P f args W fun e W' => ∃ v, e = .returned v ∧ s.post enc E.P fn false true false false W args v W' := by
  have hc := law_calls hf hb hname hG hv hct
  have ea : args.toList.toArray = args := by simp
  rw [ea] at hc
  have hW' := hW
  obtain ⟨p, q, hA, hV, rfl, hz, hn⟩ := hW
  rw [hvars] at hV
  obtain ⟨rfl, rfl⟩ := trodVars_none hV
  refine hc.mono fun e W' ⟨he, hbl⟩ => ?_
  subst he
  have hlt : ∀ x ∈ p, x.block < W.heap.size := fun x hx => hW'.lt x (by simpa using hx)
  have hro' : ∀ t ∈ fn.params.toList, E.P.readableRec t = true ∧ t < E.P.types.size := fun t ht => by
    have := List.all_eq_true.1 hro t ht
    simpa using this
  refine ⟨_, rfl, post_below (pa := p) (pv := []) hW' ?_ ?_ ?_ rfl hbl ?_⟩
  · intro b sp hd
    rw [List.append_nil, hsp, hrt]
    exact trodAll_mk1 (shut_bool htb _)
  · intro sp hs
    rw [List.append_nil, hsp]
    exact trodAll_stays hlo hbl hro' hlt (fun x hx => hs x (by simpa using hx)) hA
  · intro sp hs
    rw [List.append_nil, hsp, hvars]
    rfl
  · exact ok_one hrt rfl (okWide_bool_mk htb _)

theorem open_bytes {P : Program} {r : Go.Reach} {b0 : Nat} {t e : TypeId} {v : Value} {d : DataW H} {ps : List MemPlace} (ht : P.underlying t = some (.slice e)) (he : P.underlying e = some (.int .u8)) (hc : P.cellsOf e = 1) (hb : P.bytesOf e = 1)
    (hval : Value.okWide P W r b0 t v) (hd : DataW.Trod enc P W 0 (fun _ => true) true t v d ps) (hlt : ∀ p ∈ ps, p.block < W.heap.size) (hw : ∀ n ∈ d.weights P t, n ≤ reachBytes) :
    ∃ bs : List Nat, Num.Small 256 bs ∧ bs.length < 140737488355328 ∧ ∀ φ, RV W (· < W.heap.size) φ (.imm false 1 (w8 bs)) v := by
  obtain ⟨a0, len, cap, rfl⟩ := okWide_slice ht hval
  obtain ⟨fuel, hf⟩ := hd
  rcases open_ints ht he hc hf with ⟨h1, h2⟩ | ⟨a, len', cap', zs, h1, _, hl, hm, hzl, hx, hcell, hwf⟩
  · simp only [Value.cells, List.cons.injEq, Value.slice.injEq, and_true] at h1
    obtain ⟨rfl, rfl, rfl⟩ := h1
    exact ⟨[], .nil _, by decide, fun φ => .imm0 _ _ _ _ _⟩
  · simp only [Value.cells, List.cons.injEq, Value.slice.injEq, and_true] at h1
    obtain ⟨rfl, rfl, rfl⟩ := h1
    have hzl : zs.length = cap := by simpa using hzl
    simp only [Prod.mk.injEq] at hx
    obtain ⟨rfl, rfl⟩ := hx
    have hlen : len < 140737488355328 := by
      have := hw ((zs.take len).length * 1 + (zs.drop len).length * 1) (by
        simp only [DataW.weights, ht, hb]
        simp [lits])
      simp only [reachBytes, List.length_take, List.length_drop] at this
      omega
    have hrange : ∀ z ∈ zs, 0 ≤ z ∧ z < 256 := fun z hz => by
      have := hwf z hz
      simp only [Lit.wf, IntKind.min, IntKind.max, IntKind.signed, IntKind.bits] at this
      simp at this
      omega
    refine ⟨(zs.take len).map Int.toNat, ?_, by simp; omega, fun φ => ?_⟩
    · intro x hx
      obtain ⟨z, hz, rfl⟩ := List.mem_map.1 hx
      have := hrange z (List.mem_of_mem_take hz)
      omega
    · rcases Nat.eq_zero_or_pos len with h0 | h0
      · subst h0
        exact .imm0 _ _ _ _ _
      have c0 := hcell 0 (by omega)
      have hsp : a.spot = none := by simpa [Addr.add] using World.cell?_spot c0
      obtain ⟨blk, off, spot⟩ := a
      simp only at hsp
      subst hsp
      have hll : (w8 ((zs.take len).map Int.toNat)).length = len := by simp [wk]; omega
      have hfin : RV W (· < W.heap.size) φ (.imm false 1 (w8 ((zs.take len).map Int.toNat))) (.slice (some (ad blk off)) (w8 ((zs.take len).map Int.toNat)).length cap) := by
        refine .imm _ _ _ _ _ _ _ (((zs.take len).map fun z => Value.int .u8 z)) ?_ ?_ ?_ ?_ (by rw [hll]; omega)
        · exact hlt (.cell blk (off + 0)) (by simp [MemPlace.row]; omega)
        · intro x hx
          obtain ⟨z, hz, rfl⟩ := List.mem_map.1 hx
          exact ⟨⟨rfl, rfl⟩, rfl⟩
        · have : ∀ l : List Int, (∀ z ∈ l, 0 ≤ z ∧ z < 256) → RVs W (· < W.heap.size) noφ (flat (w8 (l.map Int.toNat))) (l.map fun z => Value.int .u8 z) := by
            intro l
            induction l with
            | nil => intro _; exact .nil _
            | cons z l ih =>
              intro h
              have e : ((z.toNat : Nat) : Int) = z := by have := h z List.mem_cons_self; omega
              have h1 := ih fun z hz => h z (List.mem_cons_of_mem _ hz)
              refine .cons _ _ _ _ _ ?_ h1
              show RV W (· < W.heap.size) noφ (.int .u8 ((z.toNat : Nat) : Int)) (.int .u8 z)
              rw [e]
              exact .int _ _ _
          exact this _ fun z hz => hrange z (List.mem_of_mem_take hz)
        · intro j v hj
          rw [List.getElem?_map] at hj
          obtain ⟨z, hz, rfl⟩ := Option.map_eq_some_iff.1 hj
          have hjl := (List.getElem?_eq_some_iff.1 hz).1
          rw [List.length_take] at hjl
          rw [List.getElem?_take_of_lt (by omega)] at hz
          have h1 := hcell j (by omega)
          rw [List.getD_eq_getElem?_getD, hz, ad_add] at h1
          exact h1
      rw [hll] at hfin
      exact hfin
end
end GoAbs
