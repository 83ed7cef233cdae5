/- Regions, in whatever order. Regions: sound in every order that the model may draw. Code, loops, whole functions. The contract of a function, out of its code; loops by an invariant. A table of types, and small words for walks. -/
import Derived.Test.YtjafmphhnclfjaaDoorAbsII
import Derived.Scope
import Derived.Laws.Externs
set_option linter.all false
section
namespace GoAbs
open Go

structure St where
  tm : Nat → AV
  s : HS

def ev (tm : Nat → AV) : Operand → AV
  | .tmp t => tm t
  | .const v => (litAV v).getD .any
  | .func f => .fn (.func f) [] []
  | .global _ => .any

def putd (tm : Nat → AV) (d : Option Nat) (v : AV) : Nat → AV :=
  match d with
  | some d => fun t => bif t == d then v else tm t
  | none => tm

/-- What an operation does, where its guard lets it. -/
def gate (all : List Oper) (o : Oper) (tm : Nat → AV) (ex sk : Prop) : Prop :=
  match o.guard with
  | none => ex
  | some (j, want) =>
    match (all[j]?).bind (·.dst) with
    | some d =>
      match tm d with
      | .kt => if want then ex else sk
      | .kf => if want then sk else ex
      | .bool b => if want then ifB b ex sk else ifB b sk ex
      | .tup _ => sk
      | _ => False
    | none => False

def opK (E : Env) (dr : Bool) (all : List Oper) (o : Oper) (st : St) (K : St → Prop) : Prop :=
  match st with
  | ⟨tm, s⟩ => gate all o tm (optFrc o.dst fun dst => natFrc (dst.getD 0) fun site => stepO E dr site o.op (ev tm) s fun v s' => v.frc fun v => s'.frc fun s' => K ⟨putd tm dst v, s'⟩) (optFrc o.dst fun dst => K ⟨putd tm dst (.tup []), s⟩)
theorem opK_eq (E : Env) (dr : Bool) (all : List Oper) (o : Oper) (st : St) (K : St → Prop) : opK E dr all o st K =
  gate all o st.tm (stepO E dr (o.dst.getD 0) o.op (ev st.tm) st.s fun v s' => K ⟨putd st.tm o.dst v, s'⟩) (K ⟨putd st.tm o.dst (.tup []), st.s⟩) := by
  cases st
  simp only [opK, AV.frc_eq, HS.frc_eq, natFrc_eq, optFrc_eq]

def opsK (E : Env) (dr : Bool) (all : List Oper) (l : List Oper) (st : St) (K : St → Prop) : Prop :=
  List.rec (motive := fun _ => St → Prop) (fun st => K st) (fun o _ ih st => opK E dr all o st ih) l st

theorem Tr.ang {α : Type} {E : Env} {t : Tr α} {K : α → Prop} (h : t.run E K) : ∃ x, t.run E (· = x) ∧ K x := by
  induction t with
  | fail => exact h.elim
  | ok a => exact ⟨a, rfl, h⟩
  | need p k ih => obtain ⟨x, h1, h2⟩ := ih h.2; exact ⟨x, ⟨h.1, h1⟩, h2⟩
  | look es i k ih => obtain ⟨v, hv, h⟩ := h; obtain ⟨x, h1, h2⟩ := ih v h; exact ⟨x, ⟨v, hv, h1⟩, h2⟩
  | call f args k ih => obtain ⟨v, hv, h⟩ := h; obtain ⟨x, h1, h2⟩ := ih v h; exact ⟨x, ⟨v, hv, h1⟩, h2⟩
  | callB f args k ih => obtain ⟨v, hv, hd, h⟩ := h; obtain ⟨x, h1, h2⟩ := ih v h; exact ⟨x, ⟨v, hv, hd, h1⟩, h2⟩
  | br b t e iht ihe =>
    cases b
    · obtain ⟨x, h1, h2⟩ := ihe (h.2 rfl); exact ⟨x, ifB_neg rfl h1, h2⟩
    · obtain ⟨x, h1, h2⟩ := iht (h.1 rfl); exact ⟨x, ifB_pos rfl h1, h2⟩
  | cnv o k ih => obtain ⟨vs, s, hv, h⟩ := h; obtain ⟨x, h1, h2⟩ := ih vs s h; exact ⟨x, ⟨vs, s, hv, h1⟩, h2⟩
  | callW f args io k ih => obtain ⟨v, out, hv, hd, h⟩ := h; obtain ⟨x, h1, h2⟩ := ih v out h; exact ⟨x, ⟨v, out, hv, hd, h1⟩, h2⟩
theorem Tr.dummy : True := trivial
theorem Tr.mono {α : Type} {E : Env} {t : Tr α} {K K' : α → Prop} (h : t.run E K) (hk : ∀ x, K x → K' x) : t.run E K' := by
  induction t with
  | fail => exact h.elim
  | ok a => exact hk _ h
  | need p k ih => exact ⟨h.1, ih h.2⟩
  | look es i k ih => obtain ⟨v, hv, h⟩ := h; exact ⟨v, hv, ih v h⟩
  | call f args k ih => obtain ⟨v, hv, h⟩ := h; exact ⟨v, hv, ih v h⟩
  | callB f args k ih => obtain ⟨v, hv, hd, h⟩ := h; exact ⟨v, hv, hd, ih v h⟩
  | br b t e iht ihe => exact ⟨fun hb => iht (h.1 hb), fun hb => ihe (h.2 hb)⟩
  | cnv o k ih => obtain ⟨vs, s, hv, h⟩ := h; exact ⟨vs, s, hv, ih vs s h⟩
  | callW f args io k ih => obtain ⟨v, out, hv, hd, h⟩ := h; exact ⟨v, out, hv, hd, ih v out h⟩

/-- The effect of an operation, as a relation. -/
def Eff (E : Env) (dr : Bool) (site : Nat) (op : Op) (ρ : Operand → AV) (s : HS) (v : AV) (s' : HS) : Prop := stepO E dr site op ρ s fun v2 s2 => v2 = v ∧ s2 = s'
theorem stepO_eff {E : Env} {dr : Bool} {site : Nat} {op : Op} {ρ : Operand → AV} {s : HS} {K : AV → HS → Prop} (h : stepO E dr site op ρ s K) : ∃ v s', Eff E dr site op ρ s v s' ∧ K v s' := by
  unfold Eff
  unfold stepO at *
  split at h
  · obtain ⟨v, h1, h2⟩ := Tr.ang h; exact ⟨v, s, Tr.mono h1 fun x hx => ⟨hx, rfl⟩, h2⟩
  · obtain ⟨v, h1, h2⟩ := Tr.ang h; exact ⟨v, s, Tr.mono h1 fun x hx => ⟨hx, rfl⟩, h2⟩
  · obtain ⟨x, h1, h2⟩ := Tr.ang h; exact ⟨x.1, x.2, Tr.mono h1 fun y hy => ⟨by rw [hy], by rw [hy]⟩, h2⟩
theorem Eff.run {E : Env} {dr : Bool} {site : Nat} {op : Op} {ρ : Operand → AV} {s : HS} {v : AV} {s' : HS} {K : AV → HS → Prop} (h : Eff E dr site op ρ s v s') (hk : K v s') : stepO E dr site op ρ s K := by
  unfold Eff at h
  unfold stepO at *
  split at h
  · exact Tr.mono h fun x ⟨h1, h2⟩ => by subst h1; subst h2; exact hk
  · exact Tr.mono h fun x ⟨h1, h2⟩ => by subst h1; subst h2; exact hk
  · exact Tr.mono h fun x ⟨h1, h2⟩ => by subst h1; subst h2; exact hk
theorem Eff.same {E : Env} {dr : Bool} {site : Nat} {op : Op} {ρ : Operand → AV} {s : HS} {v : AV} {s' : HS} (h : Eff E dr site op ρ s v s') (hc : cls E op = 1 ∨ cls E op = 2) : s' = s := by
  unfold Eff stepO at h
  rcases hc with hc | hc
  · simp only [hc] at h; obtain ⟨x, _, h2⟩ := Tr.ang h; exact h2.2.symm
  · simp only [hc] at h; obtain ⟨x, _, h2⟩ := Tr.ang h; exact h2.2.symm
theorem Eff.any {E : Env} {dr : Bool} {site : Nat} {op : Op} {ρ : Operand → AV} {s : HS} {v : AV} {s' : HS} (h : Eff E dr site op ρ s v s') (hc : cls E op = 1) (s2 : HS) : Eff E dr site op ρ s2 v s2 := by
  unfold Eff stepO at *
  simp only [hc] at h ⊢
  exact Tr.mono h fun x hx => ⟨hx.1, trivial⟩

theorem map_congr_ops {α β : Type} {f g : α → β} {l : List α} (h : ∀ x ∈ l, f x = g x) : l.map f = l.map g := List.map_congr_left h

theorem calleeA_congr {c : Call} {ρ ρ' : Operand → AV} (h : ∀ x ∈ c.operands, ρ x = ρ' x) : calleeA ρ c = calleeA ρ' c := by
  unfold calleeA
  split
  · rename_i f hc
    have hf : ρ f = ρ' f := h f (by simp [Call.operands, hc])
    have ha : c.args.toList.map ρ = c.args.toList.map ρ' := map_congr_ops fun x hx => h x (by simp [Call.operands]; right; simpa using hx)
    rw [hf, ha]
  · rfl

theorem sem1_congr {E : Env} {op : Op} {ρ ρ' : Operand → AV} (h : ∀ x ∈ op.operands, ρ x = ρ' x) : sem1 E op ρ = sem1 E op ρ' := by
  cases op with
  | move x => simp only [sem1, h x (by simp [Op.operands])]
  | assign x => simp only [sem1, h x (by simp [Op.operands])]
  | pick c a b => simp only [sem1, h c (by simp [Op.operands]), h a (by simp [Op.operands]), h b (by simp [Op.operands])]
  | build t parts =>
    simp only [sem1]
    congr 1
    refine List.map_congr_left fun p hp => ?_
    rw [h p.2 (by simp [Op.operands]; exact ⟨p.1, by simpa using hp⟩)]
  | nilCheck x => simp only [sem1, h x (by simp [Op.operands])]
  | binOp op t x y u => simp only [sem1, h x (by simp [Op.operands]), h y (by simp [Op.operands])]
  | unOp op t x => simp only [sem1, h x (by simp [Op.operands])]
  | convert a b x => simp only [sem1, h x (by simp [Op.operands])]
  | makeFunc fn first cap =>
    simp only [sem1]
    rw [List.map_congr_left (l := first.toList) fun x hx => h x (by simp [Op.operands]; left; simpa using hx), List.map_congr_left (l := cap.toList) fun x hx => h x (by simp [Op.operands]; right; simpa using hx)]
  | slice t x lo hi mx =>
    simp only [sem1, h x (by simp [Op.operands])]
    have e : ∀ o : Option Operand, (∀ y, o = some y → y ∈ (Op.slice t x lo hi mx).operands) → o.map ρ = o.map ρ' := by
      intro o ho
      cases o with
      | none => rfl
      | some y => simp [h y (ho y rfl)]
    rw [e lo (fun y hy => by subst hy; simp [Op.operands]), e hi (fun y hy => by subst hy; simp [Op.operands]), e mx (fun y hy => by subst hy; simp [Op.operands])]
  | fieldAddr t x f => simp only [sem1, h x (by simp [Op.operands])]
  | field t x f => simp only [sem1, h x (by simp [Op.operands])]
  | indexAddr t x i => simp only [sem1, h x (by simp [Op.operands]), h i (by simp [Op.operands])]
  | index t x i => simp only [sem1, h x (by simp [Op.operands]), h i (by simp [Op.operands])]
  | extract x i => simp only [sem1, h x (by simp [Op.operands])]
  | call c =>
    obtain ⟨callee, args, ats⟩ := c
    have ha : ∀ x ∈ args.toList, ρ x = ρ' x := fun x hx => h x (by simp [Op.operands, Call.operands]; right; simpa using hx)
    cases callee with
    | value f => rfl
    | invoke r m => rfl
    | builtin b =>
      cases b <;> try rfl
      · simp only [sem1]
        split
        · rename_i x t ts h1 h2
          rw [ha x (by rw [h1]; simp)]
        · rfl
      · simp only [sem1]
        split
        · rename_i x r h1
          rw [ha x (by rw [h1]; simp), List.map_congr_left (l := r) fun y hy => ha y (by rw [h1]; simp [hy])]
        · rfl
      · simp only [sem1]
        split
        · rename_i x r h1
          rw [ha x (by rw [h1]; simp), List.map_congr_left (l := r) fun y hy => ha y (by rw [h1]; simp [hy])]
        · rfl
  | _ => rfl
theorem sem2_congr {E : Env} {op : Op} {ρ ρ' : Operand → AV} {s : HS} (h : ∀ x ∈ op.operands, ρ x = ρ' x) : sem2 E op ρ s = sem2 E op ρ' s := by
  cases op with
  | load t x => simp only [sem2, h x (by simp [Op.operands])]
  | convert src dst x => simp only [sem2, h x (by simp [Op.operands])]
  | call c => simp only [sem2, callA]; rw [calleeA_congr (by simpa [Op.operands] using h)]
  | _ => rfl
theorem sem3_congr {E : Env} {dr : Bool} {site : Nat} {op : Op} {ρ ρ' : Operand → AV} {s : HS} (h : ∀ x ∈ op.operands, ρ x = ρ' x) : sem3 E dr site op ρ s = sem3 E dr site op ρ' s := by
  cases op with
  | box t x => simp only [sem3, h x (by simp [Op.operands])]
  | store t a x => simp only [sem3, h a (by simp [Op.operands]), h x (by simp [Op.operands])]
  | makeSlice t a x => simp only [sem3, h a (by simp [Op.operands]), h x (by simp [Op.operands])]
  | buildSlice t n parts =>
    have e : (parts.toList.map fun p => (p.1, ρ p.2)) = parts.toList.map fun p => (p.1, ρ' p.2) := by
      refine List.map_congr_left fun p hp => ?_
      rw [h p.2 (by simp [Op.operands]; exact ⟨p.1, by simpa using hp⟩)]
    simp only [sem3, e]
  | call c =>
    obtain ⟨callee, args, ats⟩ := c
    have ha : ∀ x ∈ args.toList, ρ x = ρ' x := fun x hx => h x (by simp [Op.operands, Call.operands]; right; simpa using hx)
    cases callee with
    | value f => simp only [sem3, callF]; rw [calleeA_congr (by simpa [Op.operands] using h)]
    | invoke r m => simp only [sem3, callF]; rw [calleeA_congr (by simpa [Op.operands] using h)]
    | builtin b =>
      cases b <;> try (simp only [sem3, callF]; rw [calleeA_congr (by simpa [Op.operands] using h)]; done)
      simp only [sem3]
      split
      · rename_i x y t t2 h1 h2
        rw [ha x (by rw [h1]; simp), ha y (by rw [h1]; simp)]
      · rfl
  | _ => rfl
theorem stepO_congr {E : Env} {dr : Bool} {site : Nat} {op : Op} {ρ ρ' : Operand → AV} {s : HS} {K : AV → HS → Prop} (h : ∀ x ∈ op.operands, ρ x = ρ' x) : stepO E dr site op ρ s K = stepO E dr site op ρ' s K := by
  unfold stepO
  rw [sem1_congr h, sem2_congr h, sem3_congr h]

/-- The temporaries that an operation looks at. -/
def looks (all : List Oper) (o : Oper) : List Nat :=
  (o.op.operands.toList.filterMap fun | .tmp t => some t | _ => none) ++
  (match o.guard with
   | some (j, _) => ((all[j]?).bind (·.dst)).toList
   | none => [])

def eff (E : Env) (dr : Bool) (all : List Oper) (o : Oper) (tm : Nat → AV) (s : HS) (v : AV) (s' : HS) : Prop :=
  gate all o tm (Eff E dr (o.dst.getD 0) o.op (ev tm) s v s') (v = .tup [] ∧ s' = s)
def stepR (E : Env) (dr : Bool) (all : List Oper) (o : Oper) (st st' : St) : Prop := ∃ v s', eff E dr all o st.tm st.s v s' ∧ st' = ⟨putd st.tm o.dst v, s'⟩

theorem gate_iff {all : List Oper} {o : Oper} {tm : Nat → AV} {ex sk : Prop} : gate all o tm ex sk ↔
    (o.guard = none ∧ ex) ∨ (∃ j want d b, o.guard = some (j, want) ∧ (all[j]?).bind (·.dst) = some d ∧ (tm d).toB = some b ∧ (b = want ∧ ex ∨ b ≠ want ∧ sk)) ∨
      (∃ j want d vs, o.guard = some (j, want) ∧ (all[j]?).bind (·.dst) = some d ∧ tm d = .tup vs ∧ sk) := by
  unfold gate
  cases hg : o.guard with
  | none => simp
  | some p =>
    obtain ⟨j, want⟩ := p
    simp only [reduceCtorEq, false_and, Option.some.injEq, Prod.mk.injEq, false_or]
    cases hd : (all[j]?).bind (·.dst) with
    | none =>
      simp only [false_iff]
      rintro (⟨j', w', d, b, ⟨rfl, rfl⟩, h, _⟩ | ⟨j', w', d, vs, ⟨rfl, rfl⟩, h, _⟩)
      · rw [hd] at h; simp at h
      · rw [hd] at h; simp at h
    | some d =>
      simp only
      constructor
      · intro h
        cases ht : tm d <;> simp only [ht] at h
        case kt => cases want <;> exact .inl ⟨j, _, d, true, ⟨rfl, rfl⟩, hd, by rw [ht]; rfl, by simpa using h⟩
        case kf => cases want <;> exact .inl ⟨j, _, d, false, ⟨rfl, rfl⟩, hd, by rw [ht]; rfl, by simpa using h⟩
        case bool b => cases want <;> cases b <;> exact .inl ⟨j, _, d, _, ⟨rfl, rfl⟩, hd, by rw [ht]; rfl, by simpa [ifB] using h⟩
        case tup vs => exact .inr ⟨j, want, d, vs, ⟨rfl, rfl⟩, hd, ht, h⟩
      · rintro (⟨j', w', d', b, ⟨rfl, rfl⟩, h, hb, hc⟩ | ⟨j', w', d', vs, ⟨rfl, rfl⟩, h, hb, hc⟩)
        · rw [hd] at h
          simp at h; subst h
          cases ht : tm d <;> rw [ht] at hb <;> simp [AV.toB] at hb <;> subst hb <;> cases want <;> (try rename_i b; cases b) <;> simpa [ifB] using hc
        · rw [hd] at h
          simp at h; subst h
          rw [hb]
          exact hc

theorem gate_mono {all : List Oper} {o : Oper} {tm : Nat → AV} {ex sk ex' sk' : Prop} (h : gate all o tm ex sk) (h1 : ex → ex') (h2 : sk → sk') : gate all o tm ex' sk' := by
  rw [gate_iff] at *
  rcases h with ⟨a, b⟩ | ⟨j, w, d, b, e1, e2, e3, e4⟩ | ⟨j, w, d, vs, e1, e2, e3, e4⟩
  · exact .inl ⟨a, h1 b⟩
  · exact .inr (.inl ⟨j, w, d, b, e1, e2, e3, e4.imp (fun x => ⟨x.1, h1 x.2⟩) (fun x => ⟨x.1, h2 x.2⟩)⟩)
  · exact .inr (.inr ⟨j, w, d, vs, e1, e2, e3, h2 e4⟩)
theorem gate_or {all : List Oper} {o : Oper} {tm : Nat → AV} {ex sk : Prop} (h : gate all o tm ex sk) : (ex ∧ gate all o tm True False) ∨ (sk ∧ gate all o tm False True) := by
  rw [gate_iff] at h
  rcases h with ⟨a, b⟩ | ⟨j, w, d, b, e1, e2, e3, ⟨e4, e5⟩ | ⟨e4, e5⟩⟩ | ⟨j, w, d, vs, e1, e2, e3, e4⟩
  · exact .inl ⟨b, gate_iff.2 (.inl ⟨a, trivial⟩)⟩
  · exact .inl ⟨e5, gate_iff.2 (.inr (.inl ⟨j, w, d, b, e1, e2, e3, .inl ⟨e4, trivial⟩⟩))⟩
  · exact .inr ⟨e5, gate_iff.2 (.inr (.inl ⟨j, w, d, b, e1, e2, e3, .inr ⟨e4, trivial⟩⟩))⟩
  · exact .inr ⟨e4, gate_iff.2 (.inr (.inr ⟨j, w, d, vs, e1, e2, e3, trivial⟩))⟩
theorem gate_congr {all : List Oper} {o : Oper} {tm tm' : Nat → AV} {ex sk : Prop} (h : ∀ t ∈ looks all o, tm t = tm' t) : gate all o tm ex sk ↔ gate all o tm' ex sk := by
  unfold gate
  cases hg : o.guard with
  | none => exact Iff.rfl
  | some p =>
    obtain ⟨j, want⟩ := p
    simp only
    cases hd : (all[j]?).bind (·.dst) with
    | none => exact Iff.rfl
    | some d =>
      have : tm d = tm' d := h d (by simp [looks, hg, hd])
      simp only [this]

theorem ev_congr {all : List Oper} {o : Oper} {tm tm' : Nat → AV} (h : ∀ t ∈ looks all o, tm t = tm' t) : ∀ x ∈ o.op.operands, ev tm x = ev tm' x := by
  intro x hx
  cases x with
  | tmp t => exact h t (by simp [looks]; left; exact ⟨.tmp t, by simpa using hx, rfl⟩)
  | _ => rfl

theorem eff_congr {E : Env} {dr : Bool} {all : List Oper} {o : Oper} {tm tm' : Nat → AV} {s : HS} {v : AV} {s' : HS} (h : ∀ t ∈ looks all o, tm t = tm' t) (he : eff E dr all o tm s v s') : eff E dr all o tm' s v s' := by
  unfold eff at *
  rw [gate_congr h] at he
  refine gate_mono he (fun hx => ?_) id
  unfold Eff at *
  rwa [stepO_congr (ev_congr h)] at hx
theorem eff_same {E : Env} {dr : Bool} {all : List Oper} {o : Oper} {tm : Nat → AV} {s : HS} {v : AV} {s' : HS} (he : eff E dr all o tm s v s') (hc : cls E o.op = 1 ∨ cls E o.op = 2) : s' = s := by
  rcases gate_or he with ⟨h, _⟩ | ⟨h, _⟩
  · exact h.same hc
  · exact h.2
theorem eff_any {E : Env} {dr : Bool} {all : List Oper} {o : Oper} {tm : Nat → AV} {s : HS} {v : AV} {s' : HS} (he : eff E dr all o tm s v s') (hc : cls E o.op = 1) (s2 : HS) : eff E dr all o tm s2 v s2 :=
  gate_mono he (fun h => h.any hc s2) (fun h => ⟨h.1, rfl⟩)

theorem opK_step {E : Env} {dr : Bool} {all : List Oper} {o : Oper} {st : St} {K : St → Prop} (h : opK E dr all o st K) : ∃ st', stepR E dr all o st st' ∧ K st' := by
  rw [opK_eq] at h
  rcases gate_or h with ⟨h, hg⟩ | ⟨h, hg⟩
  · obtain ⟨v, s', h1, h2⟩ := stepO_eff h
    exact ⟨_, ⟨v, s', gate_mono hg (fun _ => h1) (fun x => x.elim), rfl⟩, h2⟩
  · exact ⟨_, ⟨.tup [], st.s, gate_mono hg (fun x => x.elim) (fun _ => ⟨rfl, rfl⟩), rfl⟩, h⟩

def chain (E : Env) (dr : Bool) (all : List Oper) : List Oper → St → St → Prop
  | [], st, st' => st = st'
  | o :: r, st, st' => ∃ st1, stepR E dr all o st st1 ∧ chain E dr all r st1 st'
theorem opsK_chain {E : Env} {dr : Bool} {all : List Oper} : ∀ {l : List Oper} {st : St} {K : St → Prop}, opsK E dr all l st K → ∃ st', chain E dr all l st st' ∧ K st'
  | [], st, K, h => ⟨st, rfl, h⟩
  | o :: r, st, K, h => by
    obtain ⟨st1, h1, h2⟩ := opK_step h
    obtain ⟨st2, h3, h4⟩ := opsK_chain h2
    exact ⟨st2, ⟨st1, h1, h3⟩, h4⟩


/-- What an operation reads and writes of the call's own blocks (none: all). -/
structure Ft where
  rd : Option (List Nat)
  wr : Option (List Nat)
def has : Option (List Nat) → Nat → Prop
  | none, _ => True
  | some l, i => i ∈ l
def ownId : AV → List Nat
  | .own id .. => [id]
  | .ref id .. => [id]
  | _ => []
def isRefB : AV → Bool
  | .ref .. => true
  | _ => false
def foot (E : Env) (site : Nat) (op : Op) (ρ : Operand → AV) : Ft :=
  match op with
  | .load _ x => ⟨some (ownId (ρ x)), some []⟩
  | .alloc _ | .box .. | .makeSlice .. => ⟨some [site], some [site]⟩
  | .store _ a _ => ⟨some (ownId (ρ a)), some (ownId (ρ a))⟩
  | .buildSlice _ _ parts => (match AV.pureL ((parts.toList.map fun p => (p.1, ρ p.2)).map (·.2)) with
    | true => ⟨some [site], some [site]⟩
    | false => ⟨none, none⟩)
  | .call { callee := .builtin .append, args, .. } => (match args.toList with
    | [x, y] => (match ρ x with
      | .own id .. => ⟨some (id :: ownId (ρ y)), some [id]⟩
      | .nils => ⟨some (ownId (ρ y)), some [site]⟩
      | .cap0 => ⟨some (ownId (ρ y)), some [site]⟩
      | _ => ⟨none, none⟩)
    | _ => ⟨none, none⟩)
  | .call c => (match c.callee with
    | .value _ => (match calleeA ρ c with
      | some (g, as) => (match E.wrt g with
        | true => (match AV.pureL as && (match cls E (.call c) with | 3 => true | _ => false) with
          | true => ⟨some [site], some [site]⟩
          | false => ⟨none, none⟩)
        | false => (match AV.pureL as with
          | true => ⟨some [], some []⟩
          | false => (match cls E (.call c) with
            | 3 => ⟨none, none⟩
            | _ => ⟨none, some []⟩)))
      | none => ⟨none, none⟩)
    | _ => ⟨some [], some []⟩)
  | .convert src dst x => (match clsC E src dst with
    | 2 => (match AV.pureB (ρ x) with
      | true => ⟨some [], some []⟩
      | false => ⟨none, some []⟩)
    | _ => ⟨some [], some []⟩)
  | _ => ⟨some [], some []⟩

def same (s t : HS) (i : Nat) : Prop := s.hp i = t.hp i ∧ s.vr i = t.vr i
theorem same_all {s t : HS} (h : ∀ i, same s t i) : s = t := by
  cases s; cases t
  simp only [HS.mk.injEq]
  exact ⟨funext fun i => (h i).1, funext fun i => (h i).2⟩
def FrameF (E : Env) (site : Nat) (op : Op) (ρ : Operand → AV) (f : Ft) : Prop :=
  ∀ s v s', Eff E true site op ρ s v s' → (∀ i, ¬ has f.wr i → same s s' i) ∧
    ∀ t, (∀ i, has f.rd i ∨ has f.wr i → same s t i) → ∃ t', Eff E true site op ρ t v t' ∧ (∀ i, has f.wr i → same s' t' i) ∧ ∀ i, ¬ has f.wr i → same t t' i

theorem frame_all {E : Env} {site : Nat} {op : Op} {ρ : Operand → AV} {w : Option (List Nat)} (hw : w = none ∨ w = some [] ∧ (cls E op = 1 ∨ cls E op = 2)) : FrameF E site op ρ ⟨none, w⟩ := by
  intro s v s' h
  refine ⟨fun i hi => ?_, fun t ht => ?_⟩
  · rcases hw with rfl | ⟨rfl, hc⟩
    · exact (hi trivial).elim
    · rw [h.same hc]; exact ⟨rfl, rfl⟩
  · have : s = t := same_all fun i => ht i (.inl trivial)
    subst this
    refine ⟨s', h, fun i _ => ⟨rfl, rfl⟩, fun i hi => ?_⟩
    rcases hw with rfl | ⟨rfl, hc⟩
    · exact (hi trivial).elim
    · rw [h.same hc]; exact ⟨rfl, rfl⟩
theorem frame_none {E : Env} {site : Nat} {op : Op} {ρ : Operand → AV} {r : List Nat} (hc : cls E op = 1 ∨ cls E op = 2) (hd : ∀ (s : HS) (v : AV), Eff E true site op ρ s v s → ∀ t, (∀ i, i ∈ r → same s t i) → Eff E true site op ρ t v t) : FrameF E site op ρ ⟨some r, some []⟩ := by
  intro s v s' h
  have := h.same hc
  subst this
  refine ⟨fun i _ => ⟨rfl, rfl⟩, fun t ht => ⟨t, hd s' v h t fun i hi => ht i (.inl hi), fun i hi => ?_, fun i _ => ⟨rfl, rfl⟩⟩⟩
  simp [has] at hi
theorem frame_one {E : Env} {site : Nat} {op : Op} {ρ : Operand → AV} {r : List Nat} {id : Nat} (hd : ∀ s v s', Eff E true site op ρ s v s' → ∃ b n, s' = ⟨upd s.hp id b, upd s.vr id n⟩ ∧ ∀ t, (∀ i, i ∈ r ∨ i = id → same s t i) → Eff E true site op ρ t v ⟨upd t.hp id b, upd t.vr id n⟩) : FrameF E site op ρ ⟨some r, some [id]⟩ := by
  intro s v s' h
  obtain ⟨b, n, rfl, h2⟩ := hd s v s' h
  refine ⟨fun i hi => ?_, fun t ht => ⟨_, h2 t fun i hi => ht i (by simpa [has] using hi), fun i hi => ?_, fun i hi => ?_⟩⟩
  · simp [has] at hi; simp [same, upd, hi]
  · simp [has] at hi; subst hi; simp [same, upd]
  · simp [has] at hi; simp [same, upd, hi]

theorem eff2 {E : Env} {site : Nat} {op : Op} {ρ : Operand → AV} {s : HS} {v : AV} {s' : HS} (hc : cls E op = 2) : Eff E true site op ρ s v s' ↔ (sem2 E op ρ s).run E fun x => x = v ∧ s = s' := by
  unfold Eff stepO; simp only [hc]
theorem eff3 {E : Env} {site : Nat} {op : Op} {ρ : Operand → AV} {s : HS} {v : AV} {s' : HS} (hc : cls E op = 3) : Eff E true site op ρ s v s' ↔ (sem3 E true site op ρ s).run E fun x => x.1 = v ∧ x.2 = s' := by
  unfold Eff stepO; simp only [hc]

theorem frame1 {E : Env} {site : Nat} {op : Op} {ρ : Operand → AV} (hc : cls E op = 1) : FrameF E site op ρ ⟨some [], some []⟩ :=
  frame_none (.inl hc) fun s v h t _ => h.any hc t

theorem frame_load {E : Env} {site : Nat} {t : TypeId} {x : Operand} {ρ : Operand → AV} : FrameF E site (.load t x) ρ ⟨some (ownId (ρ x)), some []⟩ := by
  have hc : cls E (.load t x) = 2 := rfl
  refine frame_none (.inr hc) fun s v h u hu => ?_
  rw [eff2 hc] at h ⊢
  have : sem2 E (.load t x) ρ u = sem2 E (.load t x) ρ s := by
    simp only [sem2, loadA]
    cases hx : ρ x <;> cases E.tt t <;> try rfl
    rename_i id ver i off ti
    have : s.hp id = u.hp id := (hu id (by rw [hx]; simp [ownId])).1
    simp only [this]
  rw [this]
  exact Tr.mono h fun x hx => ⟨hx.1, rfl⟩

theorem put_eq (s : HS) (id : Nat) (ag : Bool) (sz : Nat) (es : List AV) (pu : Bool) : s.put id ag sz es pu = ⟨upd s.hp id (some { ag, sz, es, ver := s.vr id, pu }), upd s.vr id (s.vr id + 1)⟩ := rfl
theorem set_eq (s : HS) (id : Nat) (b : Blk) (es : List AV) : s.set id b es = ⟨upd s.hp id (some { b with es }), upd s.vr id (s.vr id)⟩ := by
  have : upd s.vr id (s.vr id) = s.vr := by funext i; unfold upd; split <;> simp_all
  rw [this]; rfl

theorem frame_allocA {E : Env} {site : Nat} {op : Op} {ρ : Operand → AV} {t : TypeId} {o : Option AV} (hc : cls E op = 3) (hs : ∀ s, sem3 E true site op ρ s = allocA E site t o s) : FrameF E site op ρ ⟨some [site], some [site]⟩ := by
  refine frame_one fun s v s' h => ?_
  rw [eff3 hc, hs] at h
  unfold allocA at h
  try simp only [HS.putE_eq, natFrc_eq, AV.frc_eq, listFrc_eq] at h
  split at h
  case h_2 => exact h.elim
  rename_i ti ht
  try simp only at h
  split at h
  case isFalse => exact h.elim
  rename_i hcond
  obtain ⟨rfl, rfl⟩ := h
  refine ⟨_, _, put_eq .., fun u hu => ?_⟩
  rw [eff3 hc, hs]
  unfold allocA
  try simp only [HS.putE_eq, natFrc_eq, AV.frc_eq, listFrc_eq]
  simp only [ht]
  rw [if_pos hcond]
  have := (hu site (.inr rfl)).2
  exact ⟨by rw [this], by rw [put_eq]; simp only [this]⟩

theorem frame_makeA {E : Env} {site : Nat} {t : TypeId} {a x : Operand} {ρ : Operand → AV} : FrameF E site (.makeSlice t a x) ρ ⟨some [site], some [site]⟩ := by
  have hc : cls E (.makeSlice t a x) = 3 := rfl
  refine frame_one fun s v s' h => ?_
  rw [eff3 hc] at h
  simp only [sem3, makeA, HS.putE_eq, natFrc_eq, AV.frc_eq, listFrc_eq] at h
  split at h
  case h_2 => exact h.elim
  rename_i ht
  split at h
  case h_2 => exact h.elim
  rename_i he hl hm
  split at h
  case isTrue => exact h.elim
  rename_i hz
  obtain ⟨hn, rfl, rfl⟩ := h
  refine ⟨_, _, put_eq .., fun u hu => ?_⟩
  rw [eff3 hc]
  simp only [sem3, makeA, ht, he, hl, hm, HS.putE_eq, natFrc_eq, AV.frc_eq, listFrc_eq]
  rw [if_neg hz]
  have := (hu site (.inr rfl)).2
  exact ⟨hn, by rw [this], by rw [put_eq]; simp only [this]⟩

theorem frame_buildP {E : Env} {site : Nat} {t : TypeId} {n : Nat} {parts : Array (Nat × Operand)} {ρ : Operand → AV} (hp : AV.pureL ((parts.toList.map fun p => (p.1, ρ p.2)).map (·.2)) = true) : FrameF E site (.buildSlice t n parts) ρ ⟨some [site], some [site]⟩ := by
  have hc : cls E (.buildSlice t n parts) = 3 := rfl
  refine frame_one fun s v s' h => ?_
  rw [eff3 hc] at h
  simp only [sem3, buildP, hp, buildSliceA, HS.putE_eq, natFrc_eq, AV.frc_eq, listFrc_eq] at h
  split at h
  case h_2 => exact h.elim
  rename_i ht
  split at h
  case h_2 => exact h.elim
  rename_i he
  split at h
  case isTrue => exact h.elim
  rename_i hz
  split at h
  case h_2 => exact h.elim
  rename_i hl
  split at h
  case isFalse => exact h.elim
  rename_i hlen
  obtain ⟨rfl, rfl⟩ := h
  refine ⟨_, _, put_eq .., fun u hu => ?_⟩
  rw [eff3 hc]
  simp only [sem3, buildP, hp, buildSliceA, ht, he, hl, HS.putE_eq, natFrc_eq, AV.frc_eq, listFrc_eq]
  rw [if_neg hz, if_pos hlen]
  have := (hu site (.inr rfl)).2
  exact ⟨by rw [this], by rw [put_eq]; simp only [this]⟩

theorem frame_store {E : Env} {site : Nat} {t : TypeId} {a x : Operand} {ρ : Operand → AV} : FrameF E site (.store t a x) ρ ⟨some (ownId (ρ a)), some (ownId (ρ a))⟩ := by
  have hc : cls E (.store t a x) = 3 := rfl
  have hcut : ∀ s v s', Eff E true site (.store t a x) ρ s v s' → (rowAt (ρ a) s && !(ρ x).pureB) = false ∧ (storeA E t (ρ a) (ρ x) s).run E fun y => y.1 = v ∧ y.2 = s' := by
    intro s v s' h
    rw [eff3 hc] at h
    simp only [sem3, storeP] at h
    split at h
    · rename_i hr; exact ⟨hr, h⟩
    · exact h.elim
  cases ha : ρ a with
  | ref id ver i off =>
    rw [ha] at hcut
    refine frame_one fun s v s' h => ?_
    obtain ⟨hr, h⟩ := hcut s v s' h
    unfold storeA at h
    try simp only [Blk.frc_eq, AV.frc_eq, listFrc_eq, HS.setE_eq] at h
    split at h
    case h_2 => exact h.elim
    rename_i ti id' ver' i' off' ht he
    simp only [AV.ref.injEq] at he
    obtain ⟨rfl, rfl, rfl, rfl⟩ := he
    split at h
    case h_2 => exact h.elim
    rename_i b hb
    obtain ⟨hv, h⟩ := h
    split at h
    case isFalse => exact h.elim
    rename_i hc1
    have fin : ∀ es, s' = s.set id b es → v = .any → (∀ u : HS, u.hp id = some b → (storeA E t (.ref id ver i off) (ρ x) u).run E (fun y => y.1 = .any ∧ y.2 = u.set id b es)) →
        ∃ b n, s' = ⟨upd s.hp id b, upd s.vr id n⟩ ∧ ∀ t', (∀ i_1, i_1 ∈ ownId (.ref id ver i off) ∨ i_1 = id → same s t' i_1) → Eff E true site (.store t a x) ρ t' v ⟨upd t'.hp id b, upd t'.vr id n⟩ := by
      rintro es rfl rfl hrun
      refine ⟨_, _, set_eq .., fun u hu => ?_⟩
      have hid := hu id (.inr rfl)
      have hu1 : u.hp id = some b := by rw [← hid.1, hb]
      rw [eff3 hc]
      simp only [sem3, storeP, ha]
      have : rowAt (.ref id ver i off) u = rowAt (.ref id ver i off) s := by unfold rowAt; simp only [hid.1]
      rw [this, hr]
      refine Tr.mono (hrun u hu1) fun y hy => ⟨hy.1, ?_⟩
      rw [hy.2, set_eq, hid.2]
    split at h
    · rename_i hpu
      split at h
      · rename_i hw
        obtain ⟨hi, h⟩ := h
        refine fin _ h.2.symm h.1.symm fun u hu => ?_
        unfold storeA
        try simp only [Blk.frc_eq, AV.frc_eq, listFrc_eq, HS.setE_eq]
        simp only [ht, hu]
        refine ⟨hv, ?_⟩
        rw [if_pos hc1, if_pos hpu, if_pos hw]
        exact ⟨hi, rfl, rfl⟩
      · exact h.elim
    · rename_i hpu
      split at h
      case h_2 => exact h.elim
      rename_i old hold
      split at h
      case h_2 => exact h.elim
      rename_i v' hst
      refine fin _ h.2.symm h.1.symm fun u hu => ?_
      unfold storeA
      try simp only [Blk.frc_eq, AV.frc_eq, listFrc_eq, HS.setE_eq]
      simp only [ht, hu]
      refine ⟨hv, ?_⟩
      rw [if_pos hc1, if_neg hpu]
      simp only [hold, hst]
      exact ⟨trivial, trivial⟩
  | _ =>
    intro s v s' h
    obtain ⟨_, h⟩ := hcut s v s' h
    rw [ha] at h
    unfold storeA at h
    try simp only [Blk.frc_eq, AV.frc_eq, listFrc_eq, HS.setE_eq] at h
    split at h
    · rename_i he; simp at he
    · exact h.elim

theorem added_same {ti : TyI} {s u : HS} {y : AV} (h : ∀ i, i ∈ ownId y → same s u i) : addedA ti u y = addedA ti s y := by
  unfold addedA
  try simp only [Blk.frc_eq, AV.frc_eq, listFrc_eq, HS.setE_eq]
  cases y <;> try rfl
  rename_i id _ _ _ _
  have := (h id (by simp [ownId])).1
  simp only [this]

theorem frame_append {E : Env} {site : Nat} {args : Array Operand} {ats : Array TypeId} {ρ : Operand → AV} {x y : Operand} (hx : args.toList = [x, y]) : FrameF E site (.call { callee := .builtin .append, args := args, argTypes := ats }) ρ (match ρ x with
      | .own id .. => ⟨some (id :: ownId (ρ y)), some [id]⟩
      | .nils => ⟨some (ownId (ρ y)), some [site]⟩
      | .cap0 => ⟨some (ownId (ρ y)), some [site]⟩
      | _ => ⟨none, none⟩) := by
  have hc : cls E (.call { callee := .builtin .append, args := args, argTypes := ats }) = 3 := rfl
  have hsem : ∀ s, sem3 E true site (.call { callee := .builtin .append, args := args, argTypes := ats }) ρ s = match ats.toList with | [t, t2] => appendA E site t t2 (ρ x) (ρ y) s | _ => .fail := by
    intro s
    simp only [sem3, hx]
    split
    · rename_i h1 h2 h3; simp at h2; obtain ⟨rfl, rfl⟩ := h2; rw [h3]
    · rename_i h1
      split
      · rename_i h2; exact (h1 _ _ _ _ rfl h2).elim
      · rfl
  cases hxv : ρ x with
  | nils =>
    refine frame_one fun s v s' h => ?_
    rw [eff3 hc, hsem, hxv] at h
    split at h
    case h_2 => exact h.elim
    rename_i t t2 hat
    unfold appendA at h
    try simp only [HS.putE_eq, natFrc_eq, AV.frc_eq, listFrc_eq] at h
    try simp only [Blk.frc_eq, AV.frc_eq, listFrc_eq, HS.setE_eq] at h
    split at h
    case h_2 => exact h.elim
    rename_i ht
    split at h
    case h_2 => exact h.elim
    rename_i he ht2
    split at h
    case isTrue => exact h.elim
    rename_i hz
    split at h
    case h_1 => exact h.elim
    rename_i hd
    rw [Tr.run_bind] at h
    obtain ⟨ys, h1, h2⟩ := Tr.ang h
    obtain ⟨h2, rfl, rfl⟩ := h2
    refine ⟨_, _, put_eq .., fun u hu => ?_⟩
    have hs := (hu site (.inr rfl)).2
    rw [eff3 hc, hsem, hxv, hat]
    unfold appendA
    try simp only [HS.putE_eq, natFrc_eq, AV.frc_eq, listFrc_eq]
    try simp only [Blk.frc_eq, AV.frc_eq, listFrc_eq, HS.setE_eq]
    simp only [ht, he, ht2]
    rw [if_neg hz]
    rw [Tr.run_bind, added_same fun i hi => hu i (.inl hi)]
    refine Tr.mono h1 fun z hz => ?_
    subst hz
    exact ⟨h2, by rw [hs], by rw [put_eq]; simp only [hs]⟩
  | cap0 =>
    refine frame_one fun s v s' h => ?_
    rw [eff3 hc, hsem, hxv] at h
    split at h
    case h_2 => exact h.elim
    rename_i t t2 hat
    unfold appendA at h
    try simp only [HS.putE_eq, natFrc_eq, AV.frc_eq, listFrc_eq] at h
    try simp only [Blk.frc_eq, AV.frc_eq, listFrc_eq, HS.setE_eq] at h
    split at h
    case h_2 => exact h.elim
    rename_i ht
    split at h
    case h_2 => exact h.elim
    rename_i he ht2
    split at h
    case isTrue => exact h.elim
    rename_i hz
    split at h
    case h_1 => exact h.elim
    rename_i hd
    rw [Tr.run_bind] at h
    obtain ⟨ys, h1, h2⟩ := Tr.ang h
    obtain ⟨h2, rfl, rfl⟩ := h2
    refine ⟨_, _, put_eq .., fun u hu => ?_⟩
    have hs := (hu site (.inr rfl)).2
    rw [eff3 hc, hsem, hxv, hat]
    unfold appendA
    try simp only [HS.putE_eq, natFrc_eq, AV.frc_eq, listFrc_eq]
    try simp only [Blk.frc_eq, AV.frc_eq, listFrc_eq, HS.setE_eq]
    simp only [ht, he, ht2]
    rw [if_neg hz]
    rw [Tr.run_bind, added_same fun i hi => hu i (.inl hi)]
    refine Tr.mono h1 fun z hz => ?_
    subst hz
    exact ⟨h2, by rw [hs], by rw [put_eq]; simp only [hs]⟩
  | own id ver sz off len =>
    refine frame_one fun s v s' h => ?_
    rw [eff3 hc, hsem, hxv] at h
    split at h
    case h_2 => exact h.elim
    rename_i t t2 hat
    unfold appendA at h
    try simp only [HS.putE_eq, natFrc_eq, AV.frc_eq, listFrc_eq] at h
    try simp only [Blk.frc_eq, AV.frc_eq, listFrc_eq, HS.setE_eq] at h
    split at h
    case h_2 => exact h.elim
    rename_i ht
    split at h
    case h_2 => exact h.elim
    rename_i he ht2
    split at h
    case isTrue => exact h.elim
    rename_i hz
    split at h
    case h_1 => exact h.elim
    rename_i hd
    rw [Tr.run_bind] at h
    obtain ⟨ys, h1, h2⟩ := Tr.ang h
    try simp only at h2
    split at h2
    case h_2 => exact h2.elim
    rename_i b hb
    split at h2
    case isFalse => exact h2.elim
    rename_i hcond
    obtain ⟨h2, rfl, rfl⟩ := h2
    refine ⟨_, _, put_eq .., fun u hu => ?_⟩
    have hs := hu id (.inr rfl)
    rw [eff3 hc, hsem, hxv, hat]
    unfold appendA
    try simp only [HS.putE_eq, natFrc_eq, AV.frc_eq, listFrc_eq]
    try simp only [Blk.frc_eq, AV.frc_eq, listFrc_eq, HS.setE_eq]
    simp only [ht, he, ht2]
    rw [if_neg hz]
    rw [Tr.run_bind, added_same fun i hi => hu i (.inl (by simp [hi]))]
    refine Tr.mono h1 fun z hz => ?_
    subst hz
    simp only [← hs.1, hb]
    rw [if_pos hcond]
    exact ⟨h2, by rw [hs.2], by rw [put_eq]; simp only [hs.2]⟩
  | _ => exact frame_all (.inl rfl)

theorem ownIds_pure {v : AV} (h : v.pureB = true) : ownIds v = [] := by
  have key : ∀ cs : List AV, AV.pureL cs = true → (cs.flatMap fun | .own id .. => [id] | .ref id .. => [id] | _ => []) = [] := by
    intro cs hcs
    rw [pureL_iff] at hcs
    rw [List.flatMap_eq_nil_iff]
    intro c hc
    have := hcs c hc
    cases c <;> first | rfl | (simp [AV.pureB] at this)
  cases v <;> first | rfl | (simp [AV.pureB] at h; done) | skip
  · rename_i cs; exact key cs (by simpa [AV.pureB] using h)
  · rename_i f a b
    simp only [AV.pureB, Bool.and_eq_true] at h
    refine key (a ++ b) ?_
    rw [pureL_iff] at *
    intro x hx
    rcases List.mem_append.1 hx with hx | hx
    · exact h.1 x hx
    · exact (pureL_iff.1 h.2) x hx
theorem wrCall_pure {s : HS} {as : List AV} (h : AV.pureL as = true) : wrCall s as = some (as.map (rnB []), [], []) := by
  have h0 : as.flatMap ownIds = [] := List.flatMap_eq_nil_iff.2 fun v hv => ownIds_pure (pureL_iff.1 h v hv)
  have h1 : as.all (rnOk []) = true := by
    rw [List.all_eq_true]
    intro v hv
    have := pureL_iff.1 h v hv
    cases v <;> first | exact this | (simp [AV.pureB] at this)
  unfold wrCall
  simp only [h0, dedup, h1, localIds, List.all_nil, Bool.true_or, Bool.and_self, blksOf]
theorem frame_wrt {E : Env} {site : Nat} {f : Operand} {args : Array Operand} {ats : Array TypeId} {ρ : Operand → AV} {g : FuncId} {as : List AV} (hc : cls E (.call { callee := .value f, args := args, argTypes := ats }) = 3)
    (hg : calleeA ρ { callee := .value f, args := args, argTypes := ats } = some (g, as)) (hw : E.wrt g = true) (hp : AV.pureL as = true) : FrameF E site (.call { callee := .value f, args := args, argTypes := ats }) ρ ⟨some [site], some [site]⟩ := by
  have hsem : ∀ u, sem3 E true site (.call { callee := .value f, args := args, argTypes := ats }) ρ u = .callW g (as.map (rnB [])) [] fun r out => afterW u site [] r out := by
    intro u
    simp only [sem3, callF, hg, hw, if_true, wrCall_pure hp]
  refine frame_one fun s v s' h => ?_
  rw [eff3 hc, hsem] at h
  obtain ⟨r, out, h1, h2, h3⟩ := h
  unfold afterW at h3
  simp only [List.length_nil, List.drop_zero] at h3
  split at h3
  · obtain ⟨rfl, rfl⟩ := h3
    have e : ∀ (hp : Nat → Option Blk) (vr : Nat → Nat), (⟨hp, vr⟩ : HS) = ⟨upd hp site (hp site), upd vr site (vr site)⟩ := by
      intro hp vr
      simp only [HS.mk.injEq]
      constructor <;> (funext i; unfold upd; split <;> simp_all)
    refine ⟨s.hp site, s.vr site, e s.hp s.vr, fun u hu => ?_⟩
    have hs := hu site (.inr rfl)
    rw [eff3 hc, hsem]
    refine ⟨r, [], h1, h2, ?_⟩
    show ((r : AV) = r ∧ putIo u [] [] = _)
    refine ⟨rfl, ?_⟩
    rw [hs.1, hs.2]
    exact e u.hp u.vr
  · rename_i b
    rw [if_pos (show localIds [] = true from rfl), natFrc_eq] at h3
    obtain ⟨rfl, rfl⟩ := h3
    refine ⟨_, _, (HS.putE_eq ..).trans (put_eq ..), fun u hu => ?_⟩
    have hs := hu site (.inr rfl)
    rw [eff3 hc, hsem]
    refine ⟨r, [b], h1, h2, ?_⟩
    unfold afterW
    simp only [List.length_nil, List.drop_zero]
    rw [if_pos (show localIds [] = true from rfl), natFrc_eq]
    refine ⟨?_, ?_⟩
    · show rnN site (u.vr site) r = rnN site (s.vr site) r
      rw [hs.2]
    · rw [HS.putE_eq, put_eq]
      show (⟨upd u.hp site _, _⟩ : HS) = _
      simp only [putIo, hs.2]
  · exact h3.elim

theorem clsC_12 (E : Env) (src dst : TypeId) : clsC E src dst = 2 ∨ clsC E src dst = 1 := by
  unfold clsC
  split
  · exact .inl rfl
  · exact .inr rfl
theorem frame_convert {E : Env} {site : Nat} {src dst : TypeId} {x : Operand} {ρ : Operand → AV} : FrameF E site (.convert src dst x) ρ (foot E site (.convert src dst x) ρ) := by
  simp only [foot]
  split
  · rename_i hc
    have hc' : cls E (.convert src dst x) = 2 := hc
    split
    · rename_i hp
      refine frame_none (.inr hc') fun s v h t _ => ?_
      rw [eff2 hc'] at h ⊢
      simp only [sem2, convR, hp] at h ⊢
      exact Tr.mono h fun x hx => ⟨hx.1, trivial⟩
    · exact frame_all (.inr ⟨rfl, .inr hc'⟩)
  · rename_i hc
    rcases clsC_12 E src dst with h | h
    · exact absurd h hc
    · exact frame1 h
theorem foot_ok {E : Env} {site : Nat} {op : Op} {ρ : Operand → AV} : FrameF E site op ρ (foot E site op ρ) := by
  cases op with
  | load t x => exact frame_load
  | alloc t => exact frame_allocA (o := none) rfl fun s => rfl
  | box t x => exact frame_allocA (o := some (ρ x)) rfl fun s => rfl
  | makeSlice t a x => exact frame_makeA
  | store t a x => exact frame_store
  | convert src dst x => exact frame_convert
  | buildSlice t n parts =>
    simp only [foot]
    split
    · rename_i hp; exact frame_buildP hp
    · exact frame_all (.inl rfl)
  | call c =>
    obtain ⟨callee, args, ats⟩ := c
    cases callee with
    | value f =>
      simp only [foot]
      split
      · rename_i g as hg
        split
        · rename_i hw
          split
          · rename_i hp
            simp only [Bool.and_eq_true] at hp
            exact frame_wrt (by
              have := hp.2
              split at this
              · assumption
              · simp at this) hg hw hp.1
          · exact frame_all (.inl rfl)
        rename_i hw
        split
        · rename_i hp
          have h23 : cls E (.call { callee := .value f, args := args, argTypes := ats }) = 2 ∨ cls E (.call { callee := .value f, args := args, argTypes := ats }) = 3 := by
            unfold cls
            cases f <;> simp
            try split <;> simp
          rcases h23 with h2 | h3
          · refine frame_none (.inr h2) fun s v h t _ => ?_
            rw [eff2 h2] at h ⊢
            simp only [sem2, callA, hg, hp, if_true] at h ⊢
            exact Tr.mono (t := .call g as .ok) h fun x hx => ⟨hx.1, trivial⟩
          · intro s v s' h
            rw [eff3 h3] at h
            have hs3 : ∀ u, sem3 E true site (.call { callee := .value f, args := args, argTypes := ats }) ρ u = .call g as fun r => .ok (r, u) := by
              intro u
              simp only [sem3, callF, hg, hw, hp, if_true, Bool.false_eq_true, if_false]
            rw [hs3] at h
            obtain ⟨r, h1, rfl, rfl⟩ := h
            refine ⟨fun i _ => ⟨rfl, rfl⟩, fun t ht => ⟨t, ?_, fun i hi => ?_, fun i _ => ⟨rfl, rfl⟩⟩⟩
            · rw [eff3 h3, hs3]; exact ⟨_, h1, rfl, rfl⟩
            · simp [has] at hi
        · split
          · exact frame_all (.inl rfl)
          · rename_i h3
            refine frame_all (.inr ⟨rfl, ?_⟩)
            unfold cls at h3 ⊢
            cases f <;> simp
            simp at h3
            simp [h3]
      · exact frame_all (.inl rfl)
    | invoke r m => exact frame1 rfl
    | builtin b =>
      cases b
      case append =>
        simp only [foot]
        split
        · rename_i x y hx
          exact frame_append hx
        · exact frame_all (.inl rfl)
      all_goals exact frame1 rfl
  | _ => exact frame1 rfl

def meets : Option (List Nat) → Option (List Nat) → Bool
  | some [], _ => false
  | _, some [] => false
  | some a, some b => a.any fun i => b.any fun j => Nat.beq i j
  | _, _ => true
theorem meets_no {a b : Option (List Nat)} (h : meets a b = false) {i : Nat} (ha : has a i) (hb : has b i) : False := by
  unfold meets at h
  split at h
  · simp [has] at ha
  · simp [has] at hb
  · rename_i a b _ _
    simp only [List.any_eq_false] at h
    exact h i ha (by simp only [List.any_eq_true]; exact ⟨i, hb, by simp⟩)
  · simp at h
/-- Two that do not meet. -/
def Ft.apart (f g : Ft) : Bool := !meets f.wr g.rd && !meets f.wr g.wr && !meets f.rd g.wr

theorem frame_comm {E : Env} {sx sy : Nat} {x y : Op} {ρx ρy : Operand → AV} {f g : Ft} (hfg : f.apart g = true) (fx : FrameF E sx x ρx f) (fy : FrameF E sy y ρy g) {s s1 s2 : HS} {v u : AV} (hx : Eff E true sx x ρx s v s1) (hy : Eff E true sy y ρy s1 u s2) :
    ∃ s1', Eff E true sy y ρy s u s1' ∧ Eff E true sx x ρx s1' v s2 := by
  unfold Ft.apart at hfg
  simp only [Bool.and_eq_true, Bool.not_eq_true'] at hfg
  obtain ⟨⟨n1, n2⟩, n3⟩ := hfg
  obtain ⟨a1, a2⟩ := fx s v s1 hx
  obtain ⟨b1, b2⟩ := fy s1 u s2 hy
  have sym : ∀ {s t : HS} {i : Nat}, same s t i → same t s i := fun h => ⟨h.1.symm, h.2.symm⟩
  have tr : ∀ {s t u : HS} {i : Nat}, same s t i → same t u i → same s u i := fun h k => ⟨h.1.trans k.1, h.2.trans k.2⟩
  obtain ⟨t', c1, c2, c3⟩ := b2 s fun i hi => sym (a1 i fun hw => hi.elim (fun h => meets_no n1 hw h) (fun h => meets_no n2 hw h))
  obtain ⟨t2, d1, d2, d3⟩ := a2 t' fun i hi => c3 i fun hw => hi.elim (fun h => meets_no n3 h hw) (fun h => meets_no n2 h hw)
  refine ⟨t', c1, ?_⟩
  have : t2 = s2 := by
    refine same_all fun i => ?_
    by_cases hi : has f.wr i
    · exact tr (sym (d2 i hi)) (b1 i fun hw => meets_no n2 hi hw)
    · by_cases hj : has g.wr i
      · exact tr (sym (d3 i hi)) (sym (c2 i hj))
      · exact tr (tr (sym (d3 i hi)) (sym (c3 i hj))) (tr (a1 i hi) (b1 i hj))
  rw [← this]
  exact d1

/-- Two operations that may come in either order, as far as temporaries go. -/
def indep (all : List Oper) (x y : Oper) : Bool :=
  (match x.dst with
   | some d => !(looks all y).contains d && y.dst != some d
   | none => true) &&
  (match y.dst with
   | some d => !(looks all x).contains d
   | none => true)
theorem indep_spec {all : List Oper} {x y : Oper} (h : indep all x y = true) :
    (∀ d, x.dst = some d → d ∉ looks all y ∧ y.dst ≠ some d) ∧ (∀ d, y.dst = some d → d ∉ looks all x) := by
  unfold indep at h
  simp only [Bool.and_eq_true] at h
  obtain ⟨h1, h2⟩ := h
  refine ⟨fun d hd => ?_, fun d hd => ?_⟩
  · rw [hd] at h1; simpa using h1
  · rw [hd] at h2; simpa using h2

theorem putd_ne {tm : Nat → AV} {d : Option Nat} {v : AV} {t : Nat} (h : d ≠ some t) : putd tm d v t = tm t := by
  cases d with
  | none => rfl
  | some d =>
    have : ¬ t = d := fun he => h (by rw [he])
    simp only [putd]
    rw [beq_eq_false_iff_ne.2 this]
    rfl
theorem putd_comm {tm : Nat → AV} {d e : Option Nat} {v u : AV} (h : ∀ x, d = some x → e ≠ some x) : putd (putd tm d v) e u = putd (putd tm e u) d v := by
  cases d with
  | none => rfl
  | some d =>
    cases e with
    | none => rfl
    | some e =>
      have hne : d ≠ e := fun he => h d rfl (by rw [he])
      funext t
      simp only [putd]
      by_cases h1 : t = d
      · subst h1
        rw [beq_self_eq_true, beq_eq_false_iff_ne.2 hne]
        rfl
      · rw [beq_eq_false_iff_ne.2 h1]
        rfl

/-- A step, and what it may meet. -/
def stepF (E : Env) (all : List Oper) (p : Oper × Ft) (st st' : St) : Prop := stepR E true all p.1 st st' ∧ foot E (p.1.dst.getD 0) p.1.op (ev st.tm) = p.2
def chainF (E : Env) (all : List Oper) : List (Oper × Ft) → St → St → Prop
  | [], st, st' => st = st'
  | o :: r, st, st' => ∃ st1, stepF E all o st st1 ∧ chainF E all r st1 st'
def opsF (E : Env) (all : List Oper) (l : List Oper) (st : St) (K : List Ft → St → Prop) : Prop :=
  List.rec (motive := fun _ => St → (List Ft → St → Prop) → Prop) (fun st K => K [] st) (fun o _ ih st K => match st with
    | ⟨tm, s⟩ => opK E true all o ⟨tm, s⟩ fun st' => ih st' fun fs => K (foot E (o.dst.getD 0) o.op (ev tm) :: fs)) l st K
theorem opsF_chain {E : Env} {all : List Oper} : ∀ {l : List Oper} {st : St} {K : List Ft → St → Prop}, opsF E all l st K → ∃ fs st', fs.length = l.length ∧ chainF E all (l.zip fs) st st' ∧ K fs st'
  | [], st, K, h => ⟨[], st, rfl, rfl, h⟩
  | o :: r, st, K, h => by
    obtain ⟨tm, s⟩ := st
    have h : opK E true all o ⟨tm, s⟩ fun st' => opsF E all r st' fun fs => K (foot E (o.dst.getD 0) o.op (ev tm) :: fs) := h
    obtain ⟨st1, h1, h2⟩ := opK_step h
    obtain ⟨fs, st2, h0, h3, h4⟩ := opsF_chain h2
    exact ⟨_ :: fs, st2, by simp [h0], ⟨st1, ⟨h1, rfl⟩, h3⟩, h4⟩

theorem foot_congr {E : Env} {site : Nat} {op : Op} {ρ ρ' : Operand → AV} (h : ∀ x ∈ op.operands, ρ x = ρ' x) : foot E site op ρ = foot E site op ρ' := by
  cases op with
  | load t x => simp only [foot, h x (by simp [Op.operands])]
  | store t a x => simp only [foot, h a (by simp [Op.operands])]
  | convert src dst x => simp only [foot, h x (by simp [Op.operands])]
  | buildSlice t n parts =>
    have e : (parts.toList.map fun p => (p.1, ρ p.2)) = parts.toList.map fun p => (p.1, ρ' p.2) := by
      refine List.map_congr_left fun p hp => ?_
      rw [h p.2 (by simp [Op.operands]; exact ⟨p.1, by simpa using hp⟩)]
    simp only [foot, e]
  | call c =>
    obtain ⟨callee, args, ats⟩ := c
    have ha : ∀ x ∈ args.toList, ρ x = ρ' x := fun x hx => h x (by simp [Op.operands, Call.operands]; right; simpa using hx)
    cases callee with
    | value f => simp only [foot]; rw [calleeA_congr (by simpa [Op.operands] using h)]
    | invoke r m => rfl
    | builtin b =>
      cases b <;> try rfl
      simp only [foot]
      split
      · rename_i x y hx
        rw [ha x (by rw [hx]; simp), ha y (by rw [hx]; simp)]
      · rfl
  | _ => rfl

theorem step_comm {E : Env} {all : List Oper} {x y : Oper × Ft} {st st1 st2 : St} (hi : indep all x.1 y.1 = true) (hf : x.2.apart y.2 = true) (hx : stepF E all x st st1) (hy : stepF E all y st1 st2) : ∃ st1', stepF E all y st st1' ∧ stepF E all x st1' st2 := by
  obtain ⟨h1, h2⟩ := indep_spec hi
  obtain ⟨⟨v, s1, ex, rfl⟩, fx⟩ := hx
  obtain ⟨⟨u, s2, ey, rfl⟩, fy⟩ := hy
  obtain ⟨x, f⟩ := x
  obtain ⟨y, g⟩ := y
  simp only at *
  have htm : ∀ t ∈ looks all y, putd st.tm x.dst v t = st.tm t := fun t ht => putd_ne fun he => (h1 t he).1 ht
  have htm2 : ∀ t ∈ looks all x, st.tm t = putd st.tm y.dst u t := fun t ht => (putd_ne fun he => h2 t he ht).symm
  have ey' : eff E true all y st.tm s1 u s2 := eff_congr htm ey
  have fy' : foot E (y.dst.getD 0) y.op (ev st.tm) = g := by rw [← fy]; exact (foot_congr (ev_congr htm)).symm
  have fx' : foot E (x.dst.getD 0) x.op (ev (putd st.tm y.dst u)) = f := by rw [← fx]; exact (foot_congr (ev_congr htm2)).symm
  have hput : putd (putd st.tm x.dst v) y.dst u = putd (putd st.tm y.dst u) x.dst v := putd_comm fun d hd => (h1 d hd).2
  have key : ∃ s1', eff E true all y st.tm st.s u s1' ∧ eff E true all x st.tm s1' v s2 := by
    rcases gate_or ex with ⟨ex', gx⟩ | ⟨⟨rfl, rfl⟩, gx⟩
    · rcases gate_or ey' with ⟨ey2, gy⟩ | ⟨⟨rfl, rfl⟩, gy⟩
      · obtain ⟨s1', e1, e2⟩ := frame_comm hf (by rw [← fx]; exact foot_ok) (by rw [← fy']; exact foot_ok) ex' ey2
        exact ⟨s1', gate_mono gy (fun _ => e1) (fun h => h.elim), gate_mono gx (fun _ => e2) (fun h => h.elim)⟩
      · exact ⟨st.s, gate_mono gy (fun h => h.elim) (fun _ => ⟨rfl, rfl⟩), gate_mono gx (fun _ => ex') (fun h => h.elim)⟩
    · exact ⟨s2, ey', gate_mono gx (fun h => h.elim) (fun _ => ⟨rfl, rfl⟩)⟩
  obtain ⟨s1', k1, k2⟩ := key
  exact ⟨⟨putd st.tm y.dst u, s1'⟩, ⟨⟨u, s1', k1, rfl⟩, fy'⟩, ⟨⟨v, s2, eff_congr htm2 k2, by rw [hput]⟩, fx'⟩⟩

theorem chain_front {E : Env} {all : List Oper} {y : Oper × Ft} : ∀ {l r : List (Oper × Ft)} {st st' : St}, (∀ x ∈ l, indep all x.1 y.1 = true ∧ x.2.apart y.2 = true) → chainF E all (l ++ y :: r) st st' → ∃ st1, stepF E all y st st1 ∧ chainF E all (l ++ r) st1 st'
  | [], r, st, st', _, h => h
  | x :: l, r, st, st', hi, h => by
    obtain ⟨st1, h1, h2⟩ := h
    obtain ⟨st2, h3, h4⟩ := chain_front (fun z hz => hi z (by simp [hz])) h2
    obtain ⟨st1', h5, h6⟩ := step_comm (hi x (by simp)).1 (hi x (by simp)).2 h1 h3
    exact ⟨st1', h5, st2, h6, h4⟩
end GoAbs
end

section
namespace GoAbs
open Go

/-- An abstract state stands for a frame and a world, in a call that began at w0. -/
def SR (E : Env) (w0 : World) (io : Nat → Prop) (s0 : HS) (M0 : Nat → Pl) (ok0 : Nat → Prop) (n : Nat) (st : St) (a : Act) (w : World) : Prop :=
  ∃ M ok, HLater E w0 io s0 w0 M0 ok0 st.s w M ok ∧ a.defers = [] ∧ a.tmps.size = n ∧ ∀ t, RV w ok (st.s.place M) (st.tm t) (a.tmps.getD t undef)

section
variable {E : Env} {w0 : World} {io : Nat → Prop} {s0 : HS} {M0 : Nat → Pl} {ok0 : Nat → Prop} {n : Nat}

theorem ev_sound {w : World} {ok : Nat → Prop} {φ : Place} {tm : Nat → AV} {a : Act} (h : ∀ t, RV w ok φ (tm t) (a.tmps.getD t undef)) (x : Operand) : RV w ok φ (ev tm x) (a.eval x) := by
  cases x with
  | tmp t => exact h t
  | const v =>
    simp only [ev, Act.eval]
    cases hv : litAV v with
    | none => exact .any _ _
    | some l => exact litAV_ok hv
  | func f =>
    have := RV.fn (w := w) (ok := ok) φ (.func f) [] [] [] [] (.nil _) (.nil _)
    simpa [ev, Act.eval] using this
  | global g => exact .any _ _

theorem SR.put {st : St} {a : Act} {w w' : World} {M M' : Nat → Pl} {ok ok' : Nat → Prop} (hl : HLater E w0 io s0 w0 M0 ok0 st.s w M ok) (hd : a.defers = []) (hs : a.tmps.size = n) (ht : ∀ t, RV w ok (st.s.place M) (st.tm t) (a.tmps.getD t undef))
    {s' : HS} (hl' : HLater E w0 io st.s w M ok s' w' M' ok') {v : AV} {x : Value} (hv : RV w' ok' (s'.place M') v x) (d : Option Nat) (hdn : ∀ k, d = some k → k < n) :
    SR E w0 io s0 M0 ok0 n ⟨putd st.tm d v, s'⟩ (a.put d x) w' := by
  refine ⟨M', ok', hl.trans hl', ?_, ?_, fun t => ?_⟩
  · cases d <;> exact hd
  · cases d <;> simp [Act.put, hs]
  · have hold := (ht t).mono hl'.mono
    cases d with
    | none => exact hold
    | some d =>
      have hdlt := hdn d rfl
      simp only [putd, Act.put]
      by_cases h : t = d
      · subst h
        rw [beq_self_eq_true]
        simp only [cond_true]
        rw [Array.getD_eq_getD_getElem?, Array.getElem?_setIfInBounds_self_of_lt (by omega)]
        exact hv
      · rw [beq_eq_false_iff_ne.2 h]
        simp only [cond_false]
        rw [Array.getD_eq_getD_getElem?, Array.getElem?_setIfInBounds_ne (by omega), ← Array.getD_eq_getD_getElem?]
        exact hold

theorem UponV.upon {P : Program} {o : Oper} {a : Act} {next : Act → World → Prop} {Q : Exit → Act → World → Prop} {r : Result Next} {R : Value → World → Prop} (h : UponV P r R) (hn : ∀ x w, R x w → next (a.put o.dst x) w) : o.upon P a next Q r := by
  unfold UponV at h
  split at h
  · refine Calls.mono h fun e w' he => ?_
    cases e with
    | returned v => exact hn _ _ he
    | panicked c => exact he.elim
    | outgrown => exact he.elim
  · exact hn _ _ h
  · exact hn _ _ h
  · exact h.elim

theorem opK_sound (hE : E.Valid) {dr : Bool} {ops : Array Oper} {o : Oper} {st st' : St} {a : Act} {w : World} (hsr : SR E w0 io s0 M0 ok0 n st a w) (hst : stepR E dr ops.toList o st st') (hdn : ∀ k, o.dst = some k → k < n)
    {K : Act → World → Prop} {Q : Exit → Act → World → Prop} (hK : ∀ a' w', SR E w0 io s0 M0 ok0 n st' a' w' → K a' w') :
    if Region.wanted o (yielded ops a.tmps) then o.wp E.P a w K Q else K (a.put o.dst undef) w := by
  obtain ⟨M, ok, hl, hd, hs, ht⟩ := hsr
  obtain ⟨v, s', he, rfl⟩ := hst
  have hex : Eff E dr (o.dst.getD 0) o.op (ev st.tm) st.s v s' → o.wp E.P a w K Q := by
    intro hx
    unfold Oper.wp
    refine UponV.upon (stepO_sound hE hl.hr (o.dst.getD 0) o (fun x => ev_sound ht x) (Eff.run hx (K := fun v2 s2 => v2 = v ∧ s2 = s') ⟨rfl, rfl⟩)) ?_
    rintro x w' ⟨v2, s2, M', ok', ⟨rfl, rfl⟩, h1, h2⟩
    exact hK _ _ (SR.put hl hd hs ht h1 h2 o.dst hdn)
  have hsk : v = .tup [] ∧ s' = st.s → K (a.put o.dst undef) w := by
    rintro ⟨rfl, rfl⟩
    exact hK _ _ (SR.put hl hd hs ht (.refl hl.hr) (.tup _ _ [] (.nil _)) o.dst hdn)
  unfold eff at he
  rw [gate_iff] at he
  rcases he with ⟨hg, hx⟩ | ⟨j, want, d, b, hg, hdst, hb, hc⟩ | ⟨j, want, d, us, hg, hdst, hb, hc⟩
  · simp only [Region.wanted, hg, if_true]
    exact hex hx
  · have hy : yielded ops a.tmps j = some b := by
      have h1 := ht d
      have h2 := toB_bool h1 hb
      have h3 : (ops[j]?).bind (·.dst) = some d := by simpa using hdst
      unfold yielded
      rw [h3]
      simp only [Option.bind_some]
      rw [Array.getD_eq_getD_getElem?] at h2
      cases h4 : a.tmps[d]? with
      | none => rw [h4] at h2; simp [undef] at h2
      | some u => rw [h4] at h2; simp at h2; subst h2; rfl
    simp only [Region.wanted, hg, hy]
    rcases hc with ⟨rfl, hx⟩ | ⟨hne, hx⟩
    · simp only [beq_self_eq_true, if_true]; exact hex hx
    · have : (some b == some want) = false := by simpa using hne
      simp only [this, Bool.false_eq_true, if_false]; exact hsk hx
  · have hy : yielded ops a.tmps j = none := by
      have h1 := ht d
      have h3 : (ops[j]?).bind (·.dst) = some d := by simpa using hdst
      unfold yielded
      rw [h3]
      simp only [Option.bind_some]
      rw [hb] at h1
      rw [Array.getD_eq_getD_getElem?] at h1
      cases h4 : a.tmps[d]? with
      | none => rfl
      | some u =>
        rw [h4] at h1
        simp at h1
        cases h1
        rfl
    simp only [Region.wanted, hg, hy]
    exact hsk hc

def dstsOk (n : Nat) (l : List Oper) : Bool := l.all fun o => match o.dst with | some d => Nat.blt d n | none => true
theorem dstsOk_mem {l : List Oper} (h : dstsOk n l = true) {o : Oper} (ho : o ∈ l) : ∀ k, o.dst = some k → k < n := by
  intro k hk
  have := List.all_eq_true.1 h o ho
  rw [hk] at this
  simpa [Nat.blt_eq] using this

/-- A region that runs as it stands. -/
theorem region_plain (hE : E.Valid) {id : Nat} {ops : Array Oper} (hd : dstsOk n ops.toList = true) {st : St} {a : Act} {w : World} (hsr : SR E w0 io s0 M0 ok0 n st a w) {K : St → Prop} (hk : opsK E false ops.toList ops.toList st K) {Q : Exit → Act → World → Prop}
    (hQ : ∀ st', K st' → ∀ a' w', SR E w0 io s0 M0 ok0 n st' a' w' → Q .normal a' w') : (Code.region id ops false).wp E.P Q a w := by
  obtain ⟨st', hc, hk⟩ := opsK_chain hk
  have key : ∀ (l : List Oper), (∀ o ∈ l, o ∈ ops.toList) → ∀ (k : Nat), (∀ j, l[j]? = ops[k + j]?) → ∀ (st : St) (a : Act) (w : World), SR E w0 io s0 M0 ok0 n st a w → chain E false ops.toList l st st' → wpOps E.P ops Q (List.range' k l.length) a w := by
    intro l
    induction l with
    | nil => intro _ k _ st a w hsr hc; cases hc; exact hQ st' hk a w hsr
    | cons o l ih =>
      intro hm k hj st a w hsr hc
      obtain ⟨st1, h1, h2⟩ := hc
      have ho : ops[k]? = some o := by simpa using (hj 0).symm
      simp only [List.length_cons, List.range'_succ, wpOps, ho]
      have := opK_sound hE hsr h1 (dstsOk_mem hd (hm o (by simp))) (K := wpOps E.P ops Q (List.range' (k + 1) l.length)) (Q := Q) fun a' w' hs' => ih (fun x hx => hm x (by simp [hx])) (k + 1) (fun j => by have := hj (j + 1); simpa [Nat.add_assoc, Nat.add_comm 1 j] using this) st1 a' w' hs' h2
      split at this
      · rename_i hw; rw [if_pos hw]; exact .inl this
      · rename_i hw; rw [if_neg hw]; exact this
  refine wp_region ?_
  have := key ops.toList (fun o ho => ho) 0 (by simp) st a w hsr hc
  rwa [Array.length_toList, ← List.range_eq_range'] at this

def edgesOf (o : Oper) : List Nat := o.after.toList.filterMap fun e => if Region.binds .any e then some e.on else none
inductive Reach (ops : List Oper) : Nat → Nat → Prop
  | one {i j : Nat} {o : Oper} (ho : ops[j]? = some o) (h : i ∈ edgesOf o) : Reach ops i j
  | more {i k j : Nat} {o : Oper} (ho : ops[j]? = some o) (h : k ∈ edgesOf o) (t : Reach ops i k) : Reach ops i j

def maskOf (acc : List Nat) : List Nat → Nat → Nat
  | [], m => m
  | e :: r, m => maskOf acc r (m ||| 2 ^ e ||| acc.getD e 0)
def masks : List Oper → List Nat → List Nat
  | [], acc => acc
  | o :: r, acc => masks r (acc ++ [maskOf acc (edgesOf o) 0])

theorem maskOf_bit (acc : List Nat) : ∀ (l : List Nat) (m k : Nat), (maskOf acc l m).testBit k = true → m.testBit k = true ∨ ∃ e ∈ l, k = e ∨ (acc.getD e 0).testBit k = true
  | [], m, k, h => .inl h
  | e :: r, m, k, h => by
    rcases maskOf_bit acc r _ k h with h1 | ⟨e', he, h1⟩
    · simp only [Nat.testBit_or, Bool.or_eq_true] at h1
      rcases h1 with (h1 | h1) | h1
      · exact .inl h1
      · rw [Nat.testBit_two_pow] at h1
        exact .inr ⟨e, by simp, .inl (by simpa using h1 : e = k).symm⟩
      · exact .inr ⟨e, by simp, .inr h1⟩
    · exact .inr ⟨e', by simp [he], h1⟩

theorem masks_reach (all : List Oper) : ∀ (l done : List Oper) (acc : List Nat), all = done ++ l → acc.length = done.length → (∀ j k, (acc.getD j 0).testBit k = true → Reach all k j) →
    ∀ j k, ((masks l acc).getD j 0).testBit k = true → Reach all k j
  | [], done, acc, _, _, h => h
  | o :: l, done, acc, he, hl, h => by
    unfold masks
    refine masks_reach all l (done ++ [o]) _ (by simp [he]) (by simp [hl]) ?_
    intro j k hb
    by_cases hj : j < acc.length
    · rw [List.getD_eq_getElem?_getD, List.getElem?_append_left hj, ← List.getD_eq_getElem?_getD] at hb
      exact h j k hb
    · by_cases hj2 : j = acc.length
      · subst hj2
        rw [List.getD_eq_getElem?_getD, List.getElem?_append_right (by omega)] at hb
        simp at hb
        have ho : all[acc.length]? = some o := by rw [he, hl, List.getElem?_append_right (by omega)]; simp
        rcases maskOf_bit acc _ 0 k hb with h1 | ⟨e, he2, h1⟩
        · simp at h1
        · rcases h1 with rfl | h1
          · exact .one ho he2
          · exact .more ho he2 (h e k h1)
      · rw [List.getD_eq_getElem?_getD, List.getElem?_eq_none (by simp; omega)] at hb
        simp at hb

/-- Any two operations that nothing orders may come in either order, as far as temporaries go. -/
def drawOk (ops : List Oper) : Bool :=
  let ms := masks ops []
  (List.range ops.length).all fun j =>
    match ops[j]? with
    | some y => (edgesOf y).all (fun e => Nat.blt e j) && (List.range j).all fun i =>
      match ops[i]? with
      | some x => (ms.getD j 0).testBit i || indep ops x y
      | none => true
    | none => true

theorem drawOk_spec {ops : List Oper} (h : drawOk ops = true) {j : Nat} {y : Oper} (hy : ops[j]? = some y) :
    (∀ e ∈ edgesOf y, e < j) ∧ ∀ i x, i < j → ops[i]? = some x → Reach ops i j ∨ indep ops x y = true := by
  have hj : j < ops.length := (List.getElem?_eq_some_iff.1 hy).1
  have := List.all_eq_true.1 h j (by simpa using hj)
  rw [hy] at this
  simp only [Bool.and_eq_true, List.all_eq_true] at this
  refine ⟨fun e he => by simpa [Nat.blt_eq] using this.1 e he, fun i x hi hx => ?_⟩
  have := this.2 i (by simpa using hi)
  rw [hx] at this
  simp only [Bool.or_eq_true] at this
  refine this.imp (fun hb => ?_) id
  exact masks_reach ops ops [] [] rfl rfl (fun j k hb => by simp at hb) j i hb

def Ft.cool (f : Ft) : Bool := match f.rd, f.wr with
  | some [], some [] => true
  | _, _ => false
def hotL : Nat → List Ft → List (Nat × Ft)
  | _, [] => []
  | k, f :: r => match f.cool with
    | true => hotL (k + 1) r
    | false => (k, f) :: hotL (k + 1) r
/-- ... and as far as the blocks of the call's own go. -/
def fpsOk (ops : List Oper) (fs : List Ft) : Bool :=
  (hotL 0 fs).all fun q => match q with
    | (a, f) => (hotL 0 fs).all fun p => match p with
      | (b, g) => Nat.ble a b || g.apart f || ((masks ops []).getD a 0).testBit b

theorem hotL_mem : ∀ (fs : List Ft) (k i : Nat) (f : Ft), fs[i]? = some f → f.cool = false → (k + i, f) ∈ hotL k fs
  | [], _, _, _, h, _ => by simp at h
  | g :: r, k, 0, f, h, hc => by
    simp at h; subst h
    simp [hotL, hc]
  | g :: r, k, i + 1, f, h, hc => by
    have := hotL_mem r (k + 1) i f (by simpa using h) hc
    have he : k + 1 + i = k + (i + 1) := by omega
    rw [he] at this
    unfold hotL
    split
    · exact this
    · exact List.mem_cons_of_mem _ this
theorem meets_nil_left (a : Option (List Nat)) : meets (some []) a = false := by unfold meets; rfl
theorem meets_nil_right (a : Option (List Nat)) : meets a (some []) = false := by
  unfold meets
  split <;> simp_all
theorem cool_apart {f g : Ft} (h : f.cool = true ∨ g.cool = true) : f.apart g = true := by
  obtain ⟨r, w⟩ := f
  obtain ⟨r', w'⟩ := g
  have e : ∀ r w, (Ft.mk r w).cool = true → r = some [] ∧ w = some [] := by
    intro r w h
    unfold Ft.cool at h
    split at h
    · rename_i h1 h2; exact ⟨h1, h2⟩
    · simp at h
  unfold Ft.apart
  rcases h with h | h
  · obtain ⟨rfl, rfl⟩ := e _ _ h; simp [meets_nil_left]
  · obtain ⟨rfl, rfl⟩ := e _ _ h; simp [meets_nil_right]
theorem fpsOk_spec {ops : List Oper} {fs : List Ft} (h : fpsOk ops fs = true) {i j : Nat} {f g : Ft} (hi : fs[i]? = some f) (hj : fs[j]? = some g) (hij : i < j) : f.apart g = true ∨ Reach ops i j := by
  by_cases hf : f.cool = true
  · exact .inl (cool_apart (.inl hf))
  by_cases hg : g.cool = true
  · exact .inl (cool_apart (.inr hg))
  have h1 := hotL_mem fs 0 i f hi (by simpa using hf)
  have h2 := hotL_mem fs 0 j g hj (by simpa using hg)
  rw [Nat.zero_add] at h1 h2
  have := List.all_eq_true.1 (List.all_eq_true.1 h _ h2) _ h1
  simp only [Bool.or_eq_true] at this
  rcases this with (h3 | h3) | h3
  · have := Nat.le_of_ble_eq_true h3; omega
  · exact .inl h3
  · exact .inr (masks_reach ops ops [] [] rfl rfl (fun j k hb => by simp at hb) j i h3)

theorem reach_listed {ops : List Oper} {L : Nat → Prop} (hL : ∀ j o, L j → ops[j]? = some o → ∀ e ∈ edgesOf o, L e) {i j : Nat} (h : Reach ops i j) : (∀ o, ops[j]? = some o → ∀ e ∈ edgesOf o, L e) → L i := by
  induction h with
  | one ho he => exact fun h => h _ ho _ he
  | more ho he t ih => exact fun h => ih fun o' ho' e he' => hL _ o' (h _ ho _ he) ho' e he'

theorem filterMap_get {α : Type} : ∀ (pre l : List α), (List.range' pre.length l.length).filterMap ((pre ++ l)[·]?) = l
  | pre, [] => by simp
  | pre, x :: l => by
    have ih := filterMap_get (pre ++ [x]) l
    simp only [List.length_cons, List.range'_succ]
    rw [List.filterMap_cons_some (b := x) (by simp)]
    congr 1
    simpa using ih
/-- A region that draws its order. -/
theorem region_drawn (hE : E.Valid) {id : Nat} {ops : Array Oper} (hd : dstsOk n ops.toList = true) (hdr : drawOk ops.toList = true) {st : St} {a : Act} {w : World} (hsr : SR E w0 io s0 M0 ok0 n st a w) {K : St → Prop} (hk : opsF E ops.toList ops.toList st fun fs st' => fpsOk ops.toList fs = true ∧ K st') {Q : Exit → Act → World → Prop}
    (hQ : ∀ st', K st' → ∀ a' w', SR E w0 io s0 M0 ok0 n st' a' w' → Q .normal a' w') : (Code.region id ops true).wp E.P Q a w := by
  obtain ⟨fs, st', hfl, hc, hfp, hk⟩ := opsF_chain hk
  generalize hL : ops.toList.zip fs = L at hc
  have hLget : ∀ (i : Nat) (x : Oper × Ft), L[i]? = some x → ops.toList[i]? = some x.1 ∧ fs[i]? = some x.2 := by
    intro i x hx
    rw [← hL, List.getElem?_zip_eq_some] at hx
    exact hx
  have hLlen : L.length = ops.size := by rw [← hL, List.length_zip, hfl]; simp
  have pick : ∀ (R : List Nat) (i : Nat), i ∈ R → ∃ R1 R2, R = R1 ++ i :: R2 := fun R i hi => List.append_of_mem hi
  have key : ∀ (fuel : Nat) (R : List Nat) (listed : Array Bool) (st : St) (a : Act) (w : World), R.Pairwise (· < ·) → listed.size = ops.size → (∀ i, i < ops.size → (i ∈ R ↔ listed.getD i true = false)) → (∀ i ∈ R, i < ops.size) → R.length ≤ fuel →
      (∀ j o, listed.getD j false = true → ops.toList[j]? = some o → ∀ e ∈ edgesOf o, listed.getD e false = true) →
      SR E w0 io s0 M0 ok0 n st a w → chainF E ops.toList (R.filterMap (L[·]?)) st st' → wpAny E.P .any ops Q fuel listed a w := by
    intro fuel
    induction fuel with
    | zero =>
      intro R listed st a w hp hls hR hlt hlen hdc hs hc
      have : R = [] := List.length_eq_zero_iff.1 (by omega)
      subst this
      cases hc
      refine ⟨?_, hQ st' hk a w hs⟩
      apply List.filter_eq_nil_iff.2
      intro i hi
      simp only [Bool.and_eq_true, Bool.not_eq_true', not_and]
      intro hl
      have := (hR i (by simpa using hi)).2 hl
      simp at this
    | succ fuel ih =>
      intro R listed st a w hp hls hR hlt hlen hdc hs hc
      have hready : ∀ i, i ∈ Region.ready .any ops listed ↔ i < ops.size ∧ listed.getD i true = false ∧ ∀ o, ops.toList[i]? = some o → ∀ e ∈ edgesOf o, listed.getD e false = true := by
        intro i
        unfold Region.ready
        rw [List.mem_filter]
        simp only [List.mem_range, Bool.and_eq_true, Bool.not_eq_true']
        constructor
        · rintro ⟨h1, h2, h3⟩
          refine ⟨h1, h2, fun o ho e he => ?_⟩
          have ho' : ops[i]? = some o := by simpa using ho
          rw [ho'] at h3
          simp only [Option.map_some, Option.getD_some] at h3
          rw [← Array.all_toList, List.all_eq_true] at h3
          simp only [edgesOf, List.mem_filterMap] at he
          obtain ⟨e', he1, he2⟩ := he
          split at he2
          · rename_i hb
            simp at he2; subst he2
            have := h3 e' he1
            rw [hb] at this
            simpa using this
          · simp at he2
        · rintro ⟨h1, h2, h3⟩
          refine ⟨h1, h2, ?_⟩
          have ho' : ops[i]? = some ops[i] := Array.getElem?_eq_getElem h1
          rw [ho']
          simp only [Option.map_some, Option.getD_some]
          rw [← Array.all_toList, List.all_eq_true]
          intro e he
          by_cases hb : Region.binds .any e = true
          · have := h3 ops[i] (by simpa using ho') e.on (by simp only [edgesOf, List.mem_filterMap]; exact ⟨e, he, by rw [if_pos hb]⟩)
            rw [this]; simp
          · simp [hb]
      refine ⟨fun hempty => ?_, fun i hi => ?_⟩
      · cases R with
        | nil => cases hc; exact hQ st' hk a w hs
        | cons i R =>
          exfalso
          have hi : i < ops.size := hlt i (by simp)
          have : i ∈ Region.ready .any ops listed := by
            rw [hready]
            refine ⟨hi, (hR i hi).1 (by simp), fun o ho e he => ?_⟩
            have hei := (drawOk_spec hdr ho).1 e he
            have : e ∉ i :: R := by
              intro hm
              rcases List.mem_cons.1 hm with rfl | hm
              · omega
              · have := (List.pairwise_cons.1 hp).1 e hm; omega
            have h2 := mt (hR e (by omega)).2 this
            simp only [Array.getD_eq_getD_getElem?] at h2 ⊢
            rw [Array.getElem?_eq_getElem (by omega)] at h2 ⊢
            simpa using h2
          rw [hempty] at this
          simp at this
      · obtain ⟨h1, h2, h3⟩ := (hready i).1 hi
        have him : i ∈ R := (hR i h1).2 h2
        obtain ⟨R1, R2, rfl⟩ := pick R i him
        have ho : ops.toList[i]? = some ops[i] := by simpa using Array.getElem?_eq_getElem h1
        obtain ⟨p, hoL⟩ : ∃ p, L[i]? = some p := ⟨L[i], List.getElem?_eq_getElem (by omega)⟩
        have hp1 := (hLget i p hoL).1
        have hp2 := (hLget i p hoL).2
        rw [ho] at hp1
        rw [List.filterMap_append, List.filterMap_cons_some hoL] at hc
        obtain ⟨st1, ⟨hst, _⟩, hc1⟩ := chain_front (fun x hx => by
          obtain ⟨k, hk1, hk2⟩ := List.mem_filterMap.1 hx
          obtain ⟨hk3, hk4⟩ := hLget k x hk2
          have hki : k < i := by
            have := List.pairwise_append.1 hp
            exact this.2.2 k hk1 i (by simp)
          have hno : ¬ Reach ops.toList k i := by
            intro hr
            have hl : listed.getD k false = true := reach_listed (L := fun j => listed.getD j false = true) (fun j o hj ho => hdc j o hj ho) hr h3
            have h5 : listed.getD k true = false := (hR k (by omega)).1 (by simp [hk1])
            simp only [Array.getD_eq_getD_getElem?] at hl h5
            rw [Array.getElem?_eq_getElem (by omega)] at hl h5
            simp at hl h5
            rw [hl] at h5; simp at h5
          have hpi : p.1 = ops[i] := by simpa using hp1.symm
          rw [hpi]
          exact ⟨((drawOk_spec hdr ho).2 k x.1 hki hk3).resolve_left hno, (fpsOk_spec hfp hk4 hp2 hki).resolve_right hno⟩) hc
        have hpi : p.1 = ops[i] := by simpa using hp1.symm
        rw [hpi] at hst
        rw [← List.filterMap_append] at hc1
        have hnodup : ∀ k, k ∈ R1 ++ R2 ↔ (k ∈ R1 ++ i :: R2 ∧ k ≠ i) := by
          intro k
          have hp' := List.pairwise_append.1 hp
          have hp2 := List.pairwise_cons.1 hp'.2.1
          simp only [List.mem_append, List.mem_cons]
          constructor
          · rintro (h | h)
            · exact ⟨.inl h, fun he => by have := hp'.2.2 k h i (by simp); omega⟩
            · exact ⟨.inr (.inr h), fun he => by have := hp2.1 k h; omega⟩
          · rintro ⟨h | h | h, hne⟩
            · exact .inl h
            · exact (hne h).elim
            · exact .inr h
        have hset : ∀ k d, (listed.setIfInBounds i true).getD k d = if k = i then true else listed.getD k d := by
          intro k d
          by_cases hki : k = i
          · subst hki
            rw [if_pos rfl, Array.getD_eq_getD_getElem?, Array.getElem?_setIfInBounds_self_of_lt (by omega)]; rfl
          · rw [if_neg hki, Array.getD_eq_getD_getElem?, Array.getElem?_setIfInBounds_ne (by omega), ← Array.getD_eq_getD_getElem?]
        have hsub : (R1 ++ R2).Sublist (R1 ++ i :: R2) := List.Sublist.append_left (List.sublist_cons_self i R2) R1
        have := opK_sound hE hs hst (dstsOk_mem hd (List.mem_of_getElem? ho)) (K := wpAny E.P .any ops Q fuel (listed.setIfInBounds i true)) (Q := Q) fun a' w' hs' =>
          ih (R1 ++ R2) (listed.setIfInBounds i true) st1 a' w' (hp.sublist hsub) (by simpa using hls) (fun k hk => by
              rw [hnodup, hR k hk, hset]
              by_cases hki : k = i <;> simp [hki])
            (fun k hk => hlt k (hsub.mem hk)) (by simp at hlen ⊢; omega)
            (fun j o hj ho' e he => by
              rw [hset] at hj ⊢
              by_cases hei : e = i
              · simp [hei]
              · rw [if_neg hei]
                by_cases hji : j = i
                · subst hji; exact h3 o ho' e he
                · rw [if_neg hji] at hj; exact hdc j o hj ho' e he) hs' hc1
        unfold wpOp
        have ho2 : ops[i]? = some ops[i] := Array.getElem?_eq_getElem h1
        rw [ho2]
        simp only
        split at this
        · rename_i hw; rw [if_pos hw]; exact .inl this
        · rename_i hw; rw [if_neg hw]; exact this
  refine wp_region_any hE.mixed ?_
  have hsr' : SR E w0 io s0 M0 ok0 n st a { w with drawn := w.drawn + 1 } := by
    obtain ⟨M, ok, h1, h2, h3, h4⟩ := hsr
    exact ⟨M, ok, h1.trans (h1.hr.drew hE _), h2, h3, fun t => (h4 t).mono (Mono.drew _)⟩
  refine key ops.size (List.range ops.size) _ st a _ List.pairwise_lt_range (by simp) (fun i hi => ?_) (fun i hi => by simpa using hi) (by simp) (fun j o hj => ?_) hsr' ?_
  · simp [hi, Array.getD_eq_getD_getElem?]
  · simp only [Array.getD_eq_getD_getElem?, Array.getElem?_replicate] at hj
    split at hj <;> simp at hj
  · have : (List.range ops.size).filterMap (L[·]?) = L := by
      rw [← hLlen]
      rw [List.range_eq_range']
      exact filterMap_get [] L
    rw [this]; exact hc
end
end GoAbs
end

section
namespace GoAbs
open Go

inductive Ex where
  | normal
  | exit (id : Nat)
  | ret

/-- A nil slice in a temporary becomes an empty row of the call's own. -/
structure Gh where
  slot : Nat
  site : Nat
  ag : Bool
  sz : Nat
  /-- Or: the row that is named so is never written again. -/
  fz : Bool := false

def Gh.goN (g : Gh) (st : St) : St :=
  match st.tm g.slot with
  | .nils => ⟨putd st.tm (some g.slot) (.own g.site (st.s.vr g.site) g.sz 0 0), st.s.put g.site g.ag g.sz [] true⟩
  | _ => st
def Gh.goF (g : Gh) (st : St) : St :=
  match localIds [g.site] with
  | true => (match st with
    | ⟨tm, s⟩ => ⟨fun t => thaw s [g.site] (tm t), s.kill [g.site]⟩)
  | false => st
def Gh.go (g : Gh) (st : St) : St :=
  match g.fz with
  | true => g.goF st
  | false => g.goN st

def keepHp (ids : List Nat) (s : HS) : Nat → Option Blk := fun i => bif ids.any (Nat.beq i) then s.hp i else none
def HS.keep (ids : List Nat) (s : HS) : HS :=
  { hp := keepHp ids s, vr := fun i => match keepHp ids s i with
    | some b => b.ver + 1
    | none => bif Nat.blt i ioB then 0 else s.vr i }
def blkOk (ids : List Nat) : Option Blk → Bool
  | some b => b.pu || refsL ids b.es
  | none => false
def keepOk (ids tms : List Nat) (st : St) : Bool := tms.all (fun t => refsB ids (st.tm t)) && ids.all (fun i => blkOk ids (st.s.hp i))
def keepT (tms : List Nat) (tm : Nat → AV) : Nat → AV := fun t => bif tms.any (Nat.beq t) then tm t else .any
/-- At a loop's head: all is forgotten but some blocks and some temporaries. -/
def St.keep (kp : Option (List Nat × List Nat)) (st : St) : St :=
  match kp with
  | none => st
  | some (ids, tms) => bif keepOk ids tms st then ⟨keepT tms st.tm, st.s.keep ids⟩ else st

def St.keeps (l : List (List Nat × List Nat)) (st : St) : St := l.foldl (fun st k => st.keep (some k)) st
def loopA (W : St → (Ex → St → Prop) → Prop) (kp : Option (List Nat × List Nat)) (kq : List (List Nat × List Nat)) : Nat → St → (Ex → St → Prop) → Prop
  | 0, _, _ => False
  | k + 1, st, Q => W (st.keep kp) fun e st' => match e with
    | .normal => loopA W kp kq k st' Q
    | e => Q e (st'.keeps kq)

/-- What a state tells, another one tells too. -/
def StLe (E : Env) (st st' : St) : Prop := ∀ (w0 : World) (io : Nat → Prop) (s0 : HS) (M0 : Nat → Pl) (ok0 : Nat → Prop) (n : Nat) (a : Act) (w : World), SR E w0 io s0 M0 ok0 n st a w → SR E w0 io s0 M0 ok0 n st' a w
theorem StLe.refl (E : Env) (st : St) : StLe E st st := fun _ _ _ _ _ _ _ _ h => h
theorem StLe.trans {E : Env} {st st' st'' : St} (h : StLe E st st') (k : StLe E st' st'') : StLe E st st'' := fun _ _ _ _ _ _ _ _ x => k _ _ _ _ _ _ _ _ (h _ _ _ _ _ _ _ _ x)

def wpA (E : Env) : Code → St → (Ex → St → Prop) → Prop
  | .skip, st, Q => Q .normal st
  | .region _ ops draw, st, Q => match draw with
    | false => opsK E false ops.toList ops.toList st (Q .normal)
    | true => opsF E ops.toList ops.toList st fun fs st' => match fpsOk ops.toList fs with
      | true => Q .normal st'
      | false => False
  | .seq a b, st, Q => wpA E a st fun e st' => match e with
    | .normal => wpA E b st' Q
    | e => Q e st'
  | .cond c a b, st, Q => match ev st.tm c with
    | .kt => wpA E a st Q
    | .kf => wpA E b st Q
    | .bool t => ifB t (wpA E a st Q) (wpA E b st Q)
    | _ => False
  | .block id c, st, Q => wpA E c st fun e st' => match e with
    | .exit j => match Nat.beq j id with
      | true => Q .normal st'
      | false => Q (.exit j) st'
    | e => Q e st'
  | .loop c, st0, Q => ∃ st : St, StLe E st0 st ∧ ∃ gs : List Gh, ∃ kp : Option (List Nat × List Nat), ∃ kq : List (List Nat × List Nat), ∃ k, loopA (wpA E c) kp kq k (gs.foldl (fun st g => g.go st) st) Q
  | .exit id, st, Q => Q (.exit id) st
  | .scope c, st, Q => wpA E c st Q
  | .ret, st, Q => Q .ret st
  | _, _, _ => False
theorem wpA_cond {E : Env} {c : Operand} {a b : Code} {st : St} {Q : Ex → St → Prop} : wpA E (.cond c a b) st Q = (match ev st.tm c with
    | .kt => wpA E a st Q
    | .kf => wpA E b st Q
    | .bool t => ifB t (wpA E a st Q) (wpA E b st Q)
    | _ => False) := rfl

def codeOk (E : Env) (n : Nat) : Code → Bool
  | .region _ ops draw => dstsOk n ops.toList && (!draw || drawOk ops.toList)
  | .seq a b => codeOk E n a && codeOk E n b
  | .cond _ a b => codeOk E n a && codeOk E n b
  | .block _ c => codeOk E n c
  | .loop c => codeOk E n c
  | .scope c => codeOk E n c
  | _ => true

def exC : Ex → Exit
  | .normal => .normal
  | .exit id => .exit id
  | .ret => .ret

open Classical in
/-- The least number of which p holds (0, if there is none). -/
noncomputable def sInfK (p : Nat → Prop) : Nat := if h : ∃ k, p k ∧ ∀ j, p j → k ≤ j then h.choose else 0
theorem least_ex {p : Nat → Prop} (h : ∃ k, p k) : ∃ k, p k ∧ ∀ j, p j → k ≤ j := by
  obtain ⟨k, hk⟩ := h
  induction k using Nat.strongRecOn with
  | _ k ih =>
    by_cases hj : ∃ j, p j ∧ j < k
    · obtain ⟨j, h1, h2⟩ := hj
      exact ih j h2 h1
    · exact ⟨k, hk, fun j hp => Nat.le_of_not_lt fun hlt => hj ⟨j, hp, hlt⟩⟩
theorem sInfK_mem {p : Nat → Prop} (h : ∃ k, p k) : p (sInfK p) := by
  have := least_ex h
  unfold sInfK
  rw [dif_pos this]
  exact this.choose_spec.1
theorem sInfK_le {p : Nat → Prop} {k : Nat} (h : p k) : sInfK p ≤ k := by
  have := least_ex ⟨k, h⟩
  unfold sInfK
  rw [dif_pos this]
  exact this.choose_spec.2 k h

section
variable {E : Env} {w0 : World} {io : Nat → Prop} {s0 : HS} {M0 : Nat → Pl} {ok0 : Nat → Prop} {n : Nat}

theorem Gh.soundN (g : Gh) (hg : g.slot < n) {st : St} {a : Act} {w : World} (h : SR E w0 io s0 M0 ok0 n st a w) : SR E w0 io s0 M0 ok0 n (g.goN st) a w := by
  unfold Gh.goN
  split
  · rename_i hn
    obtain ⟨M, ok, hl, hd, hs, ht⟩ := h
    have hv := hl.hr.virt g.site g.ag g.sz true
    have hx := ht g.slot
    rw [hn] at hx
    generalize hxv : a.tmps.getD g.slot undef = xv at hx
    cases hx
    have := SR.put hl hd hs ht hv (RV.own_virt (w := w) (ok := ok) _ g.site (st.s.vr g.site) g.sz none (place_now st.s M g.site g.ag g.sz [] true .virt)) (some g.slot) (fun k hk => by simp at hk; omega)
    have he : a.put (some g.slot) (.slice none 0 0) = a := by
      have : a.tmps.setIfInBounds g.slot (.slice none 0 0) = a.tmps := by
        apply Array.ext_getElem?
        intro j
        rw [Array.getElem?_setIfInBounds]
        split
        · rename_i hj; subst hj
          rw [Array.getD_eq_getD_getElem?, Array.getElem?_eq_getElem (by omega)] at hxv
          simp at hxv
          rw [if_pos (by omega), Array.getElem?_eq_getElem (by omega), hxv]
        · rfl
      simp [Act.put, this]
    rw [he] at this
    exact this
  · exact h

theorem Gh.soundF (g : Gh) {st : St} {a : Act} {w : World} (h : SR E w0 io s0 M0 ok0 n st a w) : SR E w0 io s0 M0 ok0 n (g.goF st) a w := by
  unfold Gh.goF
  split
  · rename_i hl
    obtain ⟨M, ok, hl1, hd, hs, ht⟩ := h
    exact ⟨M, _, hl1.trans (hl1.hr.kill _ hl), hd, hs, fun t => thaw_sound hl1.hr _ hl (ht t)⟩
  · exact h

theorem Gh.big (g : Gh) (hg : ¬ g.slot < n) {st : St} {a : Act} {w : World} (h : SR E w0 io s0 M0 ok0 n st a w) : g.goN st = st := by
  unfold Gh.goN
  split
  · rename_i hn
    exfalso
    obtain ⟨M, ok, hl, hd, hs, ht⟩ := h
    have hx := ht g.slot
    rw [hn, Array.getD_eq_getD_getElem?, Array.getElem?_eq_none (by omega)] at hx
    simp [undef] at hx
    cases hx
  · rfl
theorem Gh.soundAll : ∀ (gs : List Gh) {st : St} {a : Act} {w : World}, SR E w0 io s0 M0 ok0 n st a w → SR E w0 io s0 M0 ok0 n (gs.foldl (fun st g => g.go st) st) a w
  | [], _, _, _, h => h
  | g :: gs, st, _, _, h => by
    refine Gh.soundAll gs ?_
    show SR E w0 io s0 M0 ok0 n (g.go st) _ _
    unfold Gh.go
    split
    · exact g.soundF h
    · by_cases hg : g.slot < n
      · exact g.soundN hg h
      · rw [g.big hg h]; exact h

theorem opsF_mono {all : List Oper} : ∀ {l : List Oper} {st : St} {K K' : List Ft → St → Prop}, (∀ fs st, K fs st → K' fs st) → opsF E all l st K → opsF E all l st K'
  | [], _, _, _, hk, h => hk _ _ h
  | o :: r, st, K, K', hk, h => by
    obtain ⟨tm, s⟩ := st
    have h : opK E true all o ⟨tm, s⟩ fun st' => opsF E all r st' fun fs => K (foot E (o.dst.getD 0) o.op (ev tm) :: fs) := h
    show opK E true all o ⟨tm, s⟩ fun st' => opsF E all r st' fun fs => K' (foot E (o.dst.getD 0) o.op (ev tm) :: fs)
    rw [opK_eq] at h ⊢
    refine gate_mono h (fun hx => ?_) (fun hx => opsF_mono (fun fs => hk _) hx)
    obtain ⟨v, s', h1, h2⟩ := stepO_eff hx
    exact Eff.run h1 (opsF_mono (fun fs => hk _) h2)

theorem refsL_cells {ids : List Nat} {e : AV} (h : refsB ids e = true) : refsL ids e.cells = true := by
  cases e <;> simp only [AV.cells, refsL, Bool.and_true] <;> first | exact h | simpa only [refsB] using h
theorem refsL_app {ids : List Nat} : ∀ {a b : List AV}, refsL ids a = true → refsL ids b = true → refsL ids (a ++ b) = true
  | [], _, _, h => h
  | v :: r, b, h, k => by
    simp only [refsL, Bool.and_eq_true, List.cons_append] at h ⊢
    exact ⟨h.1, refsL_app h.2 k⟩
theorem refsL_flat {ids : List Nat} : ∀ {es : List AV}, refsL ids es = true → refsL ids (flat es) = true
  | [], _ => rfl
  | e :: es, h => by
    simp only [refsL, Bool.and_eq_true] at h
    rw [flat_cons]
    exact refsL_app (refsL_cells h.1) (refsL_flat h.2)

theorem SR.keep (h0 : ∀ i ver, i < ioB → s0.place M0 i ver = .bad) (kp : Option (List Nat × List Nat)) {st : St} {a : Act} {w : World} (h : SR E w0 io s0 M0 ok0 n st a w) : SR E w0 io s0 M0 ok0 n (st.keep kp) a w := by
  unfold St.keep
  split
  · exact h
  rename_i ids tms
  cases hk : keepOk ids tms st with
  | false => exact h
  | true =>
    obtain ⟨M, ok, hl, hd, hs, ht⟩ := h
    obtain ⟨tm, s⟩ := st
    simp only [keepOk, Bool.and_eq_true, List.all_eq_true] at hk
    obtain ⟨hk1, hk2⟩ := hk
    simp only at hl ht hk1 hk2
    have hr := hl.hr
    have hsome : ∀ {i : Nat} {b : Blk}, (s.keep ids).hp i = some b → s.hp i = some b ∧ ids.any (Nat.beq i) = true := by
      intro i b hb
      simp only [HS.keep, keepHp] at hb
      cases hi : ids.any (Nat.beq i) with
      | true => rw [hi] at hb; exact ⟨hb, rfl⟩
      | false => rw [hi] at hb; simp at hb
    have hin : ∀ {i : Nat}, ids.any (Nat.beq i) = true → i ∈ ids := by
      intro i hi
      obtain ⟨j, hj, he⟩ := List.any_eq_true.1 hi
      exact (Nat.eq_of_beq_eq_true he) ▸ hj
    have hlist : ∀ {i : Nat}, ids.any (Nat.beq i) = true → ∃ b, s.hp i = some b ∧ (s.keep ids).hp i = some b ∧ (b.pu || refsL ids b.es) = true := by
      intro i hi
      have h2 := hk2 i (hin hi)
      cases hb : s.hp i with
      | none => rw [hb] at h2; simp [blkOk] at h2
      | some b => rw [hb] at h2; exact ⟨b, rfl, by simp only [HS.keep, keepHp, hi, cond_true, hb], h2⟩
    have hver : ∀ {i : Nat} {b : Blk}, (s.keep ids).hp i = some b → (s.keep ids).vr i = b.ver + 1 := by
      intro i b hb
      have hb' : keepHp ids s i = some b := hb
      simp only [HS.keep, hb']
    have hpl : ∀ i ver, ids.any (Nat.beq i) = true → (s.keep ids).place M i ver = s.place M i ver := by
      intro i ver hi
      obtain ⟨b, h1, h2, _⟩ := hlist hi
      simp only [HS.place, h1, h2, hver h2, hr.ver _ _ h1]
    have hio : ∀ i ver, ¬ i < ioB → s.place M i ver = .bad ∨ (s.keep ids).place M i ver = s.place M i ver ∨ (s.keep ids).place M i ver = .dead := by
      intro i ver hi
      cases hc : ids.any (Nat.beq i) with
      | true => exact .inr (.inl (hpl i ver hc))
      | false =>
        have e1 : (s.keep ids).hp i = none := by simp only [HS.keep, keepHp, hc, cond_false]
        have e2 : (s.keep ids).vr i = s.vr i := by
          have e1' : keepHp ids s i = none := e1
          have hb : Nat.blt i ioB = false := by
            cases hb : Nat.blt i ioB with
            | false => rfl
            | true => exact absurd (by simpa [Nat.blt_eq] using hb) hi
          simp only [HS.keep, e1', hb, cond_false]
        simp only [HS.place, e1, e2]
        cases hb : s.hp i with
        | none => simp only; exact .inr (.inl trivial)
        | some b =>
          simp only
          have hv := hr.ver _ _ hb
          by_cases hbv : b.ver = ver
          · rw [if_pos (by omega : ver < s.vr i)]; exact .inr (.inr rfl)
          · rw [if_neg hbv]
            split
            · exact .inr (.inl rfl)
            · exact .inl rfl
    refine ⟨M, ok, ⟨?_, ⟨hl.mono.keep, fun i ver => ?_⟩, hl.new⟩, hd, hs, fun t => ?_⟩
    · refine ⟨fun i b hb => ?_, fun i b hb => hver hb, fun i i' b b' k sh sz n N sh' sz' n' N' h1 h2 => hr.inj i i' b b' k sh sz n N sh' sz' n' N' (hsome h1).1 (hsome h2).1, fun i b k sh sz n N h1 => hr.lo i b k sh sz n N (hsome h1).1,
        fun k hk => ⟨(hr.okb k hk).1, fun i b sh sz n N h1 => (hr.okb k hk).2 i b sh sz n N (hsome h1).1⟩, hr.frame, hr.size, hr.os, hr.output, hr.tape, hr.G⟩
      obtain ⟨h1, h2⟩ := hsome hb
      obtain ⟨b', h3, h4, h5⟩ := hlist h2
      have : b' = b := by rw [h1] at h3; exact (Option.some.inj h3).symm
      subst this
      have h6 := hr.blk _ _ h1
      generalize M i = p at h6 ⊢
      cases p with
      | bad => exact h6
      | dead => exact h6
      | virt => exact h6
      | «at» k sh sz n N =>
        obtain ⟨a1, a2, a3, c, T, fr, vs, a4, a5, a6, a7, a8⟩ := h6
        refine ⟨a1, a2, a3, c, T, fr, vs, a4, a5, a6, ?_, a8⟩
        cases hpu : b'.pu with
        | true => rw [hpu] at a7; exact a7
        | false =>
          rw [hpu] at a7 h5
          exact RVs.refs a7 (refsL_flat (by simpa using h5)) hpl
    · by_cases hi : i < ioB
      · exact .inl (h0 i ver hi)
      · rcases hl.mono.place i ver with e | e | e
        · exact .inl e
        · rcases hio i ver hi with f | f | f
          · exact .inl (e.symm.trans f)
          · exact .inr (.inl (f.trans e))
          · exact .inr (.inr f)
        · rcases hio i ver hi with f | f | f
          · rw [e] at f; exact absurd f (by simp)
          · exact .inr (.inr (f.trans e))
          · exact .inr (.inr f)
    · show RV w ok ((s.keep ids).place M) (keepT tms tm t) _
      unfold keepT
      cases hc : tms.any (Nat.beq t) with
      | false => exact .any _ _
      | true =>
        obtain ⟨t', h1, h2⟩ := List.any_eq_true.1 hc
        have := Nat.eq_of_beq_eq_true h2
        subst this
        exact RV.refs (ht t) (hk1 t h1) hpl

theorem SR.keeps (h0 : ∀ i ver, i < ioB → s0.place M0 i ver = .bad) : ∀ (l : List (List Nat × List Nat)) {st : St} {a : Act} {w : World}, SR E w0 io s0 M0 ok0 n st a w → SR E w0 io s0 M0 ok0 n (st.keeps l) a w
  | [], _, _, _, h => h
  | k :: l, _, _, _, h => SR.keeps h0 l (SR.keep h0 (some k) h)

theorem code_sound (hE : E.Valid) (h0 : ∀ i ver, i < ioB → s0.place M0 i ver = .bad) : ∀ (c : Code), codeOk E n c = true → ∀ {st : St} {a : Act} {w : World} {QA : Ex → St → Prop} {Q : Exit → Act → World → Prop}, SR E w0 io s0 M0 ok0 n st a w → wpA E c st QA →
    (∀ e st', QA e st' → ∀ a' w', SR E w0 io s0 M0 ok0 n st' a' w' → Q (exC e) a' w') → c.wp E.P Q a w := by
  intro c
  induction c with
  | skip => intro _ st a w QA Q hs h hQ; exact wp_skip (hQ _ _ h a w hs)
  | region id ops draw =>
    intro ho st a w QA Q hs h hQ
    simp only [codeOk, Bool.and_eq_true, Bool.or_eq_true, Bool.not_eq_true'] at ho
    cases draw with
    | false => exact region_plain hE ho.1 hs h fun st' hk a' w' hs' => hQ .normal st' hk a' w' hs'
    | true =>
      refine region_drawn hE ho.1 (by simpa using ho.2) hs (opsF_mono (fun fs st' hk => ?_) h) fun st' hk a' w' hs' => hQ .normal st' hk a' w' hs'
      split at hk
      · rename_i hf; exact ⟨hf, hk⟩
      · exact hk.elim
  | seq a b iha ihb =>
    intro ho st ac w QA Q hs h hQ
    simp only [codeOk, Bool.and_eq_true] at ho
    refine wp_seq (iha ho.1 hs h fun e st' hk a' w' hs' => ?_)
    cases e with
    | normal => exact ihb ho.2 hs' hk hQ
    | exit id => exact hQ _ _ hk a' w' hs'
    | ret => exact hQ _ _ hk a' w' hs'
  | cond x a b iha ihb =>
    intro ho st ac w QA Q hs h hQ
    simp only [codeOk, Bool.and_eq_true] at ho
    have hx : ∀ M ok, (∀ t, RV w ok (st.s.place M) (st.tm t) (ac.tmps.getD t undef)) → RV w ok (st.s.place M) (ev st.tm x) (ac.eval x) := fun M ok ht => ev_sound ht x
    have hs2 := hs
    obtain ⟨M, ok, hl, hd, hsz, ht⟩ := hs2
    have hv := hx M ok ht
    simp only [wpA_cond] at h
    split at h
    · rename_i he
      rw [he] at hv
      generalize hxv : ac.eval x = xv at hv
      cases hv
      exact wp_cond_true hxv (iha ho.1 hs h hQ)
    · rename_i he
      rw [he] at hv
      generalize hxv : ac.eval x = xv at hv
      cases hv
      exact wp_cond_false hxv (ihb ho.2 hs h hQ)
    · rename_i t he
      rw [he] at hv
      generalize hxv : ac.eval x = xv at hv
      cases hv
      cases t
      · exact wp_cond_false hxv (ihb ho.2 hs (h.2 rfl) hQ)
      · exact wp_cond_true hxv (iha ho.1 hs (h.1 rfl) hQ)
    · exact h.elim
  | block id c ih =>
    intro ho st a w QA Q hs h hQ
    refine wp_block (ih ho hs h fun e st' hk a' w' hs' => ?_)
    cases e with
    | normal => exact hQ _ _ hk a' w' hs'
    | exit j =>
      simp only at hk
      simp only [exC, Exit.inBlock]
      split at hk
      · rename_i hj
        rw [if_pos (by simpa using hj)]
        exact hQ _ _ hk a' w' hs'
      · rename_i hj
        rw [if_neg (by intro he; subst he; simp at hj)]
        exact hQ _ _ hk a' w' hs'
    | ret => exact hQ _ _ hk a' w' hs'
  | loop c ih =>
    intro ho st a w QA Q hs h hQ
    obtain ⟨st_, hst, gs, kp, kq, k, h⟩ := h
    have hs := hst _ _ _ _ _ _ _ _ hs
    clear hst
    generalize st_ = st at *
    have hs1 := Gh.soundAll gs hs
    generalize gs.foldl (fun st g => g.go st) st = st1 at h hs1
    refine wp_loop (fun a w => ∃ k st, SR E w0 io s0 M0 ok0 n st a w ∧ loopA (wpA E c) kp kq k st QA) (fun a w => sInfK fun k => ∃ st, SR E w0 io s0 M0 ok0 n st a w ∧ loopA (wpA E c) kp kq k st QA) ⟨k, st1, hs1, h⟩ ?_
    rintro a' w' hI
    obtain ⟨st2, hs2, h2⟩ := sInfK_mem hI
    generalize hk2 : (sInfK fun k => ∃ st, SR E w0 io s0 M0 ok0 n st a' w' ∧ loopA (wpA E c) kp kq k st QA) = k2 at h2 ⊢
    cases k2 with
    | zero => exact h2.elim
    | succ k2 =>
      refine ih ho (SR.keep h0 kp hs2) h2 fun e st' hk a'' w'' hs' => ?_
      cases e with
      | normal =>
        refine ⟨⟨k2, st', hs', hk⟩, ?_⟩
        exact Nat.lt_succ_of_le (sInfK_le ⟨st', hs', hk⟩)
      | exit id => exact hQ _ _ hk a'' w'' (SR.keeps h0 kq hs')
      | ret => exact hQ _ _ hk a'' w'' (SR.keeps h0 kq hs')
  | exit id => intro _ st a w QA Q hs h hQ; exact wp_exit (hQ _ _ h a w hs)
  | scope c ih =>
    intro ho st a w QA Q hs h hQ
    refine wp_scope_straight (ih ho hs h fun e st' hk a' w' hs' => ?_)
    cases e <;> exact hQ _ _ hk a' w' hs'
  | ret => intro _ st a w QA Q hs h hQ; exact wp_ret (hQ _ _ h a w hs)
  | _ => intro _ _ _ _ _ _ _ h; exact h.elim
end
end GoAbs
end

section
namespace GoAbs
open Go

/-- What reads as a reads as b. -/
def Le (a b : AV) : Prop := ∀ (w : World) (ok : Nat → Prop) (φ : Place) (x : Value), RV w ok φ a x → RV w ok φ b x
def Les (a b : List AV) : Prop := ∀ (w : World) (ok : Nat → Prop) (φ : Place) (x : List Value), RVs w ok φ a x → RVs w ok φ b x
theorem Le.refl (a : AV) : Le a a := fun _ _ _ _ h => h
theorem Le.trans {a b c : AV} (h : Le a b) (k : Le b c) : Le a c := fun _ _ _ _ x => k _ _ _ _ (h _ _ _ _ x)
theorem Le.of_eq {a b : AV} (h : a = b) : Le a b := h ▸ Le.refl a
theorem Les.refl (a : List AV) : Les a a := fun _ _ _ _ h => h
theorem Les.nil : Les [] [] := .refl _
theorem Les.cons {a b : AV} {as bs : List AV} (h : Le a b) (t : Les as bs) : Les (a :: as) (b :: bs) := by
  intro w ok φ x hx
  cases hx with
  | cons _ _ _ _ _ h1 t1 => exact .cons _ _ _ _ _ (h _ _ _ _ h1) (t _ _ _ _ t1)
theorem Le.agg {as bs : List AV} (h : Les as bs) : Le (.agg as) (.agg bs) := by
  intro w ok φ x hx
  cases hx with | agg _ _ _ h1 => exact .agg _ _ _ (h _ _ _ _ h1)
theorem Le.tup {as bs : List AV} (h : Les as bs) : Le (.tup as) (.tup bs) := by
  intro w ok φ x hx
  cases hx with | tup _ _ _ h1 => exact .tup _ _ _ (h _ _ _ _ h1)
theorem Le.nils (ag : Bool) (sz : Nat) : Le .nils (.imm ag sz []) := by
  intro w ok φ x hx
  cases hx
  exact .imm0 _ _ _ _ _
theorem Le.kt : Le .kt (.bool true) := by
  intro w ok φ x hx
  cases hx
  exact .bool _ _
theorem Le.kf : Le .kf (.bool false) := by
  intro w ok φ x hx
  cases hx
  exact .bool _ _
theorem Le.tt : Le (.bool true) .kt := by
  intro w ok φ x hx
  cases hx
  exact .kt _
theorem Le.any (a : AV) : Le a .any := fun _ _ _ _ _ => .any _ _

def resK (E : Env) : List ResultVar → St → (List AV → Prop) → Prop
  | [], _, K => K []
  | .tmp t :: r, st, K => resK E r st fun vs => K (st.tm t :: vs)
  | .cell a t :: r, st, K => (loadA E t (st.tm a) st.s).run E fun v => resK E r st fun vs => K (v :: vs)

def tupOf : List AV → AV
  | [v] => v
  | vs => .tup vs

/-- What a pure function hands back. -/
def retK (E : Env) (rs : List ResultVar) (st : St) (r : AV) : Prop := resK E rs st fun vs => ∃ r0, fz (fun _ => true) 6 st.s (tupOf vs) = some r0 ∧ Le r0 r

def endQ (E : Env) (rs : List ResultVar) (r : AV) : Ex → St → Prop
  | .exit _, _ => False
  | _, st => retK E rs st r

def st0 (args : List AV) : St := { tm := fun t => args.getD t .any, s := hsOf [] }

section
variable {E : Env} {w0 : World} {io : Nat → Prop} {s0 : HS} {M0 : Nat → Pl} {ok0 : Nat → Prop} {n : Nat}

def resV (tmps : Array Value) : ResultVar → Sem Value
  | .tmp t => pure (tmps.getD t undef)
  | .cell a t => do loadVar t (← asAddr (tmps.getD a undef))

theorem resK_sound (hE : E.Valid) {st : St} {a : Act} {w : World} {M : Nat → Pl} {ok : Nat → Prop} (hl : HR E w0 io st.s w M ok) (ht : ∀ t, RV w ok (st.s.place M) (st.tm t) (a.tmps.getD t undef)) :
    ∀ (rs : List ResultVar) {K : List AV → Prop}, resK E rs st K → ∃ vs xs, K vs ∧ (rs.mapM (resV a.tmps)).run E.P w = .ok xs w ∧ RVs w ok (st.s.place M) vs xs
  | [], K, h => ⟨[], [], h, rfl, .nil _⟩
  | .tmp t :: r, K, h => by
    obtain ⟨vs, xs, h1, h2, h3⟩ := resK_sound hE hl ht r h
    refine ⟨_, a.tmps.getD t undef :: xs, h1, ?_, .cons _ _ _ _ _ (ht t) h3⟩
    simp only [List.mapM_cons, resV, Sem.run_bind, Sem.run_pure, Result.andThen_ok, h2]
  | .cell b t :: r, K, h => by
    obtain ⟨v, x, hk, hx, hv⟩ := loadA_sound hE hl t (ht b) _ h
    obtain ⟨vs, xs, h1, h2, h3⟩ := resK_sound hE hl ht r hk
    refine ⟨_, x :: xs, h1, ?_, .cons _ _ _ _ _ hv h3⟩
    have hx' : (do loadVar t (← asAddr (a.tmps.getD b undef)) : Sem Value).run E.P w = .ok x w := by
      simp only [Instr.loadAt, Sem.run_bind] at hx ⊢
      generalize a.tmps.getD b undef = y at hx ⊢
      unfold Instr.sureAddr at hx
      split at hx
      · simpa [asAddr] using hx
      · simp at hx
    simp only [List.mapM_cons, resV, Sem.run_bind, hx', Result.andThen_ok, h2, Sem.run_pure]

theorem results_eq (fn : Func) (tmps : Array Value) : results fn tmps = ((fn.results.toList.mapM (resV tmps)) >>= fun vs => pure (if h : vs.toArray.size = 1 then vs.toArray[0] else .tuple vs.toArray)) := by
  unfold results
  rw [Array.mapM_eq_mapM_toList]
  simp only [bind_map_left]
  congr 1

theorem Ct_of (hE : E.Valid) {f : FuncId} {fn : Func} {c : Code} {args : List AV} {r : AV} (hf : E.P.funcs[f]? = some fn) (hb : fn.body = some c) (hname : (fn.name == "runtime.NumGoroutine") = false)
    (hlen : args.length ≤ fn.ntmps) (hok : codeOk E fn.ntmps c = true) (h : wpA E c (st0 args) (endQ E fn.results.toList r)) : Ct E f args [] r [] := by
  intro w vals M ok hr hv
  have hbn : fn.body.isNone = false := by rw [hb]; rfl
  have hcall : (callFunc f vals.toArray).run E.P w = .ok (.enter f vals.toArray) w := by
    unfold callFunc
    rw [Sem.run_bind, run_program, Result.andThen_ok]
    simp only [hf, hname, hbn, Bool.false_eq_true, if_false, Sem.run_pure]
  unfold CallW
  rw [hcall]
  have hio : ioOf [] M = fun _ => False := by
    funext k
    simp [ioOf, ioGet]
  rw [hio] at hr ⊢
  rw [place_nil] at hv
  have hvl := hv.length
  refine calls_of_wp hf hb ?_
  have hsr : SR E w (fun _ => False) (hsOf []) M ok fn.ntmps (st0 args) { tmps := vals.toArray ++ Array.replicate (fn.ntmps - vals.toArray.size) undef, defers := [] } w := by
    refine ⟨M, ok, .refl hr, rfl, ?_, fun t => ?_⟩
    · simp; omega
    · simp only [st0, place_nil]
      rw [Array.getD_eq_getD_getElem?]
      by_cases hlt : t < args.length
      · obtain ⟨u, h1, h2⟩ := hv.get (List.getElem?_eq_getElem hlt)
        have : (vals.toArray ++ Array.replicate (fn.ntmps - vals.toArray.size) undef)[t]? = some u := by
          rw [Array.getElem?_append_left (by simp; omega)]
          simpa using h1
        rw [this, List.getD_eq_getElem?_getD, List.getElem?_eq_getElem hlt]
        exact h2
      · rw [List.getD_eq_getElem?_getD, List.getElem?_eq_none (by omega)]
        exact .any _ _
  refine code_sound hE (fun i ver hi => by simp only [HS.place, hsOf, ioGet, if_pos hi]; rfl) c hok hsr h ?_
  intro e st' hq a' w' hs'
  obtain ⟨M', ok', hl, hd, hsz, ht⟩ := hs'
  have fin : retK E fn.results.toList st' r → bodyPost E.P fn (fun
      | .returned v, w'' => ∃ M' ok', HLater E w (fun _ => False) (hsOf []) w M ok (hsOf []) w'' M' ok' ∧ RV w'' ok' ((hsOf []).place M') r v
      | _, _ => False) .ret a' w' := by
    intro hk
    obtain ⟨vs, xs, ⟨r0, h1, hle⟩, h2, h3⟩ := resK_sound hE hl.hr ht fn.results.toList hk
    refine ⟨hd, if h : xs.toArray.size = 1 then xs.toArray[0] else .tuple xs.toArray, ?_, M', okB (fun _ => true) st'.s M' ok', ?_, ?_⟩
    · rw [results_eq]
      simp only [Sem.run_bind, h2, Result.andThen_ok, Sem.run_pure]
    · refine ⟨?_, ?_, ?_⟩
      · have hn := hl.hr.nil M' (okB (fun _ => true) st'.s M' ok') (fun k hk => by
          rcases hk with hk | ⟨id, b, sh, sz, n, N, _, hb, hm⟩
          · exact (hl.hr.okb k hk).1
          · exact hl.hr.block_lt hb hm)
        exact { hn with frame := hl.hr.frame, size := hl.hr.size, os := hl.hr.os, output := hl.hr.output, tape := hl.hr.tape
                        lo := fun id b k _ _ _ _ hb => by simp [hsOf, ioGet] at hb }
      · refine ⟨fun k hk => ⟨.inl (hl.mono.keep k hk).1, (hl.mono.keep k hk).2⟩, fun _ _ => by rw [place_nil]; exact .inl rfl⟩
      · intro k hk
        rcases hk with hk | ⟨id, b, sh, sz, n, N, _, hb, hm⟩
        · exact hl.new k hk
        · rcases (hl.hr.lo id b k _ _ _ _ hb hm).1 with h1 | h1
          · exact .inr h1
          · exact h1.1.elim
    · rw [place_nil]
      refine hle _ _ _ _ (fz_sound _ hl.hr 6 ?_ h1)
      cases h3 with
      | nil => exact .tup _ _ _ (.nil _)
      | cons _ v x vs xs hv ht =>
        cases ht with
        | nil => simpa [tupOf] using hv
        | cons _ v2 x2 vs xs hv2 ht =>
          have : ¬ (x :: x2 :: xs).toArray.size = 1 := by simp
          rw [dif_neg this]
          exact .tup _ _ _ (.cons _ _ _ _ _ hv (.cons _ _ _ _ _ hv2 ht))
  cases e with
  | normal => exact fin hq
  | exit id => exact hq.elim
  | ret => exact fin hq

/- A function that writes the blocks that it is handed. -/
def isLoc (i : Nat) : Bool := Nat.blt i ioB
def ioEnd (s : HS) : Nat → List Blk → Prop
  | _, [] => True
  | j, b :: l => s.hp (ioB + j) = some b ∧ b.pure = true ∧ ioEnd s (j + 1) l
def retW (E : Env) (rs : List ResultVar) (st : St) (r : AV) (out : List Blk) : Prop := resK E rs st fun vs => (∃ r0, fz isLoc 6 st.s (tupOf vs) = some r0 ∧ Le r0 r) ∧ ioEnd st.s 0 out
def endW (E : Env) (rs : List ResultVar) (r : AV) (out : List Blk) : Ex → St → Prop
  | .exit _, _ => False
  | _, st => retW E rs st r out
def stW (args : List AV) (io : List Blk) : St := { tm := fun t => args.getD t .any, s := hsOf io }
theorem ioEnd_get {s : HS} : ∀ {l : List Blk} {j : Nat}, ioEnd s j l → ∀ {i : Nat} {b : Blk}, l[i]? = some b → s.hp (ioB + (j + i)) = some b ∧ b.pure = true
  | [], _, _, i, b, h => by simp at h
  | c :: l, j, h, 0, b, hb => by simp at hb; subst hb; exact ⟨h.1, h.2.1⟩
  | c :: l, j, h, i + 1, b, hb => by
    have := ioEnd_get h.2.2 (i := i) (b := b) (by simpa using hb)
    rwa [show j + 1 + i = j + (i + 1) by omega] at this

theorem Ct_of_io (hE : E.Valid) {f : FuncId} {fn : Func} {c : Code} {args : List AV} {io out : List Blk} {r : AV} (hf : E.P.funcs[f]? = some fn) (hb : fn.body = some c) (hname : (fn.name == "runtime.NumGoroutine") = false)
    (hlen : args.length ≤ fn.ntmps) (hok : codeOk E fn.ntmps c = true) (hol : out.length = io.length) (h : wpA E c (stW args io) (endW E fn.results.toList r out)) : Ct E f args io r out := by
  intro w vals M ok hr hv
  have hbn : fn.body.isNone = false := by rw [hb]; rfl
  have hcall : (callFunc f vals.toArray).run E.P w = .ok (.enter f vals.toArray) w := by
    unfold callFunc
    rw [Sem.run_bind, run_program, Result.andThen_ok]
    simp only [hf, hname, hbn, Bool.false_eq_true, if_false, Sem.run_pure]
  unfold CallW
  rw [hcall]
  have hvl := hv.length
  refine calls_of_wp hf hb ?_
  have hsr : SR E w (ioOf io M) (hsOf io) M ok fn.ntmps (stW args io) { tmps := vals.toArray ++ Array.replicate (fn.ntmps - vals.toArray.size) undef, defers := [] } w := by
    refine ⟨M, ok, .refl hr, rfl, ?_, fun t => ?_⟩
    · simp; omega
    · simp only [stW]
      rw [Array.getD_eq_getD_getElem?]
      by_cases hlt : t < args.length
      · obtain ⟨u, h1, h2⟩ := hv.get (List.getElem?_eq_getElem hlt)
        have : (vals.toArray ++ Array.replicate (fn.ntmps - vals.toArray.size) undef)[t]? = some u := by
          rw [Array.getElem?_append_left (by simp; omega)]
          simpa using h1
        rw [this, List.getD_eq_getElem?_getD, List.getElem?_eq_getElem hlt]
        exact h2
      · rw [List.getD_eq_getElem?_getD, List.getElem?_eq_none (by omega)]
        exact .any _ _
  refine code_sound hE (fun i ver hi => by simp only [HS.place, hsOf, ioGet, if_pos hi]; rfl) c hok hsr h ?_
  intro e st' hq a' w' hs'
  obtain ⟨M', ok', hl, hd, hsz, ht⟩ := hs'
  have fin : retW E fn.results.toList st' r out → bodyPost E.P fn (fun
      | .returned v, w'' => ∃ M' ok', HLater E w (ioOf io M) (hsOf io) w M ok (hsOf out) w'' M' ok' ∧ RV w'' ok' ((hsOf out).place M') r v
      | _, _ => False) .ret a' w' := by
    intro hk
    obtain ⟨vs, xs, ⟨⟨r0, h1, hle⟩, hio⟩, h2, h3⟩ := resK_sound hE hl.hr ht fn.results.toList hk
    have hend : ∀ {j : Nat} {b : Blk}, out[j]? = some b → st'.s.hp (ioB + j) = some b ∧ b.pure = true ∧ st'.s.vr (ioB + j) = b.ver + 1 := by
      intro j b hj
      have := ioEnd_get hio hj
      rw [Nat.zero_add] at this
      exact ⟨this.1, this.2, hl.hr.ver _ _ this.1⟩
    refine ⟨hd, if h : xs.toArray.size = 1 then xs.toArray[0] else .tuple xs.toArray, ?_, M', okB isLoc st'.s M' ok', ?_, ?_⟩
    · rw [results_eq]
      simp only [Sem.run_bind, h2, Result.andThen_ok, Sem.run_pure]
    · have hget : ∀ {id : Nat} {b : Blk}, (hsOf out).hp id = some b → ∃ j, id = ioB + j ∧ st'.s.hp id = some b ∧ b.pure = true ∧ st'.s.vr id = b.ver + 1 ∧ (hsOf out).vr id = b.ver + 1 := by
        intro id b hid
        obtain ⟨j, rfl, hj⟩ := ioGet_at hid
        obtain ⟨a1, a2, a3⟩ := hend hj
        refine ⟨j, rfl, a1, a2, a3, ?_⟩
        simp only [hsOf, ioGet_add, hj]
      have hoksub : ∀ k, ok' k → okB isLoc st'.s M' ok' k := fun k hk => .inl hk
      have hlocal : ∀ {id : Nat}, isLoc id = true → id < ioB := fun h => by simpa [isLoc, Nat.blt_eq] using h
      refine ⟨⟨?_, ?_, ?_, ?_, ?_, hl.hr.frame, hl.hr.size, hl.hr.os, hl.hr.output, hl.hr.tape, hl.hr.G⟩, ⟨fun k hk => ⟨hoksub _ (hl.mono.keep k hk).1, (hl.mono.keep k hk).2⟩, ?_⟩, ?_⟩
      · intro id b hid
        obtain ⟨j, rfl, a1, a2, a3, a4⟩ := hget hid
        exact ((hl.hr.blk _ b a1).pure (φ' := (hsOf out).place M') a2).mono ⟨fun k hk => ⟨hoksub k hk, rfl⟩, fun _ _ => .inr (.inl rfl)⟩ fun _ _ _ _ _ _ => rfl
      · intro id b hid
        obtain ⟨j, rfl, a1, a2, a3, a4⟩ := hget hid
        exact a4
      · intro id id' b b' k sh sz n N sh' sz' n' N' h1 h2 h3 h4
        obtain ⟨j, rfl, a1, a2, a3, a4⟩ := hget h1
        obtain ⟨j', rfl, b1, b2, b3, b4⟩ := hget h2
        exact hl.hr.inj _ _ _ _ k _ _ _ _ _ _ _ _ a1 b1 h3 h4
      · intro id b k sh sz n N h1 h3
        obtain ⟨j, rfl, a1, a2, a3, a4⟩ := hget h1
        exact hl.hr.lo _ b k sh sz n N a1 h3
      · intro k hk
        have hlt : k < w'.heap.size := by
          rcases hk with hk | ⟨id, b, sh, sz, n, N, _, hb, hm⟩
          · exact (hl.hr.okb k hk).1
          · exact hl.hr.block_lt hb hm
        refine ⟨hlt, fun id b sh sz n N h1 h3 => ?_⟩
        obtain ⟨j, rfl, a1, a2, a3, a4⟩ := hget h1
        rcases hk with hk | ⟨id', b', sh', sz', n', N', hp, hb', hm⟩
        · exact (hl.hr.okb k hk).2 _ b sh sz n N a1 h3
        · have := hl.hr.inj _ _ _ _ k _ _ _ _ _ _ _ _ a1 hb' h3 hm
          have h5 := hlocal hp
          rw [← this] at h5
          exact absurd h5 (Nat.not_lt.2 (Nat.le_add_right _ _))
      · intro id ver
        by_cases hi : ∃ j b, id = ioB + j ∧ out[j]? = some b
        · obtain ⟨j, b, rfl, hj⟩ := hi
          obtain ⟨a1, a2, a3⟩ := hend hj
          have e : (hsOf out).place M' (ioB + j) ver = st'.s.place M' (ioB + j) ver := by
            rw [place_io hj]
            simp only [HS.place, a1, a3]
          rw [e]
          exact hl.mono.place _ _
        · left
          have : ioGet io id = none := by
            cases hg : ioGet io id with
            | none => rfl
            | some b =>
              obtain ⟨j, rfl, hj⟩ := ioGet_at hg
              have hlt := (List.getElem?_eq_some_iff.1 hj).1
              exact (hi ⟨j, out[j], rfl, List.getElem?_eq_getElem (by omega)⟩).elim
          simp only [HS.place, hsOf, this]
          rfl
      · intro k hk
        rcases hk with hk | ⟨id, b, sh, sz, n, N, hp, hb, hm⟩
        · exact hl.new k hk
        · rcases (hl.hr.lo id b k _ _ _ _ hb hm).1 with h1 | h1
          · exact .inr h1
          · exact absurd (hlocal hp) (Nat.not_lt.2 h1.2)
    · refine RV.up (hle _ _ _ _ (fz_sound _ hl.hr 6 ?_ h1))
      cases h3 with
      | nil => exact .tup _ _ _ (.nil _)
      | cons _ v x vs xs hv ht =>
        cases ht with
        | nil => simpa [tupOf] using hv
        | cons _ v2 x2 vs xs hv2 ht =>
          have : ¬ (x :: x2 :: xs).toArray.size = 1 := by simp
          rw [dif_neg this]
          exact .tup _ _ _ (.cons _ _ _ _ _ hv (.cons _ _ _ _ _ hv2 ht))
  cases e with
  | normal => exact fin hq
  | exit id => exact hq.elim
  | ret => exact fin hq

/-- A value that names the block L, made one that names a block that is handed back. -/
def exV0 (L n : Nat) (s : HS) (v : AV) : Option AV :=
  match v with
  | .own id ver sz off len => if Nat.beq id L then (match s.hp L with
    | some b => if b.ver = ver then some (.own (ioB + n) 0 sz off len) else none
    | none => none) else fz (fun i => isLoc i && !Nat.beq i L) 6 s v
  | .ref id ver i off => if Nat.beq id L then (match s.hp L with
    | some b => if b.ver = ver then some (.ref (ioB + n) 0 i off) else none
    | none => none) else fz (fun i => isLoc i && !Nat.beq i L) 6 s v
  | v => fz (fun i => isLoc i && !Nat.beq i L) 6 s v
def exV (L n : Nat) (s : HS) (v : AV) : Option AV :=
  match v with
  | .tup vs => (match mapO (exV0 L n s) vs with
    | some us => some (.tup us)
    | none => none)
  | v => exV0 L n s v
def retN (E : Env) (rs : List ResultVar) (st : St) (r : AV) (outs : List Blk) (ag : Bool) (sz : Nat) (es : List AV) (pu : Bool) : Prop :=
  resK E rs st fun vs => ∃ L, isLoc L = true ∧ (∃ ver, st.s.hp L = some ⟨ag, sz, es, ver, pu⟩) ∧ (pu || AV.pureL es) = true ∧ (∃ r0, exV L outs.length st.s (tupOf vs) = some r0 ∧ Le r0 r) ∧ ioEnd st.s 0 outs
def endN (E : Env) (rs : List ResultVar) (r : AV) (outs : List Blk) (ag : Bool) (sz : Nat) (es : List AV) (pu : Bool) : Ex → St → Prop
  | .exit _, _ => False
  | _, st => retN E rs st r outs ag sz es pu

section
variable {s : HS} {w : World} {M M2 : Nat → Pl} {ok ok2 : Nat → Prop} {φ : Place}
theorem exV0_sound (h : HR E w0 io s w M ok) {L n ver : Nat} {b : Blk} (hb : s.hp L = some b) (hφ : φ (ioB + n) 0 = M L) (hok : ∀ k, okB (fun i => isLoc i && !Nat.beq i L) s M ok k → ok2 k) {v r : AV} {x : Value} (hv : exV0 L n s v = some r) (hx : RV w ok (s.place M) v x) : RV w ok2 φ r x := by
  have hf : ∀ {v r : AV}, fz (fun i => isLoc i && !Nat.beq i L) 6 s v = some r → RV w ok (s.place M) v x → RV w ok2 φ r x := fun h1 h2 =>
    (fz_sound _ h 6 h2 h1).mono ⟨fun k hk => ⟨hok k hk, rfl⟩, fun _ _ => .inl rfl⟩
  unfold exV0 at hv
  split at hv
  · rename_i id ver sz off len
    split at hv
    · rename_i hi
      have hi := Nat.eq_of_beq_eq_true hi
      subst hi
      rw [hb] at hv
      simp only at hv
      split at hv
      · rename_i hver
        simp at hv; subst hv
        have hpl : φ (ioB + n) 0 = s.place M id ver := by rw [hφ, place_at hb hver]
        cases hx with
        | own_dead _ _ _ _ _ _ a cap hd hl ha => exact .own_dead _ _ _ _ _ _ _ _ (hpl ▸ hd) hl ha
        | own_virt _ _ _ _ a h => exact .own_virt _ _ _ _ _ (hpl ▸ h)
        | own_nil _ _ _ _ a _ _ _ _ _ h hN => exact .own_nil _ _ _ _ _ _ _ _ _ _ (hpl ▸ h) hN
        | own _ _ _ _ _ cap k sh _ n N h hlen hcap hN => exact .own _ _ _ _ _ _ _ _ _ _ _ (hpl ▸ h) hlen hcap hN
      · simp at hv
    · exact hf hv hx
  · rename_i id ver i off
    split at hv
    · rename_i hi
      have hi := Nat.eq_of_beq_eq_true hi
      subst hi
      rw [hb] at hv
      simp only at hv
      split at hv
      · rename_i hver
        simp at hv; subst hv
        have hpl : φ (ioB + n) 0 = s.place M id ver := by rw [hφ, place_at hb hver]
        cases hx with
        | ref_dead _ _ _ _ _ b o hd => exact .ref_dead _ _ _ _ _ _ _ (hpl ▸ hd)
        | ref _ _ _ _ _ b sh sz n N h => exact .ref _ _ _ _ _ _ _ _ _ _ (hpl ▸ h)
      · simp at hv
    · exact hf hv hx
  · exact hf hv hx
theorem exV_sound (h : HR E w0 io s w M ok) {L n : Nat} {b : Blk} (hb : s.hp L = some b) (hφ : φ (ioB + n) 0 = M L) (hok : ∀ k, okB (fun i => isLoc i && !Nat.beq i L) s M ok k → ok2 k) {v r : AV} {x : Value} (hv : exV L n s v = some r) (hx : RV w ok (s.place M) v x) : RV w ok2 φ r x := by
  unfold exV at hv
  split at hv
  · rename_i vs
    split at hv
    · rename_i us hu
      simp at hv; subst hv
      cases hx with
      | tup _ _ xs hxs => exact .tup _ _ _ (mapO_RVs hu hxs fun a _ b x h1 h2 => exV0_sound (ver := 0) h hb hφ hok h1 h2)
    · simp at hv
  · exact exV0_sound (ver := 0) h hb hφ hok hv hx
end
theorem Ct_of_new (hE : E.Valid) {f : FuncId} {fn : Func} {c : Code} {args : List AV} {io outs : List Blk} {r : AV} {ag : Bool} {sz : Nat} {es : List AV} {pu : Bool} (hf : E.P.funcs[f]? = some fn) (hb : fn.body = some c) (hname : (fn.name == "runtime.NumGoroutine") = false)
    (hlen : args.length ≤ fn.ntmps) (hok : codeOk E fn.ntmps c = true) (hol : outs.length = io.length) (h : wpA E c (stW args io) (endN E fn.results.toList r outs ag sz es pu)) : Ct E f args io r (outs ++ [⟨ag, sz, es, 0, pu⟩]) := by
  intro w vals M ok hr hv
  have hbn : fn.body.isNone = false := by rw [hb]; rfl
  have hcall : (callFunc f vals.toArray).run E.P w = .ok (.enter f vals.toArray) w := by
    unfold callFunc
    rw [Sem.run_bind, run_program, Result.andThen_ok]
    simp only [hf, hname, hbn, Bool.false_eq_true, if_false, Sem.run_pure]
  unfold CallW
  rw [hcall]
  have hvl := hv.length
  refine calls_of_wp hf hb ?_
  have hsr : SR E w (ioOf io M) (hsOf io) M ok fn.ntmps (stW args io) { tmps := vals.toArray ++ Array.replicate (fn.ntmps - vals.toArray.size) undef, defers := [] } w := by
    refine ⟨M, ok, .refl hr, rfl, ?_, fun t => ?_⟩
    · simp; omega
    · simp only [stW]
      rw [Array.getD_eq_getD_getElem?]
      by_cases hlt : t < args.length
      · obtain ⟨u, h1, h2⟩ := hv.get (List.getElem?_eq_getElem hlt)
        have : (vals.toArray ++ Array.replicate (fn.ntmps - vals.toArray.size) undef)[t]? = some u := by
          rw [Array.getElem?_append_left (by simp; omega)]
          simpa using h1
        rw [this, List.getD_eq_getElem?_getD, List.getElem?_eq_getElem hlt]
        exact h2
      · rw [List.getD_eq_getElem?_getD, List.getElem?_eq_none (by omega)]
        exact .any _ _
  refine code_sound hE (fun i ver hi => by simp only [HS.place, hsOf, ioGet, if_pos hi]; rfl) c hok hsr h ?_
  intro e st' hq a' w' hs'
  obtain ⟨M', ok', hl, hd, hsz, ht⟩ := hs'
  have fin : retN E fn.results.toList st' r outs ag sz es pu → bodyPost E.P fn (fun
      | .returned v, w'' => ∃ M' ok', HLater E w (ioOf io M) (hsOf io) w M ok (hsOf (outs ++ [⟨ag, sz, es, 0, pu⟩])) w'' M' ok' ∧ RV w'' ok' ((hsOf (outs ++ [⟨ag, sz, es, 0, pu⟩])).place M') r v
      | _, _ => False) .ret a' w' := by
    intro hk
    obtain ⟨vs, xs, ⟨L, hL, ⟨ver, hLb⟩, hLp, ⟨r0, h1, hle⟩, hio⟩, h2, h3⟩ := resK_sound hE hl.hr ht fn.results.toList hk
    obtain ⟨out, hout⟩ : ∃ out, out = outs ++ [(⟨ag, sz, es, 0, pu⟩ : Blk)] := ⟨_, rfl⟩
    obtain ⟨M2, hM2⟩ : ∃ M2 : Nat → Pl, M2 = fun i => if i = ioB + outs.length then M' L else M' i := ⟨_, rfl⟩
    rw [← hout]
    have hLt : L < ioB := by simpa [isLoc, Nat.blt_eq] using hL
    -- where a block that is handed back comes from
    have hget : ∀ {j : Nat} {b : Blk}, out[j]? = some b → ∃ i b', st'.s.hp i = some b' ∧ b.ag = b'.ag ∧ b.sz = b'.sz ∧ b.es = b'.es ∧ b.pu = b'.pu ∧ M2 (ioB + j) = M' i ∧ b.pure = true ∧ (j = outs.length ∧ i = L ∧ b.ver = 0 ∨ j < outs.length ∧ i = ioB + j ∧ b = b') := by
      intro j b hj
      rw [hout] at hj
      by_cases hjl : j < outs.length
      · rw [List.getElem?_append_left hjl] at hj
        have := ioEnd_get hio hj
        rw [Nat.zero_add] at this
        exact ⟨ioB + j, b, this.1, rfl, rfl, rfl, rfl, by rw [hM2]; simp only; rw [if_neg (by omega)], this.2, .inr ⟨hjl, rfl, rfl⟩⟩
      · have hj2 := (List.getElem?_eq_some_iff.1 hj).1
        have hje : j = outs.length := by simp at hj2; omega
        subst hje
        rw [List.getElem?_append_right (Nat.le_refl _), Nat.sub_self] at hj
        simp at hj; subst hj
        exact ⟨L, _, hLb, rfl, rfl, rfl, rfl, by rw [hM2]; simp, hLp, .inl ⟨rfl, rfl, rfl⟩⟩
    have hidx : ∀ {j j' i : Nat} {b b' c c' : Blk}, (j = outs.length ∧ i = L ∧ b.ver = 0 ∨ j < outs.length ∧ i = ioB + j ∧ b = b') → (j' = outs.length ∧ i = L ∧ c.ver = 0 ∨ j' < outs.length ∧ i = ioB + j' ∧ c = c') → j = j' := by
      rintro j j' i b b' c c' (⟨e1, e2, _⟩ | ⟨e1, e2, _⟩) (⟨e3, e4, _⟩ | ⟨e3, e4, _⟩) <;> omega
    refine ⟨hd, if h : xs.toArray.size = 1 then xs.toArray[0] else .tuple xs.toArray, ?_, M2, okB (fun i => isLoc i && !Nat.beq i L) st'.s M' ok', ?_, ?_⟩
    · rw [results_eq]
      simp only [Sem.run_bind, h2, Result.andThen_ok, Sem.run_pure]
    · have hhp : ∀ {id : Nat} {b : Blk}, (hsOf out).hp id = some b → ∃ j, id = ioB + j ∧ out[j]? = some b := fun hid => ioGet_at hid
      have hoksub : ∀ k, ok' k → okB (fun i => isLoc i && !Nat.beq i L) st'.s M' ok' k := fun k hk => .inl hk
      have hlocal : ∀ {id : Nat}, (isLoc id && !Nat.beq id L) = true → id < ioB ∧ id ≠ L := by
        intro id h
        simp only [Bool.and_eq_true, Bool.not_eq_true'] at h
        refine ⟨by simpa [isLoc, Nat.blt_eq] using h.1, fun he => ?_⟩
        subst he
        simp at h
      refine ⟨⟨?_, ?_, ?_, ?_, ?_, hl.hr.frame, hl.hr.size, hl.hr.os, hl.hr.output, hl.hr.tape, hl.hr.G⟩, ⟨fun k hk => ⟨hoksub _ (hl.mono.keep k hk).1, (hl.mono.keep k hk).2⟩, ?_⟩, ?_⟩
      · intro id b hid
        obtain ⟨j, rfl, hj⟩ := hhp hid
        obtain ⟨i, b', a1, a2, a3, a4, a5, a6, a7, _⟩ := hget hj
        rw [a6]
        have hp' : b'.pure = true := by simpa [Blk.pure, a4, a5] using a7
        have h5 := ((hl.hr.blk _ b' a1).pure (φ' := (hsOf out).place M2) hp').mono (w' := w') (ok' := okB (fun i => isLoc i && !Nat.beq i L) st'.s M' ok') ⟨fun k hk => ⟨hoksub k hk, rfl⟩, fun _ _ => .inr (.inl rfl)⟩ fun _ _ _ _ _ _ => rfl
        generalize M' i = p at h5
        obtain ⟨bag, bsz, bes, bver, bpu⟩ := b
        obtain ⟨cag, csz, ces, cver, cpu⟩ := b'
        simp only at a2 a3 a4 a5
        subst a2; subst a3; subst a4; subst a5
        cases p with
        | bad => exact h5
        | dead => exact h5
        | virt => exact h5
        | «at» k sh sz n N => exact ⟨h5.hsz, h5.hN, h5.lay, h5.cells⟩
      · intro id b hid
        obtain ⟨j, rfl, hj⟩ := hhp hid
        simp only [hsOf, ioGet_add, hj]
      · intro id id' b b' k sh sz n N sh' sz' n' N' h1 h2 h3 h4
        obtain ⟨j, rfl, hj⟩ := hhp h1
        obtain ⟨j', rfl, hj'⟩ := hhp h2
        obtain ⟨i, c, a1, _, _, _, _, a6, _, a8⟩ := hget hj
        obtain ⟨i', c', b1, _, _, _, _, b6, _, b8⟩ := hget hj'
        rw [a6] at h3
        rw [b6] at h4
        have := hl.hr.inj _ _ _ _ k _ _ _ _ _ _ _ _ a1 b1 h3 h4
        subst this
        rw [hidx a8 b8]
      · intro id b k sh sz n N h1 h3
        obtain ⟨j, rfl, hj⟩ := hhp h1
        obtain ⟨i, c, a1, _, _, _, _, a6, _, a8⟩ := hget hj
        rw [a6] at h3
        have h5 := hl.hr.lo _ c k sh sz n N a1 h3
        refine ⟨?_, h5.2⟩
        rcases h5.1 with h6 | h6
        · exact .inl h6
        · refine .inr ⟨h6.1, by omega⟩
      · intro k hk
        have hlt : k < w'.heap.size := by
          rcases hk with hk | ⟨id, b, sh, sz, n, N, _, hb, hm⟩
          · exact (hl.hr.okb k hk).1
          · exact hl.hr.block_lt hb hm
        refine ⟨hlt, fun id b sh sz n N h1 h3 => ?_⟩
        obtain ⟨j, rfl, hj⟩ := hhp h1
        obtain ⟨i, c, a1, _, _, _, _, a6, _, a8⟩ := hget hj
        rw [a6] at h3
        rcases hk with hk | ⟨id', b', sh', sz', n', N', hp, hb', hm⟩
        · exact (hl.hr.okb k hk).2 _ c sh sz n N a1 h3
        · have := hl.hr.inj _ _ _ _ k _ _ _ _ _ _ _ _ a1 hb' h3 hm
          have h5 := hlocal hp
          rw [← this] at h5
          rcases a8 with ⟨_, e, _⟩ | ⟨_, e, _⟩
          · exact h5.2 e
          · omega
      · intro id ver'
        by_cases hi : ∃ j b, id = ioB + j ∧ outs[j]? = some b
        · obtain ⟨j, b, rfl, hj⟩ := hi
          have hjl := (List.getElem?_eq_some_iff.1 hj).1
          have hj' : out[j]? = some b := by rw [hout, List.getElem?_append_left hjl]; exact hj
          have a1 := ioEnd_get hio hj
          rw [Nat.zero_add] at a1
          have e : (hsOf out).place M2 (ioB + j) ver' = st'.s.place M' (ioB + j) ver' := by
            rw [place_io hj', hM2]
            simp only [HS.place, a1.1, hl.hr.ver _ _ a1.1]
            rw [if_neg (by omega : ¬ ioB + j = ioB + outs.length)]
          rw [e]
          exact hl.mono.place _ _
        · left
          have : ioGet io id = none := by
            cases hg : ioGet io id with
            | none => rfl
            | some b =>
              obtain ⟨j, rfl, hj⟩ := ioGet_at hg
              have hlt := (List.getElem?_eq_some_iff.1 hj).1
              exact (hi ⟨j, outs[j], rfl, List.getElem?_eq_getElem (by omega)⟩).elim
          simp only [HS.place, hsOf, this]
          rfl
      · intro k hk
        rcases hk with hk | ⟨id, b, sh, sz, n, N, hp, hb, hm⟩
        · exact hl.new k hk
        · rcases (hl.hr.lo id b k _ _ _ _ hb hm).1 with h1 | h1
          · exact .inr h1
          · have := (hlocal hp).1; omega
    · refine hle _ _ _ _ (exV_sound hl.hr hLb ?_ (fun k hk => hk) h1 ?_)
      · have hj : out[outs.length]? = some (⟨ag, sz, es, 0, pu⟩ : Blk) := by rw [hout, List.getElem?_append_right (Nat.le_refl _), Nat.sub_self]; rfl
        rw [place_io hj, if_pos rfl, hM2]
        simp
      cases h3 with
      | nil => exact .tup _ _ _ (.nil _)
      | cons _ v x vs xs hv ht =>
        cases ht with
        | nil => simpa [tupOf] using hv
        | cons _ v2 x2 vs xs hv2 ht =>
          have : ¬ (x :: x2 :: xs).toArray.size = 1 := by simp
          rw [dif_neg this]
          exact .tup _ _ _ (.cons _ _ _ _ _ hv (.cons _ _ _ _ _ hv2 ht))
  cases e with
  | normal => exact fin hq
  | exit id => exact hq.elim
  | ret => exact fin hq

theorem HR.env {E E' : Env} (hG : E'.G = E.G) (hN : E'.N = E.N) {w0 : World} {io : Nat → Prop} {s : HS} {w : World} {M : Nat → Pl} {ok : Nat → Prop} (h : HR E w0 io s w M ok) : HR E' w0 io s w M ok :=
  { blk := h.blk, ver := h.ver, inj := h.inj, lo := fun id b k sh sz n N hb hm => hN ▸ h.lo id b k sh sz n N hb hm, okb := h.okb, frame := h.frame, size := h.size, os := h.os, output := h.output, tape := h.tape, G := hG ▸ h.G }
/-- A contract does not lean on the table of types. -/
theorem Ct.env {E E' : Env} (hP : E'.P = E.P) (hG : E'.G = E.G) (hN : E'.N = E.N) {f : FuncId} {args : List AV} {io out : List Blk} {r : AV} (h : Ct E f args io r out) : Ct E' f args io r out := by
  intro w vals M ok hr hv
  have := h w vals M ok (hr.env hG.symm hN.symm) hv
  rw [hP]
  refine UponV.mono this fun x w' ⟨M', ok', hl, hx⟩ => ⟨M', ok', ⟨hl.hr.env hG hN, hl.mono, hl.new⟩, hx⟩
/-- A contract that knows nothing of the world holds where more is known. -/
theorem Ct.strong {E E' : Env} (hE' : E'.Valid) (hP : E'.P = E.P) (hG : ∀ w, E.G w) (hN : E.N = 0) {f : FuncId} {args : List AV} {io out : List Blk} {r : AV} (h : Ct E f args io r out) : Ct E' f args io r out := by
  intro w vals M ok hr hv
  have hr0 : HR E w (ioOf io M) (hsOf io) w M ok := { blk := hr.blk, ver := hr.ver, inj := hr.inj, lo := fun id b k sh sz n N hb hm => ⟨(hr.lo id b k sh sz n N hb hm).1, by omega⟩, okb := hr.okb, frame := hr.frame, size := hr.size, os := hr.os, output := hr.output, tape := hr.tape, G := hG w }
  have := h w vals M ok hr0 hv
  rw [hP]
  have hsz := hE'.size w hr.G
  have hio : ∀ k, ioOf io M k → E'.N ≤ k := by
    rintro k ⟨id, b, sh, sz, n, N, h1, h2⟩
    exact (hr.lo id b k sh sz n N (by simpa [hsOf] using h1) h2).2
  refine UponV.mono this fun x w' ⟨M', ok', hl, hx⟩ => ⟨M', ok', ⟨?_, hl.mono, hl.new⟩, hx⟩
  refine { blk := hl.hr.blk, ver := hl.hr.ver, inj := hl.hr.inj, lo := fun id b k sh sz n N hb hm => ?_, okb := hl.hr.okb, frame := hl.hr.frame, size := hl.hr.size, os := hl.hr.os, output := hl.hr.output, tape := hl.hr.tape, G := ?_ }
  · have h1 := (hl.hr.lo id b k sh sz n N hb hm).1
    refine ⟨h1, ?_⟩
    rcases h1 with h1 | h1
    · omega
    · exact hio k h1.1
  · refine hE'.stay w w' (fun k hk => hl.hr.frame k (by omega) fun h1 => ?_) (Nat.le_trans hsz hl.hr.size) hr.G
    have := hio k h1
    omega
theorem Ct.weak {f : FuncId} {args : List AV} {io out : List Blk} {r r' : AV} (h : Ct E f args io r out) (hr : Le r r') : Ct E f args io r' out := by
  intro w vals M ok h1 h2
  refine UponV.mono (h w vals M ok h1 h2) ?_
  rintro v w' ⟨M', ok', h3, h4⟩
  exact ⟨M', ok', h3, hr _ _ _ _ h4⟩
theorem Ct.args {f : FuncId} {args args' : List AV} {io out : List Blk} {r : AV} (h : Ct E f args' io r out) (ha : Les args args') : Ct E f args io r out :=
  fun w vals M ok h1 h2 => h w vals M ok h1 (ha _ _ _ _ h2)

theorem Ct.eq {f : FuncId} {args args' : List AV} {io out : List Blk} {r : AV} (h : Ct E f args' io r out) (e : args = args') : Ct E f args io r out := e ▸ h
/-- A function of the model's own that turns nothing. -/
theorem Ct_extern {f : FuncId} {fn : Func} {e : Array Value → Sem Value} {args : List AV} {r : AV} (hf : E.P.funcs[f]? = some fn) (hname : (fn.name == "runtime.NumGoroutine") = false) (hb : fn.body.isNone = true)
    (hn : Extern.findNext fn = none) (he : Extern.find fn = some e)
    (h : ∀ (w : World) (ok : Nat → Prop) (φ : Place) (vals : List Value), RVs w ok φ args vals → ∃ v, (e vals.toArray).run E.P w = .ok v w ∧ RV w ok φ r v) : Ct E f args [] r [] := by
  intro w vals M ok hr hv
  obtain ⟨v, h1, h2⟩ := h w ok _ vals hv
  unfold CallW UponV
  rw [run_callFunc_extern hf hname hb hn he, h1]
  exact ⟨M, ok, .refl hr, h2⟩

/-- More is meant by more. -/
theorem opsK_mono {dr : Bool} {all : List Oper} : ∀ {l : List Oper} {st : St} {K K' : St → Prop}, (∀ st, K st → K' st) → opsK E dr all l st K → opsK E dr all l st K'
  | [], _, _, _, hk, h => hk _ h
  | o :: r, st, K, K', hk, h => by
    have h : opK E dr all o st fun st' => opsK E dr all r st' K := h
    show opK E dr all o st fun st' => opsK E dr all r st' K'
    rw [opK_eq] at h ⊢
    refine gate_mono h (fun hx => ?_) (fun hx => opsK_mono hk hx)
    obtain ⟨v, s', h1, h2⟩ := stepO_eff hx
    exact Eff.run h1 (opsK_mono hk h2)
theorem wpA_mono : ∀ (c : Code) {st : St} {Q Q' : Ex → St → Prop}, (∀ e st, Q e st → Q' e st) → wpA E c st Q → wpA E c st Q' := by
  intro c
  induction c with
  | skip => exact fun hq h => hq _ _ h
  | region id ops draw =>
    intro st Q Q' hq h
    cases draw with
    | false => exact opsK_mono (hq _) h
    | true =>
      refine opsF_mono (fun fs st' hk => ?_) h
      split at hk
      · exact hq _ _ hk
      · exact hk.elim
  | seq a b iha ihb =>
    intro st Q Q' hq h
    refine iha (fun e st' h' => ?_) h
    cases e with
    | normal => exact ihb hq h'
    | exit id => exact hq _ _ h'
    | ret => exact hq _ _ h'
  | cond x a b iha ihb =>
    intro st Q Q' hq h
    simp only [wpA_cond] at h ⊢
    split at h
    · exact iha hq h
    · exact ihb hq h
    · exact ⟨fun ht => iha hq (h.1 ht), fun ht => ihb hq (h.2 ht)⟩
    · exact h.elim
  | block id c ih =>
    intro st Q Q' hq h
    refine ih (fun e st' h' => ?_) h
    cases e with
    | normal => exact hq _ _ h'
    | exit j =>
      simp only at h' ⊢
      split <;> simp_all
    | ret => exact hq _ _ h'
  | loop c ih =>
    rintro st0 Q Q' hq ⟨st, hst, gs, kp, kq, k, h⟩
    refine ⟨st, hst, gs, kp, kq, k, ?_⟩
    generalize gs.foldl (fun st g => g.go st) st = st1 at h ⊢
    induction k generalizing st1 with
    | zero => exact h.elim
    | succ k ihk =>
      refine ih (fun e st' h' => ?_) h
      cases e with
      | normal => exact ihk _ h'
      | exit id => exact hq _ _ h'
      | ret => exact hq _ _ h'
  | exit id => exact fun hq h => hq _ _ h
  | scope c ih => exact fun hq h => ih hq h
  | ret => exact fun hq h => hq _ _ h
  | _ => exact fun _ h => h.elim

/-- A loop by an invariant and a measure. -/
theorem loop_inv {c : Code} {st : St} {Q : Ex → St → Prop} {α : Type} (gs : List Gh) (kp : Option (List Nat × List Nat)) (I : α → St → Prop) (μ : α → Nat) (x : α) (h0 : I x (gs.foldl (fun st g => g.go st) st))
    (round : ∀ x st, I x st → wpA E c (st.keep kp) fun e st' => match e with
      | .normal => ∃ y, I y st' ∧ μ y < μ x
      | e => Q e st') : wpA E (.loop c) st Q := by
  refine ⟨st, .refl _ _, gs, kp, [], μ x + 1, ?_⟩
  generalize gs.foldl (fun st g => g.go st) st = st1 at h0
  have key : ∀ (k : Nat) (x : α) (st : St), I x st → μ x < k → loopA (wpA E c) kp [] k st Q := by
    intro k
    induction k with
    | zero => intro x st _ h; omega
    | succ k ih =>
      intro x st hx hm
      refine wpA_mono c (fun e st' h => ?_) (round x st hx)
      cases e with
      | normal =>
        obtain ⟨y, hy, hlt⟩ := h
        exact ih y st' hy (by omega)
      | exit id => exact h
      | ret => exact h
  exact key _ x st1 h0 (by omega)
theorem loop_le {c : Code} {st st' : St} {Q : Ex → St → Prop} (hle : StLe E st st') (h : wpA E (.loop c) st' Q) : wpA E (.loop c) st Q := by
  obtain ⟨st2, hst, h⟩ := h
  exact ⟨st2, hle.trans hst, h⟩
theorem set_place {s : HS} {id : Nat} {b : Blk} (hb : s.hp id = some b) (es : List AV) (M : Nat → Pl) : (s.set id b es).place M = s.place M := by
  funext i ver
  simp only [HS.place, HS.set, upd]
  by_cases hi : i = id
  · subst hi; simp only [if_pos, hb]; rfl
  · simp only [if_neg hi]; rfl
theorem StLe.blk {st : St} (id : Nat) (es' : List AV) {b : Blk} (hb : st.s.hp id = some b) (hl : Lay b.ag b.sz es') (hn : b.es.length = es'.length) (hle : Les (flat b.es) (flat es')) : StLe E st ⟨st.tm, st.s.set id b es'⟩ := by
  intro w0 io s0 M0 ok0 n a w ⟨M, ok, h, hd, hs, ht⟩
  obtain ⟨tm, s⟩ := st
  simp only at *
  have hr := h.hr
  have hp : ∀ {i : Nat} {c : Blk}, (s.set id b es').hp i = some c → (i = id ∧ c = { b with es := es' }) ∨ (i ≠ id ∧ s.hp i = some c) := by
    intro i c hc
    simp only [HS.set, upd] at hc
    by_cases hi : i = id
    · rw [if_pos hi] at hc; exact .inl ⟨hi, (Option.some.inj hc).symm⟩
    · rw [if_neg hi] at hc; exact .inr ⟨hi, hc⟩
  have hsome : ∀ {i : Nat} {c : Blk}, (s.set id b es').hp i = some c → ∃ c', s.hp i = some c' := by
    intro i c hc
    rcases hp hc with ⟨rfl, _⟩ | ⟨_, h2⟩
    · exact ⟨_, hb⟩
    · exact ⟨_, h2⟩
  refine ⟨M, ok, ⟨?_, ?_, h.new⟩, hd, hs, fun t => ?_⟩
  · refine ⟨fun i c hc => ?_, fun i c hc => ?_, fun i i' c c' k sh sz n N sh' sz' n' N' h1 h2 => ?_, fun i c k sh sz n N h1 => ?_, fun k hk => ⟨(hr.okb k hk).1, fun i c sh sz n N h1 => ?_⟩, hr.frame, hr.size, hr.os, hr.output, hr.tape, hr.G⟩
    · rw [set_place hb]
      rcases hp hc with ⟨rfl, rfl⟩ | ⟨_, h2⟩
      · have h6 := hr.blk _ _ hb
        generalize M i = p at h6 ⊢
        cases p with
        | bad => exact h6
        | dead => exact h6
        | virt =>
          have h7 : b.es = [] := h6
          show es' = []
          rw [h7] at hn
          exact List.eq_nil_of_length_eq_zero hn.symm
        | «at» k sh sz n N =>
          obtain ⟨a1, a2, a3, c, T, fr, vs, a4, a5, a6, a7, a8⟩ := h6
          exact ⟨a1, a2.trans hn, hl, c, T, fr, vs, a4, a5, a6, hle _ _ _ _ a7, a8⟩
      · exact hr.blk _ _ h2
    · rcases hp hc with ⟨rfl, rfl⟩ | ⟨_, h2⟩
      · exact hr.ver _ b hb
      · exact hr.ver _ _ h2
    · obtain ⟨_, e1⟩ := hsome h1
      obtain ⟨_, e2⟩ := hsome h2
      exact hr.inj _ _ _ _ k _ _ _ _ _ _ _ _ e1 e2
    · obtain ⟨_, e1⟩ := hsome h1
      exact hr.lo _ _ k _ _ _ _ e1
    · obtain ⟨_, e1⟩ := hsome h1
      exact (hr.okb k hk).2 _ _ _ _ _ _ e1
  · rw [set_place hb]; exact h.mono
  · rw [set_place hb]; exact ht t
theorem StLe.tmp {st : St} (t : Nat) {a b : AV} (ha : st.tm t = a) (hle : Le a b) : StLe E st ⟨fun u => bif Nat.beq u t then b else st.tm u, st.s⟩ := by
  intro w0 io s0 M0 ok0 n ac w ⟨M, ok, h, hd, hs, ht⟩
  refine ⟨M, ok, h, hd, hs, fun u => ?_⟩
  show RV w ok (st.s.place M) (bif Nat.beq u t then b else st.tm u) _
  cases hu : Nat.beq u t with
  | false => exact ht u
  | true =>
    have := Nat.eq_of_beq_eq_true hu
    subst this
    exact hle _ _ _ _ (ha ▸ ht u)
/-- Ahead of a loop a block may be told to hold less. -/
theorem loop_blk {c : Code} {st : St} {Q : Ex → St → Prop} (id : Nat) (es' : List AV) (b : Blk) (hb : st.s.hp id = some b) (hl : Lay b.ag b.sz es') (hn : b.es.length = es'.length) (hle : Les (flat b.es) (flat es'))
    (h : wpA E (.loop c) ⟨st.tm, st.s.set id b es'⟩ Q) : wpA E (.loop c) st Q := loop_le (StLe.blk id es' hb hl hn hle) h
theorem loop_tmp {c : Code} {st : St} {Q : Ex → St → Prop} (t : Nat) (b : AV) {a : AV} (ha : st.tm t = a) (hle : Le a b)
    (h : wpA E (.loop c) ⟨fun u => bif Nat.beq u t then b else st.tm u, st.s⟩ Q) : wpA E (.loop c) st Q := loop_le (StLe.tmp t ha hle) h
theorem Lay.one {ag : Bool} {sz : Nat} {e : AV} (h : (e.isAgg = ag ∧ e.cells.length = sz) ∧ e.cells.all AV.scalar = true) : Lay ag sz [e] := fun x hx => by
  have : x = e := by simpa using hx
  subst this; exact h
theorem Les.agg1 {a b : List AV} (h : Les a b) : Les (flat [.agg a]) (flat [.agg b]) := by simpa [flat, AV.cells] using h
/-- A loop; behind it all is forgotten but some blocks and some temporaries. -/
theorem loop_cut {c : Code} {st : St} {Q : Ex → St → Prop} (kq : List Nat × List Nat) (h : wpA E (.loop c) st fun e st' => match e with
      | .normal => False
      | e => Q e (st'.keep (some kq))) : wpA E (.loop c) st Q := by
  obtain ⟨stx, hst, gs, kp, kq0, k, h⟩ := h
  refine ⟨stx, hst, gs, kp, kq0 ++ [kq], k, ?_⟩
  have ek : ∀ st : St, st.keeps (kq0 ++ [kq]) = (st.keeps kq0).keep (some kq) := fun st => by simp [St.keeps, List.foldl_append]
  generalize gs.foldl (fun st g => g.go st) stx = st1 at h ⊢
  induction k generalizing st1 with
  | zero => exact h.elim
  | succ k ih =>
    refine wpA_mono c (fun e st' h' => ?_) h
    cases e with
    | normal => exact ih _ h'
    | exit id => simp only [ek]; exact h'
    | ret => simp only [ek]; exact h'
end
end GoAbs
end

section
namespace GoAbs
open Go

def ttFind (t : Nat) : List (Nat × TyI) → Option TyI
  | [] => none
  | (k, ti) :: r => bif Nat.beq t k then some ti else ttFind t r
theorem ttFind_mem {t : Nat} {ti : TyI} : ∀ {l : List (Nat × TyI)}, ttFind t l = some ti → (t, ti) ∈ l
  | [], h => by simp [ttFind] at h
  | (k, u) :: r, h => by
    unfold ttFind at h
    cases hb : Nat.beq t k with
    | true =>
      rw [hb] at h
      have : t = k := Nat.eq_of_beq_eq_true hb
      simp at h
      simp [this, h]
    | false =>
      rw [hb] at h
      exact List.mem_cons_of_mem _ (ttFind_mem h)
theorem tt_ok {P : Program} {L : List (Nat × TyI)} (h : L.map (fun p => tyi P p.1) = L.map (fun p => some p.2)) : ∀ t ti, ttFind t L = some ti → tyi P t = some ti := by
  intro t ti ht
  have hm := ttFind_mem ht
  have : ∀ p ∈ L, tyi P p.1 = some p.2 := List.map_inj_left.1 h
  exact this _ hm

def fr : List (Nat × AV) → (Nat → AV) → Nat → AV
  | [], g => g
  | (k, v) :: l, g => fun t => bif Nat.beq t k then v else fr l g t
def frB : List (Nat × Blk) → (Nat → Option Blk) → Nat → Option Blk
  | [], g => g
  | (k, v) :: l, g => fun t => bif Nat.beq t k then some v else frB l g t
def eqs : List (Nat × AV) → (Nat → AV) → Prop
  | [], _ => True
  | (k, v) :: l, tm => tm k = v ∧ eqs l tm
def eqB : List (Nat × Blk) → (Nat → Option Blk) → Prop
  | [], _ => True
  | (k, v) :: l, h => h k = some v ∧ eqB l h
theorem fr_self : ∀ {l : List (Nat × AV)} {tm : Nat → AV}, eqs l tm → fr l tm = tm
  | [], _, _ => rfl
  | (k, v) :: l, tm, h => by
    funext t
    simp only [fr, fr_self h.2]
    cases hb : Nat.beq t k with
    | true => rw [Nat.eq_of_beq_eq_true hb, h.1]; rfl
    | false => rfl
theorem frB_self : ∀ {l : List (Nat × Blk)} {h : Nat → Option Blk}, eqB l h → frB l h = h
  | [], _, _ => rfl
  | (k, v) :: l, h, e => by
    funext t
    simp only [frB, frB_self e.2]
    cases hb : Nat.beq t k with
    | true => rw [Nat.eq_of_beq_eq_true hb, e.1]; rfl
    | false => rfl

/- What is known at a loop's head, all else forgotten. -/
def fk : List (Nat × AV) → Nat → AV
  | [] => fun _ => .any
  | (k, v) :: l => fun t => bif Nat.beq t k then v else fk l t
def fkB : List (Nat × Blk) → Nat → Option Blk
  | [] => fun _ => none
  | (k, v) :: l => fun t => bif Nat.beq t k then some v else fkB l t
def vrB : List (Nat × Blk) → (Nat → Nat) → Nat → Nat
  | [], g => fun i => bif Nat.blt i ioB then 0 else g i
  | (k, v) :: l, g => fun t => bif Nat.beq t k then v.ver + 1 else vrB l g t
def knows (sl : List (Nat × AV)) (bl : List (Nat × Blk)) : Bool :=
  sl.all (fun p => refsB (bl.map (·.1)) p.2) && bl.all (fun p => p.2.pu || refsL (bl.map (·.1)) p.2.es)
theorem eqs_mem {tm : Nat → AV} : ∀ {l : List (Nat × AV)}, eqs l tm → ∀ p ∈ l, tm p.1 = p.2
  | [], _, p, h => by simp at h
  | (k, v) :: l, h, p, hp => by
    rcases List.mem_cons.1 hp with rfl | hp
    · exact h.1
    · exact eqs_mem h.2 p hp
theorem eqB_mem {hb : Nat → Option Blk} : ∀ {l : List (Nat × Blk)}, eqB l hb → ∀ p ∈ l, hb p.1 = some p.2
  | [], _, p, h => by simp at h
  | (k, v) :: l, h, p, hp => by
    rcases List.mem_cons.1 hp with rfl | hp
    · exact h.1
    · exact eqB_mem h.2 p hp
theorem keepT_fk : ∀ {l : List (Nat × AV)} {tm : Nat → AV}, eqs l tm → keepT (l.map (·.1)) tm = fk l
  | [], tm, _ => by funext t; simp [keepT, fk]
  | (k, v) :: l, tm, h => by
    funext t
    have ih := congrFun (keepT_fk h.2) t
    simp only [keepT, fk, List.map_cons, List.any_cons] at ih ⊢
    cases hb : Nat.beq t k with
    | true => rw [Nat.eq_of_beq_eq_true hb, h.1]; simp
    | false => simpa using ih
theorem keepHp_fkB : ∀ {l : List (Nat × Blk)} {s : HS}, eqB l s.hp → keepHp (l.map (·.1)) s = fkB l
  | [], s, _ => by funext t; simp [keepHp, fkB]
  | (k, v) :: l, s, h => by
    funext t
    have ih := congrFun (keepHp_fkB h.2) t
    simp only [keepHp, fkB, List.map_cons, List.any_cons] at ih ⊢
    cases hb : Nat.beq t k with
    | true => rw [Nat.eq_of_beq_eq_true hb, h.1]; simp
    | false => simpa using ih
theorem vrB_eq (g : Nat → Nat) : ∀ (l : List (Nat × Blk)) (i : Nat), vrB l g i = (match fkB l i with
    | some b => b.ver + 1
    | none => bif Nat.blt i ioB then 0 else g i)
  | [], i => rfl
  | (k, v) :: l, i => by
    simp only [vrB, fkB]
    cases hb : Nat.beq i k with
    | true => rfl
    | false => simpa using vrB_eq g l i
theorem keep_eq {sl : List (Nat × AV)} {bl : List (Nat × Blk)} {st : St} (hk : knows sl bl = true) (hs : eqs sl st.tm) (hb : eqB bl st.s.hp) : st.keep (some (bl.map (·.1), sl.map (·.1))) = ⟨fk sl, ⟨fkB bl, vrB bl st.s.vr⟩⟩ := by
  have h1 : keepOk (bl.map (·.1)) (sl.map (·.1)) st = true := by
    simp only [knows, Bool.and_eq_true, List.all_eq_true] at hk
    simp only [keepOk, Bool.and_eq_true, List.all_eq_true, List.mem_map, forall_exists_index, and_imp]
    refine ⟨fun t p hp e => ?_, fun i p hp e => ?_⟩
    · subst e; rw [eqs_mem hs p hp]; exact hk.1 p hp
    · subst e; rw [eqB_mem hb p hp]; exact hk.2 p hp
  simp only [St.keep, h1, cond_true, keepT_fk hs, HS.keep, keepHp_fkB hb]
  congr 2
  funext i
  exact (vrB_eq _ bl i).symm

/-- A loop whose head knows some temporaries and some blocks. -/
theorem loop_fr {E : Env} {c : Code} {st : St} {Q : Ex → St → Prop} {α : Type} (gs : List Gh) (P : α → Prop) (μ : α → Nat) (sl : α → List (Nat × AV)) (bl : α → List (Nat × Blk)) (x0 : α) (h0 : P x0)
    (hs : eqs (sl x0) (gs.foldl (fun st g => g.go st) st).tm) (hb : eqB (bl x0) (gs.foldl (fun st g => g.go st) st).s.hp)
    (round : ∀ x (g h : Unit) v, P x → wpA E c ⟨fk (sl x), ⟨fkB (bl x), vrB (bl x) v⟩⟩ fun e st' => match e with
      | .normal => ∃ y, (P y ∧ μ y < μ x) ∧ eqs (sl y) st'.tm ∧ eqB (bl y) st'.s.hp
      | e => Q e st')
    (hn : ∀ x y, (sl x).map (·.1) = (sl y).map (·.1) ∧ (bl x).map (·.1) = (bl y).map (·.1) := by intro _ _; exact ⟨rfl, rfl⟩)
    (hk : ∀ x, knows (sl x) (bl x) = true := by intro _; rfl) : wpA E (.loop c) st Q := by
  refine loop_inv gs (some ((bl x0).map (·.1), (sl x0).map (·.1))) (fun x st => P x ∧ eqs (sl x) st.tm ∧ eqB (bl x) st.s.hp) μ x0 ⟨h0, hs, hb⟩ ?_
  rintro x st ⟨hp1, hs1, hb1⟩
  rw [(hn x0 x).1, (hn x0 x).2, keep_eq (hk x) hs1 hb1]
  refine wpA_mono c (fun e st' h => ?_) (round x () () _ hp1)
  cases e with
  | normal => obtain ⟨y, ⟨h1, h2⟩, h3, h4⟩ := h; exact ⟨y, ⟨h1, h3, h4⟩, h2⟩
  | exit id => exact h
  | ret => exact h

/-- What is known where a loop is left; the rest is walked once. -/
theorem cut_loop {E : Env} {c : Code} {st : St} {Q : Ex → St → Prop} {β : Type} (id : Nat) (P : β → Prop) (sl : β → List (Nat × AV)) (bl : β → List (Nat × Blk))
    (h1 : wpA E (.loop c) st fun e st' => match e with
      | .exit j => j = id ∧ ∃ y, P y ∧ eqs (sl y) st'.tm ∧ eqB (bl y) st'.s.hp
      | _ => False)
    (h2 : ∀ y (g h : Unit) v, P y → Q (.exit id) ⟨fk (sl y), ⟨fkB (bl y), vrB (bl y) v⟩⟩)
    (hn : ∀ x y, (sl x).map (·.1) = (sl y).map (·.1) ∧ (bl x).map (·.1) = (bl y).map (·.1) := by intro _ _; exact ⟨rfl, rfl⟩)
    (hk : ∀ x, knows (sl x) (bl x) = true := by intro _; rfl) : wpA E (.loop c) st Q := by
  by_cases hne : Nonempty β
  · obtain ⟨y0⟩ := hne
    refine loop_cut ((bl y0).map (·.1), (sl y0).map (·.1)) (wpA_mono _ (fun e st' h => ?_) h1)
    cases e with
    | normal => exact h.elim
    | ret => exact h.elim
    | exit j =>
      obtain ⟨rfl, y, hp, hs, hb⟩ := h
      show Q (.exit j) (st'.keep _)
      rw [(hn y0 y).1, (hn y0 y).2, keep_eq (hk y) hs hb]
      exact h2 y () () _ hp
  · refine loop_cut ([], []) (wpA_mono _ (fun e st' h => ?_) h1)
    cases e with
    | normal => exact h.elim
    | ret => exact h.elim
    | exit j => obtain ⟨rfl, y, _⟩ := h; exact absurd ⟨y⟩ hne
end GoAbs
end
