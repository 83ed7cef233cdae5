/- Code run over abstract values: a run that ends is a contract. -/
import Derived.Test.YtjafmphhnclfjaaDoorAbsIII
set_option linter.all false
namespace GoAbs
open Go

structure Orc where
  call : FuncId → List AV → Option AV
  callW : FuncId → List AV → List Blk → Option (AV × List Blk)

def Tr.ex {α : Type} (C : Orc) : Tr α → Option α
  | .fail => none
  | .ok a => some a
  | @Tr.need _ p d k => match @decide p d with
    | true => k.ex C
    | false => none
  | .look es i k => match es[i]? with
    | some v => (k v).ex C
    | none => none
  | .call f as k => match C.call f as with
    | some r => (k r).ex C
    | none => none
  | .callB f as k => match C.call f as with
    | some r => (match r.dry with
      | true => (k r).ex C
      | false => none)
    | none => none
  | .br b t e => match b with
    | true => t.ex C
    | false => e.ex C
  | .cnv o k => match o with
    | some (vs, s) => (k vs s).ex C
    | none => none
  | .callW f as io k => match C.callW f as io with
    | some (r, out) => (match newOk io.length out r && wOk io out with
      | true => (k r out).ex C
      | false => none)
    | none => none

structure OrcOk (E : Env) (C : Orc) : Prop where
  call : ∀ f as r, C.call f as = some r → Ct E f as [] r []
  callW : ∀ f as io r out, C.callW f as io = some (r, out) → Ct E f as io r out

theorem Tr.run_of_ex {α : Type} {E : Env} {C : Orc} (hC : OrcOk E C) {t : Tr α} {a : α} (h : t.ex C = some a) {K : α → Prop} (hk : K a) : t.run E K := by
  induction t with
  | fail => simp [Tr.ex] at h
  | ok b => simp [Tr.ex] at h; subst h; exact hk
  | @need p d k ih =>
    simp only [Tr.ex] at h
    split at h
    · rename_i hp; exact ⟨of_decide_eq_true hp, ih h⟩
    · simp at h
  | look es i k ih =>
    simp only [Tr.ex] at h
    split at h
    · rename_i v hv; exact ⟨v, hv, ih v h⟩
    · simp at h
  | call f as k ih =>
    simp only [Tr.ex] at h
    split at h
    · rename_i r hr; exact ⟨r, hC.call _ _ _ hr, ih r h⟩
    · simp at h
  | callB f as k ih =>
    simp only [Tr.ex] at h
    split at h
    · rename_i r hr
      split at h
      · rename_i hd; exact ⟨r, hC.call _ _ _ hr, hd, ih r h⟩
      · simp at h
    · simp at h
  | br b t e iht ihe =>
    cases b
    · exact ifB_neg rfl (ihe h)
    · exact ifB_pos rfl (iht h)
  | cnv o k ih =>
    cases o with
    | none => simp [Tr.ex] at h
    | some x => obtain ⟨vs, s⟩ := x; exact ⟨vs, s, rfl, ih vs s (by simpa only [Tr.ex] using h)⟩
  | callW f args io k ih =>
    simp only [Tr.ex] at h
    split at h
    · rename_i r out hr
      split at h
      · rename_i hd
        simp only [Bool.and_eq_true] at hd
        exact ⟨r, out, hC.callW _ _ _ _ _ hr, hd, ih r out h⟩
      · simp at h
    · simp at h

def stepX (E : Env) (C : Orc) (dr : Bool) (site : Nat) (op : Op) (ρ : Operand → AV) (s : HS) : Option (AV × HS) :=
  match cls E op with
  | 1 => (match (sem1 E op ρ).ex C with
    | some v => some (v, s)
    | none => none)
  | 2 => (match (sem2 E op ρ s).ex C with
    | some v => some (v, s)
    | none => none)
  | _ => (sem3 E dr site op ρ s).ex C
theorem stepX_sound {E : Env} {C : Orc} (hC : OrcOk E C) {dr : Bool} {site : Nat} {op : Op} {ρ : Operand → AV} {s : HS} {v : AV} {s' : HS} (h : stepX E C dr site op ρ s = some (v, s')) {K : AV → HS → Prop} (hk : K v s') : stepO E dr site op ρ s K := by
  unfold stepX at h
  unfold stepO
  split at h
  · rename_i hc
    split at h
    · rename_i v' hv
      simp at h
      obtain ⟨rfl, rfl⟩ := h
      simp only [hc]
      exact Tr.run_of_ex hC hv hk
    · simp at h
  · rename_i hc
    split at h
    · rename_i v' hv
      simp at h
      obtain ⟨rfl, rfl⟩ := h
      simp only [hc]
      exact Tr.run_of_ex hC hv hk
    · simp at h
  · rename_i h1 h2
    split
    · rename_i hc; exact absurd hc h1
    · rename_i hc; exact absurd hc h2
    · exact Tr.run_of_ex hC h hk

def flipB : Bool → Bool → Bool
  | true, b => b
  | false, b => !b
/-- Is the operation done? -/
def gateX (all : List Oper) (o : Oper) (tm : Nat → AV) : Option Bool :=
  match o.guard with
  | none => some true
  | some (j, want) =>
    match (all[j]?).bind (·.dst) with
    | some d =>
      match tm d with
      | .kt => some (flipB want true)
      | .kf => some (flipB want false)
      | .bool b => some (flipB want b)
      | .tup _ => some false
      | _ => none
    | none => none
theorem gateX_sound {all : List Oper} {o : Oper} {tm : Nat → AV} {b : Bool} (h : gateX all o tm = some b) {ex sk : Prop} (h1 : b = true → ex) (h2 : b = false → sk) : gate all o tm ex sk := by
  unfold gateX at h
  rw [gate_iff]
  split at h
  · rename_i hg
    simp at h
    exact .inl ⟨hg, h1 h⟩
  · rename_i j want hg
    split at h
    · rename_i d hd
      have key : ∀ b', (tm d).toB = some b' → flipB want b' = b → (b' = want ∧ ex ∨ b' ≠ want ∧ sk) := by
        intro b' _ hb
        subst hb
        cases want <;> cases b'
        · exact .inl ⟨rfl, h1 rfl⟩
        · exact .inr ⟨by simp, h2 rfl⟩
        · exact .inr ⟨by simp, h2 rfl⟩
        · exact .inl ⟨rfl, h1 rfl⟩
      split at h
      · rename_i ht
        simp at h; subst h
        exact .inr (.inl ⟨j, want, d, true, hg, hd, by rw [ht]; rfl, key true (by rw [ht]; rfl) rfl⟩)
      · rename_i ht
        simp at h; subst h
        exact .inr (.inl ⟨j, want, d, false, hg, hd, by rw [ht]; rfl, key false (by rw [ht]; rfl) rfl⟩)
      · rename_i b' ht
        simp at h; subst h
        exact .inr (.inl ⟨j, want, d, b', hg, hd, by rw [ht]; rfl, key b' (by rw [ht]; rfl) rfl⟩)
      · rename_i vs ht
        simp at h; subst h
        exact .inr (.inr ⟨j, want, d, vs, hg, hd, ht, h2 rfl⟩)
      · simp at h
    · simp at h

def opX (E : Env) (C : Orc) (dr : Bool) (all : List Oper) (o : Oper) (st : St) : Option St :=
  match gateX all o st.tm with
  | some true => (match stepX E C dr (o.dst.getD 0) o.op (ev st.tm) st.s with
    | some (v, s') => some ⟨putd st.tm o.dst v, s'⟩
    | none => none)
  | some false => some ⟨putd st.tm o.dst (.tup []), st.s⟩
  | none => none
theorem opX_sound {E : Env} {C : Orc} (hC : OrcOk E C) {dr : Bool} {all : List Oper} {o : Oper} {st st' : St} (h : opX E C dr all o st = some st') {K : St → Prop} (hk : K st') : opK E dr all o st K := by
  unfold opX at h
  rw [opK_eq]
  split at h
  · rename_i hg
    split at h
    · rename_i v s' hs
      simp at h; subst h
      exact gateX_sound hg (fun _ => stepX_sound hC hs hk) (by simp)
    · simp at h
  · rename_i hg
    simp at h; subst h
    exact gateX_sound hg (by simp) (fun _ => hk)
  · simp at h

def opsX (E : Env) (C : Orc) (dr : Bool) (all : List Oper) : List Oper → St → Option St
  | [], st => some st
  | o :: r, st => match opX E C dr all o st with
    | some st' => opsX E C dr all r st'
    | none => none
theorem opsX_sound {E : Env} {C : Orc} (hC : OrcOk E C) {dr : Bool} {all : List Oper} : ∀ {l : List Oper} {st st' : St}, opsX E C dr all l st = some st' → ∀ {K : St → Prop}, K st' → opsK E dr all l st K
  | [], st, st', h, K, hk => by simp [opsX] at h; subst h; exact hk
  | o :: r, st, st', h, K, hk => by
    unfold opsX at h
    split at h
    · rename_i st1 h1; exact opX_sound hC h1 (opsX_sound hC h hk)
    · simp at h
/-- ... with the footprints. -/
def opsXF (E : Env) (C : Orc) (all : List Oper) : List Oper → St → Option (List Ft × St)
  | [], st => some ([], st)
  | o :: r, st => match opX E C true all o st with
    | some st' => (match opsXF E C all r st' with
      | some (fs, st2) => some (foot E (o.dst.getD 0) o.op (ev st.tm) :: fs, st2)
      | none => none)
    | none => none
theorem opsXF_sound {E : Env} {C : Orc} (hC : OrcOk E C) {all : List Oper} : ∀ {l : List Oper} {st st' : St} {fs : List Ft}, opsXF E C all l st = some (fs, st') → ∀ {K : List Ft → St → Prop}, K fs st' → opsF E all l st K
  | [], st, st', fs, h, K, hk => by simp [opsXF] at h; obtain ⟨rfl, rfl⟩ := h; exact hk
  | o :: r, st, st', fs, h, K, hk => by
    unfold opsXF at h
    split at h
    · rename_i st1 h1
      split at h
      · rename_i fs1 st2 h2
        simp at h
        obtain ⟨rfl, rfl⟩ := h
        obtain ⟨tm, s⟩ := st
        show opK E true all o ⟨tm, s⟩ fun st' => opsF E all r st' fun fs => K (foot E (o.dst.getD 0) o.op (ev tm) :: fs)
        exact opX_sound hC h1 (opsXF_sound hC h2 hk)
      · simp at h
    · simp at h

def loopX (W : St → Option (Ex × St)) : Nat → St → Option (Ex × St)
  | 0, _ => none
  | k + 1, st => match W st with
    | some (.normal, st') => loopX W k st'
    | r => r

def codeX (E : Env) (C : Orc) (F : Nat) : Code → St → Option (Ex × St)
  | .skip, st => some (.normal, st)
  | .region _ ops draw, st => (match draw with
    | false => (match opsX E C false ops.toList ops.toList st with
      | some st' => some (.normal, st')
      | none => none)
    | true => (match opsXF E C ops.toList ops.toList st with
      | some (fs, st') => (match fpsOk ops.toList fs with
        | true => some (.normal, st')
        | false => none)
      | none => none))
  | .seq a b, st => (match codeX E C F a st with
    | some (.normal, st') => codeX E C F b st'
    | r => r)
  | .cond c a b, st => (match ev st.tm c with
    | .kt => codeX E C F a st
    | .kf => codeX E C F b st
    | .bool t => (match t with
      | true => codeX E C F a st
      | false => codeX E C F b st)
    | _ => none)
  | .block id c, st => (match codeX E C F c st with
    | some (.exit j, st') => (match Nat.beq j id with
      | true => some (.normal, st')
      | false => some (.exit j, st'))
    | r => r)
  | .loop c, st => loopX (codeX E C F c) F st
  | .exit id, st => some (.exit id, st)
  | .scope c, st => codeX E C F c st
  | .ret, st => some (.ret, st)
  | _, _ => none

theorem codeX_sound {E : Env} {C : Orc} (hC : OrcOk E C) {F : Nat} : ∀ (c : Code) {st st' : St} {e : Ex}, codeX E C F c st = some (e, st') → ∀ {Q : Ex → St → Prop}, Q e st' → wpA E c st Q := by
  intro c
  induction c with
  | skip => intro st st' e h Q hq; simp [codeX] at h; obtain ⟨rfl, rfl⟩ := h; exact hq
  | region id ops draw =>
    intro st st' e h Q hq
    simp only [codeX] at h
    split at h
    · split at h
      · rename_i st1 h1
        simp at h; obtain ⟨rfl, rfl⟩ := h
        exact opsX_sound hC h1 hq
      · simp at h
    · split at h
      · rename_i fs st1 h1
        split at h
        · rename_i hf
          simp at h; obtain ⟨rfl, rfl⟩ := h
          refine opsXF_sound hC h1 ?_
          simp only [hf]
          exact hq
        · simp at h
      · simp at h
  | seq a b iha ihb =>
    intro st st' e h Q hq
    simp only [codeX] at h
    split at h
    · rename_i st1 h1; exact iha h1 (ihb h hq)
    · rename_i hne
      refine iha h ?_
      cases e with
      | normal => exact absurd h (by intro h; exact hne _ h)
      | exit id => exact hq
      | ret => exact hq
  | cond x a b iha ihb =>
    intro st st' e h Q hq
    simp only [codeX] at h
    simp only [wpA_cond]
    split at h
    · rename_i hx; simp only [hx]; exact iha h hq
    · rename_i hx; simp only [hx]; exact ihb h hq
    · rename_i t hx
      simp only [hx]
      split at h
      · exact ifB_pos rfl (iha h hq)
      · exact ifB_neg rfl (ihb h hq)
    · simp at h
  | block id c ih =>
    intro st st' e h Q hq
    simp only [codeX] at h
    split at h
    · rename_i j st1 h1
      refine ih h1 ?_
      split at h
      · rename_i hb
        simp at h; obtain ⟨rfl, rfl⟩ := h
        simp only [hb]
        exact hq
      · rename_i hb
        simp at h; obtain ⟨rfl, rfl⟩ := h
        simp only [hb]
        exact hq
    · rename_i hne
      refine ih h ?_
      cases e with
      | normal => exact hq
      | exit j => exact absurd h (by intro h; exact hne _ _ h)
      | ret => exact hq
  | loop c ih =>
    intro st st' e h Q hq
    refine ⟨st, .refl _ _, [], none, [], F, ?_⟩
    simp only [codeX] at h
    simp only [List.foldl_nil]
    have key : ∀ (k : Nat) (st : St), loopX (codeX E C F c) k st = some (e, st') → loopA (wpA E c) none [] k st Q := by
      intro k
      induction k with
      | zero => intro st h; simp [loopX] at h
      | succ k ihk =>
        intro st h
        simp only [loopX] at h
        split at h
        · rename_i st1 h1; exact ih h1 (ihk st1 h)
        · rename_i hne
          refine ih h ?_
          cases e with
          | normal => exact absurd h (by intro h; exact hne _ h)
          | exit j => exact hq
          | ret => exact hq
    exact key F st h
  | exit id => intro st st' e h Q hq; simp [codeX] at h; obtain ⟨rfl, rfl⟩ := h; exact hq
  | scope c ih => intro st st' e h Q hq; exact ih h hq
  | ret => intro st st' e h Q hq; simp [codeX] at h; obtain ⟨rfl, rfl⟩ := h; exact hq
  | _ => intro st st' e h; simp [codeX] at h

def resX (E : Env) (C : Orc) : List ResultVar → St → Option (List AV)
  | [], _ => some []
  | .tmp t :: r, st => (match resX E C r st with
    | some vs => some (st.tm t :: vs)
    | none => none)
  | .cell a t :: r, st => (match (loadA E t (st.tm a) st.s).ex C with
    | some v => (match resX E C r st with
      | some vs => some (v :: vs)
      | none => none)
    | none => none)
theorem resX_sound {E : Env} {C : Orc} (hC : OrcOk E C) : ∀ {rs : List ResultVar} {st : St} {vs : List AV}, resX E C rs st = some vs → ∀ {K : List AV → Prop}, K vs → resK E rs st K
  | [], st, vs, h, K, hk => by simp [resX] at h; subst h; exact hk
  | .tmp t :: r, st, vs, h, K, hk => by
    simp only [resX] at h
    split at h
    · rename_i us hu
      simp at h; subst h
      exact resX_sound hC hu hk
    · simp at h
  | .cell a t :: r, st, vs, h, K, hk => by
    simp only [resX] at h
    split at h
    · rename_i v hv
      split at h
      · rename_i us hu
        simp at h; subst h
        exact Tr.run_of_ex hC hv (resX_sound hC hu hk)
      · simp at h
    · simp at h

/-- A function, and its code. -/
structure FnT where
  id : Nat
  fn : Func
def fnOk (E : Env) (x : FnT) : Bool := !(x.fn.name == "runtime.NumGoroutine") && (match x.fn.body with | some c => codeOk E x.fn.ntmps c | none => false)
def fnAt (f : Nat) : List FnT → Option Func
  | [] => none
  | x :: r => match Nat.beq x.id f with
    | true => some x.fn
    | false => fnAt f r
def funX (E : Env) (C : Orc) (F : Nat) (fn : Func) (args : List AV) : Option AV :=
  match fn.body with
  | some c => (match Nat.ble args.length fn.ntmps with
    | true => (match codeX E C F c (st0 args) with
      | some (.exit _, _) => none
      | some (.normal, st) => (match resX E C fn.results.toList st with
        | some vs => fz (fun _ => true) 6 st.s (tupOf vs)
        | none => none)
      | some (.ret, st) => (match resX E C fn.results.toList st with
        | some vs => fz (fun _ => true) 6 st.s (tupOf vs)
        | none => none)
      | none => none)
    | false => none)
  | none => none
def ioRead (s : HS) : Nat → Nat → Option (List Blk)
  | _, 0 => some []
  | j, n + 1 => match s.hp (ioB + j), ioRead s (j + 1) n with
    | some b, some l => (match b.pure with
      | true => some (b :: l)
      | false => none)
    | _, _ => none
def ownLoc : AV → Option Nat
  | .own id .. => bif isLoc id then some id else none
  | .ref id .. => bif isLoc id then some id else none
  | .tup vs => (match vs with
    | .own id .. :: _ => bif isLoc id then some id else none
    | _ :: .own id .. :: _ => bif isLoc id then some id else none
    | _ => none)
  | _ => none
def finW (E : Env) (C : Orc) (fn : Func) (io : List Blk) (st : St) : Option (AV × List Blk) :=
  match resX E C fn.results.toList st with
  | some vs => (match ioRead st.s 0 io.length with
    | some out => (match ownLoc (tupOf vs) with
      | none => (match fz isLoc 6 st.s (tupOf vs) with
        | some r => some (r, out)
        | none => none)
      | some L => (match st.s.hp L, exV L out.length st.s (tupOf vs) with
        | some b, some r => (match isLoc L && b.pure with
          | true => some (r, out ++ [⟨b.ag, b.sz, b.es, 0, b.pu⟩])
          | false => none)
        | _, _ => none))
    | none => none)
  | none => none
def funW (E : Env) (C : Orc) (F : Nat) (fn : Func) (args : List AV) (io : List Blk) : Option (AV × List Blk) :=
  match fn.body with
  | some c => (match Nat.ble args.length fn.ntmps with
    | true => (match codeX E C F c (stW args io) with
      | some (.exit _, _) => none
      | some (.normal, st) => finW E C fn io st
      | some (.ret, st) => finW E C fn io st
      | none => none)
    | false => none)
  | none => none
/-- Runs: what the given contracts answer, else the function's own code. -/
def orcX (E : Env) (S : FuncId → List AV → Option AV) (T : List FnT) (F : Nat) : Nat → Orc
  | 0 => ⟨S, fun _ _ _ => none⟩
  | d + 1 => ⟨fun f as => match S f as with
    | some r => some r
    | none => (match fnAt f T with
      | some fn => funX E (orcX E S T F d) F fn as
      | none => none),
    fun f as io => match fnAt f T with
      | some fn => funW E (orcX E S T F d) F fn as io
      | none => none⟩
theorem fnAt_mem {f : Nat} {fn : Func} : ∀ {T : List FnT}, fnAt f T = some fn → (⟨f, fn⟩ : FnT) ∈ T
  | [], h => by simp [fnAt] at h
  | x :: r, h => by
    unfold fnAt at h
    split at h
    · rename_i hb
      have := Nat.eq_of_beq_eq_true hb
      simp at h; subst h; subst this
      simp
    · exact List.mem_cons_of_mem _ (fnAt_mem h)
theorem funX_sound {E : Env} (hE : E.Valid) {C : Orc} (hC : OrcOk E C) {F : Nat} {f : FuncId} {fn : Func} (hf : E.P.funcs[f]? = some fn) (hok : fnOk E ⟨f, fn⟩ = true) {args : List AV} {r : AV} (h : funX E C F fn args = some r) : Ct E f args [] r [] := by
  unfold funX at h
  unfold fnOk at hok
  simp only [Bool.and_eq_true, Bool.not_eq_true'] at hok
  split at h
  · rename_i c hc
    split at h
    · rename_i hl
      simp only [hc] at hok
      split at h
      · simp at h
      · rename_i st hx
        refine Ct_of hE hf hc hok.1 (Nat.le_of_ble_eq_true hl) hok.2 (codeX_sound hC c hx ?_)
        split at h
        · rename_i vs hv
          exact resX_sound hC hv ⟨r, h, .refl _⟩
        · simp at h
      · rename_i st hx
        refine Ct_of hE hf hc hok.1 (Nat.le_of_ble_eq_true hl) hok.2 (codeX_sound hC c hx ?_)
        split at h
        · rename_i vs hv
          exact resX_sound hC hv ⟨r, h, .refl _⟩
        · simp at h
      · simp at h
    · simp at h
  · simp at h
theorem ioRead_end {s : HS} : ∀ {n j : Nat} {l : List Blk}, ioRead s j n = some l → l.length = n ∧ ioEnd s j l
  | 0, j, l, h => by simp [ioRead] at h; subst h; exact ⟨rfl, trivial⟩
  | n + 1, j, l, h => by
    unfold ioRead at h
    split at h
    · rename_i b l' hb hl
      split at h
      · rename_i hp
        simp at h; subst h
        obtain ⟨h1, h2⟩ := ioRead_end hl
        exact ⟨by simp [h1], hb, hp, h2⟩
      · simp at h
    · simp at h
theorem finW_sound {E : Env} {C : Orc} (hC : OrcOk E C) {fn : Func} {io out : List Blk} {st : St} {r : AV} (h : finW E C fn io st = some (r, out)) : (out.length = io.length ∧ retW E fn.results.toList st r out) ∨
    ∃ outs ag sz es pu, outs.length = io.length ∧ out = outs ++ [⟨ag, sz, es, 0, pu⟩] ∧ retN E fn.results.toList st r outs ag sz es pu := by
  unfold finW at h
  split at h
  · rename_i vs hv
    split at h
    · rename_i out' ho
      obtain ⟨h1, h2⟩ := ioRead_end ho
      split at h
      · split at h
        · rename_i r' hr
          simp at h
          obtain ⟨rfl, rfl⟩ := h
          exact .inl ⟨h1, resX_sound hC hv ⟨⟨r', hr, .refl _⟩, h2⟩⟩
        · simp at h
      · rename_i L _
        split at h
        · rename_i b r' hb hr
          split at h
          · rename_i hc
            simp only [Bool.and_eq_true] at hc
            simp at h
            obtain ⟨rfl, rfl⟩ := h
            exact .inr ⟨out', b.ag, b.sz, b.es, b.pu, h1, rfl, resX_sound hC hv ⟨L, hc.1, ⟨b.ver, hb⟩, hc.2, ⟨r', hr, .refl _⟩, h2⟩⟩
          · simp at h
        · simp at h
    · simp at h
  · simp at h
theorem finW_ct {E : Env} (hE : E.Valid) {C : Orc} (hC : OrcOk E C) {F : Nat} {f : FuncId} {fn : Func} {c : Code} (hf : E.P.funcs[f]? = some fn) (hc : fn.body = some c) (h1 : (fn.name == "runtime.NumGoroutine") = false) (h2 : codeOk E fn.ntmps c = true) {args : List AV} (hl : args.length ≤ fn.ntmps) {io out : List Blk} {r : AV} {e : Ex} {st : St}
    (hx : codeX E C F c (stW args io) = some (e, st)) (he : ∀ j, e ≠ .exit j) (h : finW E C fn io st = some (r, out)) : Ct E f args io r out := by
  rcases finW_sound hC h with ⟨h3, h4⟩ | ⟨outs, ag, sz, es, pu, h3, rfl, h4⟩
  · refine Ct_of_io hE hf hc h1 hl h2 h3 (codeX_sound hC c hx ?_)
    cases e with
    | normal => exact h4
    | exit j => exact absurd rfl (he j)
    | ret => exact h4
  · refine Ct_of_new hE hf hc h1 hl h2 h3 (codeX_sound hC c hx ?_)
    cases e with
    | normal => exact h4
    | exit j => exact absurd rfl (he j)
    | ret => exact h4
theorem funW_sound {E : Env} (hE : E.Valid) {C : Orc} (hC : OrcOk E C) {F : Nat} {f : FuncId} {fn : Func} (hf : E.P.funcs[f]? = some fn) (hok : fnOk E ⟨f, fn⟩ = true) {args : List AV} {io out : List Blk} {r : AV} (h : funW E C F fn args io = some (r, out)) : Ct E f args io r out := by
  unfold funW at h
  unfold fnOk at hok
  simp only [Bool.and_eq_true, Bool.not_eq_true'] at hok
  split at h
  · rename_i c hc
    split at h
    · rename_i hl
      simp only [hc] at hok
      split at h
      · simp at h
      · rename_i st hx
        exact finW_ct hE hC hf hc hok.1 hok.2 (Nat.le_of_ble_eq_true hl) hx (by simp) h
      · rename_i st hx
        exact finW_ct hE hC hf hc hok.1 hok.2 (Nat.le_of_ble_eq_true hl) hx (by simp) h
      · simp at h
    · simp at h
  · simp at h
theorem orcX_sound {E : Env} (hE : E.Valid) {S : FuncId → List AV → Option AV} (hS : ∀ f as r, S f as = some r → Ct E f as [] r []) {T : List FnT} (hT : ∀ x ∈ T, E.P.funcs[x.id]? = some x.fn ∧ fnOk E x = true) {F : Nat} : ∀ d, OrcOk E (orcX E S T F d)
  | 0 => ⟨hS, fun f as io r out h => by simp [orcX] at h⟩
  | d + 1 => by
    refine ⟨fun f as r h => ?_, fun f as io r out h => ?_⟩
    · unfold orcX at h
      simp only at h
      split at h
      · rename_i r' hr
        simp at h; subst h
        exact hS _ _ _ hr
      · split at h
        · rename_i fn hfn
          have hm := hT _ (fnAt_mem hfn)
          exact funX_sound hE (orcX_sound hE hS hT d) hm.1 hm.2 h
        · simp at h
    · unfold orcX at h
      simp only at h
      split at h
      · rename_i fn hfn
        have hm := hT _ (fnAt_mem hfn)
        exact funW_sound hE (orcX_sound hE hS hT d) hm.1 hm.2 h
      · simp at h
end GoAbs
