/- Abstract values, and when a value in memory reads as one. The call's own blocks, and what is known of a program's types. What an operation comes to over abstract values. The operations that meet no block of the call's own: the model does what sem1 says. Slices, fields, indexes, structs: the model does what sem1 says. Struct literals, and all operations that meet no block of the call's own. The call's own blocks: how they are made, written, carried over a call. Reading, and calls. -/
import Derived.Calls
import Derived.Orders
import Derived.Laws.Sem
import Derived.Laws.Cells
import Derived.ChangeKeysEq
import Derived.Laws.Entries
import Derived.Laws.BytesString
set_option linter.all false
section
namespace GoAbs
open Go

inductive AV where
  | any
  | kt
  | kf
  | int (k : IntKind) (n : Int)
  | bool (b : Bool)
  | str (s : ByteArray)
  | nils
  /-- A slice without room. -/
  | cap0
  | imm (ag : Bool) (sz : Nat) (es : List AV)
  | own (id ver sz off len : Nat)
  | nilp
  | ref (id ver i off : Nat)
  | eptr (ag : Bool) (sz : Nat) (es : List AV) (i off : Nat)
  | agg (cs : List AV)
  | tup (vs : List AV)
  | fn (f : Fn) (first cap : List AV)
  | nilf
  | nili
  | iface (t : TypeId) (v : AV)
  deriving Inhabited

namespace AV
def isAgg : AV → Bool | .agg _ => true | _ => false
def cells : AV → List AV | .agg cs => cs | v => [v]
/-- A value of one cell. -/
def scalar : AV → Bool | .any | .agg _ | .tup _ => false | _ => true
def whole : AV → Bool | .any | .tup _ => false | _ => true
/- A value that names no block of the call's own. -/
mutual
def pureB : AV → Bool
  | .own .. => false
  | .ref .. => false
  | .agg cs => pureL cs
  | .tup cs => pureL cs
  | .fn _ a b => pureL a && pureL b
  | .iface _ v => pureB v
  | _ => true
def pureL : List AV → Bool
  | [] => true
  | v :: r => pureB v && pureL r
end
end AV

universe u
/-- A value, looked at before it is handed on. -/
def AV.frc {α : Sort u} (v : AV) (K : AV → α) : α :=
  match v with
  | .any => K (.any)
  | .kt => K (.kt)
  | .kf => K (.kf)
  | .int k n => K (.int k n)
  | .bool b => K (.bool b)
  | .str s => K (.str s)
  | .nils => K (.nils)
  | .cap0 => K (.cap0)
  | .imm ag sz es => K (.imm ag sz es)
  | .own id ver sz off len => K (.own id ver sz off len)
  | .nilp => K (.nilp)
  | .ref id ver i off => K (.ref id ver i off)
  | .eptr ag sz es i off => K (.eptr ag sz es i off)
  | .agg cs => K (.agg cs)
  | .tup vs => K (.tup vs)
  | .fn f first cap => K (.fn f first cap)
  | .nilf => K (.nilf)
  | .nili => K (.nili)
  | .iface t v => K (.iface t v)
theorem AV.frc_eq {α : Sort u} (v : AV) (K : AV → α) : v.frc K = K v := by cases v <;> rfl

abbrev ad (b o : Nat) : Addr := { block := b, off := o, spot := none }
theorem ad_add (b o k : Nat) : (ad b o).add k = ad b (o + k) := by
  unfold Addr.add
  split
  · rename_i h; subst h; rfl
  · rfl

/-- Where a block of the call's own lies: its number, the cell of its first element, the cells of an element, all its cells, its elements. -/
inductive Pl where
  | bad
  | dead
  | virt
  | at (b sh sz n N : Nat)

abbrev Place := Nat → Nat → Pl
def noφ : Place := fun _ _ => .bad

def flat (es : List AV) : List AV := es.flatMap AV.cells
def Lay (ag : Bool) (sz : Nat) (es : List AV) : Prop := ∀ e ∈ es, (e.isAgg = ag ∧ e.cells.length = sz) ∧ e.cells.all AV.scalar = true

mutual
inductive RV (w : World) (ok : Nat → Prop) : Place → AV → Value → Prop
  | any (φ v) : RV w ok φ .any v
  | kt (φ) : RV w ok φ .kt (.bool true)
  | kf (φ) : RV w ok φ .kf (.bool false)
  | int (φ k n) : RV w ok φ (.int k n) (.int k n)
  | bool (φ b) : RV w ok φ (.bool b) (.bool b)
  | str (φ s) : RV w ok φ (.str s) (.string s)
  | nils (φ) : RV w ok φ .nils (.slice none 0 0)
  | cap0 (φ a) : RV w ok φ .cap0 (.slice a 0 0)
  | imm0 (φ ag sz a cap) : RV w ok φ (.imm ag sz []) (.slice a 0 cap)
  | imm (φ ag sz es b o cap vs) (hok : ok b) (hlay : Lay ag sz es) (hvs : RVs w ok noφ (flat es) vs)
      (hc : ∀ (j : Nat) (v : Value), vs[j]? = some v → w.cell? (ad b (o + j)) = some v) (hcap : es.length ≤ cap) :
      RV w ok φ (.imm ag sz es) (.slice (some (ad b o)) es.length cap)
  | own_dead (φ id ver sz off len a cap) (h : φ id ver = .dead) (hl : len ≤ cap) (ha : 0 < len → ∃ b o, a = some (ad b o)) : RV w ok φ (.own id ver sz off len) (.slice a len cap)
  | own_virt (φ id ver sz a) (h : φ id ver = .virt) : RV w ok φ (.own id ver sz 0 0) (.slice a 0 0)
  | own_nil (φ id ver off a b sh sz n N) (h : φ id ver = .at b sh sz n N) (hN : off ≤ N) : RV w ok φ (.own id ver sz off 0) (.slice a 0 0)
  | own (φ id ver off len cap b sh sz n N) (h : φ id ver = .at b sh sz n N) (hlen : len ≤ cap) (hcap : sh + (off + cap) * sz ≤ n) (hN : off + len ≤ N) :
      RV w ok φ (.own id ver sz off len) (.slice (some (ad b (sh + off * sz))) len cap)
  | nilp (φ) : RV w ok φ .nilp (.pointer none)
  | ref_dead (φ id ver i off b o) (h : φ id ver = .dead) : RV w ok φ (.ref id ver i off) (.pointer (some (ad b o)))
  | ref (φ id ver i off b sh sz n N) (h : φ id ver = .at b sh sz n N) : RV w ok φ (.ref id ver i off) (.pointer (some (ad b (sh + i * sz + off))))
  | eptr (φ ag sz es i off b o vs) (hok : ok b) (hlay : Lay ag sz es) (hvs : RVs w ok noφ (flat es) vs)
      (hc : ∀ (j : Nat) (v : Value), vs[j]? = some v → w.cell? (ad b (o + j)) = some v) :
      RV w ok φ (.eptr ag sz es i off) (.pointer (some (ad b (o + i * sz + off))))
  | agg (φ cs vs) (h : RVs w ok φ cs vs) : RV w ok φ (.agg cs) (.agg vs.toArray)
  | tup (φ cs vs) (h : RVs w ok φ cs vs) : RV w ok φ (.tup cs) (.tuple vs.toArray)
  | fn (φ f a b va vb) (h1 : RVs w ok φ a va) (h2 : RVs w ok φ b vb) : RV w ok φ (.fn f a b) (.func f va.toArray vb.toArray)
  | nilf (φ) : RV w ok φ .nilf .nilFunc
  | nili (φ) : RV w ok φ .nili .nilIface
  | iface (φ t v x) (h : RV w ok φ v x) : RV w ok φ (.iface t v) (.iface t x)
inductive RVs (w : World) (ok : Nat → Prop) : Place → List AV → List Value → Prop
  | nil (φ) : RVs w ok φ [] []
  | cons (φ c x cs xs) (h : RV w ok φ c x) (t : RVs w ok φ cs xs) : RVs w ok φ (c :: cs) (x :: xs)
end

/-- From one state of memory to a later one: what may be read still reads. -/
structure Mono (w : World) (ok : Nat → Prop) (φ : Place) (w' : World) (ok' : Nat → Prop) (φ' : Place) : Prop where
  keep : ∀ b, ok b → ok' b ∧ w'.heap[b]? = w.heap[b]?
  place : ∀ id ver, φ id ver = .bad ∨ φ' id ver = φ id ver ∨ φ' id ver = .dead

theorem Mono.refl (w : World) (ok : Nat → Prop) (φ : Place) : Mono w ok φ w ok φ := ⟨fun _ h => ⟨h, rfl⟩, fun _ _ => .inr (.inl rfl)⟩
theorem Mono.trans {w w' w'' : World} {ok ok' ok'' : Nat → Prop} {φ φ' φ'' : Place} (h : Mono w ok φ w' ok' φ') (k : Mono w' ok' φ' w'' ok'' φ'') : Mono w ok φ w'' ok'' φ'' :=
  ⟨fun b hb => ⟨(k.keep b (h.keep b hb).1).1, by rw [(k.keep b (h.keep b hb).1).2, (h.keep b hb).2]⟩, fun id ver => by
    rcases h.place id ver with h1 | h1 | h1
    · exact .inl h1
    · rcases k.place id ver with h2 | h2 | h2
      · exact .inl (h1 ▸ h2)
      · exact .inr (.inl (h2.trans h1))
      · exact .inr (.inr h2)
    · rcases k.place id ver with h2 | h2 | h2
      · rw [h1] at h2; exact absurd h2 (by simp)
      · exact .inr (.inr (h2.trans h1))
      · exact .inr (.inr h2)⟩
theorem cell_of_block {w w' : World} {b : Nat} (h : w'.heap[b]? = w.heap[b]?) (o : Nat) : w'.cell? (ad b o) = w.cell? (ad b o) := by
  simp only [World.cell?, h]
theorem noMono {w w' : World} {ok ok' : Nat → Prop} {φ φ' : Place} (h : Mono w ok φ w' ok' φ') : Mono w ok noφ w' ok' noφ := ⟨h.keep, fun _ _ => .inl rfl⟩

section
variable {w w' : World} {ok ok' : Nat → Prop}
mutual
theorem RV.mono : ∀ {φ φ' : Place} {v : AV} {x : Value}, Mono w ok φ w' ok' φ' → RV w ok φ v x → RV w' ok' φ' v x
  | _, _, _, _, _, .any _ _ => .any _ _
  | _, _, _, _, _, .kt _ => .kt _
  | _, _, _, _, _, .kf _ => .kf _
  | _, _, _, _, _, .int _ _ _ => .int _ _ _
  | _, _, _, _, _, .bool _ _ => .bool _ _
  | _, _, _, _, _, .str _ _ => .str _ _
  | _, _, _, _, _, .nils _ => .nils _
  | _, _, _, _, _, .cap0 _ _ => .cap0 _ _
  | _, _, _, _, _, .imm0 _ _ _ _ _ => .imm0 _ _ _ _ _
  | _, _, _, _, m, .imm _ ag sz es b o cap vs hok hlay hvs hc hcap =>
    .imm _ ag sz es b o cap vs (m.keep b hok).1 hlay (RVs.mono (noMono m) hvs) (fun j v h => by rw [cell_of_block (m.keep b hok).2]; exact hc j v h) hcap
  | _, _, _, _, m, .own_dead _ id ver sz off len a cap h hl ha => .own_dead _ _ _ _ _ _ _ _ (by rcases m.place id ver with h1 | h1 | h1 <;> simp_all) hl ha
  | _, φ', _, _, m, .own_virt _ id ver sz a h => by
    rcases m.place id ver with h1 | h1 | h1
    · rw [h] at h1; exact absurd h1 (by simp)
    · exact .own_virt _ _ _ _ _ (h1.trans h)
    · exact .own_dead _ _ _ _ _ _ _ _ h1 (Nat.le_refl _) (by simp)
  | _, φ', _, _, m, .own_nil _ id ver off a b sh sz n N h hN => by
    rcases m.place id ver with h1 | h1 | h1
    · rw [h] at h1; exact absurd h1 (by simp)
    · exact .own_nil _ _ _ _ _ _ _ _ _ _ (h1.trans h) hN
    · exact .own_dead _ _ _ _ _ _ _ _ h1 (Nat.le_refl _) (by simp)
  | _, φ', _, _, m, .own _ id ver off len cap b sh sz n N h hlen hcap hN => by
    rcases m.place id ver with h1 | h1 | h1
    · rw [h] at h1; exact absurd h1 (by simp)
    · exact .own _ _ _ _ _ _ _ _ _ _ _ (h1.trans h) hlen hcap hN
    · exact .own_dead _ _ _ _ _ _ _ _ h1 hlen fun _ => ⟨_, _, rfl⟩
  | _, _, _, _, _, .nilp _ => .nilp _
  | _, _, _, _, m, .ref_dead _ id ver i off b o h => .ref_dead _ _ _ _ _ _ _ (by rcases m.place id ver with h1 | h1 | h1 <;> simp_all)
  | _, φ', _, _, m, .ref _ id ver i off b sh sz n N h => by
    rcases m.place id ver with h1 | h1 | h1
    · rw [h] at h1; exact absurd h1 (by simp)
    · exact .ref _ _ _ _ _ _ _ _ _ _ (h1.trans h)
    · exact .ref_dead _ _ _ _ _ _ _ h1
  | _, _, _, _, m, .eptr _ ag sz es i off b o vs hok hlay hvs hc =>
    .eptr _ ag sz es i off b o vs (m.keep b hok).1 hlay (RVs.mono (noMono m) hvs) (fun j v h => by rw [cell_of_block (m.keep b hok).2]; exact hc j v h)
  | _, _, _, _, m, .agg _ _ _ h => .agg _ _ _ (RVs.mono m h)
  | _, _, _, _, m, .tup _ _ _ h => .tup _ _ _ (RVs.mono m h)
  | _, _, _, _, m, .fn _ _ _ _ _ _ h1 h2 => .fn _ _ _ _ _ _ (RVs.mono m h1) (RVs.mono m h2)
  | _, _, _, _, _, .nilf _ => .nilf _
  | _, _, _, _, _, .nili _ => .nili _
  | _, _, _, _, m, .iface _ _ _ _ h => .iface _ _ _ _ (RV.mono m h)
theorem RVs.mono : ∀ {φ φ' : Place} {v : List AV} {x : List Value}, Mono w ok φ w' ok' φ' → RVs w ok φ v x → RVs w' ok' φ' v x
  | _, _, _, _, _, .nil _ => .nil _
  | _, _, _, _, m, .cons _ _ _ _ _ h t => .cons _ _ _ _ _ (RV.mono m h) (RVs.mono m t)
end
end

section
variable {w : World} {ok : Nat → Prop} {φ : Place}
theorem RVs.length {cs : List AV} {vs : List Value} (h : RVs w ok φ cs vs) : cs.length = vs.length := by
  induction cs generalizing vs with
  | nil => cases h; rfl
  | cons c cs ih => cases h with | cons _ _ _ _ _ h t => simp [ih t]
theorem RVs.get {cs : List AV} {vs : List Value} (h : RVs w ok φ cs vs) {j : Nat} {c : AV} (hj : cs[j]? = some c) : ∃ v, vs[j]? = some v ∧ RV w ok φ c v := by
  induction cs generalizing vs j with
  | nil => simp at hj
  | cons d cs ih =>
    cases h with
    | cons _ _ x _ xs h t =>
      cases j with
      | zero => simp at hj; exact ⟨x, by simp, hj ▸ h⟩
      | succ j => simpa using ih t (by simpa using hj)
theorem RVs.append {cs ds : List AV} {vs us : List Value} (h : RVs w ok φ cs vs) (k : RVs w ok φ ds us) : RVs w ok φ (cs ++ ds) (vs ++ us) := by
  induction cs generalizing vs with
  | nil => cases h; exact k
  | cons c cs ih => cases h with | cons _ _ _ _ _ h t => exact .cons _ _ _ _ _ h (ih t)
theorem RVs.take {cs : List AV} {vs : List Value} (h : RVs w ok φ cs vs) (n : Nat) : RVs w ok φ (cs.take n) (vs.take n) := by
  induction cs generalizing vs n with
  | nil => cases h; simp; exact .nil _
  | cons c cs ih =>
    cases h with
    | cons _ _ _ _ _ h t =>
      cases n with
      | zero => simp; exact .nil _
      | succ n => simp; exact .cons _ _ _ _ _ h (ih t n)
theorem RVs.drop {cs : List AV} {vs : List Value} (h : RVs w ok φ cs vs) (n : Nat) : RVs w ok φ (cs.drop n) (vs.drop n) := by
  induction cs generalizing vs n with
  | nil => cases h; simp; exact .nil _
  | cons c cs ih =>
    cases h with
    | cons _ _ _ _ _ h t =>
      cases n with
      | zero => simp; exact .cons _ _ _ _ _ h t
      | succ n => simp; exact ih t n
theorem RVs.split {cs ds : List AV} {vs : List Value} (h : RVs w ok φ (cs ++ ds) vs) : RVs w ok φ cs (vs.take cs.length) ∧ RVs w ok φ ds (vs.drop cs.length) := by
  have h1 := h.take cs.length
  have h2 := h.drop cs.length
  simp at h1 h2
  exact ⟨h1, h2⟩
theorem RVs.map {α : Type} {l : List α} {f : α → AV} {g : α → Value} (h : ∀ x ∈ l, RV w ok φ (f x) (g x)) : RVs w ok φ (l.map f) (l.map g) := by
  induction l with
  | nil => exact .nil _
  | cons x l ih => exact .cons _ _ _ _ _ (h x (by simp)) (ih fun y hy => h y (by simp [hy]))
theorem RVs.set {cs : List AV} {vs : List Value} (h : RVs w ok φ cs vs) (j : Nat) {c : AV} {v : Value} (hv : RV w ok φ c v) : RVs w ok φ (cs.set j c) (vs.set j v) := by
  induction cs generalizing vs j with
  | nil => cases h; simp; exact .nil _
  | cons d cs ih =>
    cases h with
    | cons _ _ _ _ _ h t =>
      cases j with
      | zero => exact .cons _ _ _ _ _ hv t
      | succ j => exact .cons _ _ _ _ _ h (ih t j)
theorem RVs.replicate {n : Nat} {c : AV} {v : Value} (h : RV w ok φ c v) : RVs w ok φ (List.replicate n c) (List.replicate n v) := by
  induction n with
  | zero => exact .nil _
  | succ n ih => exact .cons _ _ _ _ _ h ih
theorem RV.one {v : AV} {x : Value} (h : RV w ok φ v x) (ht : v.scalar = true) : x.oneCell' = true := by
  cases h <;> first
    | (simp [AV.scalar] at ht; done)
    | assumption
    | rfl
theorem cells_one {x : Value} (h : x.oneCell' = true) : x.cells = #[x] := by
  cases x <;> first | rfl | (simp [Value.oneCell'] at h)
/-- The cells of a value. -/
theorem RV.cells {v : AV} {x : Value} (h : RV w ok φ v x) (ht : v.whole = true) : RVs w ok φ v.cells x.cells.toList := by
  by_cases ha : v.scalar = true
  · have h1 := h.one ha
    rw [cells_one h1]
    have hv : v.cells = [v] := by cases v <;> first | rfl | (simp [AV.scalar] at ha)
    rw [hv]
    exact .cons _ _ _ _ _ h (.nil _)
  · cases v <;> first | (exact absurd rfl ha) | (simp [AV.whole] at ht; done) | (cases h; simpa [AV.cells, Value.cells])
theorem RVs.one {vs : List AV} {xs : List Value} (h : RVs w ok φ vs xs) (ht : vs.all AV.scalar = true) : ∀ x ∈ xs, x.oneCell' = true := by
  induction vs generalizing xs with
  | nil => cases h; simp
  | cons v vs ih =>
    cases h with
    | cons _ _ _ _ _ h t =>
      simp at ht
      intro x hx
      rcases List.mem_cons.1 hx with rfl | hx
      · exact h.one ht.1
      · exact ih t (by simpa using ht.2) x hx
end

section
variable {w : World} {ok : Nat → Prop}
mutual
theorem RV.pure' : ∀ {φ φ' : Place} {v : AV} {x : Value}, v.pureB = true → RV w ok φ v x → RV w ok φ' v x
  | _, _, _, _, _, .any _ _ => .any _ _
  | _, _, _, _, _, .kt _ => .kt _
  | _, _, _, _, _, .kf _ => .kf _
  | _, _, _, _, _, .int _ _ _ => .int _ _ _
  | _, _, _, _, _, .bool _ _ => .bool _ _
  | _, _, _, _, _, .str _ _ => .str _ _
  | _, _, _, _, _, .nils _ => .nils _
  | _, _, _, _, _, .cap0 _ _ => .cap0 _ _
  | _, _, _, _, _, .imm0 _ _ _ _ _ => .imm0 _ _ _ _ _
  | _, _, _, _, _, .imm _ ag sz es b o cap vs hok hlay hvs hc hcap => .imm _ ag sz es b o cap vs hok hlay hvs hc hcap
  | _, _, _, _, p, .own_dead _ _ _ _ _ _ _ _ _ _ _ => by simp [AV.pureB] at p
  | _, _, _, _, p, .own_virt _ _ _ _ _ _ => by simp [AV.pureB] at p
  | _, _, _, _, p, .own_nil _ _ _ _ _ _ _ _ _ _ _ _ => by simp [AV.pureB] at p
  | _, _, _, _, p, .own _ _ _ _ _ _ _ _ _ _ _ _ _ _ _ => by simp [AV.pureB] at p
  | _, _, _, _, _, .nilp _ => .nilp _
  | _, _, _, _, p, .ref_dead _ _ _ _ _ _ _ _ => by simp [AV.pureB] at p
  | _, _, _, _, p, .ref _ _ _ _ _ _ _ _ _ _ _ => by simp [AV.pureB] at p
  | _, _, _, _, _, .eptr _ ag sz es i off b o vs hok hlay hvs hc => .eptr _ ag sz es i off b o vs hok hlay hvs hc
  | _, _, _, _, p, .agg _ _ _ h => .agg _ _ _ (RVs.pure' (by simpa [AV.pureB] using p) h)
  | _, _, _, _, p, .tup _ _ _ h => .tup _ _ _ (RVs.pure' (by simpa [AV.pureB] using p) h)
  | _, _, _, _, p, .fn _ _ _ _ _ _ h1 h2 => by
    simp [AV.pureB] at p
    exact .fn _ _ _ _ _ _ (RVs.pure' p.1 h1) (RVs.pure' p.2 h2)
  | _, _, _, _, _, .nilf _ => .nilf _
  | _, _, _, _, _, .nili _ => .nili _
  | _, _, _, _, p, .iface _ _ _ _ h => .iface _ _ _ _ (RV.pure' (by simpa [AV.pureB] using p) h)
theorem RVs.pure' : ∀ {φ φ' : Place} {v : List AV} {x : List Value}, AV.pureL v = true → RVs w ok φ v x → RVs w ok φ' v x
  | _, _, _, _, _, .nil _ => .nil _
  | _, _, _, _, p, .cons _ _ _ _ _ h t => by
    simp [AV.pureL] at p
    exact .cons _ _ _ _ _ (RV.pure' p.1 h) (RVs.pure' p.2 t)
end
theorem pureL_iff {l : List AV} : AV.pureL l = true ↔ ∀ v ∈ l, v.pureB = true := by
  induction l with
  | nil => simp [AV.pureL]
  | cons a l ih => simp [AV.pureL, ih]
end

/- A value that names only blocks out of a list. -/
mutual
def refsB (ids : List Nat) : AV → Bool
  | .own id .. => ids.any (Nat.beq id)
  | .ref id .. => ids.any (Nat.beq id)
  | .agg cs => refsL ids cs
  | .tup cs => refsL ids cs
  | .fn _ a b => refsL ids a && refsL ids b
  | .iface _ v => refsB ids v
  | _ => true
def refsL (ids : List Nat) : List AV → Bool
  | [] => true
  | v :: r => refsB ids v && refsL ids r
end
section
variable {w : World} {ok : Nat → Prop} {ids : List Nat}
mutual
theorem RV.refs : ∀ {φ φ' : Place} {v : AV} {x : Value}, RV w ok φ v x → refsB ids v = true → (∀ i ver, ids.any (Nat.beq i) = true → φ' i ver = φ i ver) → RV w ok φ' v x
  | _, _, _, _, .any _ _ => fun _ _ => .any _ _
  | _, _, _, _, .kt _ => fun _ _ => .kt _
  | _, _, _, _, .kf _ => fun _ _ => .kf _
  | _, _, _, _, .int _ _ _ => fun _ _ => .int _ _ _
  | _, _, _, _, .bool _ _ => fun _ _ => .bool _ _
  | _, _, _, _, .str _ _ => fun _ _ => .str _ _
  | _, _, _, _, .nils _ => fun _ _ => .nils _
  | _, _, _, _, .cap0 _ _ => fun _ _ => .cap0 _ _
  | _, _, _, _, .imm0 _ _ _ _ _ => fun _ _ => .imm0 _ _ _ _ _
  | _, _, _, _, .imm _ ag sz es b o cap vs hok hlay hvs hc hcap => fun _ _ => .imm _ ag sz es b o cap vs hok hlay hvs hc hcap
  | _, _, _, _, .own_dead _ id ver sz off len a cap h hl ha => fun p e => .own_dead _ _ _ _ _ _ _ _ ((e id ver (by simpa only [refsB] using p)).trans h) hl ha
  | _, _, _, _, .own_virt _ id ver sz a h => fun p e => .own_virt _ _ _ _ _ ((e id ver (by simpa only [refsB] using p)).trans h)
  | _, _, _, _, .own_nil _ id ver off a b sh sz n N h hN => fun p e => .own_nil _ _ _ _ _ _ _ _ _ _ ((e id ver (by simpa only [refsB] using p)).trans h) hN
  | _, _, _, _, .own _ id ver off len cap b sh sz n N h hlen hcap hN => fun p e => .own _ _ _ _ _ _ _ _ _ _ _ ((e id ver (by simpa only [refsB] using p)).trans h) hlen hcap hN
  | _, _, _, _, .nilp _ => fun _ _ => .nilp _
  | _, _, _, _, .ref_dead _ id ver i off b o h => fun p e => .ref_dead _ _ _ _ _ _ _ ((e id ver (by simpa only [refsB] using p)).trans h)
  | _, _, _, _, .ref _ id ver i off b sh sz n N h => fun p e => .ref _ _ _ _ _ _ _ _ _ _ ((e id ver (by simpa only [refsB] using p)).trans h)
  | _, _, _, _, .eptr _ ag sz es i off b o vs hok hlay hvs hc => fun _ _ => .eptr _ ag sz es i off b o vs hok hlay hvs hc
  | _, _, _, _, .agg _ _ _ h => fun p e => .agg _ _ _ (RVs.refs h (by simpa only [refsB] using p) e)
  | _, _, _, _, .tup _ _ _ h => fun p e => .tup _ _ _ (RVs.refs h (by simpa only [refsB] using p) e)
  | _, _, _, _, .fn _ _ _ _ _ _ h1 h2 => fun p e => by
    simp only [refsB, Bool.and_eq_true] at p
    exact .fn _ _ _ _ _ _ (RVs.refs h1 p.1 e) (RVs.refs h2 p.2 e)
  | _, _, _, _, .nilf _ => fun _ _ => .nilf _
  | _, _, _, _, .nili _ => fun _ _ => .nili _
  | _, _, _, _, .iface _ _ _ _ h => fun p e => .iface _ _ _ _ (RV.refs h (by simpa only [refsB] using p) e)
theorem RVs.refs : ∀ {φ φ' : Place} {v : List AV} {x : List Value}, RVs w ok φ v x → refsL ids v = true → (∀ i ver, ids.any (Nat.beq i) = true → φ' i ver = φ i ver) → RVs w ok φ' v x
  | _, _, _, _, .nil _ => fun _ _ => .nil _
  | _, _, _, _, .cons _ _ _ _ _ h t => fun p e => by
    simp only [refsL, Bool.and_eq_true] at p
    exact .cons _ _ _ _ _ (RV.refs h p.1 e) (RVs.refs t p.2 e)
end
end
theorem flat_nil : flat [] = [] := rfl
theorem flat_cons (e : AV) (es : List AV) : flat (e :: es) = e.cells ++ flat es := by simp [flat]
theorem flat_append (es ds : List AV) : flat (es ++ ds) = flat es ++ flat ds := by simp [flat]
section
variable {ag : Bool} {sz : Nat}
theorem Lay.cons {e : AV} {es : List AV} (h : Lay ag sz (e :: es)) : (e.isAgg = ag ∧ e.cells.length = sz) ∧ Lay ag sz es := ⟨(h e (by simp)).1, fun x hx => h x (by simp [hx])⟩
theorem Lay.append {es ds : List AV} (h : Lay ag sz es) (k : Lay ag sz ds) : Lay ag sz (es ++ ds) := fun e he => by
  rcases List.mem_append.1 he with h1 | h1
  · exact h e h1
  · exact k e h1
theorem Lay.drop {es : List AV} (h : Lay ag sz es) (n : Nat) : Lay ag sz (es.drop n) := fun e he => h e (List.mem_of_mem_drop he)
theorem Lay.take {es : List AV} (h : Lay ag sz es) (n : Nat) : Lay ag sz (es.take n) := fun e he => h e (List.mem_of_mem_take he)
theorem Lay.set {es : List AV} (h : Lay ag sz es) (i : Nat) {v : AV} (hv : (v.isAgg = ag ∧ v.cells.length = sz) ∧ v.cells.all AV.scalar = true) : Lay ag sz (es.set i v) := fun e he => by
  rcases List.mem_or_eq_of_mem_set he with h1 | h1
  · exact h e h1
  · exact h1 ▸ hv
theorem flat_scalar {es : List AV} (h : Lay ag sz es) : (flat es).all AV.scalar = true := by
  induction es with
  | nil => rfl
  | cons e es ih =>
    rw [flat_cons, List.all_append, (h e (by simp)).2, ih h.cons.2]; rfl
theorem flat_len {es : List AV} (h : Lay ag sz es) : (flat es).length = es.length * sz := by
  induction es with
  | nil => simp [flat]
  | cons e es ih =>
    rw [flat_cons, List.length_append, h.cons.1.2, ih h.cons.2, List.length_cons, Nat.add_mul]
    omega
theorem flat_drop {es : List AV} (h : Lay ag sz es) (n : Nat) : flat (es.drop n) = (flat es).drop (n * sz) := by
  induction es generalizing n with
  | nil => simp [flat]
  | cons e es ih =>
    cases n with
    | zero => simp
    | succ n =>
      rw [List.drop_succ_cons, ih h.cons.2, flat_cons, List.drop_append, h.cons.1.2, Nat.add_mul]
      have : List.drop (n * sz + 1 * sz) e.cells = [] := List.drop_eq_nil_of_le (by rw [h.cons.1.2]; omega)
      rw [this, List.nil_append]
      congr 1
      omega
theorem flat_take {es : List AV} (h : Lay ag sz es) (n : Nat) : flat (es.take n) = (flat es).take (n * sz) := by
  induction es generalizing n with
  | nil => simp [flat]
  | cons e es ih =>
    cases n with
    | zero => simp [flat]
    | succ n =>
      rw [List.take_succ_cons, flat_cons, ih h.cons.2, flat_cons, List.take_append, h.cons.1.2, Nat.add_mul]
      have : List.take (n * sz + 1 * sz) e.cells = e.cells := List.take_of_length_le (by rw [h.cons.1.2]; omega)
      rw [this]
      congr 2
      omega
theorem flat_get {es : List AV} (h : Lay ag sz es) {i : Nat} {e : AV} (hi : es[i]? = some e) {j : Nat} (hj : j < sz) : (flat es)[i * sz + j]? = e.cells[j]? := by
  induction es generalizing i with
  | nil => simp at hi
  | cons d es ih =>
    rw [flat_cons]
    cases i with
    | zero =>
      simp at hi; subst hi
      rw [Nat.zero_mul, Nat.zero_add, List.getElem?_append_left (by rw [h.cons.1.2]; exact hj)]
    | succ i =>
      have := ih h.cons.2 (by simpa using hi)
      rw [List.getElem?_append_right (by rw [h.cons.1.2, Nat.add_mul]; omega), h.cons.1.2, ← this]
      congr 1
      rw [Nat.add_mul]; omega
theorem flat_set {es : List AV} (h : Lay ag sz es) {i : Nat} (hi : i < es.length) {v : AV} (hv : v.cells.length = sz) : flat (es.set i v) = (flat es).take (i * sz) ++ v.cells ++ (flat es).drop ((i + 1) * sz) := by
  induction es generalizing i with
  | nil => simp at hi
  | cons d es ih =>
    cases i with
    | zero =>
      simp only [List.set_cons_zero, flat_cons, Nat.zero_mul, List.take_zero, List.nil_append, Nat.zero_add, Nat.one_mul]
      rw [List.drop_append, List.drop_eq_nil_of_le (by rw [h.cons.1.2]; omega), h.cons.1.2]
      simp
    | succ i =>
      rw [List.set_cons_succ, flat_cons, ih h.cons.2 (by simpa using hi), flat_cons, List.take_append, List.drop_append, h.cons.1.2]
      have h1 : List.take ((i + 1) * sz) d.cells = d.cells := List.take_of_length_le (by rw [h.cons.1.2, Nat.add_mul]; omega)
      have h2 : List.drop ((i + 1 + 1) * sz) d.cells = [] := List.drop_eq_nil_of_le (by rw [h.cons.1.2, Nat.add_mul]; omega)
      rw [h1, h2]
      have h3 : (i + 1) * sz - sz = i * sz := by rw [Nat.add_mul]; omega
      have h4 : (i + 1 + 1) * sz - sz = (i + 1) * sz := by rw [Nat.add_mul (i + 1) 1]; omega
      rw [h3, h4]
      simp
end
end GoAbs
end

section
namespace GoAbs
open Go

structure Blk where
  ag : Bool
  sz : Nat
  es : List AV
  ver : Nat
  pu : Bool

/-- A block, looked at before it is handed on. -/
def Blk.frc.{u} {α : Sort u} (b : Blk) (K : Bool → Nat → List AV → Nat → Bool → α) : α :=
  match b with
  | ⟨ag, sz, es, ver, pu⟩ => K ag sz es ver pu
theorem Blk.frc_eq.{u} {α : Sort u} (b : Blk) (K : Bool → Nat → List AV → Nat → Bool → α) : b.frc K = K b.ag b.sz b.es b.ver b.pu := by cases b; rfl

structure HS where
  hp : Nat → Option Blk
  vr : Nat → Nat

def HS.place (s : HS) (M : Nat → Pl) : Place := fun id ver =>
  match s.hp id with
  | some b => if b.ver = ver then M id else if ver < s.vr id then .dead else .bad
  | none => if ver < s.vr id then .dead else .bad

structure BlkAt (w : World) (ok : Nat → Prop) (φ : Place) (blk : Blk) (b sh sz n N : Nat) : Prop where
  hsz : sz = blk.sz
  hN : N = blk.es.length
  lay : Lay blk.ag blk.sz blk.es
  cells : ∃ c T fr vs, w.heap[b]? = some (.cells c T fr) ∧ c.size = n ∧ (∀ o, o < n → ¬ (fr.1 ≤ o ∧ o < fr.2)) ∧
    RVs w ok (if blk.pu then noφ else φ) (flat blk.es) vs ∧ (∀ (j : Nat) (v : Value), vs[j]? = some v → c[sh + j]? = some v)

def BlkR (w : World) (ok : Nat → Prop) (φ : Place) (blk : Blk) : Pl → Prop
  | .virt => blk.es = []
  | .at b sh sz n N => BlkAt w ok φ blk b sh sz n N
  | _ => False

inductive TD where
  | other
  | int (k : IntKind)
  | bool
  | string
  | slice (elem : TypeId)
  | array (n : Nat) (elem : TypeId)
  | struct (fs : List (Nat × Nat × Bool))
  | pointer (elem : TypeId)
  | func
  | iface

structure TyI where
  ag : Bool
  sz : Nat
  bytes : Nat
  zero : AV
  d : TD

def litS : Value → Option AV
  | .bool true => some .kt
  | .bool false => some .kf
  | .int k n => some (.int k n)
  | .string s => some (.str s)
  | .slice none 0 0 => some .nils
  | .pointer none => some .nilp
  | .nilFunc => some .nilf
  | .nilIface => some .nili
  | _ => none
def mapO {α β : Type} (f : α → Option β) : List α → Option (List β)
  | [] => some []
  | x :: r => match f x, mapO f r with
    | some y, some ys => some (y :: ys)
    | _, _ => none
def litAV : Value → Option AV
  | .agg cs => match mapO litS cs.toList with
    | some l => some (.agg l)
    | none => none
  | v => litS v

def aggD : TypeDesc → Bool | .struct _ | .array _ _ => true | _ => false
def aggT (P : Program) (t : TypeId) : Bool := match P.underlying t with | some d => aggD d | none => false
def fieldZ (P : Program) (t : TypeId) : Nat := match P.underlying t with | some _ => P.cellsOf t | none => 0
def tdOf (P : Program) : TypeDesc → TD
  | .int k => .int k
  | .bool => .bool
  | .string => .string
  | .slice e => .slice e
  | .array n e => .array n e
  | .struct fs => .struct (fs.toList.map fun f => (f.offset, fieldZ P f.type, aggT P f.type))
  | .pointer e => .pointer e
  | .func _ _ _ => .func
  | .interface _ => .iface
  | _ => .other
def tyi (P : Program) (t : TypeId) : Option TyI :=
  match P.info? t, P.underlying t with
  | some i, some d =>
    match i.zero with
    | some z => match litAV z with
      | some a => if a.cells.length = i.size ∧ a.isAgg = aggD d then some { ag := aggD d, sz := i.size, bytes := i.bytes, zero := a, d := tdOf P d } else none
      | none => none
    | none => none
  | _, _ => none

structure Env where
  P : Program
  tt : TypeId → Option TyI
  G : World → Prop
  N : Nat
  frz : FuncId → Bool
  /-- Do sums of kind i64 wrap (else they are asked to stay inside)? -/
  wr : Bool := true
  /-- Callees that may write the blocks that they are handed. -/
  wrt : FuncId → Bool := fun _ => false

structure Env.Valid (E : Env) : Prop where
  ty : ∀ t ti, E.tt t = some ti → tyi E.P t = some ti
  size : ∀ w, E.G w → E.N ≤ w.heap.size
  stay : ∀ w w', (∀ k, k < E.N → w'.heap[k]? = w.heap[k]?) → E.N ≤ w'.heap.size → E.G w → E.G w'
  mixed : E.P.follows .mixedOrders = true

/-- From this number on the names of blocks that were handed in to be written. -/
def ioB : Nat := 1000000

structure HR (E : Env) (w0 : World) (io : Nat → Prop) (s : HS) (w : World) (M : Nat → Pl) (ok : Nat → Prop) : Prop where
  blk : ∀ id b, s.hp id = some b → BlkR w ok (s.place M) b (M id)
  ver : ∀ id b, s.hp id = some b → s.vr id = b.ver + 1
  inj : ∀ id id' b b' k sh sz n N sh' sz' n' N', s.hp id = some b → s.hp id' = some b' → M id = .at k sh sz n N → M id' = .at k sh' sz' n' N' → id = id'
  lo : ∀ id b k sh sz n N, s.hp id = some b → M id = .at k sh sz n N → (w0.heap.size ≤ k ∨ io k ∧ ioB ≤ id) ∧ E.N ≤ k
  okb : ∀ k, ok k → k < w.heap.size ∧ ∀ id b sh sz n N, s.hp id = some b → M id ≠ .at k sh sz n N
  frame : ∀ k, k < w0.heap.size → ¬ io k → w.heap[k]? = w0.heap[k]?
  size : w0.heap.size ≤ w.heap.size
  os : w.os = w0.os
  output : w.output = w0.output
  tape : w.tape = w0.tape
  G : E.G w

/-- A later state of the same call. -/
structure HLater (E : Env) (w0 : World) (io : Nat → Prop) (s : HS) (w : World) (M : Nat → Pl) (ok : Nat → Prop) (s' : HS) (w' : World) (M' : Nat → Pl) (ok' : Nat → Prop) : Prop where
  hr : HR E w0 io s' w' M' ok'
  mono : Mono w ok (s.place M) w' ok' (s'.place M')
  new : ∀ k, ok' k → ok k ∨ w0.heap.size ≤ k

theorem HLater.refl {E : Env} {w0 : World} {io : Nat → Prop} {s : HS} {w : World} {M : Nat → Pl} {ok : Nat → Prop} (h : HR E w0 io s w M ok) : HLater E w0 io s w M ok s w M ok :=
  ⟨h, .refl _ _ _, fun _ h => .inl h⟩
theorem HLater.trans {E : Env} {w0 : World} {io : Nat → Prop} {s s' s'' : HS} {w w' w'' : World} {M M' M'' : Nat → Pl} {ok ok' ok'' : Nat → Prop}
    (h : HLater E w0 io s w M ok s' w' M' ok') (k : HLater E w0 io s' w' M' ok' s'' w'' M'' ok'') : HLater E w0 io s w M ok s'' w'' M'' ok'' :=
  ⟨k.hr, h.mono.trans k.mono, fun b hb => (k.new b hb).elim (h.new b) .inr⟩

section lits
variable {w : World} {ok : Nat → Prop}
theorem litS_ok {φ : Place} {v : Value} {a : AV} (h : litS v = some a) : RV w ok φ a v := by
  unfold litS at h
  split at h <;> first | (simp at h; subst h; constructor) | simp at h
theorem litS_scalar {v : Value} {a : AV} (h : litS v = some a) : a.scalar = true ∧ a.pureB = true := by
  unfold litS at h
  split at h <;> first | (simp at h; subst h; exact ⟨rfl, rfl⟩) | simp at h
theorem mapO_some {α β : Type} {f : α → Option β} {l : List α} {m : List β} (h : mapO f l = some m) : l.length = m.length ∧ ∀ (j : Nat) (x : α), l[j]? = some x → ∃ y, m[j]? = some y ∧ f x = some y := by
  induction l generalizing m with
  | nil => simp [mapO] at h; subst h; simp
  | cons x l ih =>
    unfold mapO at h
    split at h
    · rename_i y ys h1 h2
      simp at h; subst h
      obtain ⟨hl, hj⟩ := ih h2
      refine ⟨by simp [hl], fun j x' hx => ?_⟩
      cases j with
      | zero => simp at hx; subst hx; exact ⟨y, by simp, h1⟩
      | succ j => simpa using hj j x' (by simpa using hx)
    · simp at h
theorem mapO_RVs {φ : Place} {f : AV → Option AV} {l m : List AV} {xs : List Value} (h : mapO f l = some m) {φ0 : Place} {ok0 : Nat → Prop} (hx : RVs w ok0 φ0 l xs)
    (hf : ∀ a ∈ l, ∀ b x, f a = some b → RV w ok0 φ0 a x → RV w ok φ b x) : RVs w ok φ m xs := by
  induction l generalizing m xs with
  | nil => simp [mapO] at h; subst h; cases hx; exact .nil _
  | cons a l ih =>
    cases hx with
    | cons _ _ x _ xs hx ht =>
      unfold mapO at h
      split at h
      · rename_i y ys h1 h2
        simp at h; subst h
        exact .cons _ _ _ _ _ (hf a (by simp) _ _ h1 hx) (ih h2 ht fun a ha => hf a (by simp [ha]))
      · simp at h
theorem mapLit_ok {φ : Place} {l : List Value} {m : List AV} (h : mapO litS l = some m) : RVs w ok φ m l := by
  induction l generalizing m with
  | nil => simp [mapO] at h; subst h; exact .nil _
  | cons a l ih =>
    unfold mapO at h
    split at h
    · rename_i y ys h1 h2
      simp at h; subst h
      exact .cons _ _ _ _ _ (litS_ok h1) (ih h2)
    · simp at h
theorem litAV_ok {φ : Place} {v : Value} {a : AV} (h : litAV v = some a) : RV w ok φ a v := by
  unfold litAV at h
  split at h
  · rename_i cs
    split at h
    · rename_i l hl
      simp at h; subst h
      have := mapLit_ok (w := w) (ok := ok) (φ := φ) hl
      have := RV.agg _ _ _ this
      simpa using this
    · simp at h
  · exact litS_ok h
theorem mapLit_scalar {l : List Value} {m : List AV} (h : mapO litS l = some m) : m.all AV.scalar = true ∧ AV.pureL m = true := by
  induction l generalizing m with
  | nil => simp [mapO] at h; subst h; simp [AV.pureL]
  | cons a l ih =>
    unfold mapO at h
    split at h
    · rename_i y ys h1 h2
      simp at h; subst h
      have h3 := ih h2
      have h4 := litS_scalar h1
      simp only [List.all_cons, AV.pureL, h3, h4, Bool.and_self, and_self]
    · simp at h
theorem litAV_cells {v : Value} {a : AV} (h : litAV v = some a) : a.cells.all AV.scalar = true ∧ a.pureB = true ∧ a.whole = true := by
  unfold litAV at h
  split at h
  · split at h
    · rename_i l hl
      simp at h; subst h
      have := mapLit_scalar hl
      exact ⟨by simpa [AV.cells] using this.1, by simpa [AV.pureB] using this.2, rfl⟩
    · simp at h
  · have h1 := litS_scalar h
    have : a.cells = [a] := by cases a <;> first | rfl | (simp [AV.scalar] at h1)
    rw [this]
    exact ⟨by simp [h1.1], h1.2, by cases a <;> simp [AV.scalar, AV.whole] at h1 ⊢⟩
end lits
end GoAbs
end

section
namespace GoAbs
open Go

/-- Calls a function, whether it has a body or the model gives its answer. -/
def UponV (P : Program) (r : Result Next) (R : Value → World → Prop) : Prop :=
  match r with
  | .ok (.enter g as) w' => Calls P g as w' fun
    | .returned v, w'' => R v w''
    | _, _ => False
  | .ok (.value v) w' => R v w'
  | .ok .skip w' => R undef w'
  | _ => False
def CallW (P : Program) (f : FuncId) (args : Array Value) (w : World) (R : Value → World → Prop) : Prop := UponV P ((callFunc f args).run P w) R
theorem UponV.mono {P : Program} {r : Result Next} {R R' : Value → World → Prop} (h : UponV P r R) (hr : ∀ v w, R v w → R' v w) : UponV P r R' := by
  unfold UponV at *
  split at h
  · refine Calls.mono h fun e w' he => ?_
    cases e <;> first | exact hr _ _ he | exact he
  · exact hr _ _ h
  · exact hr _ _ h
  · exact h.elim

def ioGet (io : List Blk) (id : Nat) : Option Blk := if id < ioB then none else io[id - ioB]?
def hsOf (io : List Blk) : HS := { hp := ioGet io, vr := fun id => match ioGet io id with | some b => b.ver + 1 | none => 0 }
def ioOf (io : List Blk) (M : Nat → Pl) : Nat → Prop := fun k => ∃ id b sh sz n N, ioGet io id = some b ∧ M id = .at k sh sz n N

/-- THE CONTRACT: called with what reads as 'args', over blocks 'io' that it may write, the function returns what reads as 'r'; then the blocks are 'out'. -/
def Ct (E : Env) (f : FuncId) (args : List AV) (io : List Blk) (r : AV) (out : List Blk) : Prop :=
  ∀ (w : World) (vals : List Value) (M : Nat → Pl) (ok : Nat → Prop), HR E w (ioOf io M) (hsOf io) w M ok → RVs w ok ((hsOf io).place M) args vals →
    CallW E.P f vals.toArray w fun v w' => ∃ M' ok', HLater E w (ioOf io M) (hsOf io) w M ok (hsOf out) w' M' ok' ∧ RV w' ok' ((hsOf out).place M') r v

mutual
/-- A value that reads nothing in memory. -/
def AV.dry : AV → Bool
  | .any | .kt | .kf | .int .. | .bool _ | .str _ | .nils | .cap0 | .nilp | .nilf | .nili => true
  | .agg cs => dryL cs
  | .tup cs => dryL cs
  | .iface _ v => AV.dry v
  | _ => false
def dryL : List AV → Bool
  | [] => true
  | v :: r => AV.dry v && dryL r
end

inductive Tr (α : Type) where
  | fail
  | ok (a : α)
  | need (p : Prop) [Decidable p] (k : Tr α)
  | look (es : List AV) (i : Nat) (k : AV → Tr α)
  | call (f : FuncId) (args : List AV) (k : AV → Tr α)
  | callB (f : FuncId) (args : List AV) (k : AV → Tr α)
  | br (b : Bool) (t e : Tr α)
  | cnv (o : Option (List AV × HS)) (k : List AV → HS → Tr α)
  | callW (f : FuncId) (args : List AV) (io : List Blk) (k : AV → List Blk → Tr α)

/-- One of two, as a bool tells. -/
def ifB (b : Bool) (p q : Prop) : Prop := (b = true → p) ∧ (b = false → q)
theorem ifB_pos {b : Bool} {p q : Prop} (h : b = true) (hp : p) : ifB b p q := ⟨fun _ => hp, fun h' => absurd (h.symm.trans h') (by decide)⟩
theorem ifB_neg {b : Bool} {p q : Prop} (h : b = false) (hq : q) : ifB b p q := ⟨fun h' => absurd (h.symm.trans h') (by decide), fun _ => hq⟩
theorem ifB_true {p q : Prop} : ifB true p q ↔ p := ⟨fun h => h.1 rfl, ifB_pos rfl⟩
theorem ifB_false {p q : Prop} : ifB false p q ↔ q := ⟨fun h => h.2 rfl, ifB_neg rfl⟩

/-- A block whose elements name no block. -/
def Blk.pure (b : Blk) : Bool := b.pu || AV.pureL b.es
def wOk (io out : List Blk) : Bool := Nat.ble io.length out.length && out.all Blk.pure
/-- What a call hands back: values that name no block, and a block that it made, behind the n that it was handed. -/
def newOk0 (n ver : Nat) : AV → Bool
  | .own id v _ _ _ => Nat.beq id (ioB + n) && Nat.beq v ver
  | .ref id v _ _ => Nat.beq id (ioB + n) && Nat.beq v ver
  | v => v.pureB
def newOk (n : Nat) (out : List Blk) (r : AV) : Bool :=
  match out.drop n with
  | [b] => (match r with
    | .tup vs => vs.all (newOk0 n b.ver)
    | v => newOk0 n b.ver v)
  | _ => r.pureB
def rnN0 (site ver : Nat) : AV → AV
  | .own _ _ sz off len => .own site ver sz off len
  | .ref _ _ i off => .ref site ver i off
  | v => v
def rnN (site ver : Nat) : AV → AV
  | .tup vs => .tup (vs.map (rnN0 site ver))
  | v => rnN0 site ver v

def Tr.run {α : Type} (E : Env) (t : Tr α) (K : α → Prop) : Prop :=
  Tr.rec (motive := fun _ => Prop) False (fun a => K a) (fun p _ _ ih => p ∧ ih) (fun es i _ ih => ∃ v, es[i]? = some v ∧ ih v)
    (fun f args _ ih => ∃ r, Ct E f args [] r [] ∧ ih r) (fun f args _ ih => ∃ r, Ct E f args [] r [] ∧ r.dry = true ∧ ih r)
    (fun b _ _ iht ihe => ifB b iht ihe) (fun o _ ih => ∃ vs s, o = some (vs, s) ∧ ih vs s)
    (fun f args io _ ih => ∃ r out, Ct E f args io r out ∧ (newOk io.length out r = true ∧ wOk io out = true) ∧ ih r out) t

def AV.toB : AV → Option Bool
  | .kt => some true
  | .kf => some false
  | .bool b => some b
  | _ => none

def pickA (c a b : AV) : Tr AV :=
  match c with
  | .kt => .ok a
  | .kf => .ok b
  | .bool t => .br t (.ok a) (.ok b)
  | _ => .fail

def nilA (x : AV) : Tr AV :=
  match x with
  | .ref .. => .ok x
  | .eptr .. => .ok x
  | .fn (.func _) _ _ => .ok x
  | _ => .fail

def bitA (op : BinOp) (k : IntKind) (a b : Int) : Int :=
  let x := BitVec.ofInt k.bits a
  let y := BitVec.ofInt k.bits b
  match op with
  | .and => k.wrap (x &&& y).toNat
  | .or => k.wrap (x ||| y).toNat
  | .xor => k.wrap (x ^^^ y).toNat
  | _ => k.wrap (x &&& ~~~y).toNat

/-- What a sum of kind k comes to. -/
def sumA (wr : Bool) (k : IntKind) (z : Int) : Tr AV :=
  match k with
  | .i64 => (match wr with
    | true => .ok (.int .i64 (IntKind.i64.wrap z))
    | false => .need (-9223372036854775808 ≤ z ∧ z ≤ 9223372036854775807) (.ok (.int .i64 z)))
  | k => .ok (.int k (k.wrap z))
def intA (wr : Bool) (op : BinOp) (k : IntKind) (a b : Int) : Tr AV :=
  match op with
  | .add => sumA wr k (a + b)
  | .sub => sumA wr k (a - b)
  | .mul => sumA wr k (a * b)
  | .quo => .need (b ≠ 0) (sumA wr k (a.tdiv b))
  | .rem => .need (b ≠ 0) (.ok (.int k (a.tmod b)))
  | .and => .ok (.int k (bitA .and k a b))
  | .or => .ok (.int k (bitA .or k a b))
  | .xor => .ok (.int k (bitA .xor k a b))
  | .andNot => .ok (.int k (bitA .andNot k a b))
  | .eql => .ok (.bool (a == b))
  | .neq => .ok (.bool (a != b))
  | .lss => .ok (.bool (decide (a < b)))
  | .leq => .ok (.bool (decide (a ≤ b)))
  | .gtr => .ok (.bool (decide (a > b)))
  | .geq => .ok (.bool (decide (a ≥ b)))
  | .shl => .need (0 ≤ b) (sumA wr k (a * 2 ^ (min b.toNat k.bits)))
  | .shr => .need (0 ≤ b) (.ok (.int k (a.fdiv (2 ^ (min b.toNat k.bits)))))

def strA (op : BinOp) (x y : ByteArray) : Tr AV :=
  match op with
  | .add => .need (((x.size + y.size : Nat) : Int) ≤ IntKind.i64.max) (.ok (.str (x ++ y)))
  | .eql => .ok (.bool (x.toList == y.toList))
  | .neq => .ok (.bool (!(x.toList == y.toList)))
  | .lss => .ok (.bool (Op.bytesLess x.toList y.toList))
  | _ => .fail

def isShift : BinOp → Bool | .shl | .shr => true | _ => false

def binA (E : Env) (op : BinOp) (xt : TypeId) (x y : AV) : Tr AV :=
  match x, y with
  | .int k a, .int k' b => if isShift op then intA E.wr op k a b else if k = k' then intA E.wr op k a b else .fail
  | .str a, .str b => strA op a b
  | .nilp, .ref .. => .fail
  | x, y => match x.toB, y.toB, E.tt xt with
    | some a, some b, some { d := .bool, .. } => (match op with
      | .eql => .ok (.bool (a == b))
      | .neq => .ok (.bool (!(a == b)))
      | _ => .fail)
    | _, _, _ => .fail

def unA (E : Env) (op : UnOp) (x : AV) : Tr AV :=
  match op, x with
  | .neg, .int k n => sumA E.wr k (0 - n)
  | .xor, .int k n => .ok (.int k (bitA .xor k (if k.signed then -1 else k.max) n))
  | .not, .bool b => .ok (.bool (!b))
  | .not, .kt => .ok .kf
  | .not, .kf => .ok .kt
  | _, _ => .fail

/-- The bytes of a row, as a string. -/
def byteOf : AV → UInt8
  | .int _ n => UInt8.ofNat n.toNat
  | _ => 0
def isU8 : AV → Bool
  | .int .u8 _ => true
  | _ => false
def strOf (es : List AV) : ByteArray := ⟨(es.map byteOf).toArray⟩
def bytesA (E : Env) (src dst : TypeId) (x : AV) : Tr AV :=
  match E.tt src, E.tt dst, x with
  | some { d := .slice e, .. }, some { d := .string, .. }, .imm ag sz es => (match E.tt e with
    | some { d := .int .u8, .. } => if ag = false ∧ sz = 1 then .need (es.all isU8 = true) (.ok (.str (strOf es))) else .fail
    | _ => .fail)
  | some { d := .slice e, .. }, some { d := .string, .. }, .nils => (match E.tt e with
    | some { d := .int .u8, .. } => .ok (.str ⟨#[]⟩)
    | _ => .fail)
  | _, _, _ => .fail
def convA (E : Env) (src dst : TypeId) (x : AV) : Tr AV :=
  match E.tt src, E.tt dst, x with
  | some _, some { d := .int k, .. }, .int k' n => (match k' with | .u64 => .ok (.int k (k.wrap n)) | _ => sumA E.wr k n)
  | some _, some { d := .string, .. }, .str s => .ok (.str s)
  | _, _, x => bytesA E src dst x

def bnd : Option AV → Int → Option Int
  | none, d => some d
  | some (.int _ n), _ => some n
  | _, _ => none

/-- A slice cut so that no room is left. -/
def imm3 : Option AV → Int → AV → AV
  | some _, .ofNat 0, _ => .cap0
  | _, _, v => v

def sliceA (E : Env) (t : TypeId) (x : AV) (lo hi mx : Option AV) : Tr AV :=
  match E.tt t with
  | some { d := .slice e, .. } =>
    match E.tt e with
    | some ti =>
      match x with
      | .imm ag sz es =>
        if sz = ti.sz then
          match bnd lo 0, bnd hi es.length, bnd mx es.length with
          | some l, some h, some m => .need (0 ≤ l ∧ l ≤ h ∧ h ≤ m ∧ m ≤ es.length ∧ (mx.isSome = true → hi.isSome = true)) (.ok (imm3 mx (m - l) (.imm ag sz ((es.drop l.toNat).take (h - l).toNat))))
          | _, _, _ => .fail
        else .fail
      | .own id ver sz off len =>
        if sz = ti.sz then
          match bnd lo 0, bnd hi len, bnd mx len with
          | some l, some h, some m => .need (0 ≤ l ∧ l ≤ h ∧ h ≤ m ∧ m ≤ len ∧ (mx.isSome = true → hi.isSome = true)) (.ok (.own id ver sz (off + l.toNat) (h - l).toNat))
          | _, _, _ => .fail
        else .fail
      | .nils =>
        match bnd lo 0, bnd hi 0, bnd mx 0 with
        | some l, some h, some m => .need (0 = l ∧ 0 = h ∧ 0 = m ∧ (mx.isSome = true → hi.isSome = true)) (.ok .nils)
        | _, _, _ => .fail
      | .cap0 =>
        match bnd lo 0, bnd hi 0, bnd mx 0 with
        | some l, some h, some m => .need (0 = l ∧ 0 = h ∧ 0 = m ∧ (mx.isSome = true → hi.isSome = true)) (.ok .cap0)
        | _, _, _ => .fail
      | _ => .fail
    | none => .fail
  | some { d := .string, .. } =>
    match x, mx with
    | .str s, none =>
      match bnd lo 0, bnd hi s.size with
      | some l, some h => .need (0 ≤ l ∧ l ≤ h ∧ h ≤ s.size) (.ok (.str (s.extract l.toNat h.toNat)))
      | _, _ => .fail
    | _, _ => .fail
  | _ => .fail

def fieldAddrA (E : Env) (t : TypeId) (x : AV) (f : Nat) : Tr AV :=
  match E.tt t with
  | some { d := .struct fs, .. } =>
    match fs[f]? with
    | some (o, z, _) =>
      if z = 0 then .fail else
      match x with
      | .ref id ver i off => .ok (.ref id ver i (off + o))
      | .eptr ag sz es i off => .ok (.eptr ag sz es i (off + o))
      | _ => .fail
    | none => .fail
  | _ => .fail

def partA (a : Bool) (z o : Nat) (cs : List AV) : Tr AV :=
  if a then .ok (.agg ((cs.drop o).take z)) else
  match cs[o]? with
  | some c => .ok c
  | none => .fail

def fieldA (E : Env) (t : TypeId) (x : AV) (f : Nat) : Tr AV :=
  match E.tt t with
  | some { d := .struct fs, .. } =>
    match fs[f]?, x with
    | some (o, z, a), .agg cs => if z = 0 then .fail else partA a z o cs
    | _, _ => .fail
  | _ => .fail

def indexAddrA (E : Env) (t : TypeId) (x i : AV) : Tr AV :=
  match E.tt t with
  | some { d := .slice e, .. } =>
    match E.tt e, i, x with
    | some ti, .int _ n, .own id ver sz off len => if sz = ti.sz then .need (0 ≤ n ∧ n < len) (.ok (.ref id ver (off + n.toNat) 0)) else .fail
    | some ti, .int _ n, .imm ag sz es => if sz = ti.sz then .need (0 ≤ n ∧ n < es.length) (.ok (.eptr ag sz es n.toNat 0)) else .fail
    | _, _, _ => .fail
  | some { d := .array m e, .. } =>
    match E.tt e, i, x with
    | some ti, .int _ n, .ref id ver j off => .need (0 ≤ n ∧ n < m) (.ok (.ref id ver j (off + n.toNat * ti.sz)))
    | some ti, .int _ n, .eptr ag sz es j off => .need (0 ≤ n ∧ n < m) (.ok (.eptr ag sz es j (off + n.toNat * ti.sz)))
    | _, _, _ => .fail
  | _ => .fail

def byteAt (s : ByteArray) (i : Int) : Int := ((s.data.toList.getD i.toNat 0).toNat : Int)

def indexA (E : Env) (t : TypeId) (x i : AV) : Tr AV :=
  match E.tt t with
  | some { d := .string, .. } =>
    match x, i with
    | .str s, .int _ n => .need (0 ≤ n ∧ n < s.size) (.ok (.int .u8 (byteAt s n)))
    | _, _ => .fail
  | some { d := .array m e, .. } =>
    match E.tt e, x, i with
    | some { ag := false, sz := 1, .. }, .agg cs, .int _ n => .need (0 ≤ n ∧ n < m) (.look cs n.toNat .ok)
    | _, _, _ => .fail
  | _ => .fail

def extractA (x : AV) (i : Nat) : Tr AV :=
  match x with
  | .tup vs => match vs[i]? with
    | some v => .ok v
    | none => .fail
  | _ => .fail

def lenA (E : Env) (t : TypeId) (x : AV) : Tr AV :=
  match E.tt t with
  | some { d := .string, .. } => (match x with | .str s => .ok (.int .i64 s.size) | _ => .fail)
  | some { d := .slice _, .. } =>
    (match x with
    | .own _ _ _ _ len => .ok (.int .i64 len)
    | .imm _ _ es => .ok (.int .i64 es.length)
    | .nils => .ok (.int .i64 0)
    | .cap0 => .ok (.int .i64 0)
    | _ => .fail)
  | _ => .fail

def minA : AV → AV → Option AV
  | .int k x, .int _ y => some (.int k (if y < x then y else x))
  | _, _ => none
def maxA : AV → AV → Option AV
  | .int k x, .int _ y => some (.int k (if y > x then y else x))
  | _, _ => none
def foldA (f : AV → AV → Option AV) : AV → List AV → Tr AV
  | x, [] => .ok x
  | x, y :: r => match f x y with
    | some z => foldA f z r
    | none => .fail

def splice (cs : List AV) (o : Nat) (vs : List AV) : List AV := cs.take o ++ vs ++ cs.drop (o + vs.length)

def fillA (fs : List (Nat × Nat × Bool)) (cs : List AV) : List (Nat × AV) → Option (List AV)
  | [] => some cs
  | (i, v) :: r =>
    match fs[i]? with
    | some (o, z, _) => if v.cells.length = z ∧ o + z ≤ cs.length ∧ v.whole = true then fillA fs (splice cs o v.cells) r else none
    | none => none

def buildA (E : Env) (t : TypeId) (parts : List (Nat × AV)) : Tr AV :=
  match E.tt t with
  | some { d := .struct fs, zero := z, .. } =>
    if fs.all (fun f => f.2.1 != 0) then
      (match fillA fs z.cells parts with
      | some cs => .ok (.agg cs)
      | none => .fail)
    else .fail
  | some { d := .array n e, zero := z, .. } =>
    match E.tt e with
    | some ti =>
      (match fillA ((List.range n).map fun i => (i * ti.sz, ti.sz, ti.ag)) z.cells parts with
      | some cs => .ok (.agg cs)
      | none => .fail)
    | none => .fail
  | _ => .fail

/-- Operations that meet no block of the call's own. -/
def sem1 (E : Env) (op : Op) (ρ : Operand → AV) : Tr AV :=
  match op with
  | .move x => .ok (ρ x)
  | .assign x => .ok (ρ x)
  | .pick c a b => pickA (ρ c) (ρ a) (ρ b)
  | .build t parts => buildA E t (parts.toList.map fun p => (p.1, ρ p.2))
  | .nilCheck x => nilA (ρ x)
  | .binOp op xt x y _ => binA E op xt (ρ x) (ρ y)
  | .unOp op _ x => unA E op (ρ x)
  | .convert src dst x => convA E src dst (ρ x)
  | .makeFunc fn first cap => .ok (.fn fn (first.toList.map ρ) (cap.toList.map ρ))
  | .slice t x lo hi mx => sliceA E t (ρ x) (lo.map ρ) (hi.map ρ) (mx.map ρ)
  | .fieldAddr t x f => fieldAddrA E t (ρ x) f
  | .field t x f => fieldA E t (ρ x) f
  | .indexAddr t x i => indexAddrA E t (ρ x) (ρ i)
  | .index t x i => indexA E t (ρ x) (ρ i)
  | .extract x i => extractA (ρ x) i
  | .call { callee := .builtin .len, args, argTypes } => (match args.toList, argTypes.toList with | [x], t :: _ => lenA E t (ρ x) | _, _ => .fail)
  | .call { callee := .builtin .min, args, .. } => (match args.toList with | x :: r => foldA minA (ρ x) (r.map ρ) | _ => .fail)
  | .call { callee := .builtin .max, args, .. } => (match args.toList with | x :: r => foldA maxA (ρ x) (r.map ρ) | _ => .fail)
  | _ => .fail

/-- A value read whole: the call's own blocks (those that p lets) as they stand. -/
def fz (p : Nat → Bool) : Nat → HS → AV → Option AV
  | 0, _, _ => none
  | _ + 1, _, .any => some .any
  | _ + 1, _, .kt => some .kt
  | _ + 1, _, .kf => some .kf
  | _ + 1, _, .int k n => some (.int k n)
  | _ + 1, _, .bool b => some (.bool b)
  | _ + 1, _, .str s => some (.str s)
  | _ + 1, _, .nils => some .nils
  | _ + 1, _, .cap0 => some .cap0
  | _ + 1, _, .imm ag sz es => some (.imm ag sz es)
  | d + 1, s, .own id ver _ off len =>
    match s.hp id with
    | some b =>
      if b.ver = ver ∧ p id = true then
        if b.pu then some (.imm b.ag b.sz ((b.es.drop off).take len)) else
        match mapO (fz p d s) b.es with
        | some es => some (.imm b.ag b.sz ((es.drop off).take len))
        | none => none
      else none
    | none => none
  | _ + 1, _, .nilp => some .nilp
  | d + 1, s, .ref id ver i off =>
    match s.hp id with
    | some b =>
      if b.ver = ver ∧ p id = true then
        if b.pu then some (.eptr b.ag b.sz b.es i off) else
        match mapO (fz p d s) b.es with
        | some es => some (.eptr b.ag b.sz es i off)
        | none => none
      else none
    | none => none
  | _ + 1, _, .eptr ag sz es i off => some (.eptr ag sz es i off)
  | d + 1, s, .agg cs => (match mapO (fz p d s) cs with | some l => some (.agg l) | none => none)
  | d + 1, s, .tup cs => (match mapO (fz p d s) cs with | some l => some (.tup l) | none => none)
  | d + 1, s, .fn f a b => (match mapO (fz p d s) a, mapO (fz p d s) b with | some x, some y => some (.fn f x y) | _, _ => none)
  | _ + 1, _, .nilf => some .nilf
  | _ + 1, _, .nili => some .nili
  | d + 1, s, .iface t v => (match fz p d s v with | some x => some (.iface t x) | none => none)


/-- The blocks of the call's own that a value names. -/
def ownIds : AV → List Nat
  | .own id .. => [id]
  | .ref id .. => [id]
  | .agg cs => cs.flatMap fun | .own id .. => [id] | .ref id .. => [id] | _ => []
  | .fn _ a b => (a ++ b).flatMap fun | .own id .. => [id] | .ref id .. => [id] | _ => []
  | _ => []
def localIds (l : List Nat) : Bool := l.all fun i => Nat.blt i ioB
/-- What names a row that is never written again, made what can be read. -/
def thaw0 (s : HS) (ids : List Nat) : AV → AV
  | .own id ver sz off len => if ids.contains id then (match s.hp id with
    | some b => if b.ver = ver ∧ b.pu = true then .imm b.ag b.sz ((b.es.drop off).take len) else .own id ver sz off len
    | none => .own id ver sz off len) else .own id ver sz off len
  | v => v
def thaw (s : HS) (ids : List Nat) : AV → AV
  | .agg cs => .agg (cs.map (thaw0 s ids))
  | v => thaw0 s ids v
def thawB (s : HS) (ids : List Nat) (b : Blk) : Blk :=
  match b with
  | ⟨ag, sz, es, ver, pu⟩ => ⟨ag, sz, if pu then es else es.map (thaw s ids), ver, pu⟩
def HS.kill (s : HS) (ids : List Nat) : HS := { s with hp := fun i => if ids.contains i then none else match s.hp i with
  | some b => some (thawB s ids b)
  | none => none }
/-- A value made one that names no block: what it names is never written again. -/
def pur (s : HS) (v : AV) : Option (AV × HS) :=
  if v.pureB then some (v, s) else
  if !localIds (ownIds v) then none else
  match fz (fun i => (ownIds v).contains i) 4 s v with
  | some v' => some (v', s.kill (ownIds v))
  | none => none

def loadEl (ti : TyI) (ag : Bool) (sz off : Nat) (v : AV) : Tr AV :=
  if ag = ti.ag ∧ sz = ti.sz ∧ off = 0 then .ok v else
  match v with
  | .agg cs => if off + ti.sz ≤ cs.length ∧ ti.sz ≠ 0 then partA ti.ag ti.sz off cs else .fail
  | _ => .fail

def loadA (E : Env) (t : TypeId) (x : AV) (s : HS) : Tr AV :=
  match E.tt t, x with
  | some ti, .eptr ag sz es i off => .look es i (loadEl ti ag sz off)
  | some ti, .ref id ver i off =>
    (match s.hp id with
    | some b => b.frc fun bag bsz bes bver bpu =>
      .need (bver = ver)
        (if bpu then .look bes i (loadEl ti bag bsz off) else
        match bes[i]? with
        | some v => loadEl ti bag bsz off v
        | none => .fail)
    | none => .fail)
  | _, _ => .fail

def calleeA (ρ : Operand → AV) (c : Call) : Option (FuncId × List AV) :=
  match c.callee with
  | .value f => (match ρ f with
    | .fn (.func g) first cap => some (g, first ++ c.args.toList.map ρ ++ cap)
    | _ => none)
  | _ => none

def callA (ρ : Operand → AV) (c : Call) (s : HS) : Tr AV :=
  match calleeA ρ c with
  | some (g, as) =>
    if AV.pureL as then .call g as .ok else
    .cnv ((mapO (fz (fun _ => true) 4 s) as).map fun bs => (bs, s)) fun bs _ => .callB g bs .ok
  | none => .fail
def upd {α : Type} (f : Nat → α) (i : Nat) (x : α) : Nat → α := fun j => if j = i then x else f j
def HS.put (s : HS) (id : Nat) (ag : Bool) (sz : Nat) (es : List AV) (pu : Bool) : HS :=
  { hp := upd s.hp id (some { ag, sz, es, ver := s.vr id, pu }), vr := upd s.vr id (s.vr id + 1) }
/-- A number, looked at before it is handed on. -/
def natFrc.{u} {α : Sort u} (n : Nat) (K : Nat → α) : α :=
  match n with
  | 0 => K 0
  | k + 1 => K (k + 1)
theorem natFrc_eq.{u} {α : Sort u} (n : Nat) (K : Nat → α) : natFrc n K = K n := by cases n <;> rfl
def boolFrc.{u} {α : Sort u} (b : Bool) (K : Bool → α) : α :=
  match b with
  | true => K true
  | false => K false
theorem boolFrc_eq.{u} {α : Sort u} (b : Bool) (K : Bool → α) : boolFrc b K = K b := by cases b <;> rfl
def optFrc.{u} {α : Sort u} (o : Option Nat) (K : Option Nat → α) : α :=
  match o with
  | none => K none
  | some d => natFrc d fun d => K (some d)
theorem optFrc_eq.{u} {α : Sort u} (o : Option Nat) (K : Option Nat → α) : optFrc o K = K o := by cases o <;> simp only [optFrc, natFrc_eq]
def listFrc.{u} {α : Sort u} (l : List AV) (K : List AV → α) : α :=
  match l with
  | [] => K []
  | a :: r => K (a :: r)
theorem listFrc_eq.{u} {α : Sort u} (l : List AV) (K : List AV → α) : listFrc l K = K l := by cases l <;> rfl
def HS.putE (s : HS) (id : Nat) (ag : Bool) (sz : Nat) (es : List AV) (pu : Bool) : HS :=
  match s with
  | ⟨hp, vr⟩ => natFrc (vr id) fun n => boolFrc ag fun ag => natFrc sz fun sz => ⟨upd hp id (some ⟨ag, sz, es, n, pu⟩), upd vr id (n + 1)⟩
theorem HS.putE_eq (s : HS) (id : Nat) (ag : Bool) (sz : Nat) (es : List AV) (pu : Bool) : s.putE id ag sz es pu = s.put id ag sz es pu := by
  cases s
  unfold HS.putE HS.put
  simp only [natFrc_eq, boolFrc_eq]
/-- The state of the blocks, looked at before it is handed on. -/
def HS.frc.{u} {α : Sort u} (s : HS) (K : HS → α) : α :=
  match s with
  | ⟨hp, vr⟩ => K ⟨hp, vr⟩
theorem HS.frc_eq.{u} {α : Sort u} (s : HS) (K : HS → α) : s.frc K = K s := by cases s; rfl
/- A call that may write the blocks that it is handed: how it sees them. -/
def posOf (id : Nat) : List Nat → Nat
  | [] => 0
  | i :: r => bif Nat.beq i id then 0 else posOf id r + 1
def rnB (ids : List Nat) : AV → AV
  | .own id ver sz off len => .own (ioB + posOf id ids) ver sz off len
  | .ref id ver i off => .ref (ioB + posOf id ids) ver i off
  | v => v
def rnOk (ids : List Nat) : AV → Bool
  | .own id .. => ids.any fun i => Nat.beq i id
  | .ref id .. => ids.any fun i => Nat.beq i id
  | v => v.pureB
def dedup : List Nat → List Nat
  | [] => []
  | i :: r => bif r.any (fun j => Nat.beq j i) then dedup r else i :: dedup r
def blksOf (s : HS) : List Nat → Option (List Blk)
  | [] => some []
  | i :: r => match s.hp i, blksOf s r with
    | some b, some l => bif b.pure then some (b :: l) else none
    | _, _ => none
def putIo : HS → List Nat → List Blk → HS
  | s, i :: r, b :: l => putIo ⟨upd s.hp i (some b), upd s.vr i (b.ver + 1)⟩ r l
  | s, _, _ => s
def wrCall (s : HS) (as : List AV) : Option (List AV × List Blk × List Nat) :=
  let ids := dedup (as.flatMap ownIds)
  match as.all (rnOk ids) && (localIds ids || ids.all fun i => Nat.ble ioB i), blksOf s ids with
  | true, some bs => some (as.map (rnB ids), bs, ids)
  | _, _ => none

/-- A call to which blocks of the call's own are handed, for good or to be written. -/
def afterW (s : HS) (site : Nat) (ids : List Nat) (r : AV) (out : List Blk) : Tr (AV × HS) :=
  match out.drop ids.length with
  | [] => .ok (r, putIo s ids out)
  | [b] => if localIds ids then (natFrc ((putIo s ids out).vr site) fun ver => .ok (rnN site ver r, (putIo s ids out).putE site b.ag b.sz b.es b.pu)) else .fail
  | _ => .fail
def callF (E : Env) (site : Nat) (ρ : Operand → AV) (c : Call) (s : HS) : Tr (AV × HS) :=
  match calleeA ρ c with
  | some (g, as) =>
    if E.wrt g then
      (match wrCall s as with
      | some (as', bs, ids) => .callW g as' bs fun r out => afterW s site ids r out
      | none => .fail)
    else
    if AV.pureL as then .call g as fun r => .ok (r, s) else
    if !localIds (as.flatMap ownIds) then .fail else
    .cnv ((mapO (fz (fun i => (as.flatMap ownIds).contains i) 4 s) as).map fun bs => (bs, s)) fun bs _ => .call g bs fun r => .ok (r, s.kill (as.flatMap ownIds))
  | none => .fail

/-- A row of the call's own, made a string. -/
def convR (E : Env) (src dst : TypeId) (x : AV) (s : HS) : Tr AV :=
  match AV.pureB x with
  | true => bytesA E src dst x
  | false => .cnv ((fz (fun _ => true) 4 s x).map fun y => ([y], s)) fun ys _ => (match ys with | [y] => bytesA E src dst y | _ => .fail)
/-- Operations that read the call's own blocks. -/
def sem2 (E : Env) (op : Op) (ρ : Operand → AV) (s : HS) : Tr AV :=
  match op with
  | .load t x => loadA E t (ρ x) s
  | .convert src dst x => convR E src dst (ρ x) s
  | .call c => callA ρ c s
  | _ => .fail

def HS.set (s : HS) (id : Nat) (b : Blk) (es : List AV) : HS :=
  { s with hp := upd s.hp id (some { b with es }) }
def HS.setE (s : HS) (id : Nat) (ag : Bool) (sz : Nat) (es : List AV) (ver : Nat) (pu : Bool) : HS :=
  match s with
  | ⟨hp, vr⟩ => ⟨upd hp id (some ⟨ag, sz, es, ver, pu⟩), vr⟩
theorem HS.setE_eq (s : HS) (id : Nat) (b : Blk) (es : List AV) : s.setE id b.ag b.sz es b.ver b.pu = s.set id b es := by cases s; rfl

def allocA (E : Env) (site : Nat) (t : TypeId) (v : Option AV) (s : HS) : Tr (AV × HS) :=
  match E.tt t with
  | some ti =>
    (v.getD ti.zero).frc fun v =>
    if v.isAgg = ti.ag ∧ v.cells.length = ti.sz ∧ v.cells.all AV.scalar = true ∧ ti.sz ≠ 0 then natFrc (s.vr site) fun ver => .ok (.ref site ver 0 0, s.putE site ti.ag ti.sz [v] false)
    else .fail
  | none => .fail

def storeEl (ti : TyI) (bag : Bool) (bsz off : Nat) (old v : AV) : Option AV :=
  if bag = ti.ag ∧ bsz = ti.sz ∧ off = 0 then some v else
  match old with
  | .agg cs => if off + ti.sz ≤ cs.length then some (.agg (splice cs off v.cells)) else none
  | _ => none

def storeA (E : Env) (t : TypeId) (x v : AV) (s : HS) : Tr (AV × HS) :=
  match E.tt t, x with
  | some ti, .ref id ver i off =>
    (match s.hp id with
    | some b => b.frc fun bag bsz bes bver bpu => v.frc fun v =>
      .need (bver = ver)
        (if v.isAgg = ti.ag ∧ v.cells.length = ti.sz ∧ ti.sz ≠ 0 ∧ v.cells.all AV.scalar = true then
          if bpu then
            if bag = ti.ag ∧ bsz = ti.sz ∧ off = 0 ∧ v.pureB = true then .need (i < bes.length) (.ok (.any, s.setE id bag bsz (bes.set i v) bver bpu))
            else .fail
          else
            match bes[i]? with
            | some old => (match storeEl ti bag bsz off old v with
              | some v' => listFrc (bes.set i v') fun es => .ok (.any, s.setE id bag bsz es bver bpu)
              | none => .fail)
            | none => .fail
        else .fail)
    | none => .fail)
  | _, _ => .fail

def makeA (E : Env) (site : Nat) (t : TypeId) (l c : AV) (s : HS) : Tr (AV × HS) :=
  match E.tt t with
  | some { d := .slice e, .. } =>
    (match E.tt e, l, c with
    | some ti, .int _ n, .int _ m =>
      if ti.sz = 0 then .fail else
      .need (0 ≤ n ∧ n ≤ m ∧ m * ti.bytes ≤ 2 ^ 47 ∧ m < 2 ^ 63) (natFrc (s.vr site) fun ver => .ok (.own site ver ti.sz 0 n.toNat, s.putE site ti.ag ti.sz (List.replicate n.toNat ti.zero) true))
    | _, _, _ => .fail)
  | _ => .fail

def litParts (ti : TyI) : Nat → List (Nat × AV) → Option (List AV)
  | _, [] => some []
  | k, (i, v) :: r => if i = k ∧ v.isAgg = ti.ag ∧ v.cells.length = ti.sz ∧ v.cells.all AV.scalar = true ∧ v.pureB = true then
      (match litParts ti (k + 1) r with | some l => some (v :: l) | none => none) else none

def buildSliceA (E : Env) (site : Nat) (t : TypeId) (len : Nat) (parts : List (Nat × AV)) (s : HS) : Tr (AV × HS) :=
  match E.tt t with
  | some { d := .slice e, .. } =>
    (match E.tt e with
    | some ti =>
      if ti.sz = 0 then .fail else
      (match litParts ti 0 parts with
      | some es => if es.length = len ∧ len * ti.sz ≤ 16777216 then (natFrc (s.vr site) fun ver => .ok (.own site ver ti.sz 0 len, s.putE site ti.ag ti.sz es true)) else .fail
      | none => .fail)
    | none => .fail)
  | _ => .fail

/-- The elements that an append adds. -/
def addedA (ti : TyI) (s : HS) (x : AV) : Tr (List AV) :=
  match x with
  | .nils => .ok []
  | .cap0 => .ok []
  | .imm ag sz es => if ag = ti.ag ∧ sz = ti.sz then .ok es else .fail
  | .own id ver _ off len =>
    (match s.hp id with
    | some b => b.frc fun bag bsz bes bver bpu => if bag = ti.ag ∧ bsz = ti.sz ∧ bpu = true then .need (bver = ver) (.ok ((bes.drop off).take len)) else .fail
    | none => .fail)
  | .str b => if ti.ag = false ∧ ti.sz = 1 then .ok (b.data.toList.map fun c => .int .u8 c.toNat) else .fail
  | _ => .fail

def Tr.bind {α β : Type} : Tr α → (α → Tr β) → Tr β
  | .fail, _ => .fail
  | .ok a, f => f a
  | @Tr.need _ p d k, f => @Tr.need _ p d (k.bind f)
  | .look es i k, f => .look es i fun v => (k v).bind f
  | .call g as k, f => .call g as fun v => (k v).bind f
  | .callB g as k, f => .callB g as fun v => (k v).bind f
  | .br b t e, f => .br b (t.bind f) (e.bind f)
  | .cnv o k, f => .cnv o fun vs s => (k vs s).bind f
  | .callW g as io k, f => .callW g as io fun v out => (k v out).bind f
theorem Tr.run_bind {α β : Type} {E : Env} {t : Tr α} {f : α → Tr β} {K : β → Prop} : (t.bind f).run E K ↔ t.run E fun a => (f a).run E K := by
  induction t with
  | fail => exact Iff.rfl
  | ok a => exact Iff.rfl
  | need p k ih => exact and_congr Iff.rfl ih
  | look es i k ih => exact exists_congr fun v => and_congr Iff.rfl (ih v)
  | call g as k ih => exact exists_congr fun v => and_congr Iff.rfl (ih v)
  | callB g as k ih => exact exists_congr fun v => and_congr Iff.rfl (and_congr Iff.rfl (ih v))
  | br b t e iht ihe => exact and_congr (imp_congr Iff.rfl iht) (imp_congr Iff.rfl ihe)
  | cnv o k ih => exact exists_congr fun v => exists_congr fun s => and_congr Iff.rfl (ih v s)
  | callW g as io k ih => exact exists_congr fun v => exists_congr fun s => and_congr Iff.rfl (and_congr Iff.rfl (ih v s))

def appendA (E : Env) (site : Nat) (t t2 : TypeId) (x y : AV) (s : HS) : Tr (AV × HS) :=
  match E.tt t with
  | some { d := .slice e, .. } =>
    (match E.tt e, E.tt t2 with
    | some ti, some t2i =>
      if ti.sz = 0 ∨ ti.bytes = 0 then .fail else
      match t2i.d with
      | .int _ => .fail
      | _ =>
      (addedA ti s y).bind fun ys =>
        (match x with
        | .nils => .need (ys.length * ti.bytes ≤ 2 ^ 47) (natFrc (s.vr site) fun ver => .ok (.own site ver ti.sz 0 ys.length, s.putE site ti.ag ti.sz ys true))
        | .cap0 => .need (ys.length * ti.bytes ≤ 2 ^ 47) (natFrc (s.vr site) fun ver => .ok (.own site ver ti.sz 0 ys.length, s.putE site ti.ag ti.sz ys true))
        | .own id ver sz off len =>
          (match s.hp id with
          | some b => b.frc fun bag bsz bes bver bpu =>
            if bag = ti.ag ∧ bsz = ti.sz ∧ sz = ti.sz ∧ bpu = true then
              .need (bver = ver ∧ off + len = bes.length ∧ (len + ys.length) * ti.bytes ≤ 2 ^ 47)
                (natFrc (s.vr id) fun ver => .ok (.own id ver ti.sz 0 (len + ys.length), s.putE id ti.ag ti.sz (bes.drop off ++ ys) true))
            else .fail
          | none => .fail)
        | _ => .fail)
    | _, _ => .fail)
  | _ => .fail

/-- Is what is stored there to be made a value that names no block? -/
def rowAt (a : AV) (s : HS) : Bool :=
  match a with
  | .ref id .. => (match s.hp id with
    | some b => b.pu
    | none => false)
  | _ => false
def storeP (E : Env) (dr : Bool) (t : TypeId) (a v : AV) (s : HS) : Tr (AV × HS) :=
  match rowAt a s && !v.pureB with
  | false => storeA E t a v s
  | true => match dr with
    | true => .fail
    | false => .cnv ((pur s v).map fun x => ([x.1], x.2)) fun vs s' => (match vs with | [v'] => storeA E t a v' s' | _ => .fail)

/-- The parts of a literal, made so. -/
def purP (s : HS) (ps : List (Nat × AV)) : Option (List (Nat × AV) × HS) :=
  if !localIds (ps.flatMap fun q => ownIds q.2) then none else
  match mapO (fun q => match fz (fun i => (ps.flatMap fun q => ownIds q.2).contains i) 4 s q.2 with | some v => some (q.1, v) | none => none) ps with
  | some qs => some (qs, s.kill (ps.flatMap fun q => ownIds q.2))
  | none => none
def buildP (E : Env) (site : Nat) (t : TypeId) (len : Nat) (ps : List (Nat × AV)) (s : HS) : Tr (AV × HS) :=
  match AV.pureL (ps.map (·.2)) with
  | true => buildSliceA E site t len ps s
  | false => .cnv ((purP s ps).map fun x => (x.1.map (·.2), x.2)) fun vs s' => buildSliceA E site t len ((ps.map (·.1)).zip vs) s'

def sem3 (E : Env) (dr : Bool) (site : Nat) (op : Op) (ρ : Operand → AV) (s : HS) : Tr (AV × HS) :=
  match op with
  | .alloc t => allocA E site t none s
  | .box t x => allocA E site t (some (ρ x)) s
  | .store t a x => storeP E dr t (ρ a) (ρ x) s
  | .makeSlice t l c => makeA E site t (ρ l) (ρ c) s
  | .buildSlice t len parts => buildP E site t len (parts.toList.map fun p => (p.1, ρ p.2)) s
  | .call { callee := .builtin .append, args, argTypes } =>
    (match args.toList, argTypes.toList with
    | [x, y], [t, t2] => appendA E site t t2 (ρ x) (ρ y) s
    | _, _ => .fail)
  | .call c => callF E site ρ c s
  | _ => .fail

def clsC (E : Env) (src dst : TypeId) : Nat :=
  match E.tt src, E.tt dst with
  | some { d := .slice _, .. }, some { d := .string, .. } => 2
  | _, _ => 1
/-- 1: meets no block of the call's own; 2: may read them; 3: may turn them. -/
def cls (E : Env) : Op → Nat
  | .alloc _ | .box .. | .store .. | .makeSlice .. | .buildSlice .. => 3
  | .call { callee := .builtin .append, .. } => 3
  | .load .. => 2
  | .convert src dst _ => clsC E src dst
  | .call { callee := .value (.func g), .. } => if E.frz g || E.wrt g then 3 else 2
  | .call { callee := .value _, .. } => 2
  | _ => 1

def stepO (E : Env) (dr : Bool) (site : Nat) (op : Op) (ρ : Operand → AV) (s : HS) (K : AV → HS → Prop) : Prop :=
  match cls E op with
  | 1 => (sem1 E op ρ).run E fun v => K v s
  | 2 => (sem2 E op ρ s).run E fun v => K v s
  | _ => (sem3 E dr site op ρ s).run E fun x => match x with | (v, s') => K v s'
end GoAbs
end

section
namespace GoAbs
open Go

def Snd (E : Env) (w : World) (ok : Nat → Prop) (φ : Place) (t : Tr AV) (m : Sem Value) : Prop :=
  ∀ K : AV → Prop, t.run E K → ∃ v x, K v ∧ m.run E.P w = .ok x w ∧ RV w ok φ v x

theorem Snd.ok {E : Env} {w : World} {ok : Nat → Prop} {φ : Place} {v : AV} {m : Sem Value} {x : Value} (hm : m.run E.P w = .ok x w) (hv : RV w ok φ v x) : Snd E w ok φ (.ok v) m :=
  fun _ hk => ⟨v, x, hk, hm, hv⟩
theorem Snd.fail {E : Env} {w : World} {ok : Nat → Prop} {φ : Place} {m : Sem Value} : Snd E w ok φ .fail m := fun _ hk => hk.elim
theorem Snd.need {E : Env} {w : World} {ok : Nat → Prop} {φ : Place} {p : Prop} [Decidable p] {t : Tr AV} {m : Sem Value} (h : p → Snd E w ok φ t m) : Snd E w ok φ (.need p t) m :=
  fun K hk => h hk.1 K hk.2
theorem Snd.dummy : True := trivial
theorem Snd.look {E : Env} {w : World} {ok : Nat → Prop} {φ : Place} {es : List AV} {i : Nat} {t : AV → Tr AV} {m : Sem Value} (h : ∀ v, es[i]? = some v → Snd E w ok φ (t v) m) : Snd E w ok φ (.look es i t) m :=
  fun K ⟨v, hv, hk⟩ => h v hv K hk

section
variable {E : Env} {w : World} {ok : Nat → Prop} {φ : Place}

theorem toB_bool {v : AV} {x : Value} {b : Bool} (h : RV w ok φ v x) (hb : v.toB = some b) : x = .bool b := by
  cases h <;> simp [AV.toB] at hb <;> simp [hb]

theorem pickA_sound {c a b : AV} {vc va vb : Value} (hc : RV w ok φ c vc) (ha : RV w ok φ a va) (hb : RV w ok φ b vb) :
    Snd E w ok φ (pickA c a b) (do pure (if ← asBool vc then va else vb)) := by
  unfold pickA
  split
  · cases hc; exact .ok (x := va) (by simp [asBool]) ha
  · cases hc; exact .ok (x := vb) (by simp [asBool]) hb
  · rename_i t
    cases hc
    intro K hk
    cases t
    · exact ⟨_, _, hk.2 rfl, by simp [asBool], hb⟩
    · exact ⟨_, _, hk.1 rfl, by simp [asBool], ha⟩
  · exact .fail

theorem extractA_sound {x : AV} {vx : Value} (h : RV w ok φ x vx) (i : Nat) : Snd E w ok φ (extractA x i) (Instr.extract vx i) := by
  unfold extractA
  split
  · split
    · rename_i vs v hv
      cases h with
      | tup _ _ xs hxs =>
        obtain ⟨u, hu, hr⟩ := hxs.get hv
        exact .ok (x := u) (by simp [Instr.extract, hu]) hr
    · exact .fail
  · exact .fail

theorem wrap64_id {n : Int} (h0 : -9223372036854775808 ≤ n) (h1 : n < 9223372036854775808) : IntKind.i64.wrap n = n := by
  simp only [IntKind.wrap, IntKind.signed, IntKind.bits]
  simp
  omega

theorem i64_wrap {z : Int} (h : -9223372036854775808 ≤ z ∧ z ≤ 9223372036854775807) : IntKind.i64.wrap z = z := wrap64_id h.1 (by omega)
theorem sumA_sound (wr : Bool) (k : IntKind) (z : Int) {m : Sem Value} (hm : m.run E.P w = .ok (.int k (k.wrap z)) w) : Snd E w ok φ (sumA wr k z) m := by
  unfold sumA
  split
  · split
    · exact .ok hm (.int _ _ _)
    · refine .need fun hp => .ok (x := .int .i64 z) ?_ (.int _ _ _)
      rw [i64_wrap hp] at hm
      exact hm
  · exact .ok hm (.int _ _ _)
theorem intA_sound (wr : Bool) (op : BinOp) (k : IntKind) (a b : Int) (yk : IntKind) (hk : isShift op = true ∨ k = yk) :
    Snd E w ok φ (intA wr op k a b) (Go.binOp op 0 (.int k a) (.int yk b)) := by
  have hk' : isShift op = false → k = yk := by intro h; simpa [h] using hk
  cases op <;> simp only [intA] <;>
    first
    | (refine .ok ?_ (.int _ _ _); have := hk' rfl; subst this; simp [Go.binOp, Op.intBits, bitA]; done)
    | (refine .ok ?_ (.bool _ _); have := hk' rfl; subst this; simp [Go.binOp, Op.intCmp]; done)
    | (refine sumA_sound _ _ _ ?_; have := hk' rfl; subst this; simp [Go.binOp, Op.intArith]; done)
    | (refine .need fun hp => ?_; refine sumA_sound _ _ _ ?_; have := hk' rfl; subst this; simp [Go.binOp, Op.intDiv, hp]; done)
    | (refine .need fun hp => ?_; refine .ok ?_ (.int _ _ _); have := hk' rfl; subst this; simp [Go.binOp, Op.intDiv, hp]; done)
    | (refine .need fun hp => ?_; refine sumA_sound _ _ _ ?_; simp [Go.binOp, Op.shift, Int.not_lt.2 hp]; done)
    | (refine .need fun hp => ?_; refine .ok ?_ (.int _ _ _); simp [Go.binOp, Op.shift, Int.not_lt.2 hp]; done)

theorem binOp_int_type (op : BinOp) (t u : TypeId) (k k' : IntKind) (a b : Int) : Go.binOp op t (.int k a) (.int k' b) = Go.binOp op u (.int k a) (.int k' b) := by
  cases op <;> simp [Go.binOp]

theorem tyi_spec {P : Program} {t : TypeId} {ti : TyI} (h : tyi P t = some ti) : ∃ i d z, P.info? t = some i ∧ P.underlying t = some d ∧ i.zero = some z ∧ litAV z = some ti.zero ∧ ti.ag = aggD d ∧ ti.sz = i.size ∧ ti.bytes = i.bytes ∧ ti.d = tdOf P d ∧ ti.zero.cells.length = i.size ∧ ti.zero.isAgg = aggD d := by
  unfold tyi at h
  split at h
  · rename_i i d hi hd
    split at h
    · rename_i z hz
      split at h
      · rename_i a ha
        split at h
        · rename_i hc
          simp at h; subst h
          exact ⟨i, d, z, hi, hd, hz, ha, rfl, rfl, rfl, rfl, hc.1, hc.2⟩
        · simp at h
      · simp at h
    · simp at h
  · simp at h
theorem td_int {P : Program} {d : TypeDesc} {k : IntKind} (h : tdOf P d = .int k) : d = .int k := by cases d <;> simp [tdOf] at h <;> simp [h]
theorem td_bool {P : Program} {d : TypeDesc} (h : tdOf P d = .bool) : d = .bool := by cases d <;> simp [tdOf] at h <;> simp
theorem td_string {P : Program} {d : TypeDesc} (h : tdOf P d = .string) : d = .string := by cases d <;> simp [tdOf] at h <;> simp
theorem td_slice {P : Program} {d : TypeDesc} {e : TypeId} (h : tdOf P d = .slice e) : d = .slice e := by cases d <;> simp [tdOf] at h <;> simp [h]
theorem td_array {P : Program} {d : TypeDesc} {n : Nat} {e : TypeId} (h : tdOf P d = .array n e) : d = .array n e := by cases d <;> simp [tdOf] at h <;> simp [h]
theorem td_struct {P : Program} {d : TypeDesc} {fs : List (Nat × Nat × Bool)} (h : tdOf P d = .struct fs) : ∃ gs, d = .struct gs ∧ fs = gs.toList.map fun f => (f.offset, fieldZ P f.type, aggT P f.type) := by
  cases d <;> simp [tdOf] at h <;> simp [h]

theorem run_under {P : Program} {t : TypeId} {d : TypeDesc} (h : P.underlying t = some d) (w : World) : (underlying t).run P w = .ok d w := run_underlying h w
theorem run_size {P : Program} {t : TypeId} {i : TypeInfo} (h : P.info? t = some i) (w : World) : (Go.sizeOf t).run P w = .ok i.size w := by
  simp [Go.sizeOf, typeInfo, h]
theorem run_info {P : Program} {t : TypeId} {i : TypeInfo} (h : P.info? t = some i) (w : World) : (typeInfo t).run P w = .ok i w := by
  simp [typeInfo, h]
theorem run_agg {P : Program} {t : TypeId} {d : TypeDesc} (h : P.underlying t = some d) (w : World) : (isAgg t).run P w = .ok (aggD d) w := by
  simp [isAgg, run_under h]
  cases d <;> rfl
theorem run_zero {P : Program} {t : TypeId} {i : TypeInfo} {z : Value} (h : P.info? t = some i) (hz : i.zero = some z) (w : World) : (zeroValue t).run P w = .ok z w := by
  simp [zeroValue, run_info h, hz]

/-- A type's row, unfolded. -/
structure TyOk (P : Program) (t : TypeId) (ti : TyI) (i : TypeInfo) (d : TypeDesc) (z : Value) : Prop where
  info : P.info? t = some i
  under : P.underlying t = some d
  zero : i.zero = some z
  lit : litAV z = some ti.zero
  ag : ti.ag = aggD d
  sz : ti.sz = i.size
  bytes : ti.bytes = i.bytes
  td : ti.d = tdOf P d
  zl : ti.zero.cells.length = i.size
  za : ti.zero.isAgg = aggD d
theorem Env.Valid.tyok (hE : E.Valid) {t : TypeId} {ti : TyI} (h : E.tt t = some ti) : ∃ i d z, TyOk E.P t ti i d z := by
  obtain ⟨i, d, z, h1, h2, h3, h4, h5, h6, h7, h8, h9, h10⟩ := tyi_spec (hE.ty t ti h)
  exact ⟨i, d, z, h1, h2, h3, h4, h5, h6, h7, h8, h9, h10⟩

theorem equalIn_bool {P : Program} (d : Nat) {t : TypeId} (h : P.underlying t = some .bool) (a b : Bool) (w : World) : (Op.equalIn (d + 1) t (.bool a) (.bool b)).run P w = .ok (a == b) w := by
  simp [Op.equalIn, run_under h]
theorem guard_scalar (op : BinOp) (t : TypeId) (ox oy : Operand) (a b : Value) (ha : (∃ k n, a = .int k n) ∨ (∃ s, a = .string s) ∨ (∃ s, a = .bool s)) : (eqGuard op t ox oy a b).run E.P w = .ok () w := by
  rcases ha with ⟨_, _, rfl⟩ | ⟨_, rfl⟩ | ⟨_, rfl⟩ <;> (unfold eqGuard; split <;> (cases b <;> simp))

theorem strA_sound (op : BinOp) (t : TypeId) (x y : ByteArray) : Snd E w ok φ (strA op x y) (Go.binOp op t (.string x) (.string y)) := by
  cases op
  case add =>
    refine .need fun hp => .ok (x := .string (x ++ y)) ?_ (.str _ _)
    simp only [Go.binOp, Op.stringOp]
    rw [if_neg (Int.not_lt.2 hp)]
    rfl
  case eql => exact .ok (by simp [Go.binOp, Op.stringOp]) (.bool _ _)
  case neq => exact .ok (by simp [Go.binOp, Op.stringOp]) (.bool _ _)
  case lss => exact .ok (by simp [Go.binOp, Op.stringOp]) (.bool _ _)
  all_goals exact .fail

theorem binA_sound (hE : E.Valid) (op : BinOp) (t : TypeId) (ox oy : Operand) {x y : AV} {vx vy : Value} (hx : RV w ok φ x vx) (hy : RV w ok φ y vy) :
    Snd E w ok φ (binA E op t x y) (do eqGuard op t ox oy vx vy; Go.binOp op t vx vy) := by
  intro K hk
  unfold binA at hk
  split at hk
  · rename_i k a k' b
    cases hx; cases hy
    have hg := guard_scalar (E := E) (w := w) op t ox oy (.int k a) (.int k' b) (.inl ⟨k, a, rfl⟩)
    have : ∃ v x, K v ∧ (Go.binOp op 0 (.int k a) (.int k' b)).run E.P w = .ok x w ∧ RV w ok φ v x := by
      split at hk
      · rename_i h; exact intA_sound _ op k a b k' (.inl h) K hk
      · split at hk
        · rename_i h; exact intA_sound _ op k a b k' (.inr h) K hk
        · exact hk.elim
    obtain ⟨v, x, h1, h2, h3⟩ := this
    refine ⟨v, x, h1, ?_, h3⟩
    rw [Sem.run_bind, hg, Result.andThen_ok, binOp_int_type op t 0]
    exact h2
  · rename_i a b
    cases hx; cases hy
    have hg := guard_scalar (E := E) (w := w) op t ox oy (.string a) (.string b) (.inr (.inl ⟨a, rfl⟩))
    obtain ⟨v, x, h1, h2, h3⟩ := strA_sound (E := E) (w := w) (ok := ok) (φ := φ) op t a b K hk
    refine ⟨v, x, h1, ?_, h3⟩
    rw [Sem.run_bind, hg, Result.andThen_ok]
    exact h2
  · exact hk.elim
  · split at hk
    · rename_i a b ag sz bytes zero hx' hy' ht
      have h1 := toB_bool hx hx'
      have h2 := toB_bool hy hy'
      subst h1; subst h2
      obtain ⟨i, d, z, T⟩ := hE.tyok ht
      have hd : d = .bool := td_bool T.td.symm
      subst hd
      have hg := guard_scalar (E := E) (w := w) op t ox oy (.bool a) (.bool b) (.inr (.inr ⟨a, rfl⟩))
      have heq : (Op.equal t (.bool a) (.bool b)).run E.P w = .ok (a == b) w := by
        exact equalIn_bool 9999 T.under a b w
      split at hk
      · refine ⟨_, _, hk, ?_, .bool _ _⟩
        rw [Sem.run_bind, hg, Result.andThen_ok]
        simp [Go.binOp, heq]
      · refine ⟨_, _, hk, ?_, .bool _ _⟩
        rw [Sem.run_bind, hg, Result.andThen_ok]
        simp [Go.binOp, heq]
      · exact hk.elim
    · exact hk.elim

theorem unA_sound (op : UnOp) {x : AV} {vx : Value} (hx : RV w ok φ x vx) : Snd E w ok φ (unA E op x) (Op.unary op vx) := by
  unfold unA
  split
  · cases hx; exact sumA_sound _ _ _ (by simp [Op.unary, Op.intArith])
  · cases hx; exact .ok (by simp [Op.unary, Op.intBits, bitA]) (.int _ _ _)
  · cases hx; exact .ok (by simp [Op.unary]) (.bool _ _)
  · cases hx; exact .ok (x := .bool false) (by simp [Op.unary]) (.kf _)
  · cases hx; exact .ok (x := .bool true) (by simp [Op.unary]) (.kt _)
  · exact .fail

theorem td_u8 {E : Env} (hE : E.Valid) {e : TypeId} {ag : Bool} {sz bytes : Nat} {zero : AV} (h : E.tt e = some ⟨ag, sz, bytes, zero, .int .u8⟩) : E.P.underlying e = some (.int .u8) := by
  obtain ⟨i, d, z, T⟩ := hE.tyok h
  have hd := td_int T.td.symm
  subst hd
  exact T.under
theorem td_slice8 {E : Env} (hE : E.Valid) {t e : TypeId} {ag : Bool} {sz bytes : Nat} {zero : AV} (h : E.tt t = some ⟨ag, sz, bytes, zero, .slice e⟩) : E.P.underlying t = some (.slice e) := by
  obtain ⟨i, d, z, T⟩ := hE.tyok h
  have hd := td_slice T.td.symm
  subst hd
  exact T.under
theorem td_str8 {E : Env} (hE : E.Valid) {t : TypeId} {ag : Bool} {sz bytes : Nat} {zero : AV} (h : E.tt t = some ⟨ag, sz, bytes, zero, .string⟩) : E.P.underlying t = some .string := by
  obtain ⟨i, d, z, T⟩ := hE.tyok h
  have hd := td_string T.td.symm
  subst hd
  exact T.under
theorem bytes_ints : ∀ {es : List AV} {vs : List Value}, RVs w ok φ (flat es) vs → es.all isU8 = true → ∃ ns : List Int, vs = ns.map (Value.int .u8) ∧ es = ns.map (AV.int .u8)
  | [], vs, h, _ => by
    have : vs = [] := by cases h; rfl
    exact ⟨[], this, rfl⟩
  | e :: es, vs, h, ha => by
    simp only [List.all_cons, Bool.and_eq_true] at ha
    obtain ⟨n, rfl⟩ : ∃ n, e = .int .u8 n := by
      have := ha.1
      unfold isU8 at this
      split at this
      · exact ⟨_, rfl⟩
      · exact absurd this (by simp)
    rw [flat_cons] at h
    simp only [AV.cells, List.cons_append, List.nil_append] at h
    cases h with
    | cons _ _ x _ xs hx ht =>
      cases hx
      obtain ⟨ns, h1, h2⟩ := bytes_ints ht ha.2
      exact ⟨n :: ns, by rw [h1]; rfl, by rw [h2]; rfl⟩
theorem fold_bytes (ns : List Int) : ns.foldl (fun r n => r.push (UInt8.ofNat n.toNat)) ByteArray.empty = strOf (ns.map (AV.int .u8)) := by
  have key : ∀ (ns : List Int) (r : ByteArray), ns.foldl (fun r n => r.push (UInt8.ofNat n.toNat)) r = ⟨(r.data.toList ++ (ns.map (AV.int .u8)).map byteOf).toArray⟩ := by
    intro ns
    induction ns with
    | nil => intro r; simp
    | cons n ns ih =>
      intro r
      rw [List.foldl_cons, ih]
      simp [byteOf, ByteArray.push]
  rw [key]
  simp [strOf]
theorem bytesA_str (hE : E.Valid) (src dst : TypeId) {x : AV} {vx : Value} (hx : RV w ok φ x vx) {K : AV → Prop} (hk : (bytesA E src dst x).run E K) : ∃ b, K (.str b) ∧ (Go.convert src dst vx).run E.P w = .ok (.string b) w := by
  unfold bytesA at hk
  split at hk
  · rename_i e _ _ _ _ ag sz es h1 h2
    split at hk
    · rename_i h3
      have us := td_slice8 hE h1
      have ud := td_str8 hE h2
      have ue := td_u8 hE h3
      split at hk
      · rename_i hc
        obtain ⟨rfl, rfl⟩ := hc
        obtain ⟨hall, hk⟩ := hk
        refine ⟨_, hk, ?_⟩
        cases hx with
        | imm0 _ _ _ a cap =>
          rw [run_convert_bytes_string w src dst e a 0 cap us ue ud]
          cases a with
          | none => simp [Conv.bytesToString, strOf]; rfl
          | some a => rw [run_bytesToString w a 0 cap [] (by simp [loadCells, loadCellsFrom])]; rfl
        | imm _ _ _ _ b o cap vs hok hlay hvs hc hcap =>
          rw [run_convert_bytes_string w src dst e _ _ cap us ue ud]
          obtain ⟨ns, h4, h5⟩ := bytes_ints hvs hall
          have hlen : vs.length = es.length := by rw [← hvs.length, flat_len hlay]; omega
          rw [run_bytesToString w (ad b o) es.length cap ns (by
            rw [← hlen, ← h4]
            exact run_loadCells_list w (ad b o) vs fun j v hj => by rw [ad_add]; exact hc j v hj)]
          rw [fold_bytes, ← h5]
      · exact hk.elim
    · exact hk.elim
  · rename_i e _ _ _ _ h1 h2
    split at hk
    · rename_i h3
      have us := td_slice8 hE h1
      have ud := td_str8 hE h2
      have ue := td_u8 hE h3
      refine ⟨_, hk, ?_⟩
      cases hx
      rw [run_convert_bytes_string w src dst e none 0 0 us ue ud]
      simp [Conv.bytesToString]; rfl
    · exact hk.elim
  · exact hk.elim
theorem bytesA_sound (hE : E.Valid) (src dst : TypeId) {x : AV} {vx : Value} (hx : RV w ok φ x vx) : Snd E w ok φ (bytesA E src dst x) (Go.convert src dst vx) := fun K hk => by
  obtain ⟨b, h1, h2⟩ := bytesA_str hE src dst hx hk
  exact ⟨_, _, h1, h2, .str _ _⟩
theorem convA_sound (hE : E.Valid) (src dst : TypeId) {x : AV} {vx : Value} (hx : RV w ok φ x vx) : Snd E w ok φ (convA E src dst x) (Go.convert src dst vx) := by
  unfold convA
  split
  · rename_i s1 _ _ _ _ h1 h2
    obtain ⟨i, d, z, T⟩ := hE.tyok h2
    obtain ⟨i', d', z', T'⟩ := hE.tyok h1
    have hd := td_int T.td.symm
    subst hd
    cases hx
    split
    · refine .ok ?_ (.int _ _ _)
      simp only [Go.convert, Sem.run_bind, run_under T.under, run_under T'.under, Result.andThen_ok]
      cases d' <;> simp [Conv.intToInt]
    · refine sumA_sound _ _ _ ?_
      simp only [Go.convert, Sem.run_bind, run_under T.under, run_under T'.under, Result.andThen_ok]
      cases d' <;> simp [Conv.intToInt]
  · rename_i s1 _ _ _ h1 h2
    obtain ⟨i, d, z, T⟩ := hE.tyok h2
    obtain ⟨i', d', z', T'⟩ := hE.tyok h1
    have hd := td_string T.td.symm
    subst hd
    cases hx
    refine .ok ?_ (.str _ _)
    simp only [Go.convert, Sem.run_bind, run_under T.under, run_under T'.under, Result.andThen_ok]
    cases d' <;> simp
  · exact bytesA_sound hE src dst hx

theorem minA_sound {x y z : AV} {vx vy : Value} (hx : RV w ok φ x vx) (hy : RV w ok φ y vy) (h : minA x y = some z) : ∃ v, (Builtin.min2 vx vy).run E.P w = .ok v w ∧ RV w ok φ z v := by
  unfold minA at h
  split at h
  · cases hx; cases hy; simp at h; subst h
    exact ⟨_, by simp [Builtin.min2], .int _ _ _⟩
  · simp at h
theorem maxA_sound {x y z : AV} {vx vy : Value} (hx : RV w ok φ x vx) (hy : RV w ok φ y vy) (h : maxA x y = some z) : ∃ v, (Builtin.max2 vx vy).run E.P w = .ok v w ∧ RV w ok φ z v := by
  unfold maxA at h
  split at h
  · cases hx; cases hy; simp at h; subst h
    exact ⟨_, by simp [Builtin.max2], .int _ _ _⟩
  · simp at h
theorem foldA_sound {f : AV → AV → Option AV} {g : Value → Value → Sem Value} (hf : ∀ x y z vx vy, RV w ok φ x vx → RV w ok φ y vy → f x y = some z → ∃ v, (g vx vy).run E.P w = .ok v w ∧ RV w ok φ z v)
    {x : AV} {vx : Value} {l : List AV} {vl : List Value} (hx : RV w ok φ x vx) (hl : RVs w ok φ l vl) : Snd E w ok φ (foldA f x l) (vl.foldlM g vx) := by
  induction l generalizing x vx vl with
  | nil => cases hl; exact .ok (by simp) hx
  | cons y l ih =>
    cases hl with
    | cons _ _ vy _ vl hy hl =>
      simp only [foldA]
      split
      · rename_i z hz
        obtain ⟨v, h1, h2⟩ := hf _ _ _ _ _ hx hy hz
        intro K hk
        obtain ⟨a, b, h3, h4, h5⟩ := ih h2 hl K hk
        exact ⟨a, b, h3, by simp [h1, h4], h5⟩
      · exact .fail
end
end GoAbs
end

section
namespace GoAbs
open Go

section
variable {E : Env} {w : World} {ok : Nat → Prop} {φ : Place}

inductive RVo (w : World) (ok : Nat → Prop) (φ : Place) : Option AV → Option Value → Prop
  | none : RVo w ok φ none none
  | some (v x) (h : RV w ok φ v x) : RVo w ok φ (some v) (some x)

theorem bnd_spec {o : Option AV} {p : Option Value} (h : RVo w ok φ o p) {d n : Int} (hb : bnd o d = some n) : (p = none ∧ o = none ∧ n = d) ∨ ∃ k, p = some (.int k n) ∧ o.isSome = true := by
  cases h with
  | none => simp [bnd] at hb; exact .inl ⟨rfl, rfl, hb.symm⟩
  | some v x h =>
    right
    cases h <;> simp [bnd] at hb
    subst hb
    exact ⟨_, rfl, rfl⟩

theorem run_bound {P : Program} (k : IntKind) (i : Int) (y : Nat) (c : BoundsCode) (w : World) (h : 0 ≤ i ∧ i ≤ y) : (Instr.sliceBound (.int k i) y c).run P w = .ok i.toNat w := by
  simp [Instr.sliceBound, asIntOf, h]

theorem run_bounds {P : Program} {isS : Bool} {len cap : Nat} {lo hi mx : Option AV} {vlo vhi vmx : Option Value} {l h m : Int}
    (hlo : RVo w ok φ lo vlo) (hhi : RVo w ok φ hi vhi) (hmx : RVo w ok φ mx vmx) (bl : bnd lo 0 = some l) (bh : bnd hi len = some h) (bm : bnd mx len = some m)
    (h0 : 0 ≤ l) (h1 : l ≤ h) (h2 : h ≤ m) (h3 : m ≤ len) (h4 : mx.isSome = true → hi.isSome = true) (hc : len ≤ cap) :
    (Instr.sliceBounds isS len cap vlo vhi vmx).run P w = .ok (l.toNat, h.toNat, if mx.isSome then m.toNat else cap) w := by
  unfold Instr.sliceBounds
  rcases bnd_spec hmx bm with ⟨rfl, rfl, rfl⟩ | ⟨km, rfl, hms⟩
  · rcases bnd_spec hhi bh with ⟨rfl, rfl, rfl⟩ | ⟨kh, rfl, hhs⟩
    · rcases bnd_spec hlo bl with ⟨rfl, rfl, rfl⟩ | ⟨kl, rfl, hls⟩
      · simp
      · simp [run_bound kl l len _ w ⟨h0, by omega⟩]
    · rcases bnd_spec hlo bl with ⟨rfl, rfl, rfl⟩ | ⟨kl, rfl, hls⟩
      · simp [run_bound kh h cap _ w ⟨by omega, by omega⟩]
      · simp [run_bound kh h cap _ w ⟨by omega, by omega⟩, run_bound kl l h.toNat _ w ⟨h0, by omega⟩]
  · have hhs := h4 hms
    rcases bnd_spec hhi bh with ⟨rfl, rfl, rfl⟩ | ⟨kh, rfl, _⟩
    · simp at hhs
    · rcases bnd_spec hlo bl with ⟨rfl, rfl, rfl⟩ | ⟨kl, rfl, hls⟩
      · simp [run_bound km m cap _ w ⟨by omega, by omega⟩, run_bound kh h m.toNat _ w ⟨by omega, by omega⟩, hms]
      · simp [run_bound km m cap _ w ⟨by omega, by omega⟩, run_bound kh h m.toNat _ w ⟨by omega, by omega⟩, run_bound kl l h.toNat _ w ⟨h0, by omega⟩, hms]

theorem sliceAt_eq {P : Program} {t : TypeId} {d : TypeDesc} (h : P.underlying t = some d) (hd : ∀ n e, d ≠ .array n e) (x : Value) (lo hi mx : Option Value) :
    (Instr.sliceAt t x lo hi mx).run P w = (Instr.slice t x lo hi mx).run P w := by
  unfold Instr.sliceAt
  rw [Sem.run_bind, run_under h, Result.andThen_ok]
  split
  · rename_i n e; exact absurd rfl (hd n e)
  · rfl

theorem sliceA_sound (hE : E.Valid) (t : TypeId) {x : AV} {vx : Value} {lo hi mx : Option AV} {vlo vhi vmx : Option Value} (hx : RV w ok φ x vx) (hlo : RVo w ok φ lo vlo) (hhi : RVo w ok φ hi vhi) (hmx : RVo w ok φ mx vmx) :
    Snd E w ok φ (sliceA E t x lo hi mx) (Instr.sliceAt t vx vlo vhi vmx) := by
  unfold sliceA
  split
  · rename_i e _ _ _ _ ht
    obtain ⟨i, d, z, T⟩ := hE.tyok ht
    have hd := td_slice T.td.symm
    subst hd
    split
    · rename_i ti hte
      obtain ⟨ei, ed, ez, TE⟩ := hE.tyok hte
      have run := fun (a : Option Addr) (len cap : Nat) => sliceAt_eq (w := w) T.under (by simp) (.slice a len cap) vlo vhi vmx
      split
      · rename_i ag sz es
        split
        · rename_i hsz
          split
          · rename_i l h m bl bh bm
            refine .need fun ⟨h0, h1, h2, h3, h4⟩ => ?_
            -- the value
            have key : ∀ (a : Option Addr) (cap : Nat), es.length ≤ cap → (Instr.sliceAt t (.slice a es.length cap) vlo vhi vmx).run E.P w =
                .ok (.slice (if (if mx.isSome then m.toNat else cap) = l.toNat then a else a.map (·.add (l.toNat * ei.size))) (h.toNat - l.toNat) ((if mx.isSome then m.toNat else cap) - l.toNat)) w := by
              intro a cap hcap
              rw [run]
              simp only [Instr.slice, Sem.run_bind, run_under T.under, Result.andThen_ok, run_bounds (P := E.P) (isS := true) hlo hhi hmx bl bh bm h0 h1 h2 h3 h4 hcap, run_size TE.info]
              rfl
            have k3 : ∀ {v : AV} {a : Option Addr} {cap : Nat}, RV w ok φ v (.slice a (h.toNat - l.toNat) ((if mx.isSome then m.toNat else cap) - l.toNat)) → RV w ok φ (imm3 mx (m - l) v) (.slice a (h.toNat - l.toNat) ((if mx.isSome then m.toNat else cap) - l.toNat)) := by
              intro v a cap hv
              unfold imm3
              split
              · rename_i hml _
                have hml : m - l = 0 := hml
                have e1 : h.toNat - l.toNat = 0 := by omega
                have e2 : m.toNat - l.toNat = 0 := by omega
                simp only [Option.isSome_some, if_true, e1, e2]
                exact .cap0 _ _
              · exact hv
            cases hx with
            | imm0 _ _ _ a cap =>
              refine .ok (key a cap (by simp)) (k3 ?_)
              simp at h3
              have hl : (h - l).toNat = 0 := by omega
              have hl' : h.toNat - l.toNat = 0 := by omega
              rw [hl, hl', List.take_zero]
              exact .imm0 _ _ _ _ _
            | imm _ _ _ _ b o cap vs hok hlay hvs hc hcap =>
              refine .ok (key _ cap hcap) (k3 ?_)
              have hlen : h.toNat - l.toNat = ((es.drop l.toNat).take (h - l).toNat).length := by
                rw [List.length_take, List.length_drop]; omega
              by_cases hz : h.toNat - l.toNat = 0
              · rw [hz]
                have : (h - l).toNat = 0 := by omega
                rw [this, List.take_zero]
                exact .imm0 _ _ _ _ _
              · rw [if_neg (by split <;> omega)]
                rw [hlen]
                simp only [Option.map_some, ad_add]
                have hs : ei.size = sz := by rw [hsz, TE.sz]
                rw [hs]
                refine .imm _ _ _ _ b _ _ ((vs.drop (l.toNat * sz)).take ((h - l).toNat * sz)) hok ((hlay.drop _).take _) ?_ ?_ ?_
                · rw [flat_take (hlay.drop _), flat_drop hlay]
                  exact (hvs.drop _).take _
                · intro j v hj
                  rw [List.getElem?_take] at hj
                  split at hj
                  · rw [List.getElem?_drop] at hj
                    rw [Nat.add_assoc]
                    exact hc _ _ hj
                  · simp at hj
                · rw [← hlen]; split <;> omega
          · exact .fail
        · exact .fail
      · rename_i id ver sz off len
        split
        · rename_i hsz
          split
          · rename_i l h m bl bh bm
            refine .need fun ⟨h0, h1, h2, h3, h4⟩ => ?_
            have key : ∀ (a : Option Addr) (cap : Nat), len ≤ cap → (Instr.sliceAt t (.slice a len cap) vlo vhi vmx).run E.P w =
                .ok (.slice (if (if mx.isSome then m.toNat else cap) = l.toNat then a else a.map (·.add (l.toNat * ei.size))) (h.toNat - l.toNat) ((if mx.isSome then m.toNat else cap) - l.toNat)) w := by
              intro a cap hcap
              rw [run]
              simp only [Instr.slice, Sem.run_bind, run_under T.under, Result.andThen_ok, run_bounds (P := E.P) (isS := true) hlo hhi hmx bl bh bm h0 h1 h2 h3 h4 hcap, run_size TE.info]
              rfl
            have hs : ei.size = sz := by rw [hsz, TE.sz]
            have hl : (h - l).toNat = h.toNat - l.toNat := by omega
            rw [hl]
            have hle : h.toNat ≤ len := by omega
            have hmc : ∀ cap, len ≤ cap → h.toNat ≤ (if mx.isSome then m.toNat else cap) ∧ (if mx.isSome then m.toNat else cap) ≤ cap := by
              intro cap hc; constructor <;> split <;> omega
            cases hx with
            | own_dead _ _ _ _ _ _ a cap hd hlc ha =>
              have h7 := hmc cap hlc
              refine .ok (key a cap hlc) (.own_dead _ _ _ _ _ _ _ _ hd (by omega) fun h8 => ?_)
              obtain ⟨b, o, rfl⟩ := ha (by omega)
              by_cases hz : (if mx.isSome then m.toNat else cap) = l.toNat
              · rw [if_pos hz]; exact ⟨_, _, rfl⟩
              · rw [if_neg hz]; exact ⟨b, o + l.toNat * ei.size, by simp only [Option.map_some, ad_add]⟩
            | own_virt _ _ _ _ a hv =>
              refine .ok (key a 0 (by omega)) ?_
              have h5 : h.toNat = 0 := by omega
              have h6 : l.toNat = 0 := by omega
              have h7 := hmc 0 (by omega)
              rw [h5, h6]
              have : (if mx.isSome then m.toNat else 0) = 0 := by omega
              rw [this]
              simpa using .own_virt _ _ _ _ _ hv
            | own_nil _ _ _ _ a b sh _ n N hp hN =>
              refine .ok (key a 0 (by omega)) ?_
              have h5 : h.toNat = 0 := by omega
              have h6 : l.toNat = 0 := by omega
              have h7 := hmc 0 (by omega)
              rw [h5, h6]
              have : (if mx.isSome then m.toNat else 0) = 0 := by omega
              rw [this]
              simpa using .own_nil _ _ _ _ _ _ _ _ _ _ hp hN
            | own _ _ _ _ _ cap b sh _ n N hp hlen hcap hN =>
              refine .ok (key _ cap hlen) ?_
              have h7 := hmc cap hlen
              by_cases hz : (if mx.isSome then m.toNat else cap) = l.toNat
              · rw [if_pos hz, hz]
                have h5 : h.toNat - l.toNat = 0 := by omega
                rw [h5, Nat.sub_self]
                exact .own_nil _ _ _ _ _ _ _ _ _ _ hp (by omega)
              · rw [if_neg hz]
                simp only [Option.map_some, ad_add, hs]
                rw [show sh + off * sz + l.toNat * sz = sh + (off + l.toNat) * sz by rw [Nat.add_mul]; omega]
                refine .own _ _ _ _ _ _ _ _ _ _ _ hp (by omega) ?_ (by omega)
                refine Nat.le_trans (Nat.add_le_add_left (Nat.mul_le_mul_right sz ?_) sh) hcap
                omega
          · exact .fail
        · exact .fail
      · split
        · rename_i l h m bl bh bm
          refine .need fun ⟨h0, h1, h2, h3⟩ => ?_
          cases hx
          refine .ok (x := .slice none 0 0) ?_ (.nils _)
          rw [run]
          have hb := run_bounds (P := E.P) (isS := true) (len := 0) (cap := 0) (m := m) hlo hhi hmx bl (by simpa using bh) (by simpa using bm) (by omega) (by omega) (by omega) (by omega) h3 (by omega)
          simp only [Instr.slice, Sem.run_bind, run_under T.under, Result.andThen_ok, hb, run_size TE.info]
          simp [← h0, ← h1, ← h2]
        · exact .fail
      · split
        · rename_i l h m bl bh bm
          refine .need fun ⟨h0, h1, h2, h3⟩ => ?_
          cases hx with
          | cap0 _ a =>
          refine .ok (x := .slice a 0 0) ?_ (.cap0 _ _)
          rw [run]
          have hb := run_bounds (P := E.P) (isS := true) (len := 0) (cap := 0) (m := m) hlo hhi hmx bl (by simpa using bh) (by simpa using bm) (by omega) (by omega) (by omega) (by omega) h3 (by omega)
          simp only [Instr.slice, Sem.run_bind, run_under T.under, Result.andThen_ok, hb, run_size TE.info]
          simp [← h0, ← h1, ← h2]
        · exact .fail
      · exact .fail
    · exact .fail
  · rename_i _ _ _ _ ht
    obtain ⟨i, d, z, T⟩ := hE.tyok ht
    have hd := td_string T.td.symm
    subst hd
    split
    · rename_i s
      split
      · rename_i l h bl bh
        refine .need fun ⟨h0, h1, h2⟩ => ?_
        cases hx
        cases hmx
        refine .ok (x := .string (s.extract l.toNat h.toNat)) ?_ (.str _ _)
        rw [sliceAt_eq T.under (by simp)]
        have hb := run_bounds (P := E.P) (isS := false) (len := s.size) (cap := s.size) (m := s.size) hlo hhi (.none (w := w) (ok := ok) (φ := φ)) bl bh rfl h0 h1 h2 (by omega) (by simp) (by omega)
        simp only [Instr.slice, Sem.run_bind, run_under T.under, Result.andThen_ok, Option.isSome_none]
        have hb' : Sem.run E.P (Instr.sliceBounds false s.size s.size vlo vhi none) w = Result.ok (l.toNat, h.toNat, s.size) w := hb
        rw [if_neg (by simp), Sem.run_bind]
        erw [hb']
        rfl
      · exact .fail
    · exact .fail
  · exact .fail

theorem cellsOf_info {P : Program} {t : TypeId} (h : fieldZ P t ≠ 0) : ∃ i d, P.info? t = some i ∧ P.underlying t = some d ∧ i.size = fieldZ P t ∧ aggT P t = aggD d := by
  unfold fieldZ at h ⊢
  cases hd : P.underlying t with
  | none => simp [hd] at h
  | some d =>
    simp only [hd] at h ⊢
    unfold Program.cellsOf at h ⊢
    cases hi : P.info? t with
    | none => simp [hi] at h
    | some i => exact ⟨i, d, rfl, rfl, by simp, by simp [aggT, hd]⟩

theorem struct_field {P : Program} {gs : Array Field} {f : Nat} {o z : Nat} {a : Bool} (h : (gs.toList.map fun f => (f.offset, fieldZ P f.type, aggT P f.type))[f]? = some (o, z, a)) :
    ∃ g, gs[f]? = some g ∧ g.offset = o ∧ fieldZ P g.type = z ∧ aggT P g.type = a := by
  rw [List.getElem?_map] at h
  cases hg : gs.toList[f]? with
  | none => simp [hg] at h
  | some g =>
    simp [hg] at h
    exact ⟨g, by simpa using hg, h.1, h.2.1, h.2.2⟩

theorem fieldAddrA_sound (hE : E.Valid) (t : TypeId) {x : AV} {vx : Value} (hx : RV w ok φ x vx) (f : Nat) : Snd E w ok φ (fieldAddrA E t x f) (Instr.fieldAt t vx f) := by
  unfold fieldAddrA
  split
  · rename_i fs ht
    obtain ⟨i, d, z, T⟩ := hE.tyok ht
    obtain ⟨gs, rfl, rfl⟩ := td_struct T.td.symm
    split
    · rename_i o z a hf
      obtain ⟨g, hg, rfl, rfl, rfl⟩ := struct_field hf
      split
      · exact .fail
      · rename_i hz
        obtain ⟨gi, gd, hgi, hgd, hgs, _⟩ := cellsOf_info hz
        have key : ∀ b o, (Instr.fieldAt t (.pointer (some (ad b o))) f).run E.P w = .ok (.pointer (some (ad b (o + g.offset)))) w := by
          intro b o
          simp only [Instr.fieldAt, Sem.run_bind, run_under T.under, Result.andThen_ok, hg, Instr.sureAddr, Sem.run_pure, fieldPlace, run_size hgi]
          rw [if_neg (by rw [hgs]; exact hz)]
          simp [ad_add]
        split
        · rename_i id ver i off
          cases hx with
          | ref_dead _ _ _ _ _ b o h => exact .ok (key b o) (.ref_dead _ _ _ _ _ _ _ h)
          | ref _ _ _ _ _ b sh sz n N h => exact .ok (key _ _) (by rw [Nat.add_assoc]; exact .ref _ _ _ _ _ _ _ _ _ _ h)
        · rename_i ag sz es i off
          cases hx with
          | eptr _ _ _ _ _ _ b o vs hok hlay hvs hc => exact .ok (key _ _) (by rw [Nat.add_assoc]; exact .eptr _ _ _ _ _ _ _ _ _ hok hlay hvs hc)
        · exact .fail
    · exact .fail
  · exact .fail

theorem partA_sound {t : TypeId} {i : TypeInfo} {d : TypeDesc} (hi : E.P.info? t = some i) (hd : E.P.underlying t = some d) {cs : List AV} {vs : List Value} (hvs : RVs w ok φ cs vs) (o : Nat) :
    Snd E w ok φ (partA (aggD d) i.size o cs) (part t vs.toArray o) := by
  unfold partA
  by_cases h : aggD d = true
  · rw [if_pos h]
    refine .ok (x := .agg ((vs.drop o).take i.size).toArray) ?_ (.agg _ _ _ ((hvs.drop o).take _))
    simp only [part, Sem.run_bind, run_agg hd, Result.andThen_ok, h, if_true, run_size hi, Sem.run_pure]
    congr 2
    apply Array.ext'
    simp [List.extract_eq_take_drop]
  · rw [if_neg h]
    split
    · rename_i c hc
      obtain ⟨v, hv, hr⟩ := hvs.get hc
      refine .ok (x := v) ?_ hr
      simp only [part, Sem.run_bind, run_agg hd, Result.andThen_ok]
      rw [if_neg h]
      simp [hv]
    · exact .fail

theorem agg_inv {cs : List AV} {vx : Value} (h : RV w ok φ (.agg cs) vx) : ∃ vs, vx = .agg vs.toArray ∧ RVs w ok φ cs vs := by
  cases h with
  | agg _ _ vs h => exact ⟨vs, rfl, h⟩

theorem fieldA_sound (hE : E.Valid) (t : TypeId) {x : AV} {vx : Value} (hx : RV w ok φ x vx) (f : Nat) : Snd E w ok φ (fieldA E t x f) (Instr.field t vx f) := by
  unfold fieldA
  split
  · rename_i fs ht
    obtain ⟨i, d, z, T⟩ := hE.tyok ht
    obtain ⟨gs, rfl, rfl⟩ := td_struct T.td.symm
    split
    · rename_i o z a cs hf
      obtain ⟨g, hg, rfl, rfl, rfl⟩ := struct_field hf
      obtain ⟨vs, rfl, hvs⟩ := agg_inv hx
      have key : (Instr.field t (.agg vs.toArray) f).run E.P w = (part g.type vs.toArray g.offset).run E.P w := by
        simp only [Instr.field, Sem.run_bind, run_under T.under, Result.andThen_ok, hg, asAgg, Sem.run_pure]
      split
      · exact .fail
      · rename_i hz
        obtain ⟨gi, gd, hgi, hgd, hgs, hga⟩ := cellsOf_info hz
        rw [hga, ← hgs]
        intro K hk
        obtain ⟨v, x, h1, h2, h3⟩ := partA_sound hgi hgd hvs g.offset K hk
        exact ⟨v, x, h1, by rw [key]; exact h2, h3⟩
    · exact .fail
  · exact .fail

theorem run_index_slice {P : Program} {t e : TypeId} {ei : TypeInfo} (h : P.underlying t = some (.slice e)) (he : P.info? e = some ei) (b o : Nat) (len cap : Nat) (k : IntKind) (n : Int) (h0 : 0 ≤ n) (h1 : n < len) (w : World) :
    (Instr.indexAt t (.slice (some (ad b o)) len cap) (.int k n)).run P w = .ok (.pointer (some (ad b (o + n.toNat * ei.size)))) w := by
  simp [Instr.indexAt, asIntOf, run_under h, run_size he, h0, h1, ad_add]
theorem run_index_array {P : Program} {t e : TypeId} {ei : TypeInfo} {m : Nat} (h : P.underlying t = some (.array m e)) (he : P.info? e = some ei) (b o : Nat) (k : IntKind) (n : Int) (h0 : 0 ≤ n) (h1 : n < m) (w : World) :
    (Instr.indexAt t (.pointer (some (ad b o))) (.int k n)).run P w = .ok (.pointer (some (ad b (o + n.toNat * ei.size)))) w := by
  simp [Instr.indexAt, asIntOf, run_under h, run_size he, h0, h1, ad_add, Instr.sureAddr]

theorem indexAddrA_sound (hE : E.Valid) (t : TypeId) {x i : AV} {vx vi : Value} (hx : RV w ok φ x vx) (hi : RV w ok φ i vi) : Snd E w ok φ (indexAddrA E t x i) (Instr.indexAt t vx vi) := by
  unfold indexAddrA
  split
  · rename_i e ht
    obtain ⟨_, d, z, T⟩ := hE.tyok ht
    have hd := td_slice T.td.symm
    subst hd
    split
    · rename_i ti _ n id ver sz off len hte
      obtain ⟨ei, ed, ez, TE⟩ := hE.tyok hte
      cases hi
      split
      · rename_i hsz
        refine .need fun ⟨h0, h1⟩ => ?_
        have hs : ei.size = sz := by rw [hsz, TE.sz]
        cases hx with
        | own_dead _ _ _ _ _ _ a cap hd hl ha =>
          obtain ⟨b, o, rfl⟩ := ha (by omega)
          exact .ok (run_index_slice T.under TE.info b o len cap _ n h0 h1 w) (.ref_dead _ _ _ _ _ _ _ hd)
        | own_virt _ _ _ _ a hv => simp at h1; omega
        | own_nil _ _ _ _ _ _ _ _ _ _ hp hN => simp at h1; omega
        | own _ _ _ _ _ cap b sh _ nn N hp hlen hcap hN =>
          refine .ok (run_index_slice T.under TE.info b _ len cap _ n h0 h1 w) ?_
          rw [hs, show sh + off * sz + n.toNat * sz = sh + (off + n.toNat) * sz + 0 by rw [Nat.add_mul]; omega]
          exact .ref _ _ _ _ _ _ _ _ _ _ hp
      · exact .fail
    · rename_i ti _ n ag sz es hte
      obtain ⟨ei, ed, ez, TE⟩ := hE.tyok hte
      cases hi
      split
      · rename_i hsz
        refine .need fun ⟨h0, h1⟩ => ?_
        have hs : ei.size = sz := by rw [hsz, TE.sz]
        cases hx with
        | imm0 => simp at h1; omega
        | imm _ _ _ _ b o cap vs hok hlay hvs hc hcap =>
          refine .ok (run_index_slice T.under TE.info b o _ cap _ n h0 h1 w) ?_
          rw [hs]
          exact .eptr _ _ _ _ n.toNat 0 b o vs hok hlay hvs hc
      · exact .fail
    · exact .fail
  · rename_i m e ht
    obtain ⟨_, d, z, T⟩ := hE.tyok ht
    have hd := td_array T.td.symm
    subst hd
    split
    · rename_i ti _ n id ver j off hte
      obtain ⟨ei, ed, ez, TE⟩ := hE.tyok hte
      cases hi
      refine .need fun ⟨h0, h1⟩ => ?_
      rw [TE.sz]
      cases hx with
      | ref_dead _ _ _ _ _ b o h => exact .ok (run_index_array T.under TE.info b o _ n h0 h1 w) (.ref_dead _ _ _ _ _ _ _ h)
      | ref _ _ _ _ _ b sh sz nn N h => exact .ok (run_index_array T.under TE.info b _ _ n h0 h1 w) (by rw [Nat.add_assoc]; exact .ref _ _ _ _ _ _ _ _ _ _ h)
    · rename_i ti _ n ag sz es j off hte
      obtain ⟨ei, ed, ez, TE⟩ := hE.tyok hte
      cases hi
      refine .need fun ⟨h0, h1⟩ => ?_
      rw [TE.sz]
      cases hx with
      | eptr _ _ _ _ _ _ b o vs hok hlay hvs hc => exact .ok (run_index_array T.under TE.info b _ _ n h0 h1 w) (by rw [Nat.add_assoc]; exact .eptr _ _ _ _ _ _ _ _ _ hok hlay hvs hc)
    · exact .fail
  · exact .fail

theorem indexA_sound (hE : E.Valid) (t : TypeId) {x i : AV} {vx vi : Value} (hx : RV w ok φ x vx) (hi : RV w ok φ i vi) : Snd E w ok φ (indexA E t x i) (Instr.index t vx vi) := by
  unfold indexA
  split
  · rename_i ht
    obtain ⟨_, d, z, T⟩ := hE.tyok ht
    have hd := td_string T.td.symm
    subst hd
    split
    · rename_i s _ n
      cases hx; cases hi
      refine .need fun ⟨h0, h1⟩ => ?_
      refine .ok (x := .int .u8 (byteAt s n)) ?_ (.int _ _ _)
      have hb : s[n.toNat]? = some (s.data.toList.getD n.toNat 0) := by
        have hlt : n.toNat < s.size := by omega
        rw [getElem?_pos s n.toNat hlt]
        have hlt' : n.toNat < s.data.toList.length := by simpa using hlt
        simp [List.getD, List.getElem?_eq_getElem hlt']
        rfl
      simp [Instr.index, asIntOf, run_under T.under, h0, hb, byteAt]
    · exact .fail
  · rename_i m e ht
    obtain ⟨_, d, z, T⟩ := hE.tyok ht
    have hd := td_array T.td.symm
    subst hd
    split
    · rename_i bytes zero dd cs _ n hte
      obtain ⟨ei, ed, ez, TE⟩ := hE.tyok hte
      obtain ⟨vs, rfl, hvs⟩ := agg_inv hx
      cases hi
      refine .need fun ⟨h0, h1⟩ => .look fun v hv => ?_
      obtain ⟨x, hx1, hx2⟩ := hvs.get hv
      refine .ok (x := x) ?_ hx2
      have h1' : ei.size = 1 := by simpa using TE.sz.symm
      have h2' : aggD ed = false := by simpa using TE.ag.symm
      simp [Instr.index, asIntOf, run_under T.under, h0, h1, run_size TE.info, part, run_agg TE.under, h1', h2', hx1]
    · exact .fail
  · exact .fail

theorem lenA_sound (hE : E.Valid) (t : TypeId) (ts : Array TypeId) (ty : TypeId) {x : AV} {vx : Value} (hx : RV w ok φ x vx) (hts : ts[0]? = some t) : Snd E w ok φ (lenA E t x) (Builtin.len_ ts ty #[vx]) := by
  unfold lenA
  split
  · rename_i ht
    obtain ⟨_, d, z, T⟩ := hE.tyok ht
    have hd := td_string T.td.symm
    subst hd
    split
    · cases hx
      exact .ok (by simp [Builtin.len_, hts, run_under T.under, goInt]) (.int _ _ _)
    · exact .fail
  · rename_i e ht
    obtain ⟨_, d, z, T⟩ := hE.tyok ht
    have hd := td_slice T.td.symm
    subst hd
    have key : ∀ (a : Option Addr) (len cap : Nat), (Builtin.len_ ts ty #[.slice a len cap]).run E.P w = .ok (.int .i64 len) w := by
      intro a len cap
      simp [Builtin.len_, hts, run_under T.under, goInt]
    split
    · cases hx with
      | own_dead => exact .ok (key _ _ _) (.int _ _ _)
      | own_virt => exact .ok (key _ _ _) (.int _ _ _)
      | own_nil => exact .ok (key _ _ _) (.int _ _ _)
      | own => exact .ok (key _ _ _) (.int _ _ _)
    · cases hx with
      | imm0 => exact .ok (key _ _ _) (.int _ _ _)
      | imm => exact .ok (key _ _ _) (.int _ _ _)
    · cases hx
      exact .ok (key _ _ _) (.int _ _ _)
    · cases hx
      exact .ok (key _ _ _) (.int _ _ _)
    · exact .fail
  · exact .fail

theorem nilA_sound {x : AV} {vx : Value} (hx : RV w ok φ x vx) : ∀ K : AV → Prop, (nilA x).run E K → K x ∧ (∃ b o, vx = .pointer (some (ad b o))) ∨ K x ∧ ∃ f a b, vx = .func (.func f) a b := by
  intro K hk
  unfold nilA at hk
  split at hk
  · cases hx with
    | ref_dead => exact .inl ⟨hk, _, _, rfl⟩
    | ref => exact .inl ⟨hk, _, _, rfl⟩
  · cases hx; exact .inl ⟨hk, _, _, rfl⟩
  · cases hx; exact .inr ⟨hk, _, _, _, rfl⟩
  · exact hk.elim
end
end GoAbs
end

section
namespace GoAbs
open Go

theorem list_set_take {α : Type} (l : List α) (i : Nat) (x : α) (h : i < l.length) : l.set i x = l.take i ++ x :: l.drop (i + 1) := by
  rw [List.set_eq_take_append_cons_drop, if_pos h]

theorem cut_aux {α : Type} (T D : List α) (v : α) (m : Nat) : (T ++ v :: D).take (T.length + 1) = T ++ [v] ∧ (T ++ v :: D).drop (T.length + 1 + m) = D.drop m := by
  constructor
  · rw [List.take_append, List.take_of_length_le (by omega), show T.length + 1 - T.length = 1 by omega]
    simp
  · rw [List.drop_append, List.drop_eq_nil_of_le (by omega), show T.length + 1 + m - T.length = m + 1 by omega]
    simp
theorem fold_set : ∀ (l : List Value) (off k : Nat) (cs : Array Value), off + k + l.length ≤ cs.size →
    ((l.zipIdx k).foldl (fun (cs : Array Value) (p : Value × Nat) => cs.setIfInBounds (off + p.2) p.1) cs).toList = cs.toList.take (off + k) ++ l ++ cs.toList.drop (off + k + l.length)
  | [], off, k, cs, h => by simp
  | v :: l, off, k, cs, h => by
    simp only [List.zipIdx_cons, List.foldl_cons]
    simp only [List.length_cons] at h
    rw [fold_set l off (k + 1) (cs.setIfInBounds (off + k) v) (by simp; omega)]
    rw [Array.toList_setIfInBounds, list_set_take _ _ _ (by simp; omega)]
    have hl : (List.take (off + k) cs.toList).length = off + k := by simp; omega
    have := cut_aux (List.take (off + k) cs.toList) (List.drop (off + k + 1) cs.toList) v l.length
    rw [hl] at this
    rw [show off + (k + 1) = off + k + 1 by omega, this.1, this.2]
    simp only [List.append_assoc, List.drop_drop, List.cons_append, List.nil_append, List.length_cons]
    rw [show off + k + 1 + l.length = off + k + (l.length + 1) by omega]

section
variable {E : Env} {w : World} {ok : Nat → Prop} {φ : Place}

theorem splice_RVs {cs : List AV} {xs : List Value} (h : RVs w ok φ cs xs) {vs : List AV} {us : List Value} (k : RVs w ok φ vs us) (o : Nat) :
    RVs w ok φ (splice cs o vs) (xs.take o ++ us ++ xs.drop (o + us.length)) := by
  unfold splice
  rw [k.length]
  exact ((h.take _).append k).append (h.drop _)

/-- parts: what stands, value by value. -/
inductive RVp (w : World) (ok : Nat → Prop) (φ : Place) : List (Nat × AV) → List (Nat × Value) → Prop
  | nil : RVp w ok φ [] []
  | cons (i v x ps qs) (h : RV w ok φ v x) (t : RVp w ok φ ps qs) : RVp w ok φ ((i, v) :: ps) ((i, x) :: qs)

theorem fillA_sound (place : Nat → Option (Nat × Nat)) (fs : List (Nat × Nat × Bool)) (hp : ∀ (i : Nat) o z a, fs[i]? = some (o, z, a) → place i = some (o, z)) :
    ∀ {ps : List (Nat × AV)} {qs : List (Nat × Value)} {cs cs' : List AV} {xs : Array Value}, RVp w ok φ ps qs → RVs w ok φ cs xs.toList → fillA fs cs ps = some cs' →
      ∃ ys, Instr.fill place xs qs = some ys ∧ RVs w ok φ cs' ys.toList := by
  intro ps
  induction ps with
  | nil => intro qs cs cs' xs hq hx h; cases hq; simp [fillA] at h; subst h; exact ⟨xs, rfl, hx⟩
  | cons p ps ih =>
    intro qs cs cs' xs hq hx h
    cases hq with
    | cons i v x _ qs hv hq =>
      unfold fillA at h
      split at h
      · rename_i o z a hf
        split at h
        · rename_i hc
          obtain ⟨hc1, hc2, hc3⟩ := hc
          have hcells := hv.cells hc3
          have hsz : x.cells.size = z := by rw [← hc1, hcells.length]; simp
          have hlen : cs.length = xs.size := by rw [hx.length]; simp
          unfold Instr.fill
          rw [hp i o z a hf]
          simp only [hsz]
          rw [if_neg (by simp; omega)]
          refine ih hq ?_ h
          rw [← Array.foldl_toList, Array.toList_zipIdx, fold_set x.cells.toList o 0 xs (by simp; omega)]
          exact splice_RVs hx hcells o
        · simp at h
      · simp at h

theorem run_places {P : Program} : ∀ (gs : List Field), (∀ g ∈ gs, fieldZ P g.type ≠ 0) →
    (gs.mapM (m := Sem) fun (f : Field) => do pure (f.offset, ← Go.sizeOf f.type)).run P w = .ok (gs.map fun f => (f.offset, fieldZ P f.type)) w
  | [], _ => by simp
  | g :: gs, h => by
    obtain ⟨i, d, h1, h2, h3, h4⟩ := cellsOf_info (h g (by simp))
    have ih := run_places gs fun x hx => h x (by simp [hx])
    simp only [List.mapM_cons, Sem.run_bind, run_size h1, Result.andThen_ok, Sem.run_pure, ih, h3, List.map_cons]

theorem zero_RVs {t : TypeId} {ti : TyI} {i : TypeInfo} {d : TypeDesc} {z : Value} (T : TyOk E.P t ti i d z) : RVs w ok φ ti.zero.cells z.cells.toList :=
  (litAV_ok T.lit).cells (litAV_cells T.lit).2.2

theorem buildA_sound (hE : E.Valid) (t : TypeId) {ps : List (Nat × AV)} {qs : Array (Nat × Value)} (hps : RVp w ok φ ps qs.toList) :
    Snd E w ok φ (buildA E t ps) (Instr.build t qs) := by
  unfold buildA
  split
  · rename_i ag sz bytes zero fs ht
    obtain ⟨i, d, z, T⟩ := hE.tyok ht
    obtain ⟨gs, rfl, rfl⟩ := td_struct T.td.symm
    split
    case isFalse => exact .fail
    rename_i hall
    have hzs : ∀ g ∈ gs.toList, fieldZ E.P g.type ≠ 0 := by
      intro g hg
      simp only [List.all_map, List.all_eq_true] at hall
      simpa using hall g hg
    split
    · rename_i cs hf
      obtain ⟨ys, h1, h2⟩ := fillA_sound (w := w) (ok := ok) (φ := φ) (fun k => ((gs.toList.map fun f => (f.offset, fieldZ E.P f.type)).toArray)[k]?) _ (fun i o z a h => by
        rw [List.getElem?_map] at h
        cases hg : gs.toList[i]? with
        | none => simp [hg] at h
        | some g => simp [hg] at h; simp; exact ⟨g, by simpa using hg, h.1, h.2.1⟩) hps (xs := z.cells) (zero_RVs T) hf
      refine .ok (x := .agg ys) ?_ ?_
      · have hm := run_places (w := w) (P := E.P) gs.toList hzs
        simp only [Instr.build, Sem.run_bind, run_zero T.info T.zero, Result.andThen_ok, run_under T.under]
        rw [Array.mapM_eq_mapM_toList]
        simp only [Sem.run_map, hm, Result.andThen_ok, h1]
        rfl
      · have := RV.agg _ _ _ h2
        simpa using this
    · exact .fail
  · rename_i ag sz bytes zero n e ht
    obtain ⟨i, d, z, T⟩ := hE.tyok ht
    have hd := td_array T.td.symm
    subst hd
    split
    · rename_i ti hte
      obtain ⟨ei, ed, ez, TE⟩ := hE.tyok hte
      split
      · rename_i cs hf
        obtain ⟨ys, h1, h2⟩ := fillA_sound (w := w) (ok := ok) (φ := φ) (fun k => some (k * ei.size, ei.size)) _ (fun i o z a h => by
          rw [List.getElem?_map] at h
          cases hg : (List.range n)[i]? with
          | none => simp [hg] at h
          | some g =>
            simp [hg] at h
            have : g = i := by
              rw [List.getElem?_range] at hg
              · simpa using hg.symm
              · simpa using (List.getElem?_eq_some_iff.1 hg).1
            subst this
            rw [← h.1, ← h.2.1, TE.sz]) hps (xs := z.cells) (zero_RVs T) hf
        refine .ok (x := .agg ys) ?_ ?_
        · simp only [Instr.build, Sem.run_bind, run_zero T.info T.zero, Result.andThen_ok, run_under T.under, run_size TE.info, h1]
          rfl
        · have := RV.agg _ _ _ h2
          simpa using this
      · exact .fail
    · exact .fail
  · exact .fail

theorem RVs_map {α : Type} {l : List α} {f : α → AV} {g : α → Value} (h : ∀ x, RV w ok φ (f x) (g x)) : RVs w ok φ (l.map f) (l.map g) := .map fun x _ => h x
theorem RVp_map {ρA : Operand → AV} {ρ : Operand → Value} (h : ∀ x, RV w ok φ (ρA x) (ρ x)) : ∀ l : List (Nat × Operand), RVp w ok φ (l.map fun p => (p.1, ρA p.2)) (l.map fun p => (p.1, ρ p.2))
  | [] => .nil
  | (i, x) :: l => .cons i _ _ _ _ (h x) (RVp_map h l)
theorem RVo_map {ρA : Operand → AV} {ρ : Operand → Value} (h : ∀ x, RV w ok φ (ρA x) (ρ x)) (o : Option Operand) : RVo w ok φ (o.map ρA) (o.map ρ) := by
  cases o with
  | none => exact .none
  | some x => exact .some _ _ (h x)

theorem Snd.lift {t : Tr AV} {m : Sem Value} (h : Snd E w ok φ t m) {K : AV → Prop} (hk : t.run E K) {n : Sem Next} (hn : n.run E.P w = (m.run E.P w).andThen fun v w' => .ok (.value v) w') :
    ∃ v x, K v ∧ n.run E.P w = .ok (.value x) w ∧ RV w ok φ v x := by
  obtain ⟨v, x, h1, h2, h3⟩ := h K hk
  exact ⟨v, x, h1, by rw [hn, h2]; rfl, h3⟩

theorem sem1_sound (hE : E.Valid) (o : Oper) {ρA : Operand → AV} {ρ : Operand → Value} (hρ : ∀ x, RV w ok φ (ρA x) (ρ x)) {K : AV → Prop} (h : (sem1 E o.op ρA).run E K) :
    ∃ v x, K v ∧ (execOp ρ o).run E.P w = .ok (.value x) w ∧ RV w ok φ v x := by
  obtain ⟨dst, op, ty, pos, after, guard⟩ := o
  simp only at h
  unfold sem1 at h
  unfold execOp
  split at h
  · exact ⟨_, _, h, rfl, hρ _⟩
  · exact ⟨_, _, h, rfl, hρ _⟩
  · rename_i c a b
    refine (pickA_sound (hρ c) (hρ a) (hρ b)).lift h ?_
    simp only [Sem.run_bind]
    cases (asBool (ρ c)).run E.P w <;> rfl
  · rename_i t parts
    refine (buildA_sound hE t (qs := parts.map fun (i, x) => (i, ρ x)) ?_).lift h (by simp only [Sem.run_bind]; rfl)
    rw [Array.toList_map]
    exact RVp_map hρ _
  · rename_i x
    rcases nilA_sound (hρ x) K h with ⟨h1, b, o, h2⟩ | ⟨h1, f, a, b, h2⟩
    · exact ⟨_, _, h1, by simp [h2], h2 ▸ hρ x⟩
    · exact ⟨_, _, h1, by simp [h2], h2 ▸ hρ x⟩
  · rename_i op xt x y yt
    exact (binA_sound hE op xt x y (hρ x) (hρ y)).lift h (by simp only [Sem.run_bind]; rfl)
  · rename_i op t x
    exact (unA_sound op (hρ x)).lift h (by simp only [Sem.run_bind]; rfl)
  · rename_i src dst x
    exact (convA_sound hE src dst (hρ x)).lift h (by simp only [Sem.run_bind]; rfl)
  · rename_i fn first cap
    refine ⟨_, .func fn (first.map ρ) (cap.map ρ), h, by simp [Instr.makeFunc], ?_⟩
    have := RV.fn φ fn _ _ _ _ (RVs_map hρ (l := first.toList)) (RVs_map hρ (l := cap.toList))
    have e : ∀ a : Array Operand, (List.map ρ a.toList).toArray = a.map ρ := fun a => by apply Array.ext'; simp
    rwa [e, e] at this
  · rename_i t x lo hi mx
    exact (sliceA_sound hE t (hρ x) (RVo_map hρ lo) (RVo_map hρ hi) (RVo_map hρ mx)).lift h (by simp only [Sem.run_bind]; rfl)
  · rename_i t x f
    exact (fieldAddrA_sound hE t (hρ x) f).lift h (by simp only [Sem.run_bind]; rfl)
  · rename_i t x f
    exact (fieldA_sound hE t (hρ x) f).lift h (by simp only [Sem.run_bind]; rfl)
  · rename_i t x i
    exact (indexAddrA_sound hE t (hρ x) (hρ i)).lift h (by simp only [Sem.run_bind]; rfl)
  · rename_i t x i
    exact (indexA_sound hE t (hρ x) (hρ i)).lift h (by simp only [Sem.run_bind]; rfl)
  · rename_i x i
    exact (extractA_sound (hρ x) i).lift h (by simp only [Sem.run_bind]; rfl)
  · rename_i args argTypes
    split at h
    · rename_i x t ts ha ht
      have ha' : args = #[x] := by apply Array.ext'; simpa using ha
      subst ha'
      refine (lenA_sound hE t argTypes ty (hρ x) (by rw [← Array.getElem?_toList, ht]; rfl)).lift h ?_
      simp only [Sem.run_bind, resolve, Sem.run_pure, Result.andThen_ok, invoke, builtin]
      simp
    · exact h.elim
  · rename_i args argTypes
    split at h
    · rename_i x r ha
      have ha' : args = (x :: r).toArray := by apply Array.ext'; simpa using ha
      subst ha'
      refine (foldA_sound (fun _ _ _ _ _ => minA_sound) (hρ x) (RVs_map hρ (l := r))).lift h ?_
      simp only [Sem.run_bind, resolve, Sem.run_pure, Result.andThen_ok, invoke, builtin, Builtin.min_]
      simp
    · exact h.elim
  · rename_i args argTypes
    split at h
    · rename_i x r ha
      have ha' : args = (x :: r).toArray := by apply Array.ext'; simpa using ha
      subst ha'
      refine (foldA_sound (fun _ _ _ _ _ => maxA_sound) (hρ x) (RVs_map hρ (l := r))).lift h ?_
      simp only [Sem.run_bind, resolve, Sem.run_pure, Result.andThen_ok, invoke, builtin, Builtin.max_]
      simp
    · exact h.elim
  · exact h.elim
end
end GoAbs
end

section
namespace GoAbs
open Go

section
variable {E : Env} {w0 : World} {io : Nat → Prop} {s : HS} {w : World} {M : Nat → Pl} {ok : Nat → Prop}

theorem RV.up {φ : Place} {v : AV} {x : Value} (h : RV w ok noφ v x) : RV w ok φ v x := h.mono ⟨fun _ h => ⟨h, rfl⟩, fun _ _ => .inl rfl⟩
theorem RVs.up {φ : Place} {v : List AV} {x : List Value} (h : RVs w ok noφ v x) : RVs w ok φ v x := h.mono ⟨fun _ h => ⟨h, rfl⟩, fun _ _ => .inl rfl⟩

theorem place_put (s : HS) (M : Nat → Pl) (id : Nat) (ag : Bool) (sz : Nat) (es : List AV) (pu : Bool) (p : Pl) (hv : ∀ b, s.hp id = some b → b.ver < s.vr id) :
    ∀ i v, s.place M i v = .bad ∨ (s.put id ag sz es pu).place (upd M id p) i v = s.place M i v ∨ (s.put id ag sz es pu).place (upd M id p) i v = .dead := by
  intro i v
  by_cases hi : i = id
  · subst hi
    simp only [HS.place, HS.put, upd, if_true]
    by_cases h1 : s.vr i = v
    · left
      cases hb : s.hp i with
      | none => simp; omega
      | some b => have := hv b hb; simp; rw [if_neg (by omega), if_neg (by omega)]
    · rw [if_neg h1]
      by_cases h2 : v < s.vr i + 1
      · rw [if_pos h2]; exact .inr (.inr rfl)
      · left
        cases hb : s.hp i with
        | none => simp; omega
        | some b => have := hv b hb; simp; rw [if_neg (by omega), if_neg (by omega)]
  · right; left
    simp only [HS.place, HS.put, upd, if_neg hi]

theorem place_now (s : HS) (M : Nat → Pl) (id : Nat) (ag : Bool) (sz : Nat) (es : List AV) (pu : Bool) (p : Pl) : (s.put id ag sz es pu).place (upd M id p) id (s.vr id) = p := by
  simp [HS.place, HS.put, upd]

theorem BlkR.mono {φ φ' : Place} {w' : World} {ok' : Nat → Prop} (m : Mono w ok φ w' ok' φ') {b : Blk} {p : Pl} (h : BlkR w ok φ b p) (hb : ∀ k sh sz n N, p = .at k sh sz n N → w'.heap[k]? = w.heap[k]?) : BlkR w' ok' φ' b p := by
  cases p with
  | virt => exact h
  | «at» k sh sz n N =>
    obtain ⟨h1, h2, h3, c, T, fr, vs, h4, h5, h6, h7, h8⟩ := h
    refine ⟨h1, h2, h3, c, T, fr, vs, by rw [hb k sh sz n N rfl]; exact h4, h5, h6, ?_, h8⟩
    by_cases hp : b.pu
    · simp only [hp, if_true] at h7 ⊢; exact h7.mono (noMono m)
    · simp only [hp, if_false, Bool.false_eq_true] at h7 ⊢; exact h7.mono m
  | bad => exact h
  | dead => exact h

theorem HR.block_lt (h : HR E w0 io s w M ok) {id : Nat} {b : Blk} (hb : s.hp id = some b) {k sh sz n N : Nat} (hm : M id = .at k sh sz n N) : k < w.heap.size := by
  have := h.blk id b hb
  rw [hm] at this
  obtain ⟨_, _, _, c, T, fr, vs, h4, _⟩ := this
  exact (Array.getElem?_eq_some_iff.1 h4).1

/-- A new block. -/
theorem HR.alloc (hE : E.Valid) (h : HR E w0 io s w M ok) (site : Nat) (ag : Bool) (sz : Nat) (es : List AV) (pu : Bool) (c : Array Value) (T : TypeId) (vs : List Value)
    (hl : Lay ag sz es) (hv : RVs w ok (if pu then noφ else s.place M) (flat es) vs) (hc : ∀ (j : Nat) (v : Value), vs[j]? = some v → c[j]? = some v) :
    HLater E w0 io s w M ok (s.put site ag sz es pu) { w with heap := w.heap.push (.cells c T) } (upd M site (.at w.heap.size 0 sz c.size es.length)) ok := by
  have hsz : w.heap.size < (w.heap.push (.cells c T)).size := by simp
  have hold : ∀ k, k < w.heap.size → (w.heap.push (.cells c T))[k]? = w.heap[k]? := fun k hk => by rw [Array.getElem?_push, if_neg (by omega)]
  have hm : Mono w ok (s.place M) { w with heap := w.heap.push (.cells c T) } ok ((s.put site ag sz es pu).place (upd M site (.at w.heap.size 0 sz c.size es.length))) :=
    ⟨fun k hk => ⟨hk, hold k (h.okb k hk).1⟩, place_put s M site ag sz es pu _ (fun b hb => by have := h.ver site b hb; omega)⟩
  refine ⟨⟨?_, ?_, ?_, ?_, ?_, ?_, ?_, h.os, h.output, h.tape, ?_⟩, hm, fun k hk => .inl hk⟩
  · intro id b hb
    simp only [HS.put, upd] at hb
    by_cases hi : id = site
    · rw [if_pos hi] at hb
      simp at hb; subst hb
      simp only [upd, hi, if_true]
      refine ⟨rfl, rfl, hl, c, T, (0, 0), vs, by simp, rfl, by intros; omega, ?_, fun j v hj => by simpa using hc j v hj⟩
      by_cases hp : pu
      · simp only [hp, if_true] at hv ⊢; exact hv.mono (noMono hm)
      · simp only [hp, if_false, Bool.false_eq_true] at hv ⊢; exact hv.mono (by simpa [hp] using hm)
    · rw [if_neg hi] at hb
      have := h.blk id b hb
      simp only [upd, if_neg hi]
      exact this.mono hm fun k sh sz n N hk => hold k (h.block_lt hb hk)
  · intro id b hb
    simp only [HS.put, upd] at hb ⊢
    by_cases hi : id = site
    · rw [if_pos hi] at hb ⊢; simp at hb; subst hb; subst hi; simp
    · rw [if_neg hi] at hb ⊢; exact h.ver id b hb
  · intro id id' b b' k s1 z1 n1 N1 s2 z2 n2 N2 hb hb' hk hk'
    simp only [HS.put, upd] at hb hb' hk hk'
    by_cases hi : id = site <;> by_cases hi' : id' = site
    · rw [hi, hi']
    · rw [if_pos hi] at hk; rw [if_neg hi'] at hb' hk'
      have := h.block_lt hb' hk'
      simp at hk; omega
    · rw [if_neg hi] at hb hk; rw [if_pos hi'] at hk'
      have := h.block_lt hb hk
      simp at hk'; omega
    · rw [if_neg hi] at hb hk; rw [if_neg hi'] at hb' hk'
      exact h.inj id id' b b' k _ _ _ _ _ _ _ _ hb hb' hk hk'
  · intro id b k sh z n N hb hk
    simp only [HS.put, upd] at hb hk
    by_cases hi : id = site
    · rw [if_pos hi] at hk
      simp at hk
      have := h.size
      have := hE.size w h.G
      exact ⟨.inl (by omega), by omega⟩
    · rw [if_neg hi] at hb hk; exact h.lo id b k sh z n N hb hk
  · intro k hk
    obtain ⟨h1, h2⟩ := h.okb k hk
    refine ⟨by simp; omega, fun id b sh z n N hb => ?_⟩
    simp only [HS.put, upd] at hb ⊢
    by_cases hi : id = site
    · rw [if_pos hi]; intro he; simp at he; omega
    · rw [if_neg hi] at hb ⊢; exact h2 id b sh z n N hb
  · intro k hk hio
    show (w.heap.push (.cells c T))[k]? = _
    rw [hold k (Nat.lt_of_lt_of_le hk h.size)]
    exact h.frame k hk hio
  · exact Nat.le_trans h.size (Nat.le_of_lt hsz)
  · exact hE.stay w _ (fun k hk => hold k (Nat.lt_of_lt_of_le hk (hE.size w h.G))) (Nat.le_trans (hE.size w h.G) (Nat.le_of_lt hsz)) h.G

/-- A new block that lies nowhere: an empty slice. -/
theorem HR.virt (h : HR E w0 io s w M ok) (site : Nat) (ag : Bool) (sz : Nat) (pu : Bool) :
    HLater E w0 io s w M ok (s.put site ag sz [] pu) w (upd M site .virt) ok := by
  have hm : Mono w ok (s.place M) w ok ((s.put site ag sz [] pu).place (upd M site .virt)) :=
    ⟨fun k hk => ⟨hk, rfl⟩, place_put s M site ag sz [] pu _ (fun b hb => by have := h.ver site b hb; omega)⟩
  refine ⟨⟨?_, ?_, ?_, ?_, ?_, h.frame, h.size, h.os, h.output, h.tape, h.G⟩, hm, fun k hk => .inl hk⟩
  · intro id b hb
    simp only [HS.put, upd] at hb
    by_cases hi : id = site
    · rw [if_pos hi] at hb
      simp at hb; subst hb
      simp only [upd, hi, if_true]
      rfl
    · rw [if_neg hi] at hb
      have := h.blk id b hb
      simp only [upd, if_neg hi]
      exact this.mono hm fun k sh sz n N hk => rfl
  · intro id b hb
    simp only [HS.put, upd] at hb ⊢
    by_cases hi : id = site
    · rw [if_pos hi] at hb ⊢; simp at hb; subst hb; subst hi; simp
    · rw [if_neg hi] at hb ⊢; exact h.ver id b hb
  · intro id id' b b' k s1 z1 n1 N1 s2 z2 n2 N2 hb hb' hk hk'
    simp only [HS.put, upd] at hb hb' hk hk'
    by_cases hi : id = site <;> by_cases hi' : id' = site
    · rw [hi, hi']
    · rw [if_pos hi] at hk; simp at hk
    · rw [if_pos hi'] at hk'; simp at hk'
    · rw [if_neg hi] at hb hk; rw [if_neg hi'] at hb' hk'
      exact h.inj id id' b b' k _ _ _ _ _ _ _ _ hb hb' hk hk'
  · intro id b k sh z n N hb hk
    simp only [HS.put, upd] at hb hk
    by_cases hi : id = site
    · rw [if_pos hi] at hk; simp at hk
    · rw [if_neg hi] at hb hk; exact h.lo id b k sh z n N hb hk
  · intro k hk
    obtain ⟨h1, h2⟩ := h.okb k hk
    refine ⟨h1, fun id b sh z n N hb => ?_⟩
    simp only [HS.put, upd] at hb ⊢
    by_cases hi : id = site
    · rw [if_pos hi]; simp
    · rw [if_neg hi] at hb ⊢; exact h2 id b sh z n N hb

/-- A block that nobody has becomes the call's own. -/
theorem HR.adopt (h : HR E w0 io s w M ok) (site : Nat) (bl : Blk) (p : Pl) (hblk : ∀ φ, BlkR w ok φ { bl with ver := s.vr site } p)
    (hfree : ∀ k sh sz n N, p = .at k sh sz n N → (∀ id b' sh' sz' n' N', s.hp id = some b' → M id ≠ .at k sh' sz' n' N') ∧ ¬ ok k ∧ w0.heap.size ≤ k ∧ E.N ≤ k) :
    HLater E w0 io s w M ok (s.put site bl.ag bl.sz bl.es bl.pu) w (upd M site p) ok := by
  have hm : Mono w ok (s.place M) w ok ((s.put site bl.ag bl.sz bl.es bl.pu).place (upd M site p)) :=
    ⟨fun k hk => ⟨hk, rfl⟩, place_put s M site bl.ag bl.sz bl.es bl.pu _ (fun b hb => by have := h.ver site b hb; omega)⟩
  refine ⟨⟨?_, ?_, ?_, ?_, ?_, h.frame, h.size, h.os, h.output, h.tape, h.G⟩, hm, fun k hk => .inl hk⟩
  · intro id b hb
    simp only [HS.put, upd] at hb
    by_cases hi : id = site
    · rw [if_pos hi] at hb
      simp at hb; subst hb
      simp only [upd, hi, if_true]
      exact hblk _
    · rw [if_neg hi] at hb
      have := h.blk id b hb
      simp only [upd, if_neg hi]
      exact this.mono hm fun k sh sz n N hk => rfl
  · intro id b hb
    simp only [HS.put, upd] at hb ⊢
    by_cases hi : id = site
    · rw [if_pos hi] at hb ⊢; simp at hb; subst hb; subst hi; simp
    · rw [if_neg hi] at hb ⊢; exact h.ver id b hb
  · intro id id' b b' k s1 z1 n1 N1 s2 z2 n2 N2 hb hb' hk hk'
    simp only [HS.put, upd] at hb hb' hk hk'
    by_cases hi : id = site <;> by_cases hi' : id' = site
    · rw [hi, hi']
    · rw [if_pos hi] at hk; rw [if_neg hi'] at hb' hk'
      exact absurd hk' ((hfree k _ _ _ _ hk).1 id' b' _ _ _ _ hb')
    · rw [if_pos hi'] at hk'; rw [if_neg hi] at hb hk
      exact absurd hk ((hfree k _ _ _ _ hk').1 id b _ _ _ _ hb)
    · rw [if_neg hi] at hb hk; rw [if_neg hi'] at hb' hk'
      exact h.inj id id' b b' k _ _ _ _ _ _ _ _ hb hb' hk hk'
  · intro id b k sh z n N hb hk
    simp only [HS.put, upd] at hb hk
    by_cases hi : id = site
    · rw [if_pos hi] at hk
      obtain ⟨_, _, h3, h4⟩ := hfree k _ _ _ _ hk
      exact ⟨.inl h3, h4⟩
    · rw [if_neg hi] at hb hk; exact h.lo id b k sh z n N hb hk
  · intro k hk
    obtain ⟨h1, h2⟩ := h.okb k hk
    refine ⟨h1, fun id b sh z n N hb he => ?_⟩
    simp only [HS.put, upd] at hb he
    by_cases hi : id = site
    · rw [if_pos hi] at he
      exact (hfree k _ _ _ _ he).2.1 hk
    · rw [if_neg hi] at hb he; exact h2 id b sh z n N hb he

theorem heap_set_ne (w : World) (k : Nat) (o : Obj) (j : Nat) (h : j ≠ k) : (w.heap.setIfInBounds k o)[j]? = w.heap[j]? := by
  rw [Array.getElem?_setIfInBounds, if_neg (by omega)]

/-- A block of the call's own written, its name anew. -/
theorem HR.reput (hE : E.Valid) (h : HR E w0 io s w M ok) {id : Nat} {b : Blk} (hb : s.hp id = some b) {k sh sz n N : Nat} (hm : M id = .at k sh sz n N)
    (ag : Bool) (sz' : Nat) (es : List AV) (pu : Bool) (sh' : Nat) (c : Array Value) (T : TypeId) (fr : Nat × Nat) (vs : List Value) (hcs : c.size = n) (hfr : ∀ o, o < n → ¬ (fr.1 ≤ o ∧ o < fr.2))
    (hl : Lay ag sz' es) (hv : RVs w ok (if pu then noφ else s.place M) (flat es) vs) (hc : ∀ (j : Nat) (v : Value), vs[j]? = some v → c[sh' + j]? = some v) :
    HLater E w0 io s w M ok (s.put id ag sz' es pu) { w with heap := w.heap.setIfInBounds k (.cells c T fr) } (upd M id (.at k sh' sz' n es.length)) ok := by
  have hk := h.block_lt hb hm
  have hlo := h.lo id b k sh sz n N hb hm
  have hok : ∀ j, ok j → j ≠ k := fun j hj he => (h.okb j hj).2 id b sh sz n N hb (he ▸ hm)
  have hmo : Mono w ok (s.place M) { w with heap := w.heap.setIfInBounds k (.cells c T fr) } ok ((s.put id ag sz' es pu).place (upd M id (.at k sh' sz' n es.length))) :=
    ⟨fun j hj => ⟨hj, heap_set_ne w k _ j (hok j hj)⟩, place_put s M id ag sz' es pu _ (fun b hb => by have := h.ver id b hb; omega)⟩
  refine ⟨⟨?_, ?_, ?_, ?_, ?_, ?_, ?_, h.os, h.output, h.tape, ?_⟩, hmo, fun k hk => .inl hk⟩
  · intro i b' hb'
    simp only [HS.put, upd] at hb'
    by_cases hi : i = id
    · rw [if_pos hi] at hb'
      simp at hb'; subst hb'
      simp only [upd, hi, if_true]
      refine ⟨rfl, rfl, hl, c, T, fr, vs, by simp [hk], hcs, hfr, ?_, hc⟩
      by_cases hp : pu
      · simp only [hp, if_true] at hv ⊢; exact hv.mono (noMono hmo)
      · simp only [hp, if_false, Bool.false_eq_true] at hv ⊢; exact hv.mono (by simpa [hp] using hmo)
    · rw [if_neg hi] at hb'
      have := h.blk i b' hb'
      simp only [upd, if_neg hi]
      refine this.mono hmo fun j s1 z1 n1 N1 hj => heap_set_ne w k _ j fun he => hi ?_
      exact h.inj i id b' b j _ _ _ _ _ _ _ _ hb' hb hj (he ▸ hm)
  · intro i b' hb'
    simp only [HS.put, upd] at hb' ⊢
    by_cases hi : i = id
    · rw [if_pos hi] at hb' ⊢; simp at hb'; subst hb'; subst hi; simp
    · rw [if_neg hi] at hb' ⊢; exact h.ver i b' hb'
  · intro i i' b1 b2 j s1 z1 n1 N1 s2 z2 n2 N2 hb1 hb2 hj hj'
    simp only [HS.put, upd] at hb1 hb2 hj hj'
    by_cases hi : i = id <;> by_cases hi' : i' = id
    · rw [hi, hi']
    · rw [if_pos hi] at hj; rw [if_neg hi'] at hb2 hj'
      simp at hj
      have := h.inj id i' b b2 j _ _ _ _ _ _ _ _ hb hb2 (hj.1 ▸ hm) hj'
      rw [hi, this]
    · rw [if_neg hi] at hb1 hj; rw [if_pos hi'] at hj'
      simp at hj'
      have := h.inj i id b1 b j _ _ _ _ _ _ _ _ hb1 hb hj (hj'.1 ▸ hm)
      rw [hi', this]
    · rw [if_neg hi] at hb1 hj; rw [if_neg hi'] at hb2 hj'
      exact h.inj i i' b1 b2 j _ _ _ _ _ _ _ _ hb1 hb2 hj hj'
  · intro i b' j s1 z1 n1 N1 hb' hj
    simp only [HS.put, upd] at hb' hj
    by_cases hi : i = id
    · rw [if_pos hi] at hj
      simp at hj
      rw [hi]; exact hj.1 ▸ hlo
    · rw [if_neg hi] at hb' hj; exact h.lo i b' j s1 z1 n1 N1 hb' hj
  · intro j hj
    obtain ⟨h1, h2⟩ := h.okb j hj
    refine ⟨by simpa using h1, fun i b' s1 z1 n1 N1 hb' => ?_⟩
    simp only [HS.put, upd] at hb' ⊢
    by_cases hi : i = id
    · rw [if_pos hi]; intro he; simp at he; exact hok j hj he.1.symm
    · rw [if_neg hi] at hb' ⊢; exact h2 i b' s1 z1 n1 N1 hb'
  · intro j hj hio
    show (w.heap.setIfInBounds k _)[j]? = _
    rw [heap_set_ne w k _ j]
    · exact h.frame j hj hio
    · intro he
      subst he
      rcases hlo.1 with h1 | h1
      · omega
      · exact hio h1.1
  · simpa using h.size
  · exact hE.stay w _ (fun j hj => heap_set_ne w k _ j (by omega)) (by simpa using hE.size w h.G) h.G

/-- A block of the call's own written, its name kept. -/
theorem HR.rewrite (hE : E.Valid) (h : HR E w0 io s w M ok) {id : Nat} {b : Blk} (hb : s.hp id = some b) {k sh sz n N : Nat} (hm : M id = .at k sh sz n N)
    (es : List AV) (hes : es.length = b.es.length) (c : Array Value) (T : TypeId) (fr : Nat × Nat) (vs : List Value) (hcs : c.size = n) (hfr : ∀ o, o < n → ¬ (fr.1 ≤ o ∧ o < fr.2))
    (hl : Lay b.ag b.sz es) (hv : RVs w ok (if b.pu then noφ else s.place M) (flat es) vs) (hc : ∀ (j : Nat) (v : Value), vs[j]? = some v → c[sh + j]? = some v) :
    HLater E w0 io s w M ok (s.set id b es) { w with heap := w.heap.setIfInBounds k (.cells c T fr) } M ok := by
  have hk := h.block_lt hb hm
  have hlo := h.lo id b k sh sz n N hb hm
  have hok : ∀ j, ok j → j ≠ k := fun j hj he => (h.okb j hj).2 id b sh sz n N hb (he ▸ hm)
  have hpl : (s.set id b es).place M = s.place M := by
    funext i v
    simp only [HS.place, HS.set, upd]
    by_cases hi : i = id
    · subst hi; simp only [hb, if_true]; rfl
    · simp only [if_neg hi]; rfl
  have hmo : Mono w ok (s.place M) { w with heap := w.heap.setIfInBounds k (.cells c T fr) } ok ((s.set id b es).place M) :=
    ⟨fun j hj => ⟨hj, heap_set_ne w k _ j (hok j hj)⟩, fun _ _ => by rw [hpl]; exact .inr (.inl rfl)⟩
  have hblk := h.blk id b hb
  rw [hm] at hblk
  have hbz := hblk.hsz
  have hbN := hblk.hN
  have hsome : ∀ i b', (s.set id b es).hp i = some b' → ∃ b'', s.hp i = some b'' ∧ b''.ver = b'.ver := by
    intro i b' hb'
    simp only [HS.set, upd] at hb'
    by_cases hi : i = id
    · rw [if_pos hi] at hb'; simp at hb'; subst hb'; subst hi; exact ⟨b, hb, rfl⟩
    · rw [if_neg hi] at hb'; exact ⟨b', hb', rfl⟩
  refine ⟨⟨?_, ?_, ?_, ?_, ?_, ?_, ?_, h.os, h.output, h.tape, ?_⟩, hmo, fun k hk => .inl hk⟩
  · intro i b' hb'
    simp only [HS.set, upd] at hb'
    by_cases hi : i = id
    · rw [if_pos hi] at hb'
      simp at hb'; subst hb'
      rw [hi, hm]
      refine ⟨hbz, by rw [hbN]; exact hes.symm, hl, c, T, fr, vs, by simp [hk], hcs, hfr, ?_, hc⟩
      by_cases hp : b.pu
      · simp only [hp, if_true] at hv ⊢; exact hv.mono (noMono hmo)
      · simp only [hp, if_false, Bool.false_eq_true] at hv ⊢; exact hv.mono hmo
    · rw [if_neg hi] at hb'
      have := h.blk i b' hb'
      refine this.mono hmo fun j s1 z1 n1 N1 hj => heap_set_ne w k _ j fun he => hi ?_
      exact h.inj i id b' b j _ _ _ _ _ _ _ _ hb' hb hj (he ▸ hm)
  · intro i b' hb'
    obtain ⟨b'', h1, h2⟩ := hsome i b' hb'
    rw [← h2]
    exact h.ver i b'' h1
  · intro i i' b1 b2 j s1 z1 n1 N1 s2 z2 n2 N2 hb1 hb2 hj hj'
    obtain ⟨_, h1, _⟩ := hsome i b1 hb1
    obtain ⟨_, h2, _⟩ := hsome i' b2 hb2
    exact h.inj i i' _ _ j _ _ _ _ _ _ _ _ h1 h2 hj hj'
  · intro i b' j s1 z1 n1 N1 hb' hj
    obtain ⟨_, h1, _⟩ := hsome i b' hb'
    exact h.lo i _ j s1 z1 n1 N1 h1 hj
  · intro j hj
    obtain ⟨h1, h2⟩ := h.okb j hj
    refine ⟨by simpa using h1, fun i b' s1 z1 n1 N1 hb' => ?_⟩
    obtain ⟨_, h3, _⟩ := hsome i b' hb'
    exact h2 i _ s1 z1 n1 N1 h3
  · intro j hj hio
    show (w.heap.setIfInBounds k _)[j]? = _
    rw [heap_set_ne w k _ j]
    · exact h.frame j hj hio
    · intro he
      subst he
      rcases hlo.1 with h1 | h1
      · omega
      · exact hio h1.1
  · simpa using h.size
  · exact hE.stay w _ (fun j hj => heap_set_ne w k _ j (by omega)) (by simpa using hE.size w h.G) h.G
end
end GoAbs
end

section
namespace GoAbs
open Go

section
variable {E : Env} {w0 : World} {io : Nat → Prop} {s : HS} {w : World} {M : Nat → Pl} {ok : Nat → Prop}

theorem run_loadVar_agg {P : Program} {t : TypeId} {i : TypeInfo} {d : TypeDesc} (hi : P.info? t = some i) (hd : P.underlying t = some d) (ha : aggD d = true) (b o : Nat) (us : List Value) (hl : us.length = i.size)
    (hc : ∀ (j : Nat) (u : Value), us[j]? = some u → w.cell? (ad b (o + j)) = some u) : (loadVar t (ad b o)).run P w = .ok (.agg us.toArray) w := by
  simp only [loadVar, Sem.run_bind, run_agg hd, Result.andThen_ok, ha, if_true, run_size hi]
  rw [← hl, run_loadCells_list w (ad b o) us (fun j v hj => by rw [ad_add]; exact hc j v hj)]
  rfl
theorem run_loadVar_one {P : Program} {t : TypeId} {d : TypeDesc} (hd : P.underlying t = some d) (ha : aggD d = false) (b o : Nat) (u : Value)
    (hc : w.cell? (ad b o) = some u) : (loadVar t (ad b o)).run P w = .ok u w := by
  simp only [loadVar, Sem.run_bind, run_agg hd, Result.andThen_ok, ha]
  simp [hc]

theorem loadEl_sound (hE : E.Valid) {φ : Place} {t : TypeId} {ti : TyI} (ht : E.tt t = some ti) {ag : Bool} {sz : Nat} {es : List AV} {i off b o : Nat} {v : AV} {vs : List Value} (hv : es[i]? = some v)
    (hlay : Lay ag sz es) (hvs : RVs w ok φ (flat es) vs) (hc : ∀ (j : Nat) (u : Value), vs[j]? = some u → w.cell? (ad b (o + j)) = some u) :
    Snd E w ok φ (loadEl ti ag sz off v) (loadVar t (ad b (o + i * sz + off))) := by
  obtain ⟨ii, d, z, T⟩ := hE.tyok ht
  have hmem : v ∈ es := List.mem_of_getElem? hv
  obtain ⟨⟨hva, hvl⟩, _⟩ := hlay v hmem
  -- the cells of the element
  have hcell : ∀ (j : Nat) (c : AV), v.cells[j]? = some c → ∃ u, w.cell? (ad b (o + i * sz + j)) = some u ∧ RV w ok φ c u := by
    intro j c hj
    have hjl : j < sz := by rw [← hvl]; exact (List.getElem?_eq_some_iff.1 hj).1
    obtain ⟨u, h1, h2⟩ := hvs.get (j := i * sz + j) (c := c) (by rw [flat_get hlay hv hjl]; exact hj)
    exact ⟨u, by rw [Nat.add_assoc]; exact hc _ u h1, h2⟩
  have hrow : ∀ (k m : Nat), k + m ≤ sz → ∃ us : List Value, us.length = m ∧ RVs w ok φ ((v.cells.drop k).take m) us ∧ ∀ (j : Nat) (u : Value), us[j]? = some u → w.cell? (ad b (o + i * sz + k + j)) = some u := by
    intro k m hkm
    refine ⟨(vs.drop (i * sz + k)).take m, ?_, ?_, ?_⟩
    · rw [List.length_take, List.length_drop, ← hvs.length, flat_len hlay]
      have : (i + 1) * sz ≤ es.length * sz := Nat.mul_le_mul_right _ (List.getElem?_eq_some_iff.1 hv).1
      rw [Nat.add_mul] at this
      omega
    · have h1 := (hvs.drop (i * sz + k)).take m
      have h2 : (v.cells.drop k).take m = ((flat es).drop (i * sz + k)).take m := by
        apply List.ext_getElem?
        intro j
        rw [List.getElem?_take, List.getElem?_take]
        split
        · rename_i hjm
          rw [List.getElem?_drop, List.getElem?_drop, Nat.add_assoc, flat_get hlay hv (by omega)]
        · rfl
      rw [h2]; exact h1
    · intro j u hj
      rw [List.getElem?_take] at hj
      split at hj
      · rw [List.getElem?_drop] at hj
        have := hc _ u hj
        rw [show o + i * sz + k + j = o + (i * sz + k + j) by omega]
        exact this
      · simp at hj
  unfold loadEl
  split
  · rename_i h
    obtain ⟨h1, h2, h3⟩ := h
    subst h3
    by_cases ha : aggD d = true
    · have : v.isAgg = true := by rw [hva, h1, T.ag, ha]
      obtain ⟨us, hu1, hu2, hu3⟩ := hrow 0 sz (by omega)
      cases v <;> simp [AV.isAgg] at this
      rename_i cs
      refine .ok (x := .agg us.toArray) ?_ (.agg _ _ _ ?_)
      · exact run_loadVar_agg T.info T.under ha b _ us (by rw [hu1, h2, T.sz]) hu3
      · simp only [AV.cells, List.drop_zero] at hu2
        simp only [AV.cells] at hvl
        rwa [← hvl, List.take_length] at hu2
    · have ha' : aggD d = false := by simpa using ha
      have : v.isAgg = false := by rw [hva, h1, T.ag, ha']
      have hcs : v.cells = [v] := by cases v <;> first | rfl | (simp [AV.isAgg] at this)
      obtain ⟨u, hu1, hu2⟩ := hcell 0 v (by simp [hcs])
      exact .ok (run_loadVar_one T.under ha' b _ u hu1) hu2
  · split
    · rename_i cs
      split
      · rename_i h
        obtain ⟨h, hz⟩ := h
        simp only [AV.cells] at hvl hcell hrow
        unfold partA
        by_cases ha : aggD d = true
        · rw [T.ag, if_pos ha]
          obtain ⟨us, hu1, hu2, hu3⟩ := hrow off ti.sz (by omega)
          exact .ok (x := .agg us.toArray) (run_loadVar_agg T.info T.under ha b _ us (by rw [hu1, T.sz]) hu3) (.agg _ _ _ hu2)
        · rw [T.ag, if_neg ha]
          split
          · rename_i c hcc
            obtain ⟨u, hu1, hu2⟩ := hcell off c hcc
            exact .ok (run_loadVar_one T.under (by simpa using ha) b _ u hu1) hu2
          · exact .fail
      · exact .fail
    · exact .fail

theorem place_at {id ver : Nat} {b : Blk} (hb : s.hp id = some b) (hv : b.ver = ver) : s.place M id ver = M id := by
  simp [HS.place, hb, hv]

theorem ref_at (h : HR E w0 io s w M ok) {id ver i off : Nat} {b : Blk} {vx : Value} (hb : s.hp id = some b) (hv : b.ver = ver) (hx : RV w ok (s.place M) (.ref id ver i off) vx) :
    ∃ k sh n N, M id = .at k sh b.sz n N ∧ BlkAt w ok (s.place M) b k sh b.sz n N ∧ vx = .pointer (some (ad k (sh + i * b.sz + off))) := by
  have hblk := h.blk id b hb
  cases hx with
  | ref_dead _ _ _ _ _ k o hd => rw [place_at hb hv] at hd; rw [hd] at hblk; exact hblk.elim
  | ref _ _ _ _ _ k sh sz n N hp =>
    rw [place_at hb hv] at hp
    rw [hp] at hblk
    have := hblk.hsz
    subst this
    exact ⟨k, sh, n, N, hp, hblk, rfl⟩

theorem BlkAt.cellsAt {φ : Place} {b : Blk} {k sh sz n N : Nat} (h : BlkAt w ok φ b k sh sz n N) :
    ∃ vs, RVs w ok φ (flat b.es) vs ∧ ∀ (j : Nat) (u : Value), vs[j]? = some u → w.cell? (ad k (sh + j)) = some u := by
  obtain ⟨_, _, _, c, T, fr, vs, h4, h5, h6, h7, h8⟩ := h
  refine ⟨vs, ?_, fun j u hj => ?_⟩
  · by_cases hp : b.pu
    · simp only [hp, if_true] at h7; exact h7.up
    · simpa only [hp, if_false, Bool.false_eq_true] using h7
  · simp [World.cell?, h4, h8 j u hj]

theorem loadA_sound (hE : E.Valid) (h : HR E w0 io s w M ok) (t : TypeId) {x : AV} {vx : Value} (hx : RV w ok (s.place M) x vx) :
    Snd E w ok (s.place M) (loadA E t x s) (Instr.loadAt t vx) := by
  unfold loadA
  simp only [Blk.frc_eq]
  have hload : ∀ (b o : Nat), (Instr.loadAt t (.pointer (some (ad b o)))).run E.P w = (loadVar t (ad b o)).run E.P w := by
    intro b o; simp only [Instr.loadAt, Instr.sureAddr, Sem.run_bind, Sem.run_pure, Result.andThen_ok]
  split
  · rename_i ti ag sz es i off ht
    cases hx with
    | eptr _ _ _ _ _ _ b o vs hok hlay hvs hc =>
      refine .look fun v hv K hk => ?_
      obtain ⟨a, x, h1, h2, h3⟩ := loadEl_sound hE ht hv hlay hvs.up hc K hk
      exact ⟨a, x, h1, by rw [hload]; exact h2, h3⟩
  · rename_i ti id ver i off ht
    split
    · rename_i b hb
      refine .need fun hver => ?_
      · obtain ⟨k, sh, n, N, h1, h2, rfl⟩ := ref_at h hb hver hx
        obtain ⟨vs, h3, h4⟩ := h2.cellsAt
        have key : ∀ v, b.es[i]? = some v → Snd E w ok (s.place M) (loadEl ti b.ag b.sz off v) (Instr.loadAt t (.pointer (some (ad k (sh + i * b.sz + off))))) := by
          intro v hv K hk
          obtain ⟨a, x, h1, h2, h3⟩ := loadEl_sound hE ht hv h2.lay h3 h4 K hk
          exact ⟨a, x, h1, by rw [hload]; exact h2, h3⟩
        split
        · exact .look key
        · split
          · rename_i v hv
            exact key v hv
          · exact .fail
    · exact .fail
  · exact .fail

/-- The blocks that may be read, and those of the call's own that p names. -/
def okB (p : Nat → Bool) (s : HS) (M : Nat → Pl) (ok : Nat → Prop) : Nat → Prop := fun k => ok k ∨ ∃ id b sh sz n N, p id = true ∧ s.hp id = some b ∧ M id = .at k sh sz n N

theorem fz_isAgg {p : Nat → Bool} {d : Nat} {e e' : AV} (h : fz p d s e = some e') : e'.isAgg = e.isAgg := by
  cases d with
  | zero => simp [fz] at h
  | succ d =>
    cases e <;> simp only [fz] at h <;> (repeat' split at h) <;> first | (simp at h; done) | (simp at h; subst h; rfl)
theorem fz_scalar {p : Nat → Bool} {d : Nat} {e e' : AV} (h : fz p d s e = some e') (hs : e.scalar = true) : e'.scalar = true := by
  cases d with
  | zero => simp [fz] at h
  | succ d =>
    cases e <;> simp only [fz] at h <;> (repeat' split at h) <;> first | (simp at h; done) | (simp at h; subst h; first | rfl | exact hs)
theorem mapO_all {f : AV → Option AV} {p : AV → Bool} (hf : ∀ a b, f a = some b → p a = true → p b = true) : ∀ {l m : List AV}, mapO f l = some m → l.all p = true → m.all p = true
  | [], m, h, _ => by simp [mapO] at h; subst h; rfl
  | a :: l, m, h, hp => by
    unfold mapO at h
    split at h
    · rename_i y ys h1 h2
      simp at h; subst h
      simp only [List.all_cons, Bool.and_eq_true] at hp ⊢
      exact ⟨hf a y h1 hp.1, mapO_all hf h2 hp.2⟩
    · simp at h
theorem fz_cells {p : Nat → Bool} {d : Nat} {e e' : AV} (h : fz p d s e = some e') (hs : e.cells.all AV.scalar = true) : e'.cells.all AV.scalar = true := by
  by_cases hg : e.isAgg = true
  · cases e <;> simp [AV.isAgg] at hg
    rename_i cs
    cases d with
    | zero => simp [fz] at h
    | succ d =>
      simp only [fz] at h
      split at h
      · rename_i l hl
        simp at h; subst h
        exact mapO_all (fun a b hab => fz_scalar hab) hl hs
      · simp at h
  · have h1 : e.cells = [e] := by cases e <;> first | rfl | (simp [AV.isAgg] at hg)
    have h2 : e'.cells = [e'] := by
      have : ¬ e'.isAgg = true := by rw [fz_isAgg h]; exact hg
      cases e' <;> first | rfl | (simp [AV.isAgg] at this)
    rw [h1] at hs
    rw [h2]
    simp only [List.all_cons, List.all_nil, Bool.and_true] at hs ⊢
    exact fz_scalar h hs
theorem fz_elem {φ φ' : Place} {ok' : Nat → Prop} {p : Nat → Bool} {d : Nat} (ih : ∀ {v v' : AV} {x : Value}, RV w ok φ v x → fz p d s v = some v' → RV w ok' φ' v' x) {e e' : AV} {us : List Value} (hu : RVs w ok φ e.cells us) (h : fz p d s e = some e') :
    RVs w ok' φ' e'.cells us ∧ e'.isAgg = e.isAgg ∧ e'.cells.length = e.cells.length := by
  have ha := fz_isAgg h
  by_cases hg : e.isAgg = true
  · cases e <;> simp [AV.isAgg] at hg
    rename_i cs
    have h1 := ih (.agg _ _ _ hu) h
    simp only [AV.isAgg] at ha
    cases e' <;> simp [AV.isAgg] at ha
    rename_i l
    obtain ⟨vs, h2, h3⟩ := agg_inv h1
    have : us = vs := by simpa using h2
    subst this
    exact ⟨h3, rfl, by simp only [AV.cells]; rw [h3.length]; simpa [AV.cells] using hu.length.symm⟩
  · have h1 : e.cells = [e] := by cases e <;> first | rfl | (simp [AV.isAgg] at hg)
    have h2 : e'.cells = [e'] := by
      have : ¬ e'.isAgg = true := by rw [ha]; exact hg
      cases e' <;> first | rfl | (simp [AV.isAgg] at this)
    rw [h1] at hu
    rw [h1, h2]
    cases hu with
    | cons _ _ u _ _ hv ht => cases ht; exact ⟨.cons _ _ _ _ _ (ih hv h) (.nil _), ha, rfl⟩
theorem fz_flat {φ φ' : Place} {ok' : Nat → Prop} {p : Nat → Bool} {d : Nat} (ih : ∀ {v v' : AV} {x : Value}, RV w ok φ v x → fz p d s v = some v' → RV w ok' φ' v' x) {ag : Bool} {sz : Nat} : ∀ {es es' : List AV} {vs : List Value}, Lay ag sz es → RVs w ok φ (flat es) vs →
    mapO (fz p d s) es = some es' → RVs w ok' φ' (flat es') vs ∧ Lay ag sz es' ∧ es'.length = es.length
  | [], es', vs, hl, hv, hm => by
    simp [mapO] at hm; subst hm
    rw [flat_nil] at hv ⊢
    cases hv
    exact ⟨.nil _, hl, rfl⟩
  | e :: es, es', vs, hl, hv, hm => by
    unfold mapO at hm
    split at hm
    · rename_i y ys h1 h2
      simp at hm; subst hm
      rw [flat_cons] at hv
      obtain ⟨ha, hb⟩ := hv.split
      obtain ⟨pp, q, r⟩ := fz_elem ih ha h1
      obtain ⟨p', q', r'⟩ := fz_flat ih hl.cons.2 hb h2
      rw [flat_cons]
      refine ⟨?_, ?_, by simp [r']⟩
      · have := pp.append p'
        rwa [List.take_append_drop] at this
      · intro x hx
        rcases List.mem_cons.1 hx with rfl | hx
        · exact ⟨⟨by rw [q]; exact hl.cons.1.1, by rw [r]; exact hl.cons.1.2⟩, fz_cells h1 (hl e (by simp)).2⟩
        · exact q' x hx
    · simp at hm

theorem fz_sound (p : Nat → Bool) (h : HR E w0 io s w M ok) : ∀ (d : Nat) {v v' : AV} {x : Value}, RV w ok (s.place M) v x → fz p d s v = some v' → RV w (okB p s M ok) noφ v' x := by
  have hup : ∀ {v x}, RV w ok noφ v x → RV w (okB p s M ok) noφ v x := fun h => h.mono ⟨fun _ h => ⟨.inl h, rfl⟩, fun _ _ => .inl rfl⟩
  have hups : ∀ {v x}, RVs w ok noφ v x → RVs w (okB p s M ok) noφ v x := fun h => h.mono ⟨fun _ h => ⟨.inl h, rfl⟩, fun _ _ => .inl rfl⟩
  intro d
  induction d with
  | zero => intro v v' x hx hf; simp [fz] at hf
  | succ d ih =>
    have ihs : ∀ {l m : List AV} {xs : List Value}, RVs w ok (s.place M) l xs → mapO (fz p d s) l = some m → RVs w (okB p s M ok) noφ m xs := by
      intro l m xs hx hm
      exact mapO_RVs hm hx fun a _ b x hf hr => ih hr hf
    -- a block's elements
    have blk : ∀ {id : Nat} {b : Blk} {k sh n N : Nat} {es : List AV}, s.hp id = some b → p id = true → M id = .at k sh b.sz n N → (b.pu = true ∧ es = b.es ∨ b.pu = false ∧ mapO (fz p d s) b.es = some es) →
        okB p s M ok k ∧ Lay b.ag b.sz es ∧ es.length = b.es.length ∧ N = b.es.length ∧ ∃ vs, RVs w (okB p s M ok) noφ (flat es) vs ∧ ∀ (j : Nat) (u : Value), vs[j]? = some u → w.cell? (ad k (sh + j)) = some u := by
      intro id b k sh n N es hb hpi hm hes
      have hat := h.blk id b hb
      rw [hm] at hat
      have hcell : ∀ {c : Array Value} {T : TypeId} {fr : Nat × Nat} {vs : List Value}, w.heap[k]? = some (.cells c T fr) → (∀ (j : Nat) (v : Value), vs[j]? = some v → c[sh + j]? = some v) → ∀ (j : Nat) (u : Value), vs[j]? = some u → w.cell? (ad k (sh + j)) = some u := by
        intro c T fr vs h4 h8 j u hj
        simp [World.cell?, h4, h8 j u hj]
      refine ⟨.inr ⟨id, b, sh, b.sz, n, N, hpi, hb, hm⟩, ?_⟩
      obtain ⟨_, hN, hlay, c, T, fr, vs, h4, h5, h6, h7, h8⟩ := hat
      rcases hes with ⟨hp, rfl⟩ | ⟨hp, hes⟩
      · simp only [hp, if_true] at h7
        exact ⟨hlay, rfl, hN, vs, hups h7, hcell h4 h8⟩
      · simp only [hp, if_false, Bool.false_eq_true] at h7
        obtain ⟨pp, q, r⟩ := fz_flat (fun hv hf => ih hv hf) hlay h7 hes
        exact ⟨q, r, hN, vs, pp, hcell h4 h8⟩
    have dead : ∀ {id ver : Nat} {b : Blk}, s.hp id = some b → b.ver = ver → s.place M id ver = .dead → False := by
      intro id ver b hb hv hd
      rw [place_at hb hv] at hd
      have := h.blk id b hb
      rw [hd] at this
      exact this
    intro v v' x hx hf
    cases hx with
    | any => simp [fz] at hf; subst hf; exact .any _ _
    | kt => simp [fz] at hf; subst hf; exact .kt _
    | kf => simp [fz] at hf; subst hf; exact .kf _
    | int => simp [fz] at hf; subst hf; exact .int _ _ _
    | bool => simp [fz] at hf; subst hf; exact .bool _ _
    | str => simp [fz] at hf; subst hf; exact .str _ _
    | nils => simp [fz] at hf; subst hf; exact .nils _
    | cap0 => simp [fz] at hf; subst hf; exact .cap0 _ _
    | imm0 => simp [fz] at hf; subst hf; exact .imm0 _ _ _ _ _
    | imm _ _ _ _ b o cap vs hok hlay hvs hc hcap => simp [fz] at hf; subst hf; exact .imm _ _ _ _ _ _ _ vs (.inl hok) hlay (hups hvs) hc hcap
    | nilp => simp [fz] at hf; subst hf; exact .nilp _
    | eptr _ _ _ _ _ _ b o vs hok hlay hvs hc => simp [fz] at hf; subst hf; exact .eptr _ _ _ _ _ _ _ _ vs (.inl hok) hlay (hups hvs) hc
    | nilf => simp [fz] at hf; subst hf; exact .nilf _
    | nili => simp [fz] at hf; subst hf; exact .nili _
    | agg _ cs vs hv =>
      simp only [fz] at hf
      split at hf
      · rename_i l hl; simp at hf; subst hf; exact .agg _ _ _ (ihs hv hl)
      · simp at hf
    | tup _ cs vs hv =>
      simp only [fz] at hf
      split at hf
      · rename_i l hl; simp at hf; subst hf; exact .tup _ _ _ (ihs hv hl)
      · simp at hf
    | fn _ f a b va vb h1 h2 =>
      simp only [fz] at hf
      split at hf
      · rename_i x y hx hy; simp at hf; subst hf; exact .fn _ _ _ _ _ _ (ihs h1 hx) (ihs h2 hy)
      · simp at hf
    | iface _ t v x hv =>
      simp only [fz] at hf
      split at hf
      · rename_i y hy; simp at hf; subst hf; exact .iface _ _ _ _ (ih hv hy)
      · simp at hf
    | own_dead _ id ver sz off len a cap hd hl ha =>
      simp only [fz] at hf
      split at hf
      · rename_i b hb
        split at hf
        · rename_i hv; exact (dead hb hv.1 hd).elim
        · simp at hf
      · simp at hf
    | ref_dead _ id ver i off b o hd =>
      simp only [fz] at hf
      split at hf
      · rename_i b hb
        split at hf
        · rename_i hv; exact (dead hb hv.1 hd).elim
        · simp at hf
      · simp at hf
    | own_virt _ id ver sz a hp =>
      simp only [fz] at hf
      (repeat' split at hf) <;> first | (simp at hf; done) | (simp at hf; subst hf; exact .imm0 _ _ _ _ _)
    | own_nil _ id ver off a b sh sz n N hp hN =>
      simp only [fz] at hf
      (repeat' split at hf) <;> first | (simp at hf; done) | (simp at hf; subst hf; exact .imm0 _ _ _ _ _)
    | own _ id ver off len cap k sh sz n N hp hlen hcap hN =>
      simp only [fz] at hf
      split at hf
      · rename_i b hb
        split at hf
        · rename_i hv
          obtain ⟨hv, hpi⟩ := hv
          rw [place_at hb hv] at hp
          have hbz : sz = b.sz := by have := h.blk id b hb; rw [hp] at this; exact this.hsz
          subst hbz
          have fin : ∀ {es}, (b.pu = true ∧ es = b.es ∨ b.pu = false ∧ mapO (fz p d s) b.es = some es) → RV w (okB p s M ok) noφ (.imm b.ag b.sz ((es.drop off).take len)) (.slice (some (ad k (sh + off * b.sz))) len cap) := by
            intro es hes
            obtain ⟨h1, h2, h3, h4, vs, h5, h6⟩ := blk hb hpi hp hes
            have hl : len = ((es.drop off).take len).length := by rw [List.length_take, List.length_drop]; omega
            have := RV.imm (w := w) (ok := okB p s M ok) noφ b.ag b.sz ((es.drop off).take len) k (sh + off * b.sz) cap ((vs.drop (off * b.sz)).take (len * b.sz)) h1 ((h2.drop _).take _)
              (by rw [flat_take (h2.drop _), flat_drop h2]; exact (h5.drop _).take _)
              (fun j u hj => by
                rw [List.getElem?_take] at hj
                split at hj
                · rw [List.getElem?_drop] at hj
                  rw [Nat.add_assoc]
                  exact h6 _ u hj
                · simp at hj) (by omega)
            rwa [← hl] at this
          split at hf
          · rename_i hpu; simp at hf; subst hf; exact fin (.inl ⟨hpu, rfl⟩)
          · rename_i hpu
            split at hf
            · rename_i es hes; simp at hf; subst hf; exact fin (.inr ⟨by simpa using hpu, hes⟩)
            · simp at hf
        · simp at hf
      · simp at hf
    | ref _ id ver i off k sh sz n N hp =>
      simp only [fz] at hf
      split at hf
      · rename_i b hb
        split at hf
        · rename_i hv
          obtain ⟨hv, hpi⟩ := hv
          rw [place_at hb hv] at hp
          have hbz : sz = b.sz := by have := h.blk id b hb; rw [hp] at this; exact this.hsz
          subst hbz
          have fin : ∀ {es}, (b.pu = true ∧ es = b.es ∨ b.pu = false ∧ mapO (fz p d s) b.es = some es) → RV w (okB p s M ok) noφ (.eptr b.ag b.sz es i off) (.pointer (some (ad k (sh + i * b.sz + off)))) := by
            intro es hes
            obtain ⟨h1, h2, h3, h4, vs, h5, h6⟩ := blk hb hpi hp hes
            exact .eptr _ _ _ _ _ _ k sh vs h1 h2 h5 h6
          split at hf
          · rename_i hpu; simp at hf; subst hf; exact fin (.inl ⟨hpu, rfl⟩)
          · rename_i hpu
            split at hf
            · rename_i es hes; simp at hf; subst hf; exact fin (.inr ⟨by simpa using hpu, hes⟩)
            · simp at hf
        · simp at hf
      · simp at hf

end
end GoAbs
end
