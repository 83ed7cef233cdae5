/- Calls, and operations that write. Operations that make or write blocks. Slice literals and append; all operations that write. append; one operation, whatever it is. -/
import Derived.Test.YtjafmphhnclfjaaDoorAbsI
set_option linter.all false
section
namespace GoAbs
open Go

section
variable {w w' : World} {ok ok' : Nat → Prop} {φ φ' : Place}
mutual
theorem RV.dry : ∀ {v : AV} {x : Value}, v.dry = true → RV w ok φ v x → RV w' ok' φ' v x
  | _, _, _, .any _ _ => .any _ _
  | _, _, _, .kt _ => .kt _
  | _, _, _, .kf _ => .kf _
  | _, _, _, .int _ _ _ => .int _ _ _
  | _, _, _, .bool _ _ => .bool _ _
  | _, _, _, .str _ _ => .str _ _
  | _, _, _, .nils _ => .nils _
  | _, _, _, .cap0 _ _ => .cap0 _ _
  | _, _, p, .imm0 _ _ _ _ _ => by simp [AV.dry] at p
  | _, _, p, .imm _ _ _ _ _ _ _ _ _ _ _ _ _ => by simp [AV.dry] at p
  | _, _, p, .own_dead _ _ _ _ _ _ _ _ _ _ _ => by simp [AV.dry] at p
  | _, _, p, .own_virt _ _ _ _ _ _ => by simp [AV.dry] at p
  | _, _, p, .own_nil _ _ _ _ _ _ _ _ _ _ _ _ => by simp [AV.dry] at p
  | _, _, p, .own _ _ _ _ _ _ _ _ _ _ _ _ _ _ _ => by simp [AV.dry] at p
  | _, _, _, .nilp _ => .nilp _
  | _, _, p, .ref_dead _ _ _ _ _ _ _ _ => by simp [AV.dry] at p
  | _, _, p, .ref _ _ _ _ _ _ _ _ _ _ _ => by simp [AV.dry] at p
  | _, _, p, .eptr _ _ _ _ _ _ _ _ _ _ _ _ _ => by simp [AV.dry] at p
  | _, _, p, .agg _ _ _ h => .agg _ _ _ (RVs.dry (by simpa [AV.dry] using p) h)
  | _, _, p, .tup _ _ _ h => .tup _ _ _ (RVs.dry (by simpa [AV.dry] using p) h)
  | _, _, p, .fn _ _ _ _ _ _ _ _ => by simp [AV.dry] at p
  | _, _, _, .nilf _ => .nilf _
  | _, _, _, .nili _ => .nili _
  | _, _, p, .iface _ _ _ _ h => .iface _ _ _ _ (RV.dry (by simpa [AV.dry] using p) h)
theorem RVs.dry : ∀ {v : List AV} {x : List Value}, dryL v = true → RVs w ok φ v x → RVs w' ok' φ' v x
  | _, _, _, .nil _ => .nil _
  | _, _, p, .cons _ _ _ _ _ h t => by
    simp [dryL] at p
    exact .cons _ _ _ _ _ (RV.dry p.1 h) (RVs.dry p.2 t)
end
end

section
variable {E : Env} {w0 : World} {io : Nat → Prop} {s : HS} {w : World} {M : Nat → Pl} {ok : Nat → Prop}

theorem place_nil (M : Nat → Pl) : (hsOf []).place M = noφ := by
  funext i v
  simp [HS.place, hsOf, ioGet, noφ]

theorem HR.nil (h : HR E w0 io s w M ok) (M1 : Nat → Pl) (ok1 : Nat → Prop) (h1 : ∀ k, ok1 k → k < w.heap.size) : HR E w (ioOf [] M1) (hsOf []) w M1 ok1 :=
  { blk := fun id b hb => by simp [hsOf, ioGet] at hb
    ver := fun id b hb => by simp [hsOf, ioGet] at hb
    inj := fun id id' b b' k _ _ _ _ _ _ _ _ hb => by simp [hsOf, ioGet] at hb
    lo := fun id b k _ _ _ _ hb => by simp [hsOf, ioGet] at hb
    okb := fun k hk => ⟨h1 k hk, fun id b _ _ _ _ hb => by simp [hsOf, ioGet] at hb⟩
    frame := fun _ _ _ => rfl
    size := Nat.le_refl _
    os := rfl
    output := rfl
    tape := rfl
    G := h.G }

/-- A call that writes nothing that was there: what it leaves. -/
theorem HR.carry (h : HR E w0 io s w M ok) {w' : World} {M1 M2 : Nat → Pl} {ok1 ok2 : Nat → Prop} (_h1 : ∀ k, ok k → ok1 k) (hl : HLater E w (ioOf [] M1) (hsOf []) w M1 ok1 (hsOf []) w' M2 ok2) :
    HLater E w0 io s w M ok s w' M (fun k => ok k ∨ (ok2 k ∧ w.heap.size ≤ k)) := by
  have hfr : ∀ k, k < w.heap.size → w'.heap[k]? = w.heap[k]? := fun k hk => hl.hr.frame k hk (by simp [ioOf, ioGet])
  have hm : Mono w ok (s.place M) w' (fun k => ok k ∨ (ok2 k ∧ w.heap.size ≤ k)) (s.place M) := ⟨fun k hk => ⟨.inl hk, hfr k (h.okb k hk).1⟩, fun _ _ => .inr (.inl rfl)⟩
  refine ⟨⟨?_, h.ver, h.inj, h.lo, ?_, ?_, ?_, ?_, ?_, ?_, hl.hr.G⟩, hm, ?_⟩
  · intro id b hb
    exact (h.blk id b hb).mono hm fun k sh sz n N hk => hfr k (h.block_lt hb hk)
  · intro k hk
    rcases hk with hk | ⟨hk, hk2⟩
    · exact ⟨Nat.lt_of_lt_of_le (h.okb k hk).1 hl.hr.size, (h.okb k hk).2⟩
    · exact ⟨(hl.hr.okb k hk).1, fun id b sh sz n N hb he => by have := h.block_lt hb he; omega⟩
  · intro k hk hio
    rw [hfr k (Nat.lt_of_lt_of_le hk h.size)]
    exact h.frame k hk hio
  · exact Nat.le_trans h.size hl.hr.size
  · exact hl.hr.os.trans h.os
  · exact hl.hr.output.trans h.output
  · exact hl.hr.tape.trans h.tape
  · intro k hk
    rcases hk with hk | ⟨_, hk⟩
    · exact .inl hk
    · exact .inr (Nat.le_trans h.size hk)

theorem call_run {P : Program} {c : Call} {ρ : Operand → Value} {f : Operand} {g : FuncId} {first cap : Array Value} (hc : c.callee = .value f) (hf : ρ f = .func (.func g) first cap) (dst : Option Tmp) (ty : TypeId) (pos : String) (after : Array Edge) (guard : Option (Nat × Bool)) :
    (execOp ρ ⟨dst, .call c, ty, pos, after, guard⟩).run P w = (callFunc g (first ++ c.args.map ρ ++ cap)).run P w := by
  simp only [execOp, resolve, hc, Deferred.ofValue, hf, Sem.run_bind, Sem.run_pure, Result.andThen_ok, invoke]

theorem calleeA_sound {φ : Place} {c : Call} {ρA : Operand → AV} {ρ : Operand → Value} (hρ : ∀ x, RV w ok φ (ρA x) (ρ x)) {g : FuncId} {as : List AV} (h : calleeA ρA c = some (g, as)) :
    ∃ vals : List Value, RVs w ok φ as vals ∧ ∀ (dst : Option Tmp) (ty : TypeId) (pos : String) (after : Array Edge) (guard : Option (Nat × Bool)), (execOp ρ ⟨dst, .call c, ty, pos, after, guard⟩).run E.P w = (callFunc g vals.toArray).run E.P w := by
  unfold calleeA at h
  split at h
  · rename_i f hc
    split at h
    · rename_i g' first cap hf
      simp at h
      obtain ⟨rfl, rfl⟩ := h
      have hx := hρ f
      rw [hf] at hx
      generalize hv : ρ f = fv at hx
      cases hx with
      | fn _ _ _ _ va vb h1 h2 =>
        refine ⟨va ++ (c.args.toList.map ρ ++ vb), h1.append ((RVs_map hρ).append h2), fun dst ty pos after guard => ?_⟩
        rw [call_run hc hv]
        congr 1
        congr 1
        apply Array.ext'
        simp
    · simp at h
  · simp at h

theorem callA_sound (h : HR E w0 io s w M ok) (c : Call) {ρA : Operand → AV} {ρ : Operand → Value} (hρ : ∀ x, RV w ok (s.place M) (ρA x) (ρ x)) {K : AV → Prop} (hk : (callA ρA c s).run E K)
    (dst : Option Tmp) (ty : TypeId) (pos : String) (after : Array Edge) (guard : Option (Nat × Bool)) :
    UponV E.P ((execOp ρ ⟨dst, .call c, ty, pos, after, guard⟩).run E.P w) fun x w' => ∃ v M' ok', K v ∧ HLater E w0 io s w M ok s w' M' ok' ∧ RV w' ok' (s.place M') v x := by
  unfold callA at hk
  split at hk
  · rename_i g as hc
    obtain ⟨vals, hv, hrun⟩ := calleeA_sound (E := E) hρ hc
    rw [hrun]
    split at hk
    · rename_i hp
      obtain ⟨r, hct, hk⟩ := hk
      have := hct w vals M ok (h.nil M ok fun k hk => (h.okb k hk).1) (by rw [place_nil]; exact hv.pure' hp)
      refine UponV.mono this fun x w' ⟨M', ok', hl, hr⟩ => ?_
      refine ⟨r, M, _, hk, h.carry (fun k hk => hk) hl, ?_⟩
      rw [place_nil] at hr
      refine hr.mono ⟨fun k hk => ⟨?_, rfl⟩, fun _ _ => .inl rfl⟩
      rcases hl.new k hk with h1 | h1
      · exact .inl h1
      · exact .inr ⟨hk, h1⟩
    · obtain ⟨bs, s1, hb, hk⟩ := hk
      rw [Option.map_eq_some_iff] at hb
      obtain ⟨bs', hb, he⟩ := hb
      simp only [Prod.mk.injEq] at he
      obtain ⟨rfl, rfl⟩ := he
      · obtain ⟨r, hct, hd, hk⟩ := hk
        have hfz : RVs w (okB (fun _ => true) s M ok) noφ bs' vals := mapO_RVs hb hv fun a _ b x hf hr => fz_sound _ h 4 hr hf
        have := hct w vals M (okB (fun _ => true) s M ok) (h.nil M _ fun k hk => by
          rcases hk with hk | ⟨id, b, sh, sz, n, N, _, hb, hm⟩
          · exact (h.okb k hk).1
          · exact h.block_lt hb hm) (by rw [place_nil]; exact hfz)
        refine UponV.mono this fun x w' ⟨M', ok', hl, hr⟩ => ?_
        exact ⟨r, M, _, hk, h.carry (fun k hk => .inl hk) hl, hr.dry hd⟩
  · exact hk.elim

theorem thaw0_own (s : HS) (ids : List Nat) (id ver sz off len : Nat) : thaw0 s ids (.own id ver sz off len) = .own id ver sz off len ∨
    ∃ b, ids.contains id = true ∧ s.hp id = some b ∧ b.ver = ver ∧ b.pu = true ∧ thaw0 s ids (.own id ver sz off len) = .imm b.ag b.sz ((b.es.drop off).take len) := by
  by_cases hc : ids.contains id = true
  · cases hb : s.hp id with
    | none => left; simp only [thaw0, hb, hc, if_true]
    | some b =>
      by_cases hv : b.ver = ver ∧ b.pu = true
      · right
        refine ⟨b, hc, rfl, hv.1, hv.2, ?_⟩
        simp only [thaw0, hb, hc, if_true, hv.1, hv.2, and_self]
      · left
        simp only [thaw0, hb, hc, if_true]
        rw [if_neg hv]
  · left
    simp only [thaw0]
    rw [if_neg hc]
theorem thaw0_cells (s : HS) (ids : List Nat) (v : AV) : (thaw0 s ids v).isAgg = v.isAgg ∧ (thaw0 s ids v).cells.length = v.cells.length ∧ (thaw0 s ids v).scalar = v.scalar := by
  cases v <;> try exact ⟨rfl, rfl, rfl⟩
  rename_i id ver sz off len
  rcases thaw0_own s ids id ver sz off len with h | ⟨b, _, _, _, _, h⟩ <;> rw [h] <;> exact ⟨rfl, rfl, rfl⟩
theorem thaw_cells (s : HS) (ids : List Nat) (v : AV) : (thaw s ids v).isAgg = v.isAgg ∧ (thaw s ids v).cells = v.cells.map (thaw0 s ids) := by
  cases v with
  | agg cs => exact ⟨rfl, rfl⟩
  | own id ver sz off len =>
    have e : thaw s ids (.own id ver sz off len) = thaw0 s ids (.own id ver sz off len) := rfl
    rw [e]
    show _ ∧ _ = [thaw0 s ids (.own id ver sz off len)]
    rcases thaw0_own s ids id ver sz off len with h | ⟨b, _, _, _, _, h⟩ <;> rw [h] <;> exact ⟨rfl, rfl⟩
  | _ => exact ⟨rfl, rfl⟩
theorem flat_thaw (s : HS) (ids : List Nat) (es : List AV) : flat (es.map (thaw s ids)) = (flat es).map (thaw0 s ids) := by
  induction es with
  | nil => rfl
  | cons e es ih =>
    rw [List.map_cons, flat_cons, flat_cons, List.map_append, (thaw_cells s ids e).2, ih]
theorem thawB_ver (s : HS) (ids : List Nat) (b : Blk) : (thawB s ids b).ver = b.ver := by cases b; rfl

/-- Blocks that are never written again: what may be read is more by them. -/
theorem HR.kill (h : HR E w0 io s w M ok) (ids : List Nat) (hl : localIds ids = true) : HLater E w0 io s w M ok (s.kill ids) w M (okB (fun i => ids.contains i) s M ok) := by
  have hsome : ∀ id b, (s.kill ids).hp id = some b → ∃ b0, s.hp id = some b0 ∧ b = thawB s ids b0 ∧ ids.contains id = false := by
    intro id b hb
    simp only [HS.kill] at hb
    split at hb
    · simp at hb
    · rename_i hc
      split at hb
      · rename_i b0 h0
        simp at hb
        exact ⟨b0, h0, hb.symm, by simpa using hc⟩
      · simp at hb
  have hm : Mono w ok (s.place M) w (okB (fun i => ids.contains i) s M ok) ((s.kill ids).place M) := by
    refine ⟨fun k hk => ⟨.inl hk, rfl⟩, fun id v => ?_⟩
    by_cases hc : ids.contains id = true
    · simp only [HS.place, HS.kill, hc, if_true]
      by_cases hv : v < s.vr id
      · right; right; exact if_pos hv
      · left
        cases hb : s.hp id with
        | none => exact if_neg hv
        | some b =>
          have := h.ver id b hb
          exact (if_neg (by omega)).trans (if_neg hv)
    · right; left
      have hc' : ids.contains id = false := by simpa using hc
      simp only [HS.place, HS.kill, hc', Bool.false_eq_true, if_false]
      cases hb : s.hp id with
      | none => rfl
      | some b => simp only [thawB_ver, hb]; rfl
  have ht : ∀ {v : AV} {x : Value}, RV w ok (s.place M) v x → RV w (okB (fun i => ids.contains i) s M ok) ((s.kill ids).place M) (thaw0 s ids v) x := by
    intro v x hx
    cases v with
    | own id ver sz off len =>
      rcases thaw0_own s ids id ver sz off len with he | ⟨b, hc, hb, hv, hp, he⟩
      · rw [he]; exact hx.mono hm
      · rw [he]
        exact (fz_sound (fun i => ids.contains i) h 1 hx (by simp only [fz, hb, hv, hp, hc, and_self, if_true])).up
    | _ => exact hx.mono hm
  have hts : ∀ {vs : List AV} {xs : List Value}, RVs w ok (s.place M) vs xs → RVs w (okB (fun i => ids.contains i) s M ok) ((s.kill ids).place M) (vs.map (thaw0 s ids)) xs := by
    intro vs
    induction vs with
    | nil => intro xs hx; cases hx; exact .nil _
    | cons v vs ih =>
      intro xs hx
      cases hx with
      | cons _ _ x _ xs h1 t1 => exact .cons _ _ _ _ _ (ht h1) (ih t1)
  refine ⟨⟨?_, ?_, ?_, ?_, ?_, h.frame, h.size, h.os, h.output, h.tape, h.G⟩, hm, ?_⟩
  · intro id b hb
    obtain ⟨b0, h0, rfl, _⟩ := hsome id b hb
    have hblk := h.blk id b0 h0
    obtain ⟨ag, sz, es, ver, pu⟩ := b0
    cases pu with
    | true => exact hblk.mono hm fun _ _ _ _ _ _ => rfl
    | false =>
      generalize M id = p at hblk
      cases p with
      | bad => exact hblk
      | dead => exact hblk
      | virt =>
        have : es = [] := hblk
        subst this
        rfl
      | «at» k sh sz' n N =>
        obtain ⟨h1, h2, h3, c, T, fr, vs, h4, h5, h6, h7, h8⟩ := hblk
        refine ⟨h1, by simpa [thawB] using h2, ?_, c, T, fr, vs, h4, h5, h6, ?_, h8⟩
        · intro e he
          simp only [thawB, Bool.false_eq_true, if_false, List.mem_map] at he
          obtain ⟨e0, he0, rfl⟩ := he
          obtain ⟨⟨a1, a2⟩, a3⟩ := h3 e0 he0
          obtain ⟨b1, b2⟩ := thaw_cells s ids e0
          refine ⟨⟨b1.trans a1, by rw [b2, List.length_map]; exact a2⟩, ?_⟩
          rw [b2, List.all_map]
          rw [List.all_eq_true] at a3 ⊢
          intro x hx
          exact (thaw0_cells s ids x).2.2.trans (a3 x hx)
        · simp only [thawB, Bool.false_eq_true, if_false] at h7 ⊢
          rw [flat_thaw s ids]
          exact hts h7
  · intro id b hb
    obtain ⟨b0, h0, rfl, _⟩ := hsome id b hb
    rw [thawB_ver]
    exact h.ver id b0 h0
  · intro id id' b b' k _ _ _ _ _ _ _ _ hb hb'
    obtain ⟨b0, h0, _, _⟩ := hsome _ _ hb
    obtain ⟨b1, h1, _, _⟩ := hsome _ _ hb'
    exact h.inj id id' b0 b1 k _ _ _ _ _ _ _ _ h0 h1
  · intro id b k _ _ _ _ hb
    obtain ⟨b0, h0, _, _⟩ := hsome _ _ hb
    exact h.lo id b0 k _ _ _ _ h0
  · intro k hk
    rcases hk with hk | ⟨id, b, sh, sz, n, N, hc, hb, hmk⟩
    · refine ⟨(h.okb k hk).1, fun id b sh sz n N hb => ?_⟩
      obtain ⟨b0, h0, _, _⟩ := hsome _ _ hb
      exact (h.okb k hk).2 id b0 sh sz n N h0
    · refine ⟨h.block_lt hb hmk, fun id' b' sh' sz' n' N' hb' hm' => ?_⟩
      obtain ⟨b0, h1, _, h2⟩ := hsome _ _ hb'
      have := h.inj id id' b b0 k _ _ _ _ _ _ _ _ hb h1 hmk hm'
      subst this
      simp at hc h2
      exact h2 hc
  · intro k hk
    rcases hk with hk | ⟨id, b, sh, sz, n, N, hc, hb, hmk⟩
    · exact .inl hk
    · right
      rcases (h.lo id b k _ _ _ _ hb hmk).1 with h1 | h1
      · exact h1
      · exfalso
        have := List.all_eq_true.1 hl id (by simpa using hc)
        simp [Nat.blt_eq] at this
        omega

theorem thaw0_sound (h : HR E w0 io s w M ok) (ids : List Nat) (hl : localIds ids = true) {v : AV} {x : Value} (hx : RV w ok (s.place M) v x) : RV w (okB (fun i => ids.contains i) s M ok) ((s.kill ids).place M) (thaw0 s ids v) x := by
  have hm := (h.kill ids hl).mono
  cases v with
  | own id ver sz off len =>
    rcases thaw0_own s ids id ver sz off len with he | ⟨b, hc, hb, hv, hp, he⟩
    · rw [he]; exact hx.mono hm
    · rw [he]
      exact (fz_sound (fun i => ids.contains i) h 1 hx (by simp only [fz, hb, hv, hp, hc, and_self, if_true])).up
  | _ => exact hx.mono hm
theorem thaw0s_sound (h : HR E w0 io s w M ok) (ids : List Nat) (hl : localIds ids = true) : ∀ {vs : List AV} {xs : List Value}, RVs w ok (s.place M) vs xs → RVs w (okB (fun i => ids.contains i) s M ok) ((s.kill ids).place M) (vs.map (thaw0 s ids)) xs
  | [], _, hx => by cases hx; exact .nil _
  | v :: vs, _, hx => by
    cases hx with
    | cons _ _ x _ xs h1 t1 => exact .cons _ _ _ _ _ (thaw0_sound h ids hl h1) (thaw0s_sound h ids hl t1)
theorem thaw_sound (h : HR E w0 io s w M ok) (ids : List Nat) (hl : localIds ids = true) {v : AV} {x : Value} (hx : RV w ok (s.place M) v x) : RV w (okB (fun i => ids.contains i) s M ok) ((s.kill ids).place M) (thaw s ids v) x := by
  cases v with
  | agg cs => cases hx with | agg _ _ xs h1 => exact .agg _ _ _ (thaw0s_sound h ids hl h1)
  | _ => exact thaw0_sound h ids hl hx

/- A call that may write the blocks that it is handed. -/
theorem posOf_get : ∀ {ids : List Nat} {id : Nat}, id ∈ ids → ids[posOf id ids]? = some id
  | i :: r, id, h => by
    unfold posOf
    cases hb : Nat.beq i id with
    | true => simp [Nat.eq_of_beq_eq_true hb]
    | false =>
      rcases List.mem_cons.1 h with rfl | h
      · simp at hb
      · simpa using posOf_get h
theorem dedup_mem {l : List Nat} {i : Nat} (h : i ∈ dedup l) : i ∈ l := by
  induction l with
  | nil => simp [dedup] at h
  | cons a l ih =>
    unfold dedup at h
    cases hb : l.any (fun j => Nat.beq j a) with
    | true => rw [hb] at h; exact List.mem_cons_of_mem _ (ih h)
    | false =>
      rw [hb] at h
      rcases List.mem_cons.1 h with rfl | h
      · simp
      · exact List.mem_cons_of_mem _ (ih h)
theorem dedup_nodup : ∀ (l : List Nat), (dedup l).Nodup
  | [] => by simp [dedup]
  | a :: l => by
    unfold dedup
    cases hb : l.any (fun j => Nat.beq j a) with
    | true => exact dedup_nodup l
    | false =>
      refine List.nodup_cons.2 ⟨fun h => ?_, dedup_nodup l⟩
      rw [List.any_eq_false] at hb
      exact hb a (dedup_mem h) (by simp)
theorem nodup_idx {l : List Nat} (h : l.Nodup) : ∀ {i j x : Nat}, l[i]? = some x → l[j]? = some x → i = j := by
  induction l with
  | nil => intro i j x h1; simp at h1
  | cons a l ih =>
    obtain ⟨ha, hl⟩ := List.nodup_cons.1 h
    intro i j x h1 h2
    cases i with
    | zero =>
      cases j with
      | zero => rfl
      | succ j => simp at h1 h2; subst h1; exact (ha (List.mem_of_getElem? h2)).elim
    | succ i =>
      cases j with
      | zero => simp at h1 h2; subst h2; exact (ha (List.mem_of_getElem? h1)).elim
      | succ j => exact congrArg (· + 1) (ih hl (by simpa using h1) (by simpa using h2))
theorem blksOf_get {s : HS} : ∀ {ids : List Nat} {bs : List Blk}, blksOf s ids = some bs → bs.length = ids.length ∧ ∀ (j id : Nat), ids[j]? = some id → ∃ b, bs[j]? = some b ∧ s.hp id = some b ∧ b.pure = true
  | [], bs, h => by simp [blksOf] at h; subst h; simp
  | i :: r, bs, h => by
    unfold blksOf at h
    split at h
    · rename_i b l hb hl
      cases hc : b.pure with
      | false => rw [hc] at h; simp at h
      | true =>
        rw [hc] at h
        simp at h; subst h
        obtain ⟨h1, h2⟩ := blksOf_get hl
        refine ⟨by simp [h1], fun j id hj => ?_⟩
        cases j with
        | zero => simp at hj; subst hj; exact ⟨b, by simp, hb, hc⟩
        | succ j => simpa using h2 j id (by simpa using hj)
    · simp at h
theorem putIo_none : ∀ {ids : List Nat} {bs : List Blk} {s : HS} {i : Nat}, i ∉ ids → (putIo s ids bs).hp i = s.hp i ∧ (putIo s ids bs).vr i = s.vr i
  | [], bs, s, i, _ => by cases bs <;> simp [putIo]
  | a :: r, [], s, i, _ => by simp [putIo]
  | a :: r, b :: l, s, i, h => by
    have h1 : ¬ i = a := fun he => h (by simp [he])
    have := putIo_none (ids := r) (bs := l) (s := ⟨upd s.hp a (some b), upd s.vr a (b.ver + 1)⟩) (i := i) (fun hm => h (by simp [hm]))
    simp only [putIo, this]
    simp [upd, h1]
theorem putIo_get : ∀ {ids : List Nat} {bs : List Blk} {s : HS} {j i : Nat} {b : Blk}, ids.Nodup → ids[j]? = some i → bs[j]? = some b → (putIo s ids bs).hp i = some b ∧ (putIo s ids bs).vr i = b.ver + 1
  | [], bs, s, j, i, b, _, h, _ => by simp at h
  | a :: r, [], s, j, i, b, _, _, h => by simp at h
  | a :: r, c :: l, s, 0, i, b, hn, h1, h2 => by
    simp at h1 h2; subst h1; subst h2
    have := putIo_none (ids := r) (bs := l) (s := ⟨upd s.hp a (some c), upd s.vr a (c.ver + 1)⟩) (List.nodup_cons.1 hn).1
    simp only [putIo, this]
    simp [upd]
  | a :: r, c :: l, s, j + 1, i, b, hn, h1, h2 => by
    simp only [putIo]
    exact putIo_get (List.nodup_cons.1 hn).2 (by simpa using h1) (by simpa using h2)
theorem ioGet_at {io : List Blk} {id : Nat} {b : Blk} (h : ioGet io id = some b) : ∃ j, id = ioB + j ∧ io[j]? = some b := by
  unfold ioGet at h
  split at h
  · simp at h
  · exact ⟨id - ioB, by omega, h⟩
theorem ioGet_add (io : List Blk) (j : Nat) : ioGet io (ioB + j) = io[j]? := by
  unfold ioGet
  rw [if_neg (Nat.not_lt.2 (Nat.le_add_right _ _)), Nat.add_sub_cancel_left]
theorem place_io {io : List Blk} {M1 : Nat → Pl} {j : Nat} {b : Blk} (h : io[j]? = some b) (ver : Nat) : (hsOf io).place M1 (ioB + j) ver = if b.ver = ver then M1 (ioB + j) else if ver < b.ver + 1 then .dead else .bad := by
  simp only [HS.place, hsOf, ioGet_add, h]

/-- Where the callee finds the blocks. -/
def ioM (ids : List Nat) (M : Nat → Pl) : Nat → Pl := fun i => match ids[i - ioB]? with
  | some id => M id
  | none => .bad
theorem ioM_at {ids : List Nat} {M : Nat → Pl} {j id : Nat} (h : ids[j]? = some id) : ioM ids M (ioB + j) = M id := by
  unfold ioM
  rw [Nat.add_sub_cancel_left, h]

theorem RVs.pureBlk {φ φ' : Place} {b : Blk} (hb : b.pure = true) {vs : List Value} (h : RVs w ok (if b.pu then noφ else φ) (flat b.es) vs) : RVs w ok (if b.pu then noφ else φ') (flat b.es) vs := by
  cases hp : b.pu with
  | true => simpa [hp] using h
  | false =>
    simp only [Blk.pure, hp, Bool.false_or] at hb
    simp only [hp, Bool.false_eq_true, if_false] at h ⊢
    refine h.pure' ?_
    rw [pureL_iff] at hb ⊢
    intro v hv
    simp only [flat, List.mem_flatMap] at hv
    obtain ⟨e, he, hv⟩ := hv
    have := hb e he
    cases e <;> simp only [AV.cells] at hv
    case agg cs => exact pureL_iff.1 (by simpa [AV.pureB] using this) v hv
    all_goals (simp at hv; subst hv; exact this)

theorem BlkR.pure {φ φ' : Place} {b : Blk} {p : Pl} (hb : b.pure = true) (h : BlkR w ok φ b p) : BlkR w ok φ' b p := by
  cases p with
  | bad => exact h
  | dead => exact h
  | virt => exact h
  | «at» k sh sz n N =>
    obtain ⟨h1, h2, h3, c, T, fr, vs, h4, h5, h6, h7, h8⟩ := h
    exact ⟨h1, h2, h3, c, T, fr, vs, h4, h5, h6, h7.pureBlk hb, h8⟩

/-- How the caller's state looks to the callee. -/
theorem HR.enter (h : HR E w0 io s w M ok) {ids : List Nat} {bs : List Blk} (hn : ids.Nodup) (hb : blksOf s ids = some bs) : HR E w (ioOf bs (ioM ids M)) (hsOf bs) w (ioM ids M) ok := by
  obtain ⟨hlen, hget⟩ := blksOf_get hb
  have key : ∀ {id : Nat} {b : Blk}, (hsOf bs).hp id = some b → ∃ j i, id = ioB + j ∧ ids[j]? = some i ∧ bs[j]? = some b ∧ s.hp i = some b ∧ s.vr i = b.ver + 1 ∧ b.pure = true ∧ ioM ids M id = M i := by
    intro id b hid
    obtain ⟨j, rfl, hj⟩ := ioGet_at hid
    have hjl := (List.getElem?_eq_some_iff.1 hj).1
    obtain ⟨i, hi⟩ : ∃ i, ids[j]? = some i := ⟨_, List.getElem?_eq_getElem (by omega)⟩
    obtain ⟨b', h1, h2, h4⟩ := hget j i hi
    rw [hj] at h1; simp at h1; subst h1
    have h3 := h.ver i b h2
    exact ⟨j, i, rfl, hi, hj, h2, h3, h4, ioM_at hi⟩
  refine { blk := ?_, ver := ?_, inj := ?_, lo := ?_, okb := ?_, frame := fun _ _ _ => rfl, size := Nat.le_refl _, os := rfl, output := rfl, tape := rfl, G := h.G }
  · intro id b hid
    obtain ⟨j, i, rfl, hi, hj, h2, h3, h4, h5⟩ := key hid
    rw [h5]
    exact (h.blk i b h2).pure h4
  · intro id b hid
    obtain ⟨j, i, rfl, hi, hj, h2, h3, h4, h5⟩ := key hid
    simp only [hsOf, ioGet_add, hj]
  · intro id id' b b' k sh sz n N sh' sz' n' N' h1 h2 h3 h4
    obtain ⟨j, i, rfl, hi, hj, a2, a3, a4, a5⟩ := key h1
    obtain ⟨j', i', rfl, hi', hj', b2, b3, b4, b5⟩ := key h2
    rw [a5] at h3
    rw [b5] at h4
    have := h.inj i i' b b' k _ _ _ _ _ _ _ _ a2 b2 h3 h4
    subst this
    have hjj : j = j' := nodup_idx hn hi hi'
    rw [hjj]
  · intro id b k sh sz n N h1 h3
    obtain ⟨j, i, rfl, hi, hj, a2, a3, a4, a5⟩ := key h1
    have h3' := h3
    rw [a5] at h3
    refine ⟨.inr ⟨⟨ioB + j, b, sh, sz, n, N, by rw [ioGet_add]; exact hj, h3'⟩, by omega⟩, (h.lo i b k sh sz n N a2 h3).2⟩
  · intro k hk
    refine ⟨(h.okb k hk).1, fun id b sh sz n N h1 h3 => ?_⟩
    obtain ⟨j, i, rfl, hi, hj, a2, a3, a4, a5⟩ := key h1
    rw [a5] at h3
    exact (h.okb k hk).2 i b sh sz n N a2 h3

/-- What the caller's state is behind such a call. -/
def backM (ids : List Nat) (M M2 : Nat → Pl) : Nat → Pl := fun i => if i ∈ ids then M2 (ioB + posOf i ids) else M i
theorem HR.leave (h : HR E w0 io s w M ok) {ids : List Nat} {bs out : List Blk} (hn : ids.Nodup) (hb : blksOf s ids = some bs) (hids : localIds ids = true ∨ ∀ i ∈ ids, ioB ≤ i) (hout : wOk bs out = true) {w' : World} {M2 : Nat → Pl} {ok2 : Nat → Prop}
    (hl : HLater E w (ioOf bs (ioM ids M)) (hsOf bs) w (ioM ids M) ok (hsOf out) w' M2 ok2) :
    HLater E w0 io s w M ok (putIo s ids out) w' (backM ids M M2) (fun k => ok k ∨ (ok2 k ∧ w.heap.size ≤ k)) := by
  obtain ⟨hlen, hget⟩ := blksOf_get hb
  unfold wOk at hout
  simp only [Bool.and_eq_true, List.all_eq_true] at hout
  obtain ⟨hol, hop⟩ := hout
  have hol := Nat.le_of_ble_eq_true hol
  -- the blocks handed
  have hin : ∀ i ∈ ids, ∃ b o, ids[posOf i ids]? = some i ∧ bs[posOf i ids]? = some b ∧ out[posOf i ids]? = some o ∧ s.hp i = some b ∧ s.vr i = b.ver + 1 ∧ b.pure = true ∧ o.pure = true ∧ (putIo s ids out).hp i = some o ∧ (putIo s ids out).vr i = o.ver + 1 ∧ backM ids M M2 i = M2 (ioB + posOf i ids) := by
    intro i hi
    have hp := posOf_get hi
    obtain ⟨b, h1, h2, h4⟩ := hget _ _ hp
    have h3 := h.ver i b h2
    have hlt := (List.getElem?_eq_some_iff.1 hp).1
    obtain ⟨o, ho⟩ : ∃ o, out[posOf i ids]? = some o := ⟨_, List.getElem?_eq_getElem (by omega)⟩
    obtain ⟨h5, h6⟩ := putIo_get (s := s) hn hp ho
    exact ⟨b, o, hp, h1, ho, h2, h3, h4, hop o (List.mem_of_getElem? ho), h5, h6, by simp [backM, hi]⟩
  have hnot : ∀ i, i ∉ ids → (putIo s ids out).hp i = s.hp i ∧ (putIo s ids out).vr i = s.vr i ∧ backM ids M M2 i = M i := by
    intro i hi
    obtain ⟨h1, h2⟩ := putIo_none (bs := out) (s := s) hi
    exact ⟨h1, h2, by simp [backM, hi]⟩
  have hioOf : ∀ k, ioOf bs (ioM ids M) k → ∃ i ∈ ids, ∃ b sh sz n N, s.hp i = some b ∧ M i = .at k sh sz n N := by
    rintro k ⟨id, b, sh, sz, n, N, h1, h2⟩
    obtain ⟨j, rfl, hj⟩ := ioGet_at h1
    have hjl := (List.getElem?_eq_some_iff.1 hj).1
    obtain ⟨i, hi⟩ : ∃ i, ids[j]? = some i := ⟨_, List.getElem?_eq_getElem (by omega)⟩
    obtain ⟨b', h3, h4, _⟩ := hget j i hi
    rw [ioM_at hi] at h2
    exact ⟨i, List.mem_of_getElem? hi, b', sh, sz, n, N, h4, h2⟩
  have hfr : ∀ k, k < w.heap.size → ¬ ioOf bs (ioM ids M) k → w'.heap[k]? = w.heap[k]? := fun k hk hio => hl.hr.frame k hk hio
  have hokfr : ∀ k, ok k → w'.heap[k]? = w.heap[k]? := fun k hk => hfr k (h.okb k hk).1 fun hio => by
    obtain ⟨i, _, b, sh, sz, n, N, h1, h2⟩ := hioOf k hio
    exact (h.okb k hk).2 i b sh sz n N h1 h2
  have hplace : ∀ id ver, s.place M id ver = .bad ∨ (putIo s ids out).place (backM ids M M2) id ver = s.place M id ver ∨ (putIo s ids out).place (backM ids M M2) id ver = .dead := by
    intro id ver
    by_cases hi : id ∈ ids
    · obtain ⟨b, o, h1, h2, h3, h4, h5, h6, h7, h8, h9, h10⟩ := hin id hi
      have e1 : s.place M id ver = (hsOf bs).place (ioM ids M) (ioB + posOf id ids) ver := by
        rw [place_io h2, ioM_at h1]
        simp only [HS.place, h4, h5]
      have e2 : (putIo s ids out).place (backM ids M M2) id ver = (hsOf out).place M2 (ioB + posOf id ids) ver := by
        rw [place_io h3]
        simp only [HS.place, h8, h9, h10]
      rw [e1, e2]
      exact hl.mono.place _ _
    · obtain ⟨h1, h2, h3⟩ := hnot id hi
      right; left
      simp only [HS.place, h1, h2, h3]
  have hm : Mono w ok (s.place M) w' (fun k => ok k ∨ (ok2 k ∧ w.heap.size ≤ k)) ((putIo s ids out).place (backM ids M M2)) := ⟨fun k hk => ⟨.inl hk, hokfr k hk⟩, hplace⟩
  -- a block of the state behind the call: an old one, or one that was handed
  have hcase : ∀ id b, (putIo s ids out).hp id = some b → (id ∉ ids ∧ s.hp id = some b ∧ backM ids M M2 id = M id) ∨ (id ∈ ids ∧ (hsOf out).hp (ioB + posOf id ids) = some b ∧ b.pure = true ∧ backM ids M M2 id = M2 (ioB + posOf id ids)) := by
    intro id b hid
    by_cases hi : id ∈ ids
    · obtain ⟨b', o, h1, h2, h3, h4, h5, h6, h7, h8, h9, h10⟩ := hin id hi
      rw [h8] at hid; simp at hid; subst hid
      exact .inr ⟨hi, by simp only [hsOf, ioGet_add]; exact h3, h7, h10⟩
    · obtain ⟨h1, h2, h3⟩ := hnot id hi
      rw [h1] at hid
      exact .inl ⟨hi, hid, h3⟩
  -- where a handed block lies behind the call
  have hwhere : ∀ id b k sh sz n N, (hsOf out).hp (ioB + posOf id ids) = some b → M2 (ioB + posOf id ids) = .at k sh sz n N → w.heap.size ≤ k ∨ ∃ i ∈ ids, ∃ b sh sz n N, s.hp i = some b ∧ M i = .at k sh sz n N := by
    intro id b k sh sz n N h1 h2
    rcases (hl.hr.lo _ b k sh sz n N h1 h2).1 with h3 | h3
    · exact .inl h3
    · exact .inr (hioOf k h3.1)
  refine ⟨⟨?_, ?_, ?_, ?_, ?_, ?_, Nat.le_trans h.size hl.hr.size, hl.hr.os.trans h.os, hl.hr.output.trans h.output, hl.hr.tape.trans h.tape, hl.hr.G⟩, hm, ?_⟩
  · intro id b hid
    rcases hcase id b hid with ⟨hi, h1, h2⟩ | ⟨hi, h1, h2, h3⟩
    · rw [h2]
      refine (h.blk id b h1).mono hm fun k sh sz n N hk => hfr k (h.block_lt h1 hk) fun hio => ?_
      obtain ⟨i, hi', b', sh', sz', n', N', h3, h4⟩ := hioOf k hio
      exact hi (h.inj id i b b' k _ _ _ _ _ _ _ _ h1 h3 hk h4 ▸ hi')
    · rw [h3]
      have := (hl.hr.blk _ b h1).pure (φ' := (putIo s ids out).place (backM ids M M2)) h2
      refine this.mono (w' := w') ⟨fun k hk => ⟨?_, rfl⟩, fun _ _ => .inr (.inl rfl)⟩ fun _ _ _ _ _ _ => rfl
      rcases hl.new k hk with h4 | h4
      · exact .inl h4
      · exact .inr ⟨hk, h4⟩
  · intro id b hid
    by_cases hi : id ∈ ids
    · obtain ⟨b', o, h1, h2, h3, h4, h5, h6, h7, h8, h9, h10⟩ := hin id hi
      rw [h8] at hid; simp at hid; subst hid
      omega
    · obtain ⟨h1, h2, h3⟩ := hnot id hi
      rw [h1] at hid
      rw [h2]
      exact h.ver id b hid
  · intro id id' b b' k sh sz n N sh' sz' n' N' h1 h2 h3 h4
    rcases hcase id b h1 with ⟨ha, a1, a2⟩ | ⟨ha, a1, a2, a3⟩ <;> rcases hcase id' b' h2 with ⟨hb, b1, b2⟩ | ⟨hb, b1, b2, b3⟩
    · rw [a2] at h3; rw [b2] at h4
      exact h.inj id id' b b' k _ _ _ _ _ _ _ _ a1 b1 h3 h4
    · exfalso
      rw [a2] at h3; rw [b3] at h4
      rcases hwhere _ b' k _ _ _ _ b1 h4 with h5 | ⟨i, hi, b2, _, _, _, _, h6, h7⟩
      · have := h.block_lt a1 h3; omega
      · exact ha (h.inj id i b b2 k _ _ _ _ _ _ _ _ a1 h6 h3 h7 ▸ hi)
    · exfalso
      rw [a3] at h3; rw [b2] at h4
      rcases hwhere _ b k _ _ _ _ a1 h3 with h5 | ⟨i, hi, b2, _, _, _, _, h6, h7⟩
      · have := h.block_lt b1 h4; omega
      · exact hb (h.inj id' i b' b2 k _ _ _ _ _ _ _ _ b1 h6 h4 h7 ▸ hi)
    · rw [a3] at h3; rw [b3] at h4
      have := hl.hr.inj _ _ b b' k _ _ _ _ _ _ _ _ a1 b1 h3 h4
      have e : posOf id ids = posOf id' ids := by omega
      have p1 := posOf_get ha
      have p2 := posOf_get hb
      rw [e, p2] at p1
      simp at p1
      exact p1.symm
  · intro id b k sh sz n N h1 h3
    rcases hcase id b h1 with ⟨ha, a1, a2⟩ | ⟨ha, a1, a2, a3⟩
    · rw [a2] at h3
      exact h.lo id b k sh sz n N a1 h3
    · rw [a3] at h3
      refine ⟨?_, (hl.hr.lo _ b k sh sz n N a1 h3).2⟩
      rcases hwhere id b k _ _ _ _ a1 h3 with h5 | ⟨i, hi, b2, _, _, _, _, h6, h7⟩
      · exact .inl (Nat.le_trans h.size h5)
      · rcases (h.lo i b2 k _ _ _ _ h6 h7).1 with h8 | h8
        · exact .inl h8
        · refine .inr ⟨h8.1, ?_⟩
          rcases hids with hd | hd
          · have := List.all_eq_true.1 hd i hi
            simp [Nat.blt_eq] at this
            omega
          · exact hd id ha
  · intro k hk
    have hlt : k < w'.heap.size := by
      rcases hk with hk | ⟨hk, _⟩
      · exact Nat.lt_of_lt_of_le (h.okb k hk).1 hl.hr.size
      · exact (hl.hr.okb k hk).1
    refine ⟨hlt, fun id b sh sz n N h1 h3 => ?_⟩
    rcases hcase id b h1 with ⟨ha, a1, a2⟩ | ⟨ha, a1, a2, a3⟩
    · rw [a2] at h3
      rcases hk with hk | ⟨_, hk⟩
      · exact (h.okb k hk).2 id b sh sz n N a1 h3
      · have := h.block_lt a1 h3; omega
    · rw [a3] at h3
      rcases hk with hk | ⟨hk, _⟩
      · rcases hwhere id b k _ _ _ _ a1 h3 with h5 | ⟨i, hi, b2, _, _, _, _, h6, h7⟩
        · have := (h.okb k hk).1; omega
        · exact (h.okb k hk).2 i b2 _ _ _ _ h6 h7
      · exact (hl.hr.okb k hk).2 _ b sh sz n N a1 h3
  · intro k hk hio
    rw [hfr k (Nat.lt_of_lt_of_le hk h.size) fun hio' => ?_]
    · exact h.frame k hk hio
    · obtain ⟨i, hi, b2, _, _, _, _, h6, h7⟩ := hioOf k hio'
      rcases (h.lo i b2 k _ _ _ _ h6 h7).1 with h8 | h8
      · omega
      · exact hio h8.1
  · intro k hk
    rcases hk with hk | ⟨_, hk⟩
    · exact .inl hk
    · exact .inr (Nat.le_trans h.size hk)

theorem posOf_lt : ∀ {ids : List Nat} {id : Nat}, id ∈ ids → posOf id ids < ids.length := fun h => (List.getElem?_eq_some_iff.1 (posOf_get h)).1

/-- ... and where the callee has made a block. -/
theorem HR.leaveN (h : HR E w0 io s w M ok) {ids : List Nat} {bs out : List Blk} (hn : ids.Nodup) (hb : blksOf s ids = some bs) (hids : localIds ids = true) (hout : wOk bs out = true) {b : Blk} (hnew : out.drop ids.length = [b]) {w' : World} {M2 : Nat → Pl} {ok2 : Nat → Prop}
    (hl : HLater E w (ioOf bs (ioM ids M)) (hsOf bs) w (ioM ids M) ok (hsOf out) w' M2 ok2) (site : Nat) :
    HLater E w0 io s w M ok ((putIo s ids out).put site b.ag b.sz b.es b.pu) w' (upd (backM ids M M2) site (M2 (ioB + ids.length))) (fun k => ok k ∨ (ok2 k ∧ w.heap.size ≤ k)) := by
  have h1 := h.leave hn hb (.inl hids) hout hl
  obtain ⟨hlen, hget⟩ := blksOf_get hb
  have hob : out[ids.length]? = some b := by
    have : (out.drop ids.length)[0]? = some b := by rw [hnew]; rfl
    simpa using this
  have hob' : (hsOf out).hp (ioB + ids.length) = some b := by simp only [hsOf, ioGet_add]; exact hob
  have hbp : b.pure = true := by
    unfold wOk at hout
    simp only [Bool.and_eq_true, List.all_eq_true] at hout
    exact hout.2 b (List.mem_of_getElem? hob)
  have hioOf : ∀ k, ioOf bs (ioM ids M) k → ∃ i ∈ ids, ∃ b sh sz n N, s.hp i = some b ∧ M i = .at k sh sz n N := by
    rintro k ⟨id, b, sh, sz, n, N, h1, h2⟩
    obtain ⟨j, rfl, hj⟩ := ioGet_at h1
    have hjl := (List.getElem?_eq_some_iff.1 hj).1
    obtain ⟨i, hi⟩ : ∃ i, ids[j]? = some i := ⟨_, List.getElem?_eq_getElem (by omega)⟩
    obtain ⟨b', h3, h4, _⟩ := hget j i hi
    rw [ioM_at hi] at h2
    exact ⟨i, List.mem_of_getElem? hi, b', sh, sz, n, N, h4, h2⟩
  refine h1.trans (h1.hr.adopt site b (M2 (ioB + ids.length)) (fun φ => ?_) fun k sh sz n N hk => ?_)
  · have h2 := (hl.hr.blk _ b hob').pure (φ' := φ) hbp
    have h3 : BlkR w' (fun k => ok k ∨ (ok2 k ∧ w.heap.size ≤ k)) φ b (M2 (ioB + ids.length)) := by
      refine h2.mono (w' := w') ⟨fun k hk => ⟨?_, rfl⟩, fun _ _ => .inr (.inl rfl)⟩ fun _ _ _ _ _ _ => rfl
      rcases hl.new k hk with h4 | h4
      · exact .inl h4
      · exact .inr ⟨hk, h4⟩
    generalize M2 (ioB + ids.length) = p at h3
    cases p with
    | bad => exact h3
    | dead => exact h3
    | virt => exact h3
    | «at» k sh sz n N => exact ⟨h3.hsz, h3.hN, h3.lay, h3.cells⟩
  · have hlo := hl.hr.lo _ b k sh sz n N hob' hk
    have hold : w.heap.size ≤ k ∨ ∃ i ∈ ids, ∃ b sh sz n N, s.hp i = some b ∧ M i = .at k sh sz n N := by
      rcases hlo.1 with h3 | h3
      · exact .inl h3
      · exact .inr (hioOf k h3.1)
    have hok2 : ¬ ok2 k := fun hk2 => (hl.hr.okb k hk2).2 _ b sh sz n N hob' hk
    refine ⟨?_, ?_, ?_, hlo.2⟩
    · intro id b' sh' sz' n' N' hid he
      by_cases hi : id ∈ ids
      · have hp := posOf_get hi
        have hlt := posOf_lt hi
        have hol : bs.length ≤ out.length := by
          unfold wOk at hout
          simp only [Bool.and_eq_true] at hout
          exact Nat.le_of_ble_eq_true hout.1
        obtain ⟨o, ho⟩ : ∃ o, out[posOf id ids]? = some o := ⟨_, List.getElem?_eq_getElem (by omega)⟩
        have e : backM ids M M2 id = M2 (ioB + posOf id ids) := by simp [backM, hi]
        rw [e] at he
        have := hl.hr.inj _ _ o b k _ _ _ _ _ _ _ _ (by simp only [hsOf, ioGet_add]; exact ho) hob' he hk
        omega
      · have e : backM ids M M2 id = M id := by simp [backM, hi]
        rw [e] at he
        rw [(putIo_none hi).1] at hid
        rcases hold with h3 | ⟨i, hi', b2, _, _, _, _, h6, h7⟩
        · have := h.block_lt hid he; omega
        · exact hi (h.inj id i b' b2 k _ _ _ _ _ _ _ _ hid h6 he h7 ▸ hi')
    · rintro (h3 | h3)
      · exact hok2 (hl.mono.keep k h3).1
      · exact hok2 h3.1
    · rcases hold with h3 | ⟨i, hi', b2, _, _, _, _, h6, h7⟩
      · exact Nat.le_trans h.size h3
      · rcases (h.lo i b2 k _ _ _ _ h6 h7).1 with h8 | h8
        · exact h8
        · have := List.all_eq_true.1 hids i hi'
          simp [Nat.blt_eq] at this
          omega

theorem rnN0_sound {φ φ' : Place} {ok2 : Nat → Prop} {n ver site ver' : Nat} (hp : φ (ioB + n) ver = φ' site ver') (hok : ∀ k, ok2 k → ok k) {v : AV} {x : Value} (hv : newOk0 n ver v = true) (hx : RV w ok2 φ v x) : RV w ok φ' (rnN0 site ver' v) x := by
  have pu : ∀ {v : AV}, v.pureB = true → RV w ok2 φ v x → RV w ok φ' v x := fun h1 h2 => (h2.pure' (φ' := noφ) h1).up.mono ⟨fun k hk => ⟨hok k hk, rfl⟩, fun _ _ => .inr (.inl rfl)⟩
  cases v with
  | own id v sz off len =>
    simp only [newOk0, Bool.and_eq_true] at hv
    obtain ⟨h1, h2⟩ := hv
    have h1 := Nat.eq_of_beq_eq_true h1
    have h2 := Nat.eq_of_beq_eq_true h2
    subst h1; subst h2
    cases hx with
    | own_dead _ _ _ _ _ _ a cap hd hl ha => exact .own_dead _ _ _ _ _ _ _ _ (hp ▸ hd) hl ha
    | own_virt _ _ _ _ a h => exact .own_virt _ _ _ _ _ (hp ▸ h)
    | own_nil _ _ _ _ a _ _ _ _ _ h hN => exact .own_nil _ _ _ _ _ _ _ _ _ _ (hp ▸ h) hN
    | own _ _ _ _ _ cap k sh _ n N h hlen hcap hN => exact .own _ _ _ _ _ _ _ _ _ _ _ (hp ▸ h) hlen hcap hN
  | ref id v i off =>
    simp only [newOk0, Bool.and_eq_true] at hv
    obtain ⟨h1, h2⟩ := hv
    have h1 := Nat.eq_of_beq_eq_true h1
    have h2 := Nat.eq_of_beq_eq_true h2
    subst h1; subst h2
    cases hx with
    | ref_dead _ _ _ _ _ b o hd => exact .ref_dead _ _ _ _ _ _ _ (hp ▸ hd)
    | ref _ _ _ _ _ b sh sz n N h => exact .ref _ _ _ _ _ _ _ _ _ _ (hp ▸ h)
  | _ => exact pu hv hx
theorem rnN0s_sound {φ φ' : Place} {ok2 : Nat → Prop} {n ver site ver' : Nat} (hp : φ (ioB + n) ver = φ' site ver') (hok : ∀ k, ok2 k → ok k) : ∀ {vs : List AV} {xs : List Value}, vs.all (newOk0 n ver) = true → RVs w ok2 φ vs xs → RVs w ok φ' (vs.map (rnN0 site ver')) xs
  | [], _, _, hx => by cases hx; exact .nil _
  | v :: vs, _, hv, hx => by
    cases hx with
    | cons _ _ x _ xs h1 t1 =>
      simp only [List.all_cons, Bool.and_eq_true] at hv
      exact .cons _ _ _ _ _ (rnN0_sound hp hok hv.1 h1) (rnN0s_sound hp hok hv.2 t1)
theorem rnN_sound {φ φ' : Place} {ok2 : Nat → Prop} {n site ver' : Nat} {out : List Blk} {b : Blk} (hd : out.drop n = [b]) (hp : φ (ioB + n) b.ver = φ' site ver') (hok : ∀ k, ok2 k → ok k) {v : AV} {x : Value} (hv : newOk n out v = true) (hx : RV w ok2 φ v x) : RV w ok φ' (rnN site ver' v) x := by
  unfold newOk at hv
  rw [hd] at hv
  simp only at hv
  cases v with
  | tup vs =>
    cases hx with
    | tup _ _ xs h => exact .tup _ _ _ (rnN0s_sound hp hok hv h)
  | _ => exact rnN0_sound hp hok hv hx

/-- The arguments as the callee sees them. -/
theorem rnB_sound (h : HR E w0 io s w M ok) {ids : List Nat} {bs : List Blk} (hb : blksOf s ids = some bs) {a : AV} {x : Value} (ha : rnOk ids a = true) (hx : RV w ok (s.place M) a x) : RV w ok ((hsOf bs).place (ioM ids M)) (rnB ids a) x := by
  obtain ⟨hlen, hget⟩ := blksOf_get hb
  have key : ∀ id ver, (ids.any fun i => Nat.beq i id) = true → s.place M id ver = (hsOf bs).place (ioM ids M) (ioB + posOf id ids) ver := by
    intro id ver hi
    have hi : id ∈ ids := by
      rw [List.any_eq_true] at hi
      obtain ⟨i, h1, h2⟩ := hi
      exact Nat.eq_of_beq_eq_true h2 ▸ h1
    obtain ⟨b, h1, h2, h4⟩ := hget _ _ (posOf_get hi)
    have h3 := h.ver id b h2
    rw [place_io h1, ioM_at (posOf_get hi)]
    simp only [HS.place, h2, h3]
  cases a with
  | own id ver sz off len =>
    have e := key id ver ha
    cases hx with
    | own_dead _ _ _ _ _ _ a cap hd hl ha => exact .own_dead _ _ _ _ _ _ _ _ (e ▸ hd) hl ha
    | own_virt _ _ _ _ a hp => exact .own_virt _ _ _ _ _ (e ▸ hp)
    | own_nil _ _ _ _ a _ _ _ _ _ hp hN => exact .own_nil _ _ _ _ _ _ _ _ _ _ (e ▸ hp) hN
    | own _ _ _ _ _ cap k sh _ n N hp hlen hcap hN => exact .own _ _ _ _ _ _ _ _ _ _ _ (e ▸ hp) hlen hcap hN
  | ref id ver i off =>
    have e := key id ver ha
    cases hx with
    | ref_dead _ _ _ _ _ b o hd => exact .ref_dead _ _ _ _ _ _ _ (e ▸ hd)
    | ref _ _ _ _ _ b sh sz n N hp => exact .ref _ _ _ _ _ _ _ _ _ _ (e ▸ hp)
  | _ => exact hx.pure' ha

theorem rnBs_sound (h : HR E w0 io s w M ok) {ids : List Nat} {bs : List Blk} (hb : blksOf s ids = some bs) : ∀ {as : List AV} {xs : List Value}, RVs w ok (s.place M) as xs → (∀ a ∈ as, rnOk ids a = true) → RVs w ok ((hsOf bs).place (ioM ids M)) (as.map (rnB ids)) xs
  | [], _, hx, _ => by cases hx; exact .nil _
  | a :: as, _, hx, ha => by
    cases hx with
    | cons _ _ x _ xs h1 t1 => exact .cons _ _ _ _ _ (rnB_sound h hb (ha a (by simp)) h1) (rnBs_sound h hb t1 fun b hb => ha b (by simp [hb]))

theorem callF_sound (h : HR E w0 io s w M ok) (c : Call) {ρA : Operand → AV} {ρ : Operand → Value} (hρ : ∀ x, RV w ok (s.place M) (ρA x) (ρ x)) {K : AV × HS → Prop} (site : Nat) (hk : (callF E site ρA c s).run E K)
    (dst : Option Tmp) (ty : TypeId) (pos : String) (after : Array Edge) (guard : Option (Nat × Bool)) :
    UponV E.P ((execOp ρ ⟨dst, .call c, ty, pos, after, guard⟩).run E.P w) fun x w' => ∃ v s' M' ok', K (v, s') ∧ HLater E w0 io s w M ok s' w' M' ok' ∧ RV w' ok' (s'.place M') v x := by
  unfold callF at hk
  split at hk
  · rename_i g as hc
    obtain ⟨vals, hv, hrun⟩ := calleeA_sound (E := E) hρ hc
    rw [hrun]
    -- a call with arguments that may be read for good
    have main : ∀ (s1 : HS) (ok1 : Nat → Prop) (bs : List AV), HLater E w0 io s w M ok s1 w M ok1 → RVs w ok1 noφ bs vals → ∀ r, Ct E g bs [] r [] → K (r, s1) →
        UponV E.P ((callFunc g vals.toArray).run E.P w) fun x w' => ∃ v s' M' ok', K (v, s') ∧ HLater E w0 io s w M ok s' w' M' ok' ∧ RV w' ok' (s'.place M') v x := by
      intro s1 ok1 bs hl hbs r hct hk
      have := hct w vals M ok1 (hl.hr.nil M ok1 fun k hk => (hl.hr.okb k hk).1) (by rw [place_nil]; exact hbs)
      refine UponV.mono this fun x w' ⟨M', ok', hl', hr⟩ => ?_
      refine ⟨r, s1, M, _, hk, hl.trans (hl.hr.carry (fun k hk => hk) hl'), ?_⟩
      rw [place_nil] at hr
      refine hr.mono ⟨fun k hk => ⟨?_, rfl⟩, fun _ _ => .inl rfl⟩
      rcases hl'.new k hk with h1 | h1
      · exact .inl h1
      · exact .inr ⟨hk, h1⟩
    split at hk
    · split at hk
      · rename_i as' bs ids hw
        obtain ⟨r, out, hct, ⟨hrp, hout⟩, hk⟩ := hk
        unfold wrCall at hw
        simp only at hw
        split at hw
        · rename_i bs' hc hb
          simp only [Option.some.injEq, Prod.mk.injEq] at hw
          obtain ⟨rfl, rfl, rfl⟩ := hw
          simp only [Bool.and_eq_true, Bool.or_eq_true, List.all_eq_true] at hc
          have hn := dedup_nodup (as.flatMap ownIds)
          have hargs := rnBs_sound h hb hv (fun a ha => hc.1 a ha)
          have := hct w vals (ioM (dedup (as.flatMap ownIds)) M) ok (h.enter hn hb) hargs
          refine UponV.mono this fun x w' ⟨M', ok', hl', hr⟩ => ?_
          have hlen := (blksOf_get hb).1
          have hok : ∀ k, ok' k → ok k ∨ (ok' k ∧ w.heap.size ≤ k) := fun k hk => (hl'.new k hk).imp id fun h2 => ⟨hk, h2⟩
          have hk : (afterW s site (dedup (as.flatMap ownIds)) r out).run E K := hk
          unfold afterW at hk
          split at hk
          · rename_i hd
            refine ⟨r, _, _, _, hk, h.leave hn hb (hc.2.imp id fun hh i hi => by simpa using hh i hi) hout hl', ?_⟩
            unfold newOk at hrp
            rw [hlen, hd] at hrp
            exact (hr.pure' (φ' := noφ) hrp).up.mono ⟨fun k hk => ⟨hok k hk, rfl⟩, fun _ _ => .inr (.inl rfl)⟩
          · rename_i b hd
            split at hk
            · rename_i hloc
              rw [HS.putE_eq, natFrc_eq] at hk
              refine ⟨_, _, _, _, hk, h.leaveN hn hb hloc hout hd hl' site, ?_⟩
              rw [hlen] at hrp
              refine rnN_sound hd ?_ hok hrp hr
              have hob : out[(dedup (as.flatMap ownIds)).length]? = some b := by
                have : (out.drop (dedup (as.flatMap ownIds)).length)[0]? = some b := by rw [hd]; rfl
                simpa using this
              rw [place_io hob, if_pos rfl]
              exact (place_now _ _ _ _ _ _ _ _).symm
            · exact hk.elim
          · exact hk.elim
        · simp at hw
      · exact hk.elim
    split at hk
    · rename_i hp
      obtain ⟨r, hct, hk⟩ := hk
      exact main s ok as (.refl h) (hv.pure' hp) r hct hk
    · split at hk
      · exact hk.elim
      rename_i hloc
      obtain ⟨bs, s1, hb, hk⟩ := hk
      rw [Option.map_eq_some_iff] at hb
      obtain ⟨bs', hb, he⟩ := hb
      simp only [Prod.mk.injEq] at he
      obtain ⟨rfl, rfl⟩ := he
      · obtain ⟨r, hct, hk⟩ := hk
        exact main _ _ bs' (h.kill _ (by simpa using hloc)) (mapO_RVs hb hv fun a _ b x hf hr => fz_sound _ h 4 hr hf) r hct hk
  · exact hk.elim

theorem pur_sound (h : HR E w0 io s w M ok) {v v' : AV} {x : Value} {s' : HS} (hx : RV w ok (s.place M) v x) (hp : pur s v = some (v', s')) : ∃ ok', HLater E w0 io s w M ok s' w M ok' ∧ RV w ok' noφ v' x := by
  unfold pur at hp
  split at hp
  · rename_i hpu
    simp at hp
    obtain ⟨rfl, rfl⟩ := hp
    exact ⟨ok, .refl h, hx.pure' hpu⟩
  · split at hp
    · simp at hp
    rename_i hloc
    split at hp
    · rename_i u hu
      simp at hp
      obtain ⟨rfl, rfl⟩ := hp
      exact ⟨_, h.kill _ (by simpa using hloc), fz_sound _ h 4 hx hu⟩
    · simp at hp

theorem sem2_sound (hE : E.Valid) (h : HR E w0 io s w M ok) (o : Oper) (ho : cls E o.op = 2) {ρA : Operand → AV} {ρ : Operand → Value} (hρ : ∀ x, RV w ok (s.place M) (ρA x) (ρ x)) {K : AV → Prop} (hk : (sem2 E o.op ρA s).run E K) :
    UponV E.P ((execOp ρ o).run E.P w) fun x w' => ∃ v M' ok', K v ∧ HLater E w0 io s w M ok s w' M' ok' ∧ RV w' ok' (s.place M') v x := by
  obtain ⟨dst_, op, ty, pos, after, guard⟩ := o
  simp only at hk ho
  unfold sem2 at hk
  split at hk
  · rename_i t x
    obtain ⟨v, y, h1, h2, h3⟩ := loadA_sound hE h t (hρ x) K hk
    have : (execOp ρ ⟨dst_, .load t x, ty, pos, after, guard⟩).run E.P w = .ok (.value y) w := by
      simp only [execOp, Sem.run_bind, h2, Result.andThen_ok, Sem.run_pure]
    rw [this]
    exact ⟨v, M, ok, h1, .refl h, h3⟩
  · rename_i src dst x
    have fin : ∀ {b : ByteArray}, K (.str b) → (Go.convert src dst (ρ x)).run E.P w = .ok (.string b) w → UponV E.P ((execOp ρ ⟨dst_, .convert src dst x, ty, pos, after, guard⟩).run E.P w) fun x w' => ∃ v M' ok', K v ∧ HLater E w0 io s w M ok s w' M' ok' ∧ RV w' ok' (s.place M') v x := by
      intro b h1 h2
      have : (execOp ρ ⟨dst_, .convert src dst x, ty, pos, after, guard⟩).run E.P w = .ok (.value (.string b)) w := by
        simp only [execOp, Sem.run_bind, h2, Result.andThen_ok, Sem.run_pure]
      rw [this]
      exact ⟨_, M, ok, h1, .refl h, .str _ _⟩
    unfold convR at hk
    split at hk
    · obtain ⟨b, h1, h2⟩ := bytesA_str hE src dst (hρ x) hk
      exact fin h1 h2
    · obtain ⟨vs, s1, hb, hk⟩ := hk
      rw [Option.map_eq_some_iff] at hb
      obtain ⟨y, hb, he⟩ := hb
      simp only [Prod.mk.injEq] at he
      obtain ⟨rfl, rfl⟩ := he
      obtain ⟨b, h1, h2⟩ := bytesA_str hE src dst (fz_sound _ h 4 (hρ x) hb) hk
      exact fin h1 h2
  · exact callA_sound h _ hρ hk _ _ _ _ _
  · exact hk.elim
end
end GoAbs
end

section
namespace GoAbs
open Go

def rowSet (c : Array Value) (o : Nat) (vs : List Value) : Array Value := (c.toList.take o ++ vs ++ c.toList.drop (o + vs.length)).toArray
theorem rowSet_size (c : Array Value) (o : Nat) (vs : List Value) (h : o + vs.length ≤ c.size) : (rowSet c o vs).size = c.size := by
  simp [rowSet]; omega
theorem rowSet_get_lt (c : Array Value) (o : Nat) (vs : List Value) (h : o + vs.length ≤ c.size) (j : Nat) (hj : j < o) : (rowSet c o vs)[j]? = c[j]? := by
  simp only [rowSet, List.getElem?_toArray]
  rw [List.append_assoc, List.getElem?_append_left (by simp; omega), List.getElem?_take, if_pos hj]
  simp
theorem rowSet_get_mid (c : Array Value) (o : Nat) (vs : List Value) (h : o + vs.length ≤ c.size) (j : Nat) (hj : j < vs.length) : (rowSet c o vs)[o + j]? = vs[j]? := by
  have hl : (c.toList.take o).length = o := by simp; omega
  simp only [rowSet, List.getElem?_toArray]
  rw [List.append_assoc, List.getElem?_append_right (by omega), hl, List.getElem?_append_left (by omega)]
  congr 1; omega
theorem rowSet_get_ge (c : Array Value) (o : Nat) (vs : List Value) (h : o + vs.length ≤ c.size) (j : Nat) (hj : o + vs.length ≤ j) : (rowSet c o vs)[j]? = c[j]? := by
  have hl : (c.toList.take o).length = o := by simp; omega
  simp only [rowSet, List.getElem?_toArray]
  rw [List.getElem?_append_right (by simp; omega), List.getElem?_drop]
  simp only [List.length_append, hl, Array.getElem?_toList]
  congr 1; omega

theorem setCell_eq {w : World} {k : Nat} {c : Array Value} {T : TypeId} {fr : Nat × Nat} (h : w.heap[k]? = some (.cells c T fr)) (o : Nat) (v : Value) :
    w.setCell (ad k o) v = { w with heap := w.heap.setIfInBounds k (.cells (c.setIfInBounds o v) T fr) } := by
  unfold World.setCell
  congr 1
  apply Array.ext_getElem?
  intro j
  obtain ⟨hk, hkv⟩ := Array.getElem?_eq_some_iff.1 h
  rw [Array.getElem?_modify, Array.getElem?_setIfInBounds]
  by_cases hj : k = j
  · subst hj
    simp [hk, hkv]
  · rw [if_neg hj, if_neg hj]

theorem run_store_row (P : Program) (k : Nat) (T : TypeId) (fr : Nat × Nat) (o : Nat) : ∀ (vs : List Value) (i : Nat) (c : Array Value) (w : World), w.heap[k]? = some (.cells c T fr) → o + i + vs.length ≤ c.size →
    (∀ j, j < c.size → ¬ (fr.1 ≤ j ∧ j < fr.2)) → (∀ v ∈ vs, v.oneCell' = true) →
    (storeCells (ad k o) vs i).run P w = .ok () { w with heap := w.heap.setIfInBounds k (.cells (rowSet c (o + i) vs) T fr) }
  | [], i, c, w, h, hl, hf, hv => by
    obtain ⟨hk, hkv⟩ := Array.getElem?_eq_some_iff.1 h
    simp only [storeCells, Sem.run_pure]
    have h1 : rowSet c (o + i) [] = c := by
      apply Array.ext'
      simp [rowSet]
    rw [h1]
    have h2 : w.heap.setIfInBounds k (.cells c T fr) = w.heap := by
      apply Array.ext_getElem?
      intro j
      rw [Array.getElem?_setIfInBounds]
      split
      · rename_i hj; subst hj; simp [hk, hkv]
      · rfl
    rw [h2]
  | v :: vs, i, c, w, h, hl, hf, hv => by
    obtain ⟨hk, hkv⟩ := Array.getElem?_eq_some_iff.1 h
    simp only [List.length_cons] at hl
    have hcell : w.cell? (ad k (o + i)) = some (c[o + i]'(by omega)) := by
      simp only [World.cell?, h]
      simp
    have hfz : w.frozen? (ad k (o + i)) = false := by
      have := hf (o + i) (by omega)
      simp only [World.frozen?, h]
      simp only [Bool.and_eq_false_iff, decide_eq_false_iff_not]
      omega
    simp only [storeCells, Sem.run_bind, ad_add]
    rw [run_store P w _ v .plain (hv v (by simp)), hcell]
    simp only [hfz, Bool.false_eq_true, if_false, Result.andThen_ok]
    rw [setCell_eq h]
    rw [run_store_row P k T fr o vs (i + 1) (c.setIfInBounds (o + i) v) _ (by simp [hk]) (by simp; omega) (by simpa using hf) (fun u hu => hv u (by simp [hu]))]
    have e1 : rowSet (c.setIfInBounds (o + i) v) (o + (i + 1)) vs = rowSet c (o + i) (v :: vs) := by
      apply Array.ext'
      simp only [rowSet, Array.toList_setIfInBounds, List.length_cons]
      rw [list_set_take _ _ _ (by simp; omega)]
      have hl2 : (List.take (o + i) c.toList).length = o + i := by simp; omega
      have := cut_aux (List.take (o + i) c.toList) (List.drop (o + i + 1) c.toList) v vs.length
      rw [hl2] at this
      rw [show o + (i + 1) = o + i + 1 by omega, this.1, this.2]
      simp only [List.append_assoc, List.drop_drop, List.cons_append, List.nil_append]
      rw [show o + i + 1 + vs.length = o + i + (vs.length + 1) by omega]
    rw [e1]
    congr 2
    apply Array.ext_getElem?
    intro j
    simp only [Array.getElem?_setIfInBounds, Array.size_setIfInBounds]
    by_cases hj : k = j
    · subst hj; simp [hk]
    · simp [hj]

theorem mid_eq {α : Type} (vs xs : List α) (a z off : Nat) (h : off + xs.length ≤ z) (h2 : a + z ≤ vs.length) :
    vs.take a ++ (((vs.drop a).take z).take off ++ xs ++ ((vs.drop a).take z).drop (off + xs.length)) ++ vs.drop (a + z) = vs.take (a + off) ++ xs ++ vs.drop (a + off + xs.length) := by
  have e1 : vs.take (a + off) = vs.take a ++ ((vs.drop a).take z).take off := by
    rw [List.take_add, List.take_take, Nat.min_eq_left (by omega)]
  have e2 : vs.drop (a + off + xs.length) = ((vs.drop a).take z).drop (off + xs.length) ++ vs.drop (a + z) := by
    have e3 : vs.drop (a + z) = (vs.drop a).drop z := by rw [List.drop_drop]
    rw [e3, ← List.drop_append_of_le_length (by simp; omega), List.take_append_drop, List.drop_drop]
    congr 1; omega
  rw [e1, e2]
  simp only [List.append_assoc]
theorem row_read {c : Array Value} {vs xs : List Value} {sh p : Nat} (hcv : ∀ (j : Nat) (v : Value), vs[j]? = some v → c[sh + j]? = some v) (hp : p + xs.length ≤ vs.length) (hn : sh + vs.length ≤ c.size) :
    ∀ (j : Nat) (u : Value), (vs.take p ++ xs ++ vs.drop (p + xs.length))[j]? = some u → (rowSet c (sh + p) xs)[sh + j]? = some u := by
  intro j u hj
  have hl : (vs.take p).length = p := by simp; omega
  by_cases h1 : j < p
  · rw [rowSet_get_lt _ _ _ (by omega) _ (by omega)]
    rw [List.append_assoc, List.getElem?_append_left (by omega), List.getElem?_take, if_pos h1] at hj
    exact hcv j u hj
  · by_cases h2 : j < p + xs.length
    · have := rowSet_get_mid c (sh + p) xs (by omega) (j - p) (by omega)
      rw [show sh + j = sh + p + (j - p) by omega, this]
      rw [List.append_assoc, List.getElem?_append_right (by omega), hl, List.getElem?_append_left (by omega)] at hj
      exact hj
    · rw [rowSet_get_ge _ _ _ (by omega) _ (by omega)]
      rw [List.getElem?_append_right (by simp; omega), List.getElem?_drop] at hj
      simp only [List.length_append, hl] at hj
      rw [show p + xs.length + (j - (p + xs.length)) = j by omega] at hj
      exact hcv j u hj

section
variable {E : Env} {w0 : World} {io : Nat → Prop} {s : HS} {w : World} {M : Nat → Pl} {ok : Nat → Prop}

/-- What an operation of class 3 leaves. -/
def Snd3 (E : Env) (w0 : World) (io : Nat → Prop) (s : HS) (w : World) (M : Nat → Pl) (ok : Nat → Prop) (t : Tr (AV × HS)) (m : Sem Value) : Prop :=
  ∀ K : AV × HS → Prop, t.run E K → ∃ x w' v s' M' ok', m.run E.P w = .ok x w' ∧ K (v, s') ∧ HLater E w0 io s w M ok s' w' M' ok' ∧ RV w' ok' (s'.place M') v x
theorem Snd3.fail {m : Sem Value} : Snd3 E w0 io s w M ok .fail m := fun _ hk => hk.elim
theorem Snd3.need {p : Prop} [Decidable p] {t : Tr (AV × HS)} {m : Sem Value} (h : p → Snd3 E w0 io s w M ok t m) : Snd3 E w0 io s w M ok (.need p t) m := fun K hk => h hk.1 K hk.2
theorem Snd3.done {v : AV} {s' : HS} {m : Sem Value} {x : Value} {w' : World} {M' : Nat → Pl} {ok' : Nat → Prop} (hm : m.run E.P w = .ok x w') (hl : HLater E w0 io s w M ok s' w' M' ok') (hr : RV w' ok' (s'.place M') v x) :
    Snd3 E w0 io s w M ok (.ok (v, s')) m := fun _ hk => ⟨x, w', v, s', M', ok', hm, hk, hl, hr⟩

theorem whole_of_scalar {v : AV} (h : v.cells.all AV.scalar = true) : v.whole = true := by
  cases v <;> first | rfl | (simp [AV.cells, AV.scalar] at h)

theorem allocA_sound (hE : E.Valid) (h : HR E w0 io s w M ok) (site : Nat) (t : TypeId) (v : Option AV) (x : Value) {ti : TyI} (ht : E.tt t = some ti) (hx : RV w ok (s.place M) (v.getD ti.zero) x) :
    Snd3 E w0 io s w M ok (allocA E site t v s) (do pure (.pointer (some (← newVar t x)))) := by
  unfold allocA
  try simp only [HS.putE_eq, natFrc_eq, AV.frc_eq, listFrc_eq]
  rw [ht]
  simp only
  split
  · rename_i hc
    obtain ⟨h1, h2, h3, h4⟩ := hc
    have hcs := hx.cells (whole_of_scalar h3)
    have hsz : x.cells.size = ti.sz := by rw [← h2, hcs.length]; simp
    have hl : Lay ti.ag ti.sz [v.getD ti.zero] := fun e he => by simp at he; subst he; exact ⟨⟨h1, h2⟩, h3⟩
    have := h.alloc hE site ti.ag ti.sz [v.getD ti.zero] false x.cells t x.cells.toList hl (by simpa [flat] using hcs) (fun j u hj => by simpa using hj)
    refine .done (x := .pointer (some (ad w.heap.size 0))) (by simp [newVar, newRow]) this ?_
    have hr := RV.ref (w := { w with heap := w.heap.push (.cells x.cells t) }) (ok := ok) _ site (s.vr site) 0 0 _ _ _ _ _ (place_now s M site ti.ag ti.sz [v.getD ti.zero] false (.at w.heap.size 0 ti.sz x.cells.size [v.getD ti.zero].length))
    simpa using hr
  · exact .fail

theorem run_storeVar {P : Program} {t : TypeId} {i : TypeInfo} (hi : P.info? t = some i) (k o : Nat) (x : Value) {c : Array Value} {T : TypeId} {fr : Nat × Nat} {w : World} (hh : w.heap[k]? = some (.cells c T fr)) (hsz : x.cells.size = i.size)
    (hb : o + x.cells.size ≤ c.size) (hf : ∀ j, j < c.size → ¬ (fr.1 ≤ j ∧ j < fr.2)) (hv : ∀ v ∈ x.cells.toList, v.oneCell' = true) :
    (Instr.storeAt t (.pointer (some (ad k o))) x).run P w = .ok () { w with heap := w.heap.setIfInBounds k (.cells (rowSet c o x.cells.toList) T fr) } := by
  simp only [Instr.storeAt, Instr.sureAddr, storeVar, Sem.run_bind, Sem.run_pure, Result.andThen_ok, run_size hi]
  rw [if_neg (by simp [hsz])]
  have := run_store_row P k T fr o x.cells.toList 0 c w hh (by simpa using hb) hf hv
  simpa using this

/-- The cells of a row whose middle was written. -/
theorem rowSet_flat {φ : Place} {ag : Bool} {sz : Nat} {es : List AV} (hl : Lay ag sz es) {i : Nat} {old v' : AV} (hi : es[i]? = some old) (hv' : v'.cells.length = sz) {vs : List Value} (hvs : RVs w ok φ (flat es) vs) {us : List Value} (hus : RVs w ok φ v'.cells us) :
    RVs w ok φ (flat (es.set i v')) (vs.take (i * sz) ++ us ++ vs.drop ((i + 1) * sz)) := by
  rw [flat_set hl (List.getElem?_eq_some_iff.1 hi).1 hv']
  exact ((hvs.take _).append hus).append (hvs.drop _)

theorem storeEl_cells {φ : Place} {ti : TyI} {b : Blk} {off : Nat} {old v v' : AV} (h : storeEl ti b.ag b.sz off old v = some v') (hold : old.isAgg = b.ag ∧ old.cells.length = b.sz) (hv : v.isAgg = ti.ag ∧ v.cells.length = ti.sz) {os us : List Value} (ho : RVs w ok φ old.cells os) (hu : RVs w ok φ v.cells us) :
    v'.isAgg = b.ag ∧ v'.cells.length = b.sz ∧ off + ti.sz ≤ b.sz ∧ RVs w ok φ v'.cells (os.take off ++ us ++ os.drop (off + us.length)) := by
  unfold storeEl at h
  split at h
  · rename_i hc
    obtain ⟨h1, h2, h3⟩ := hc
    simp at h; subst h; subst h3
    have hul : us.length = b.sz := by rw [← hu.length, hv.2, h2]
    have hol : os.length = b.sz := by rw [← ho.length, hold.2]
    refine ⟨by rw [hv.1, h1], by rw [hv.2, h2], by omega, ?_⟩
    rw [List.drop_eq_nil_of_le (by omega)]
    simpa using hu
  · split at h
    · rename_i cs
      split at h
      · rename_i hle
        simp at h; subst h
        have hold2 : cs.length = b.sz := hold.2
        have hv2 := hv.2
        refine ⟨hold.1, ?_, by omega, splice_RVs ho hu off⟩
        show (splice cs off v.cells).length = b.sz
        simp only [splice, List.length_append, List.length_take, List.length_drop, hv2]
        rw [Nat.min_eq_left (by omega)]
        omega
      · simp at h
    · simp at h

theorem storeEl_scalar {ti : TyI} {b : Blk} {off : Nat} {old v v' : AV} (h : storeEl ti b.ag b.sz off old v = some v') (ho : old.cells.all AV.scalar = true) (hv : v.cells.all AV.scalar = true) : v'.cells.all AV.scalar = true := by
  unfold storeEl at h
  split at h
  · simp at h; subst h; exact hv
  · split at h
    · rename_i cs
      split at h
      · simp at h; subst h
        show (splice cs off v.cells).all AV.scalar = true
        have ho' : cs.all AV.scalar = true := ho
        simp only [splice, List.all_append, hv, Bool.and_true, Bool.and_eq_true, List.all_eq_true] at ho' ⊢
        exact ⟨fun x hx => ho' x (List.mem_of_mem_take hx), fun x hx => ho' x (List.mem_of_mem_drop hx)⟩
      · simp at h
    · simp at h
theorem storeA_sound (hE : E.Valid) (h : HR E w0 io s w M ok) (t : TypeId) {a v : AV} {va x : Value} (ha : RV w ok (s.place M) a va) (hx : RV w ok (s.place M) v x) :
    ∀ K : AV × HS → Prop, (storeA E t a v s).run E K → ∃ w' s' M' ok', (Instr.storeAt t va x).run E.P w = .ok () w' ∧ K (.any, s') ∧ HLater E w0 io s w M ok s' w' M' ok' := by
  intro K hk
  unfold storeA at hk
  try simp only [Blk.frc_eq, AV.frc_eq, listFrc_eq, HS.setE_eq] at hk
  split at hk
  · rename_i ti id ver i off ht
    obtain ⟨ii, d, z, T⟩ := hE.tyok ht
    split at hk
    · rename_i b hb
      obtain ⟨hver, hk⟩ := hk
      · split at hk
        · rename_i hc
          obtain ⟨hc1, hc2, hc0, hc3⟩ := hc
          obtain ⟨k, sh, n, N, hm, hat, rfl⟩ := ref_at h hb hver ha
          have hcs := hx.cells (whole_of_scalar hc3)
          have hone := hcs.one hc3
          have hsz : x.cells.size = ti.sz := by rw [← hc2, hcs.length]; simp
          obtain ⟨_, hN, hlay, c, T', fr, vs, hh, hcn, hfr, hvs, hcv⟩ := hat
          have hvl : vs.length = b.es.length * b.sz := by rw [← hvs.length, flat_len hlay]
          -- common: the element written, the new contents
          have main : ∀ (old v' : AV), b.es[i]? = some old → v'.isAgg = b.ag → v'.cells.length = b.sz → v'.cells.all AV.scalar = true → off + ti.sz ≤ b.sz →
              RVs w ok (if b.pu then noφ else s.place M) v'.cells (((vs.drop (i * b.sz)).take b.sz).take off ++ x.cells.toList ++ ((vs.drop (i * b.sz)).take b.sz).drop (off + x.cells.toList.length)) →
              K (.any, s.set id b (b.es.set i v')) → ∃ w' s' M' ok', (Instr.storeAt t (.pointer (some (ad k (sh + i * b.sz + off)))) x).run E.P w = .ok () w' ∧ K (.any, s') ∧ HLater E w0 io s w M ok s' w' M' ok' := by
            intro old v' hold hag hlen hsca hoff hcells hk
            have hi : i < b.es.length := (List.getElem?_eq_some_iff.1 hold).1
            have hle : (i + 1) * b.sz ≤ vs.length := by rw [hvl]; exact Nat.mul_le_mul_right _ hi
            have hle2 : i * b.sz + b.sz ≤ vs.length := by rw [Nat.add_mul] at hle; omega
            have hvn : sh + vs.length ≤ n := by
              have := hcv (vs.length - 1) (vs[vs.length - 1]'(by omega)) (List.getElem?_eq_getElem (by omega))
              have := (Array.getElem?_eq_some_iff.1 this).1
              omega
            have hxl : x.cells.toList.length = ti.sz := by simpa using hsz
            have hb1 : sh + i * b.sz + off + x.cells.size ≤ c.size := by rw [hcn, hsz]; omega
            have hrun := run_storeVar (P := E.P) T.info k (sh + i * b.sz + off) x hh (by rw [hsz, T.sz]) hb1 (by rw [hcn]; exact hfr) hone
            refine ⟨_, _, M, ok, hrun, hk, ?_⟩
            refine h.rewrite hE hb hm (b.es.set i v') (by simp) _ T' fr (vs.take (i * b.sz) ++ (((vs.drop (i * b.sz)).take b.sz).take off ++ x.cells.toList ++ ((vs.drop (i * b.sz)).take b.sz).drop (off + x.cells.toList.length)) ++ vs.drop ((i + 1) * b.sz)) ?_ hfr (hlay.set i ⟨⟨hag, hlen⟩, hsca⟩) ?_ ?_
            · rw [rowSet_size _ _ _ (by rw [hxl, ← hsz]; exact hb1), hcn]
            · exact rowSet_flat hlay hold hlen hvs hcells
            · have e := mid_eq vs x.cells.toList (i * b.sz) b.sz off (by rw [hxl]; exact hoff) hle2
              rw [show (i + 1) * b.sz = i * b.sz + b.sz by rw [Nat.add_mul]; omega, e, Nat.add_assoc sh]
              exact row_read hcv (by rw [hxl]; omega) (by omega)
          have helem : ∀ old, b.es[i]? = some old → RVs w ok (if b.pu then noφ else s.place M) old.cells ((vs.drop (i * b.sz)).take b.sz) := by
            intro old hold
            have h1 := (hvs.drop (i * b.sz)).take b.sz
            have h2 : old.cells = ((flat b.es).drop (i * b.sz)).take b.sz := by
              have hol := (hlay old (List.mem_of_getElem? hold)).1.2
              apply List.ext_getElem?
              intro j
              rw [List.getElem?_take]
              split
              · rename_i hj; rw [List.getElem?_drop, flat_get hlay hold hj]
              · rename_i hj; rw [List.getElem?_eq_none (by omega)]
            rw [h2]; exact h1
          split at hk
          · rename_i hpu
            split at hk
            · rename_i hw
              obtain ⟨hw1, hw2, rfl, hw4⟩ := hw
              obtain ⟨hi, hk⟩ := hk
              have hold := List.getElem?_eq_getElem hi
              have hel := helem _ hold
              refine main _ v hold (by rw [hc1, hw1]) (by rw [hc2, hw2]) hc3 (by omega) ?_ hk
              have hlen : ((vs.drop (i * b.sz)).take b.sz).length = b.sz := by
                rw [← hel.length]; exact (hlay _ (List.getElem_mem hi)).1.2
              have hxl : x.cells.toList.length = b.sz := by rw [hw2]; simpa using hsz
              have hnil : ((vs.drop (i * b.sz)).take b.sz).drop (0 + x.cells.toList.length) = [] := List.drop_eq_nil_of_le (by rw [hlen, hxl]; omega)
              rw [hnil]
              simp only [List.take_zero, List.nil_append, List.append_nil]
              have hpc : AV.pureL v.cells = true := by
                cases v <;> first | (simpa [AV.cells, AV.pureB, AV.pureL] using hw4)
              simp only [hpu, if_true]
              exact hcs.pure' hpc
            · exact hk.elim
          · rename_i hpu
            split at hk
            · rename_i old hold
              split at hk
              · rename_i v' hst
                have hpu' : b.pu = false := by simpa using hpu
                have hel := helem _ hold
                simp only [hpu', if_false, Bool.false_eq_true] at hel
                obtain ⟨p1, p2, p3, p4⟩ := storeEl_cells hst (hlay old (List.mem_of_getElem? hold)).1 ⟨hc1, hc2⟩ hel hcs
                refine main old v' hold p1 p2 (storeEl_scalar hst (hlay old (List.mem_of_getElem? hold)).2 hc3) p3 ?_ hk
                simp only [hpu', if_false, Bool.false_eq_true]
                exact p4
              · exact hk.elim
            · exact hk.elim
        · exact hk.elim
    · exact hk.elim
  · exact hk.elim

theorem getElem?_pad {c : Array Value} {vs : List Value} (h : ∃ r, c = (vs ++ r).toArray) : ∀ (j : Nat) (v : Value), vs[j]? = some v → c[j]? = some v := by
  obtain ⟨r, rfl⟩ := h
  intro j v hj
  simp only [List.getElem?_toArray]
  rw [List.getElem?_append_left (List.getElem?_eq_some_iff.1 hj).1]
  exact hj

theorem RVs.flat_rep {φ : Place} {z : AV} {zs : List Value} (h : RVs w ok φ z.cells zs) : ∀ n : Nat, RVs w ok φ (flat (List.replicate n z)) ((List.replicate n zs).flatten)
  | 0 => .nil _
  | n + 1 => by
    rw [List.replicate_succ, flat_cons, List.replicate_succ, List.flatten_cons]
    exact h.append (RVs.flat_rep h n)

/-- The zeros of a made row, cell by cell. -/
theorem zeros_eq (z : Array Value) (hz : z.size ≠ 0) : ∀ n : Nat, (Array.range (n * z.size)).map (fun i => z[i % z.size]!) = ((List.replicate n z.toList).flatten).toArray
  | 0 => by simp
  | n + 1 => by
    have ih := zeros_eq z hz n
    rw [List.replicate_succ', List.flatten_append, List.flatten_singleton]
    apply Array.ext'
    have ih' := congrArg Array.toList ih
    simp only [Array.toList_map, Array.toList_range] at ih' ⊢
    rw [Nat.add_mul, Nat.one_mul, List.range_add, List.map_append, ih']
    congr 1
    apply List.ext_getElem?
    intro j
    simp only [List.map_map, List.getElem?_map, Array.getElem?_toList]
    by_cases hj : j < z.size
    · rw [List.getElem?_range hj, Array.getElem?_eq_getElem hj]
      simp only [Option.map_some, Function.comp]
      have : (n * z.size + j) % z.size = j := by rw [Nat.add_comm, Nat.add_mul_mod_self_right, Nat.mod_eq_of_lt hj]
      rw [this, getElem!_pos z j hj]
    · rw [List.getElem?_eq_none (by simp; omega), Array.getElem?_eq_none (by omega)]
      rfl

theorem makeA_sound (hE : E.Valid) (h : HR E w0 io s w M ok) (site : Nat) (t : TypeId) {l c : AV} {vl vc : Value} (hl : RV w ok (s.place M) l vl) (hc : RV w ok (s.place M) c vc) :
    Snd3 E w0 io s w M ok (makeA E site t l c s) (Instr.makeSlice t vl vc) := by
  unfold makeA
  try simp only [HS.putE_eq, natFrc_eq, AV.frc_eq, listFrc_eq]
  split
  · rename_i ag sz bytes zero e ht
    obtain ⟨_, d, z, T⟩ := hE.tyok ht
    have hd := td_slice T.td.symm
    subst hd
    split
    · rename_i ti kn n km m hte
      obtain ⟨ei, ed, ez, TE⟩ := hE.tyok hte
      cases hl; cases hc
      split
      · exact .fail
      · rename_i hsz
        refine .need fun ⟨h0, h1, h2, h3⟩ => ?_
        have hcs : RVs w ok (s.place M) ti.zero.cells ez.cells.toList := zero_RVs TE
        have hcn : RVs w ok noφ ti.zero.cells ez.cells.toList := zero_RVs TE
        have hzs : ez.cells.size = ti.sz := by rw [TE.sz, ← TE.zl, hcs.length]; simp
        have hlen : ti.zero.cells.length = ti.sz := by rw [TE.zl, TE.sz]
        have hlay : Lay ti.ag ti.sz (List.replicate n.toNat ti.zero) := fun e he => by
          rw [List.eq_of_mem_replicate he]
          exact ⟨⟨by rw [TE.za, TE.ag], hlen⟩, (litAV_cells TE.lit).1⟩
        have hrow : ∃ c : Array Value, c.size = m.toNat * ti.sz ∧ (∀ (j : Nat) (v : Value), ((List.replicate n.toNat ez.cells.toList).flatten)[j]? = some v → c[j]? = some v) ∧
            (Instr.makeSlice t (.int kn n) (.int km m)).run E.P w = .ok (.slice (some (ad w.heap.size 0)) n.toNat m.toNat) { w with heap := w.heap.push (.cells c e) } := by
          refine ⟨((List.replicate m.toNat ez.cells.toList).flatten).toArray, ?_, ?_, ?_⟩
          · have : (List.replicate m.toNat ez.cells.toList).flatten.length = m.toNat * ti.sz := by simp [hzs]
            simpa using this
          · refine getElem?_pad ⟨(List.replicate (m.toNat - n.toNat) ez.cells.toList).flatten, ?_⟩
            rw [← List.flatten_append, List.replicate_append_replicate, show n.toNat + (m.toNat - n.toNat) = m.toNat by omega]
          · have hb : (ei.bytes : Int) * m ≤ 2 ^ 48 := by
              have : (ti.bytes : Int) * m ≤ 2 ^ 47 := by rw [Int.mul_comm]; exact h2
              rw [← TE.bytes]; omega
            simp only [Instr.makeSlice, Sem.run_bind, run_under T.under, asInt, asIntOf, Sem.run_pure, Result.andThen_ok, run_info TE.info]
            rw [wrap64_id (by omega) (by omega), wrap64_id (by omega) (by omega)]
            rw [if_neg (by simp; omega)]
            simp only [Sem.run_bind, run_askRoom, Result.andThen_ok, run_size TE.info]
            have hes : ei.size = ti.sz := TE.sz.symm
            by_cases hm0 : m.toNat = 0
            · have h00 : Array.range 0 = #[] := rfl
              simp [hm0, newRow, h00]
            · have hne : ¬ m.toNat * ei.size = 0 := by
                rw [hes]; exact Nat.mul_ne_zero hm0 hsz
              rw [if_neg hne]
              simp only [Sem.run_bind, run_zero TE.info TE.zero, Result.andThen_ok, Sem.run_pure]
              rw [hes, ← hzs, zeros_eq ez.cells (by rw [hzs]; exact hsz)]
              simp [newRow]
        obtain ⟨c, hc1, hc2, hc3⟩ := hrow
        have hal := h.alloc hE site ti.ag ti.sz (List.replicate n.toNat ti.zero) true c e _ hlay (by simpa using hcn.flat_rep n.toNat) hc2
        refine .done hc3 hal ?_
        have hp := place_now s M site ti.ag ti.sz (List.replicate n.toNat ti.zero) true (.at w.heap.size 0 ti.sz c.size (List.replicate n.toNat ti.zero).length)
        have := RV.own (w := { w with heap := w.heap.push (.cells c e) }) (ok := ok) _ site (s.vr site) 0 n.toNat m.toNat _ _ _ _ _ hp (by omega) (by rw [hc1]; simp) (by simp)
        simpa using this
    · exact .fail
  · exact .fail
end
end GoAbs
end

section
namespace GoAbs
open Go

section
variable {E : Env} {w0 : World} {io : Nat → Prop} {s : HS} {w : World} {M : Nat → Pl} {ok : Nat → Prop}

theorem litParts_fill {φ : Place} {ti : TyI} {sz : Nat} (hsz : sz = ti.sz) : ∀ {ps : List (Nat × AV)} {qs : List (Nat × Value)} {k : Nat} {es : List AV} {xs : Array Value}, RVp w ok φ ps qs → litParts ti k ps = some es → xs.size = (k + es.length) * sz →
    ∃ ys us, Instr.fill (fun i => some (i * sz, sz)) xs qs = some ys ∧ ys.toList = xs.toList.take (k * sz) ++ us ∧ RVs w ok noφ (flat es) us ∧ Lay ti.ag ti.sz es
  | [], qs, k, es, xs, hp, h, hx => by
    cases hp
    simp [litParts] at h; subst h
    refine ⟨xs, [], rfl, ?_, .nil _, fun e he => by simp at he⟩
    simp at hx
    rw [List.append_nil, List.take_of_length_le (by simp [hx])]
  | (i, v) :: ps, _, k, es, xs, hp, h, hx => by
    cases hp with
    | cons _ _ x _ qs hv hq =>
      unfold litParts at h
      split at h
      · rename_i hc
        obtain ⟨rfl, h1, h2, h3, h4⟩ := hc
        split at h
        · rename_i l hl
          simp at h; subst h
          have hcs := hv.cells (whole_of_scalar h3)
          have hcn : RVs w ok noφ v.cells x.cells.toList := hcs.pure' (by cases v <;> first | (simpa [AV.cells, AV.pureB, AV.pureL] using h4))
          have hxs : x.cells.size = sz := by rw [hsz, ← h2, hcs.length]; simp
          simp only [List.length_cons] at hx
          have hmul : (i + (l.length + 1)) * sz = i * sz + sz + l.length * sz := by rw [Nat.add_mul, Nat.add_mul]; omega
          have hset := fold_set x.cells.toList (i * sz) 0 xs (by simp [hxs]; rw [hx, hmul]; omega)
          have hsize : (List.foldl (fun (cs : Array Value) (p : Value × Nat) => cs.setIfInBounds (i * sz + p.2) p.1) xs (x.cells.toList.zipIdx 0)).size = (i + 1 + l.length) * sz := by
            rw [← Array.length_toList, hset]
            simp [hxs]
            rw [hx, hmul]
            have : (i + 1 + l.length) * sz = i * sz + sz + l.length * sz := by rw [Nat.add_mul, Nat.add_mul]; omega
            rw [this]; omega
          obtain ⟨ys, us, e1, e2, e3, e4⟩ := litParts_fill hsz hq hl hsize
          refine ⟨ys, x.cells.toList ++ us, ?_, ?_, ?_, ?_⟩
          · unfold Instr.fill
            simp only [hxs]
            rw [if_neg (by simp; rw [hx, hmul]; omega), ← Array.foldl_toList, Array.toList_zipIdx]
            exact e1
          · rw [e2, hset]
            have hl1 : (xs.toList.take (i * sz)).length = i * sz := by simp; rw [hx, hmul]; omega
            rw [Nat.add_zero, List.take_append_of_le_length (by simp [hxs]; rw [hx, hmul, Nat.add_mul]; omega), List.take_of_length_le (by simp [hxs]; rw [hx, hmul, Nat.add_mul]; omega)]
            simp
          · rw [flat_cons]; exact hcn.append e3
          · intro e he
            rcases List.mem_cons.1 he with rfl | he
            · exact ⟨⟨h1, h2⟩, h3⟩
            · exact e4 e he
        · simp at h
      · simp at h

theorem buildSliceA_sound (hE : E.Valid) (h : HR E w0 io s w M ok) (site : Nat) (t : TypeId) (len : Nat) {ps : List (Nat × AV)} {qs : Array (Nat × Value)} (hps : RVp w ok (s.place M) ps qs.toList) :
    Snd3 E w0 io s w M ok (buildSliceA E site t len ps s) (Instr.buildSlice t len qs) := by
  unfold buildSliceA
  try simp only [HS.putE_eq, natFrc_eq, AV.frc_eq, listFrc_eq]
  split
  · rename_i ag sz bytes zero e ht
    obtain ⟨_, d, z, T⟩ := hE.tyok ht
    have hd := td_slice T.td.symm
    subst hd
    split
    · rename_i ti hte
      obtain ⟨ei, ed, ez, TE⟩ := hE.tyok hte
      split
      · exact .fail
      · rename_i hsz
        split
        · rename_i es hes
          split
          · rename_i hc
            obtain ⟨rfl, hc⟩ := hc
            have hss : ei.size = ti.sz := TE.sz.symm
            have hzs : ez.cells.size = ti.sz := by
              have hcs : RVs w ok (s.place M) ti.zero.cells ez.cells.toList := zero_RVs TE
              rw [TE.sz, ← TE.zl, hcs.length]; simp
            obtain ⟨ys, us, e1, e2, e3, e4⟩ := litParts_fill (w := w) (ok := ok) (φ := s.place M) (sz := ei.size) hss (k := 0) (xs := (Array.range (es.length * ei.size)).map (fun i => (if es.length * ei.size = 0 then #[] else ez.cells)[i % (if es.length * ei.size = 0 then #[] else ez.cells).size]!)) hps hes (by simp)
            have hys : ys = us.toArray := by apply Array.ext'; simpa using e2
            subst hys
            have hal := h.alloc hE site ti.ag ti.sz es true us.toArray e us e4 (by simpa using e3) (fun j v hj => by simpa using hj)
            have hus : us.length = es.length * ti.sz := by rw [← e3.length, flat_len e4]
            refine .done (x := .slice (some (ad w.heap.size 0)) es.length es.length) ?_ hal ?_
            · simp only [Instr.buildSlice, Sem.run_bind, run_under T.under, Result.andThen_ok, run_size TE.info]
              rw [if_neg (by rw [hss]; omega)]
              by_cases h0 : es.length * ei.size = 0
              · simp only [h0, if_true] at e1 ⊢
                simp only [Sem.run_bind, Sem.run_pure, Result.andThen_ok, e1]
                rfl
              · simp only [h0, if_false] at e1 ⊢
                simp only [Sem.run_bind, run_zero TE.info TE.zero, Sem.run_pure, Result.andThen_ok, e1]
                rfl
            · have hp := place_now s M site ti.ag ti.sz es true (.at w.heap.size 0 ti.sz us.toArray.size es.length)
              have := RV.own (w := { w with heap := w.heap.push (.cells us.toArray e) }) (ok := ok) _ site (s.vr site) 0 es.length es.length _ _ _ _ _ hp (by omega) (by simp [hus]) (by simp)
              simpa using this
          · exact .fail
        · exact .fail
    · exact .fail
  · exact .fail

/-- What is appended, read. -/
theorem added_sound (hE : E.Valid) (h : HR E w0 io s w M ok) {ti : TyI} (hsz : ti.sz ≠ 0) {y : AV} {vy : Value} (hy : RV w ok (s.place M) y vy) {K : List AV → Prop} (ha : (addedA ti s y).run E K) :
    ∃ (ys : List AV) (us : List Value), K ys ∧ RVs w ok noφ (flat ys) us ∧ Lay ti.ag ti.sz ys ∧ (Builtin.lenOf vy).run E.P w = .ok ys.length w ∧ (∀ d, (Builtin.firstCells ti.sz ys.length vy).run E.P { w with drawn := d } = .ok us.toArray { w with drawn := d }) := by
  unfold addedA at ha
  try simp only [Blk.frc_eq, AV.frc_eq] at ha
  have hload : ∀ (k o : Nat) (us : List Value) (m : Nat) (d : Nat), us.length = m → (∀ (j : Nat) (u : Value), us[j]? = some u → w.cell? (ad k (o + j)) = some u) → (loadCells (ad k o) m).run E.P { w with drawn := d } = .ok us.toArray { w with drawn := d } := by
    intro k o us m d hl hc
    rw [← hl]
    exact run_loadCells_list _ (ad k o) us fun j v hj => by rw [ad_add]; exact hc j v hj
  split at ha
  · cases hy
    exact ⟨[], [], ha, .nil _, fun e he => by simp at he, by simp [Builtin.lenOf], fun d => by simp [Builtin.firstCells]⟩
  · cases hy with
    | cap0 _ a => exact ⟨[], [], ha, .nil _, fun e he => by simp at he, by simp [Builtin.lenOf], fun d => by cases a <;> simp [Builtin.firstCells, loadCells, loadCellsFrom]⟩
  · split at ha
    · rename_i ag sz es hc
      obtain ⟨rfl, rfl⟩ := hc
      cases hy with
      | imm0 _ _ _ a cap =>
        refine ⟨[], [], ha, .nil _, fun e he => by simp at he, by simp [Builtin.lenOf], fun d => ?_⟩
        cases a <;> simp [Builtin.firstCells, loadCells, loadCellsFrom]
      | imm _ _ _ _ b o cap vs hok hlay hvs hc hcap =>
        refine ⟨es, vs, ha, hvs, hlay, by simp [Builtin.lenOf], fun d => ?_⟩
        exact hload b o vs _ d (by rw [← hvs.length, flat_len hlay]) hc
    · exact ha.elim
  · split at ha
    · rename_i id ver sz off len _ b hb
      split at ha
      · rename_i hc
        obtain ⟨h1, h2, hpu⟩ := hc
        obtain ⟨hver, ha⟩ := ha
        have hblk := h.blk id b hb
        cases hy with
        | own_dead _ _ _ _ _ _ a cap hd hl ha => rw [place_at hb hver] at hd; rw [hd] at hblk; exact hblk.elim
        | own_virt _ _ _ _ a hp =>
          refine ⟨_, [], ha, by simpa using .nil _, fun e he => by simp at he, by simp [Builtin.lenOf], fun d => ?_⟩
          cases a <;> simp [Builtin.firstCells, loadCells, loadCellsFrom]
        | own_nil _ _ _ _ a _ _ _ _ _ hp hN =>
          refine ⟨_, [], ha, by simpa using .nil _, fun e he => by simp at he, by simp [Builtin.lenOf], fun d => ?_⟩
          cases a <;> simp [Builtin.firstCells, loadCells, loadCellsFrom]
        | own _ _ _ _ _ cap k sh _ n N hp hlen hcap hN =>
          rw [place_at hb hver] at hp
          rw [hp] at hblk
          obtain ⟨hbz, hbN, hlay, c, T, fr, vs, h4, h5, h6, h7, h8⟩ := hblk
          subst hbz
          simp only [hpu, if_true] at h7
          rw [h1, h2] at hlay
          have hl : ((b.es.drop off).take len).length = len := by rw [List.length_take, List.length_drop]; omega
          refine ⟨_, (vs.drop (off * b.sz)).take (len * b.sz), ha, ?_, (hlay.drop _).take _, by simp [Builtin.lenOf]; omega, fun d => ?_⟩
          · rw [flat_take (hlay.drop _), flat_drop hlay, ← h2]; exact (h7.drop _).take _
          · rw [hl]
            have hvl : vs.length = b.es.length * b.sz := by rw [← h7.length, flat_len hlay, h2]
            refine hload k (sh + off * b.sz) _ _ d ?_ ?_
            · rw [List.length_take, List.length_drop, hvl, h2]
              have : (off + len) * ti.sz ≤ b.es.length * ti.sz := Nat.mul_le_mul_right _ (by omega)
              rw [Nat.add_mul] at this
              omega
            · intro j u hj
              rw [List.getElem?_take] at hj
              split at hj
              · rw [List.getElem?_drop] at hj
                simp [World.cell?, h4, Nat.add_assoc, h8 _ u hj]
              · simp at hj
      · exact ha.elim
    · exact ha.elim
  · split at ha
    · rename_i b hc
      cases hy
      refine ⟨_, b.data.toList.map fun c => .int .u8 c.toNat, ha, ?_, ?_, by simp [Builtin.lenOf], fun d => ?_⟩
      · have e : flat (b.data.toList.map fun c => AV.int .u8 c.toNat) = b.data.toList.map fun c => AV.int .u8 c.toNat := by
          generalize b.data.toList = l
          induction l with
          | nil => rfl
          | cons x l ih => rw [List.map_cons, flat_cons, ih]; rfl
        rw [e]
        exact RVs_map fun x => .int _ _ _
      · intro e he
        simp at he
        obtain ⟨x, _, rfl⟩ := he
        exact ⟨⟨hc.1.symm, hc.2.symm⟩, rfl⟩
      · simp only [Builtin.firstCells, Sem.run_pure]
        congr 1
        apply Array.ext'
        have : b.data.toList.length = b.size := by simp
        simp [this]
    · exact ha.elim
  · exact ha.elim
end
end GoAbs
end

section
namespace GoAbs
open Go

section
variable {E : Env} {w0 : World} {io : Nat → Prop} {s : HS} {w : World} {M : Nat → Pl} {ok : Nat → Prop}

theorem Mono.drew {φ : Place} (d : Nat) : Mono w ok φ { w with drawn := d } ok φ := ⟨fun _ h => ⟨h, rfl⟩, fun _ _ => .inr (.inl rfl)⟩
theorem HR.drew (hE : E.Valid) (h : HR E w0 io s w M ok) (d : Nat) : HLater E w0 io s w M ok s { w with drawn := d } M ok :=
  ⟨{ blk := fun id b hb => (h.blk id b hb).mono (Mono.drew d) fun _ _ _ _ _ _ => rfl
     ver := h.ver, inj := h.inj, lo := h.lo, okb := h.okb, frame := h.frame, size := h.size, os := h.os, output := h.output, tape := h.tape
     G := hE.stay w _ (fun _ _ => rfl) (hE.size w h.G) h.G }, Mono.drew d, fun _ hk => .inl hk⟩

theorem growBy_le (newLen : Nat) : ∀ (r c : Nat), 256 ≤ c → c ≤ 2 * newLen → Builtin.growBy newLen r c ≤ 2 * newLen
  | 0, c, _, h => h
  | r + 1, c, h0, h => by
    unfold Builtin.growBy
    split
    · exact h
    · exact growBy_le newLen r _ (by omega) (by omega)
theorem nextcap_le (need old : Nat) (h : old < need) : Builtin.nextslicecap need old ≤ 2 * need := by
  unfold Builtin.nextslicecap
  split
  · omega
  · split
    · omega
    · exact growBy_le need 4 old (by omega) (by omega)

/-- append where the new elements do not fit: a new block. -/
theorem append_new (hE : E.Valid) (h : HR E w0 io s w M ok) (id : Nat) {t t2 e : TypeId} {d2 : TypeDesc} {ti : TyI} {ei : TypeInfo} {ed : TypeDesc} {ez : Value} (T : E.P.underlying t = some (.slice e)) (T2 : E.P.underlying t2 = some d2) (hd2 : ∀ k, d2 ≠ .int k)
    (TE : TyOk E.P e ti ei ed ez) (hbytes : ti.bytes ≠ 0) (ty : TypeId) (a : Option Addr) (sLen cap : Nat) {vy : Value} {old ys : List AV} {os us : List Value}
    (hold : RVs w ok noφ (flat old) os) (hlo : Lay ti.ag ti.sz old) (hol : old.length = sLen) (hfo : ∀ d, (Builtin.firstCells ti.sz sLen (.slice a sLen cap)).run E.P { w with drawn := d } = .ok os.toArray { w with drawn := d })
    (hys : RVs w ok noφ (flat ys) us) (hly : Lay ti.ag ti.sz ys) (hn : (Builtin.lenOf vy).run E.P w = .ok ys.length w) (hfy : ∀ d, (Builtin.firstCells ti.sz ys.length vy).run E.P { w with drawn := d } = .ok us.toArray { w with drawn := d })
    (hcap : cap < sLen + ys.length) (hb : (sLen + ys.length) * ti.bytes ≤ 2 ^ 47) :
    ∃ x w' M' ok', (Builtin.append_ #[t, t2] ty #[.slice a sLen cap, vy]).run E.P w = .ok x w' ∧ HLater E w0 io s w M ok (s.put id ti.ag ti.sz (old ++ ys) true) w' M' ok' ∧ RV w' ok' ((s.put id ti.ag ti.sz (old ++ ys) true).place M') (.own id (s.vr id) ti.sz 0 (sLen + ys.length)) x := by
  have hes : ei.size = ti.sz := TE.sz.symm
  have hebytes : ei.bytes = ti.bytes := TE.bytes.symm
  let d1 := w.drawn + 1
  let q := Question.appendCap (sLen + ys.length) cap e
  let nc := q.cut (w.tape w.drawn q)
  have hnc : sLen + ys.length ≤ nc := by simp only [nc, q, Question.cut]; omega
  let c : Array Value := os.toArray ++ us.toArray ++ Builtin.zeroCells ez.cells (nc - (sLen + ys.length))
  have hzs : ez.cells.size = ti.sz := by
    have hcs : RVs w ok noφ ti.zero.cells ez.cells.toList := zero_RVs TE
    rw [TE.sz, ← TE.zl, hcs.length]; simp
  have hdr := h.drew hE d1
  have hlay := hlo.append hly
  have hrow : RVs w ok noφ (flat (old ++ ys)) (os ++ us) := by rw [flat_append]; exact hold.append hys
  have hrow' : RVs { w with drawn := d1 } ok noφ (flat (old ++ ys)) (os ++ us) := hrow.mono (Mono.drew d1)
  have hal := hdr.hr.alloc hE id ti.ag ti.sz (old ++ ys) true c e (os ++ us) hlay (by simpa using hrow') (getElem?_pad ⟨(Builtin.zeroCells ez.cells (nc - (sLen + ys.length))).toList, by simp [c]⟩)
  have hrun : (Builtin.append_ #[t, t2] ty #[.slice a sLen cap, vy]).run E.P w = .ok (.slice (some (ad w.heap.size 0)) (sLen + ys.length) nc) { w with drawn := d1, heap := w.heap.push (.cells c e) } := by
    have hz : (underlying t2).run E.P w = .ok d2 w := run_under T2 w
    have hgrow : ¬ Builtin.nextslicecap (sLen + ys.length) cap * ei.bytes > 2 ^ 48 := by
      have h1 := nextcap_le (sLen + ys.length) cap hcap
      have h2 : Builtin.nextslicecap (sLen + ys.length) cap * ei.bytes ≤ 2 * (sLen + ys.length) * ei.bytes := Nat.mul_le_mul_right _ h1
      rw [hebytes] at h2 ⊢
      rw [Nat.mul_assoc] at h2
      omega
    simp only [Builtin.append_]
    simp [run_under T, run_size TE.info, hz, hn]
    rw [if_neg (by omega)]
    simp only [run_info TE.info, Result.andThen_ok]
    rw [if_neg (by rw [hebytes]; simp [hbytes])]
    rw [if_neg (by omega)]
    rw [if_neg (by simp [Question.forced])]
    have h1 := hfo d1
    have h2 := hfy d1
    rw [← hes] at h1 h2
    have hw : w.drew = { w with drawn := d1 } := rfl
    simp only [hw, Result.andThen_ok, h1, h2, run_zero TE.info TE.zero]
    have hc : os.toArray ++ (us.toArray ++ Builtin.zeroCells ez.cells (nc - (sLen + ys.length))) = c := by simp only [c, Array.append_assoc]
    change ((newRow e (os.toArray ++ (us.toArray ++ Builtin.zeroCells ez.cells (nc - (sLen + ys.length))))).run E.P { w with drawn := d1 }).andThen (fun a w' => Result.ok (Value.slice (some a) (sLen + ys.length) nc) w') = _
    rw [hc]
    rfl
  refine ⟨_, _, _, _, hrun, hdr.trans hal, ?_⟩
  have hp := place_now s M id ti.ag ti.sz (old ++ ys) true (.at w.heap.size 0 ti.sz c.size (old ++ ys).length)
  have hcsz : c.size = nc * ti.sz := by
    have h1 : os.length = sLen * ti.sz := by rw [← hold.length, flat_len hlo, hol]
    have h2 : us.length = ys.length * ti.sz := by rw [← hys.length, flat_len hly]
    simp only [c, Array.size_append, List.size_toArray, h1, h2, Builtin.zeroCells, Array.size_map, Array.size_range, hzs]
    rw [← Nat.add_mul, ← Nat.add_mul]
    congr 1
    omega
  have := RV.own (w := { w with drawn := d1, heap := w.heap.push (.cells c e) }) (ok := ok) _ id (s.vr id) 0 (sLen + ys.length) nc _ _ _ _ _ hp hnc (by rw [hcsz]; simp) (by simp [hol])
  simpa using this

theorem run_append_fit {t t2 e : TypeId} {d2 : TypeDesc} {ei : TypeInfo} (T : E.P.underlying t = some (.slice e)) (T2 : E.P.underlying t2 = some d2) (hd2 : ∀ k, d2 ≠ .int k) (TE : E.P.info? e = some ei) (ty : TypeId) (a : Option Addr) (sLen cap n : Nat) {vy : Value} {us : List Value}
    (hn : (Builtin.lenOf vy).run E.P w = .ok n w) (hfy : (Builtin.firstCells ei.size n vy).run E.P w = .ok us.toArray w) (hcap : sLen + n ≤ cap) :
    (Builtin.append_ #[t, t2] ty #[.slice a sLen cap, vy]).run E.P w = match a with
      | some a' => ((storeCells (a'.add (sLen * ei.size)) us).run E.P w).andThen fun _ w' => .ok (.slice a (sLen + n) cap) w'
      | none => .ok (.slice a (sLen + n) cap) w := by
  have hz : (underlying t2).run E.P w = .ok d2 w := run_under T2 w
  simp only [Builtin.append_]
  simp [run_under T, run_size TE, hz, hn]
  rw [if_pos hcap]
  simp only [hfy, Result.andThen_ok]
  cases a <;> simp

theorem Snd3.app {t : Tr (AV × HS)} {m : Sem Value} {K : AV × HS → Prop} (hk : t.run E K) (h : Snd3 E w0 io s w M ok t m) :
    ∃ x w' v s' M' ok', m.run E.P w = .ok x w' ∧ K (v, s') ∧ HLater E w0 io s w M ok s' w' M' ok' ∧ RV w' ok' (s'.place M') v x := h K hk
theorem appendA_sound (hE : E.Valid) (h : HR E w0 io s w M ok) (site : Nat) (t t2 ty : TypeId) {x y : AV} {vx vy : Value} (hx : RV w ok (s.place M) x vx) (hy : RV w ok (s.place M) y vy) :
    Snd3 E w0 io s w M ok (appendA E site t t2 x y s) (Builtin.append_ #[t, t2] ty #[vx, vy]) := by
  unfold appendA
  try simp only [HS.putE_eq, natFrc_eq, AV.frc_eq, listFrc_eq]
  try simp only [Blk.frc_eq, AV.frc_eq]
  split
  case h_2 => exact .fail
  rename_i ag sz bytes zero e ht
  obtain ⟨_, d, z, T⟩ := hE.tyok ht
  have hd := td_slice T.td.symm
  subst hd
  split
  case h_2 => exact .fail
  rename_i ti t2i hte ht2
  obtain ⟨ei, ed, ez, TE⟩ := hE.tyok hte
  obtain ⟨_, d2, _, T2⟩ := hE.tyok ht2
  split
  · exact .fail
  rename_i hne
  have hsz : ti.sz ≠ 0 := fun hh => hne (.inl hh)
  have hby : ti.bytes ≠ 0 := fun hh => hne (.inr hh)
  have hes : ei.size = ti.sz := TE.sz.symm
  split
  · exact .fail
  rename_i hd2'
  have hd2 : ∀ k, d2 ≠ .int k := by
    intro k hk
    subst hk
    exact hd2' k T2.td
  intro K0 hk0
  rw [Tr.run_bind] at hk0
  obtain ⟨ys, us, hk0, hu1, hu2, hu3, hu4⟩ := added_sound hE h hsz hy hk0
  refine Snd3.app hk0 ?_
  clear hk0
  have hw : { w with drawn := w.drawn } = w := rfl
  have hu4' : (Builtin.firstCells ei.size ys.length vy).run E.P w = .ok us.toArray w := by rw [hes]; exact hu4 w.drawn
  split
  · -- nil
    refine .need fun hb => ?_
    cases hx
    by_cases h0 : ys.length = 0
    · have hnil : ys = [] := List.length_eq_zero_iff.1 h0
      subst hnil
      have hus : us = [] := by cases hu1; rfl
      subst hus
      refine .done (x := .slice none 0 0) ?_ (h.virt site ti.ag ti.sz true) (.own_virt _ _ _ _ _ (place_now s M site ti.ag ti.sz [] true .virt))
      rw [run_append_fit T.under T2.under hd2 TE.info ty none 0 0 0 hu3 hu4' (by omega)]
    · intro K hk
      obtain ⟨x, w', M', ok', h1, h2, h3⟩ := append_new hE h site T.under T2.under hd2 TE hby ty none 0 0 (old := []) (os := []) (.nil _) (fun e he => by simp at he) rfl (fun d => by simp [Builtin.firstCells]) hu1 hu2 hu3 hu4 (by omega) (by simpa using hb)
      simp only [List.nil_append, Nat.zero_add] at h2 h3
      exact ⟨x, w', _, _, M', ok', h1, hk, h2, h3⟩
  · -- no room
    refine .need fun hb => ?_
    cases hx with
    | cap0 _ a =>
    by_cases h0 : ys.length = 0
    · have hnil : ys = [] := List.length_eq_zero_iff.1 h0
      subst hnil
      have hus : us = [] := by cases hu1; rfl
      subst hus
      refine .done (x := .slice a 0 0) ?_ (h.virt site ti.ag ti.sz true) (.own_virt _ _ _ _ _ (place_now s M site ti.ag ti.sz [] true .virt))
      rw [run_append_fit T.under T2.under hd2 TE.info ty a 0 0 0 hu3 hu4' (by omega)]
      cases a <;> rfl
    · intro K hk
      obtain ⟨x, w', M', ok', h1, h2, h3⟩ := append_new hE h site T.under T2.under hd2 TE hby ty a 0 0 (old := []) (os := []) (.nil _) (fun e he => by simp at he) rfl (fun d => by cases a <;> simp [Builtin.firstCells, loadCells, loadCellsFrom]) hu1 hu2 hu3 hu4 (by omega) (by simpa using hb)
      simp only [List.nil_append, Nat.zero_add] at h2 h3
      exact ⟨x, w', _, _, M', ok', h1, hk, h2, h3⟩
  · rename_i id ver sz off len
    split
    case h_2 => exact .fail
    rename_i b hb
    split
    case isFalse => exact .fail
    rename_i hc
    obtain ⟨h1, h2, h3, hpu⟩ := hc
    subst h3
    refine .need fun ⟨hver, hoff, hbytes⟩ => ?_
    have hblk := h.blk id b hb
    -- an empty header: nothing there, or a new block
    have empty : ∀ a, vx = .slice a 0 0 → len = 0 → Snd3 E w0 io s w M ok (.ok (.own id (s.vr id) ti.sz 0 (len + ys.length), s.put id ti.ag ti.sz (b.es.drop off ++ ys) true)) (Builtin.append_ #[t, t2] ty #[vx, vy]) := by
      intro a hva hl0
      subst hva; subst hl0
      have hdrop : b.es.drop off = [] := List.drop_eq_nil_of_le (by omega)
      rw [hdrop]
      by_cases h0 : ys.length = 0
      · have hnil : ys = [] := List.length_eq_zero_iff.1 h0
        subst hnil
        have hus : us = [] := by cases hu1; rfl
        subst hus
        refine .done (x := .slice a 0 0) ?_ (h.virt id ti.ag ti.sz true) (.own_virt _ _ _ _ _ (place_now s M id ti.ag ti.sz [] true .virt))
        rw [run_append_fit T.under T2.under hd2 TE.info ty a 0 0 0 hu3 hu4' (by omega)]
        cases a <;> rfl
      · intro K hk
        obtain ⟨x, w', M', ok', h1, h2, h3⟩ := append_new hE h id T.under T2.under hd2 TE hby ty a 0 0 (old := []) (os := []) (.nil _) (fun e he => by simp at he) rfl (fun d => by cases a <;> simp [Builtin.firstCells, loadCells, loadCellsFrom]) hu1 hu2 hu3 hu4 (by omega) (by simpa using hbytes)
        exact ⟨x, w', _, _, M', ok', h1, hk, h2, h3⟩
    cases hx with
    | own_dead _ _ _ _ _ _ a cap hd hl ha => rw [place_at hb hver] at hd; rw [hd] at hblk; exact hblk.elim
    | own_virt _ _ _ _ a hp => exact empty a rfl rfl
    | own_nil _ _ _ _ a _ _ _ _ _ hp hN => exact empty a rfl rfl
    | own _ _ _ _ _ cap k sh _ n N hp hlen hcap hN =>
      rw [place_at hb hver] at hp
      rw [hp] at hblk
      obtain ⟨hbz, hbN, hlay, c, T', fr, vs, h4, h5, h6, h7, h8⟩ := hblk
      simp only [hpu, if_true] at h7
      rw [h1, h2] at hlay
      have hvl : vs.length = b.es.length * ti.sz := by rw [← h7.length, flat_len hlay]
      have hdl : (b.es.drop off).length = len := by rw [List.length_drop]; omega
      have hmul : (off + len) * ti.sz = off * ti.sz + len * ti.sz := Nat.add_mul _ _ _
      have hold : RVs w ok noφ (flat (b.es.drop off)) (vs.drop (off * ti.sz)) := by rw [flat_drop hlay]; exact h7.drop _
      have hvd : (vs.drop (off * ti.sz)).length = len * ti.sz := by rw [List.length_drop, hvl, ← hoff, hmul]; omega
      by_cases hfit : len + ys.length ≤ cap
      · -- it fits
        have hul : us.length = ys.length * ti.sz := by rw [← hu1.length, flat_len hu2]
        have hroom : sh + (off + len) * ti.sz + us.length ≤ c.size := by
          rw [h5, hul]
          refine Nat.le_trans ?_ hcap
          rw [Nat.add_assoc, ← Nat.add_mul]
          exact Nat.add_le_add_left (Nat.mul_le_mul_right _ (by omega)) _
        have hone : ∀ v ∈ us, v.oneCell' = true := hu1.one (flat_scalar hu2)
        have hrun : (Builtin.append_ #[t, t2] ty #[.slice (some (ad k (sh + off * ti.sz))) len cap, vy]).run E.P w = .ok (.slice (some (ad k (sh + off * ti.sz))) (len + ys.length) cap) { w with heap := w.heap.setIfInBounds k (.cells (rowSet c (sh + (off + len) * ti.sz) us) T' fr) } := by
          rw [run_append_fit T.under T2.under hd2 TE.info ty _ len cap ys.length hu3 hu4' hfit]
          simp only [ad_add, hes]
          have := run_store_row E.P k T' fr (sh + off * ti.sz + len * ti.sz) us 0 c w h4 (by rw [Nat.add_zero, Nat.add_assoc sh, ← hmul]; exact hroom) (by rw [h5]; exact h6) hone
          rw [this, Nat.add_zero, Nat.add_assoc sh, ← hmul]
          rfl
        have hre := h.reput hE hb hp ti.ag ti.sz (b.es.drop off ++ ys) true (sh + off * ti.sz) (rowSet c (sh + (off + len) * ti.sz) us) T' fr (vs.drop (off * ti.sz) ++ us) (by rw [rowSet_size _ _ _ hroom, h5]) h6 ((hlay.drop _).append hu2)
          (by simp only [if_true]; rw [flat_append]; exact hold.append hu1) (fun j v hj => by
            by_cases hjl : j < len * ti.sz
            · rw [List.getElem?_append_left (by omega), List.getElem?_drop] at hj
              rw [rowSet_get_lt _ _ _ hroom _ (by rw [hmul]; omega), Nat.add_assoc]
              exact h8 _ v hj
            · rw [List.getElem?_append_right (by omega), hvd] at hj
              have hj2 := (List.getElem?_eq_some_iff.1 hj).1
              have := rowSet_get_mid c (sh + (off + len) * ti.sz) us hroom (j - len * ti.sz) hj2
              rw [show sh + off * ti.sz + j = sh + (off + len) * ti.sz + (j - len * ti.sz) by rw [hmul]; omega, this]
              exact hj)
        refine .done hrun hre ?_
        have hpl := place_now s M id ti.ag ti.sz (b.es.drop off ++ ys) true (.at k (sh + off * ti.sz) ti.sz n (b.es.drop off ++ ys).length)
        have := RV.own (w := { w with heap := w.heap.setIfInBounds k (.cells (rowSet c (sh + (off + len) * ti.sz) us) T' fr) }) (ok := ok) _ id (s.vr id) 0 (len + ys.length) cap _ _ _ _ _ hpl hfit (by
          rw [Nat.zero_add]
          have : (off + cap) * ti.sz = off * ti.sz + cap * ti.sz := Nat.add_mul _ _ _
          omega) (by rw [List.length_append, hdl]; omega)
        simpa using this
      · intro K hk
        obtain ⟨x, w', M', ok', e1, e2, e3⟩ := append_new hE h id T.under T2.under hd2 TE hby ty (some (ad k (sh + off * ti.sz))) len cap hold (hlay.drop _) hdl (fun d => by
          simp only [Builtin.firstCells]
          rw [← hvd]
          refine run_loadCells_list _ _ _ fun j v hj => ?_
          rw [List.getElem?_drop] at hj
          rw [ad_add, Nat.add_assoc]
          simp [World.cell?, h4, h8 _ v hj]) hu1 hu2 hu3 hu4 (by omega) hbytes
        exact ⟨x, w', _, _, M', ok', e1, hk, e2, e3⟩
  · exact .fail

theorem UponV.of_value {P : Program} {r : Result Next} {x : Value} {w' : World} {R : Value → World → Prop} (h : r = .ok (.value x) w') (hr : R x w') : UponV P r R := by rw [h]; exact hr
theorem UponV.of_skip {P : Program} {r : Result Next} {w' : World} {R : Value → World → Prop} (h : r = .ok .skip w') (hr : R undef w') : UponV P r R := by rw [h]; exact hr

theorem Snd3.lift {t : Tr (AV × HS)} {m : Sem Value} (h : Snd3 E w0 io s w M ok t m) {K : AV × HS → Prop} (hk : t.run E K) {n : Sem Next} (hn : n.run E.P w = (m.run E.P w).andThen fun v w' => .ok (.value v) w') :
    UponV E.P (n.run E.P w) fun x w' => ∃ v s' M' ok', K (v, s') ∧ HLater E w0 io s w M ok s' w' M' ok' ∧ RV w' ok' (s'.place M') v x := by
  obtain ⟨x, w', v, s', M', ok', h1, h2, h3, h4⟩ := h K hk
  exact .of_value (by rw [hn, h1]; rfl) ⟨v, s', M', ok', h2, h3, h4⟩

theorem RVp_mapO {φ φ' : Place} {ok' : Nat → Prop} {f : AV → Option AV} (hf : ∀ a b x, f a = some b → RV w ok φ a x → RV w ok' φ' b x) : ∀ {ps qs : List (Nat × AV)} {xs : List (Nat × Value)}, RVp w ok φ ps xs →
    mapO (fun q : Nat × AV => match f q.2 with | some v => some (q.1, v) | none => none) ps = some qs → RVp w ok' φ' qs xs
  | [], qs, xs, h, hm => by cases h; simp [mapO] at hm; subst hm; exact .nil
  | (i, v) :: ps, qs, xs, h, hm => by
    cases h with
    | cons _ _ x _ xs hv ht =>
      unfold mapO at hm
      split at hm
      · rename_i y ys h1 h2
        simp at hm; subst hm
        simp only at h1
        split at h1
        · rename_i u hu
          simp at h1; subst h1
          exact .cons i _ _ _ _ (hf _ _ _ hu hv) (RVp_mapO hf ht h2)
        · simp at h1
      · simp at hm
theorem zip_fst {f : AV → Option AV} : ∀ {ps qs : List (Nat × AV)}, mapO (fun q : Nat × AV => match f q.2 with | some v => some (q.1, v) | none => none) ps = some qs → (ps.map (·.1)).zip (qs.map (·.2)) = qs
  | [], qs, hm => by simp [mapO] at hm; subst hm; rfl
  | (i, v) :: ps, qs, hm => by
    unfold mapO at hm
    split at hm
    · rename_i y ys h1 h2
      simp only [Option.some.injEq] at hm; subst hm
      simp only at h1
      split at h1
      · rename_i u hu
        simp only [Option.some.injEq] at h1; subst h1
        simp only [List.map_cons, List.zip_cons_cons, zip_fst h2]
      · simp at h1
    · simp at hm
theorem sem3_sound (hE : E.Valid) (h : HR E w0 io s w M ok) {dr : Bool} (site : Nat) (o : Oper) {ρA : Operand → AV} {ρ : Operand → Value} (hρ : ∀ x, RV w ok (s.place M) (ρA x) (ρ x)) {K : AV × HS → Prop} (hk : (sem3 E dr site o.op ρA s).run E K) :
    UponV E.P ((execOp ρ o).run E.P w) fun x w' => ∃ v s' M' ok', K (v, s') ∧ HLater E w0 io s w M ok s' w' M' ok' ∧ RV w' ok' (s'.place M') v x := by
  obtain ⟨dst, op, ty, pos, after, guard⟩ := o
  simp only at hk
  unfold sem3 at hk
  split at hk
  · rename_i t
    cases ht : E.tt t with
    | none => simp [allocA, ht, Tr.run] at hk
    | some ti =>
      obtain ⟨i, d, z, T⟩ := hE.tyok ht
      have hx : RV w ok (s.place M) ((none : Option AV).getD ti.zero) z := litAV_ok T.lit
      refine (allocA_sound hE h site t none z ht hx).lift hk ?_
      simp only [execOp, Instr.alloc, Sem.run_bind, run_zero T.info T.zero, Result.andThen_ok]
      rfl
  · rename_i t x
    cases ht : E.tt t with
    | none => simp [allocA, ht, Tr.run] at hk
    | some ti =>
      refine (allocA_sound hE h site t (some (ρA x)) (ρ x) ht (hρ x)).lift hk ?_
      simp only [execOp, Instr.box, Sem.run_bind]
      rfl
  · rename_i t a x
    unfold storeP at hk
    split at hk
    · obtain ⟨w', s', M', ok', h1, h2, h3⟩ := storeA_sound hE h t (hρ a) (hρ x) K hk
      refine .of_skip (w' := w') ?_ ⟨.any, s', M', ok', h2, h3, .any _ _⟩
      simp only [execOp, Sem.run_bind, h1, Result.andThen_ok]
      rfl
    · split at hk
      · exact hk.elim
      obtain ⟨vs, s1, hp, hk⟩ := hk
      rw [Option.map_eq_some_iff] at hp
      obtain ⟨⟨v, s2⟩, hp, he⟩ := hp
      simp only [Prod.mk.injEq] at he
      obtain ⟨rfl, rfl⟩ := he
      obtain ⟨ok1, hl1, hv1⟩ := pur_sound h (hρ x) hp
      obtain ⟨w', s', M', ok', h1, h2, h3⟩ := storeA_sound hE hl1.hr t ((hρ a).mono hl1.mono) hv1.up K hk
      refine .of_skip (w' := w') ?_ ⟨.any, s', M', ok', h2, hl1.trans h3, .any _ _⟩
      simp only [execOp, Sem.run_bind, h1, Result.andThen_ok]
      rfl
  · rename_i t l c
    exact (makeA_sound hE h site t (hρ l) (hρ c)).lift hk (by simp only [execOp, Sem.run_bind]; rfl)
  · rename_i t len parts
    unfold buildP at hk
    split at hk
    · refine (buildSliceA_sound hE h site t len (qs := parts.map fun (i, x) => (i, ρ x)) ?_).lift hk (by simp only [execOp, Sem.run_bind]; rfl)
      rw [Array.toList_map]
      exact RVp_map hρ _
    · obtain ⟨vs, s1, hp, hk⟩ := hk
      rw [Option.map_eq_some_iff] at hp
      obtain ⟨⟨qs, s2⟩, hp, he⟩ := hp
      simp only [Prod.mk.injEq] at he
      obtain ⟨rfl, rfl⟩ := he
      unfold purP at hp
      split at hp
      · simp at hp
      rename_i hloc
      split at hp
      · rename_i qs' hq
        simp only [Option.some.injEq, Prod.mk.injEq] at hp
        obtain ⟨rfl, rfl⟩ := hp
        have hl1 := h.kill _ (by simpa using hloc)
        have hps : RVp w (okB (fun i => (List.flatMap (fun q => ownIds q.2) (List.map (fun p => (p.1, ρA p.2)) parts.toList)).contains i) s M ok) ((s.kill (List.flatMap (fun q => ownIds q.2) (List.map (fun p => (p.1, ρA p.2)) parts.toList))).place M) qs' (parts.map fun (i, x) => (i, ρ x)).toList := by
          rw [Array.toList_map]
          exact RVp_mapO (fun a b x hf hr => (fz_sound _ h 4 hr hf).up) (RVp_map hρ _) hq
        have hzip : (((parts.toList.map fun p => (p.1, ρA p.2)).map (·.1)).zip (qs'.map (·.2))) = qs' := zip_fst hq
        simp only at hk
        rw [hzip] at hk
        refine UponV.mono ((buildSliceA_sound hE hl1.hr site t len (qs := parts.map fun (i, x) => (i, ρ x)) hps).lift hk (by simp only [execOp, Sem.run_bind]; rfl)) ?_
        rintro x w' ⟨v, s', M', ok', h1, h2, h3⟩
        exact ⟨v, s', M', ok', h1, hl1.trans h2, h3⟩
      · simp at hp
  · rename_i args argTypes
    split at hk
    · rename_i x y t t2 ha ht
      have ha' : args = #[x, y] := by apply Array.ext'; simpa using ha
      have ht' : argTypes = #[t, t2] := by apply Array.ext'; simpa using ht
      subst ha'; subst ht'
      refine (appendA_sound hE h site t t2 ty (hρ x) (hρ y)).lift hk ?_
      have e : Array.map ρ #[x, y] = #[ρ x, ρ y] := by simp
      simp only [execOp, Sem.run_bind, resolve, Sem.run_pure, Result.andThen_ok, invoke, builtin, e]
    · exact hk.elim
  · rename_i c _
    exact callF_sound h c hρ site hk _ _ _ _ _
  · exact hk.elim

theorem stepO_sound (hE : E.Valid) (h : HR E w0 io s w M ok) {dr : Bool} (site : Nat) (o : Oper) {ρA : Operand → AV} {ρ : Operand → Value} (hρ : ∀ x, RV w ok (s.place M) (ρA x) (ρ x)) {K : AV → HS → Prop} (hk : stepO E dr site o.op ρA s K) :
    UponV E.P ((execOp ρ o).run E.P w) fun x w' => ∃ v s' M' ok', K v s' ∧ HLater E w0 io s w M ok s' w' M' ok' ∧ RV w' ok' (s'.place M') v x := by
  unfold stepO at hk
  split at hk
  · obtain ⟨v, x, h1, h2, h3⟩ := sem1_sound hE o hρ hk
    exact .of_value h2 ⟨v, s, M, ok, h1, .refl h, h3⟩
  · rename_i hc
    refine (sem2_sound hE h o hc hρ hk).mono fun x w' ⟨v, M', ok', h1, h2, h3⟩ => ⟨v, s, M', ok', h1, h2, h3⟩
  · exact sem3_sound hE h site o hρ hk
end
end GoAbs
end
