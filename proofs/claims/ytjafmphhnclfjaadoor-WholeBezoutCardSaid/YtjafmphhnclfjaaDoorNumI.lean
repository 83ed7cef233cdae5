/- Digits: numbers as lists of words. Numbers as abstract values. Division of two words by one, half by half. Division by one word; shifts of words. Long division: plain laws. Words, and numbers in just so many words. Words of 32 bits: bytes in and out. Words of 32 bits as abstract values. -/
import Derived.Test.YtjafmphhnclfjaaDoorAbsIII
set_option linter.all false
section
namespace Num

def val (B : Nat) : List Nat → Nat
  | [] => 0
  | d :: l => d + B * val B l
def trimN : List Nat → List Nat
  | [] => []
  | x :: r => match trimN r with
    | [] => bif Nat.beq x 0 then [] else [x]
    | t => x :: t
def digsF (B : Nat) : Nat → Nat → List Nat
  | 0, _ => []
  | f + 1, x => bif Nat.beq x 0 then [] else (x % B) :: digsF B f (x / B)
/-- The digits of a number, the lowest first, the last not 0. -/
def digs (B x : Nat) : List Nat := digsF B x x
def Small (B : Nat) (l : List Nat) : Prop := ∀ d ∈ l, d < B

theorem Small.nil (B : Nat) : Small B [] := fun _ h => by simp at h
theorem Small.cons {B d : Nat} {l : List Nat} (h : d < B) (t : Small B l) : Small B (d :: l) := fun x hx => by
  rcases List.mem_cons.1 hx with rfl | hx
  · exact h
  · exact t x hx
theorem Small.head {B d : Nat} {l : List Nat} (h : Small B (d :: l)) : d < B := h d (by simp)
theorem Small.tail {B d : Nat} {l : List Nat} (h : Small B (d :: l)) : Small B l := fun x hx => h x (by simp [hx])
theorem Small.app {B : Nat} {l m : List Nat} (h : Small B l) (k : Small B m) : Small B (l ++ m) := fun x hx => (List.mem_append.1 hx).elim (h x) (k x)
theorem Small.left {B : Nat} {l m : List Nat} (h : Small B (l ++ m)) : Small B l := fun x hx => h x (by simp [hx])
theorem Small.right {B : Nat} {l m : List Nat} (h : Small B (l ++ m)) : Small B m := fun x hx => h x (by simp [hx])
theorem Small.take {B : Nat} {l : List Nat} (h : Small B l) (n : Nat) : Small B (l.take n) := fun x hx => h x (List.mem_of_mem_take hx)
theorem Small.drop {B : Nat} {l : List Nat} (h : Small B l) (n : Nat) : Small B (l.drop n) := fun x hx => h x (List.mem_of_mem_drop hx)
theorem Small.get {B : Nat} {l : List Nat} (h : Small B l) {i d : Nat} (hi : l[i]? = some d) : d < B := h d (List.mem_of_getElem? hi)
theorem Small.set {B : Nat} {l : List Nat} (h : Small B l) {i d : Nat} (hd : d < B) : Small B (l.set i d) := fun x hx => by
  rcases List.mem_or_eq_of_mem_set hx with hx | rfl
  · exact h x hx
  · exact hd
theorem Small.rep {B d : Nat} (hd : d < B) (n : Nat) : Small B (List.replicate n d) := fun x hx => by rw [(List.mem_replicate.1 hx).2]; exact hd

theorem val_app (B : Nat) (l m : List Nat) : val B (l ++ m) = val B l + B ^ l.length * val B m := by
  induction l with
  | nil => simp [val]
  | cons d l ih => simp only [List.cons_append, val, ih, List.length_cons, Nat.pow_succ]; grind
theorem val_snoc (B : Nat) (l : List Nat) (d : Nat) : val B (l ++ [d]) = val B l + B ^ l.length * d := by
  rw [val_app]; simp [val]
theorem val_lt {B : Nat} {l : List Nat} (h : Small B l) : val B l < B ^ l.length := by
  induction l with
  | nil => simp [val]
  | cons d l ih =>
    have h1 := h.head
    have h2 := ih h.tail
    simp only [val, List.length_cons, Nat.pow_succ]
    have : B * (val B l + 1) ≤ B * B ^ l.length := Nat.mul_le_mul_left _ h2
    grind
theorem val_rep (B n : Nat) : val B (List.replicate n 0) = 0 := by
  induction n with
  | zero => rfl
  | succ n ih => simp [List.replicate_succ, val, ih]
theorem val_take_succ {B : Nat} {l : List Nat} {i d : Nat} (h : l[i]? = some d) : val B (l.take (i + 1)) = val B (l.take i) + B ^ i * d := by
  have hi : i < l.length := (List.getElem?_eq_some_iff.1 h).1
  have : l.take (i + 1) = l.take i ++ [d] := by rw [List.take_add_one, h]; rfl
  rw [this, val_snoc, List.length_take, Nat.min_eq_left (by omega)]
theorem val_split (B : Nat) (l : List Nat) (i : Nat) (h : i ≤ l.length) : val B l = val B (l.take i) + B ^ i * val B (l.drop i) := by
  have := val_app B (l.take i) (l.drop i)
  rw [List.take_append_drop, List.length_take, Nat.min_eq_left h] at this
  exact this
theorem val_drop {B : Nat} {l : List Nat} {i d : Nat} (h : l[i]? = some d) : val B (l.drop i) = d + B * val B (l.drop (i + 1)) := by
  rw [List.drop_eq_getElem_cons (List.getElem?_eq_some_iff.1 h).1, val, (List.getElem?_eq_some_iff.1 h).2]
theorem val_take_all {B : Nat} {l : List Nat} {n : Nat} (h : l.length ≤ n) : val B (l.take n) = val B l := by rw [List.take_of_length_le h]

theorem trimN_val (B : Nat) (l : List Nat) : val B (trimN l) = val B l := by
  induction l with
  | nil => rfl
  | cons x l ih =>
    simp only [trimN, val]
    cases ht : trimN l with
    | nil =>
      rw [ht] at ih
      simp [val] at ih
      cases hx : Nat.beq x 0
      · simp [val, ← ih]
      · have := Nat.eq_of_beq_eq_true hx
        simp [val, ← ih, this]
    | cons y t => rw [ht] at ih; simp only [val] at ih ⊢; rw [ih]
theorem trimN_zero (l : List Nat) : trimN (l ++ [0]) = trimN l := by
  induction l with
  | nil => rfl
  | cons x l ih => simp only [List.cons_append, trimN, ih]
theorem trimN_keep (l : List Nat) (x : Nat) (h : x ≠ 0) : trimN (l ++ [x]) = l ++ [x] := by
  induction l with
  | nil =>
    have : Nat.beq x 0 = false := by
      cases hb : Nat.beq x 0
      · rfl
      · exact (h (Nat.eq_of_beq_eq_true hb)).elim
    simp only [List.nil_append, trimN, this, cond_false]
  | cons y l ih => simp only [List.cons_append, trimN, ih]; cases l <;> rfl

theorem digsF_more {B : Nat} (hB : 2 ≤ B) : ∀ (f g x : Nat), x ≤ f → x ≤ g → digsF B f x = digsF B g x
  | 0, g, x, h, _ => by
    have : x = 0 := by omega
    subst this
    cases g <;> rfl
  | f + 1, 0, x, _, h => by
    have : x = 0 := by omega
    subst this
    rfl
  | f + 1, g + 1, x, h1, h2 => by
    unfold digsF
    cases hx : Nat.beq x 0
    · have hx0 : x ≠ 0 := fun h => by subst h; simp at hx
      have : x / B < x := Nat.div_lt_self (by omega) (by omega)
      rw [digsF_more hB f g (x / B) (by omega) (by omega)]
    · rfl
theorem digs_zero (B : Nat) : digs B 0 = [] := rfl
theorem digs_pos {B x : Nat} (hB : 2 ≤ B) (hx : x ≠ 0) : digs B x = (x % B) :: digs B (x / B) := by
  unfold digs
  cases x with
  | zero => exact (hx rfl).elim
  | succ x =>
    have : (x + 1) / B < x + 1 := Nat.div_lt_self (by omega) (by omega)
    conv => lhs; unfold digsF
    rw [digsF_more hB x ((x + 1) / B) ((x + 1) / B) (by omega) (by omega)]
    simp [Nat.beq]
theorem digs_val {B : Nat} (hB : 2 ≤ B) (x : Nat) : val B (digs B x) = x := by
  induction x using Nat.strongRecOn with
  | _ x ih =>
    by_cases hx : x = 0
    · subst hx; rfl
    · rw [digs_pos hB hx, val, ih (x / B) (Nat.div_lt_self (by omega) (by omega))]
      exact Nat.mod_add_div x B
theorem digs_small {B : Nat} (hB : 2 ≤ B) (x : Nat) : Small B (digs B x) := by
  induction x using Nat.strongRecOn with
  | _ x ih =>
    by_cases hx : x = 0
    · subst hx; exact .nil _
    · rw [digs_pos hB hx]; exact .cons (Nat.mod_lt _ (by omega)) (ih (x / B) (Nat.div_lt_self (by omega) (by omega)))
theorem digs_one {B x : Nat} (hB : 2 ≤ B) (hx : x ≠ 0) (h : x < B) : digs B x = [x] := by
  rw [digs_pos hB hx, Nat.mod_eq_of_lt h, Nat.div_eq_of_lt h, digs_zero]

/-- The digits of a list's number: the list without the noughts at its end. -/
theorem digs_of {B : Nat} (hB : 2 ≤ B) {l : List Nat} (h : Small B l) : digs B (val B l) = trimN l := by
  induction l with
  | nil => rfl
  | cons d l ih =>
    have hd := h.head
    have ih := ih h.tail
    simp only [val, trimN]
    by_cases h0 : d + B * val B l = 0
    · have h1 : d = 0 := by omega
      have h2 : val B l = 0 := by
        have : B * val B l = 0 := by omega
        rcases Nat.mul_eq_zero.1 this with h | h
        · omega
        · exact h
      rw [h0, digs_zero]
      rw [h2, digs_zero] at ih
      rw [← ih, h1]; rfl
    · rw [digs_pos hB h0, Nat.add_mul_mod_self_left, Nat.mod_eq_of_lt hd, Nat.add_mul_div_left _ _ (by omega), Nat.div_eq_of_lt hd, Nat.zero_add, ih]
      cases ht : trimN l with
      | nil =>
        have : val B l = 0 := by rw [← trimN_val, ht]; rfl
        have : d ≠ 0 := fun hd0 => h0 (by rw [hd0, this]; rfl)
        cases hb : Nat.beq d 0
        · rfl
        · exact (this (Nat.eq_of_beq_eq_true hb)).elim
      | cons y t => rfl
theorem trimN_digs {B : Nat} (hB : 2 ≤ B) (x : Nat) : trimN (digs B x) = digs B x := by
  have := digs_of hB (digs_small hB x)
  rw [digs_val hB] at this
  exact this.symm
theorem trimN_last {l m : List Nat} {x : Nat} (h : trimN l = m ++ [x]) : x ≠ 0 := by
  induction l generalizing m with
  | nil => simp [trimN] at h
  | cons y l ih =>
    simp only [trimN] at h
    cases ht : trimN l with
    | nil =>
      rw [ht] at h
      cases hb : Nat.beq y 0
      · rw [hb] at h
        simp only [cond_false] at h
        cases m with
        | nil => simp at h; subst h; intro h0; subst h0; simp at hb
        | cons z m => simp at h
      · rw [hb] at h; simp at h
    | cons z t =>
      rw [ht] at h
      cases m with
      | nil => simp at h
      | cons u m =>
        simp at h
        rw [ht] at ih
        exact ih h.2
theorem digs_last {B : Nat} (hB : 2 ≤ B) {x : Nat} {m : List Nat} {d : Nat} (h : digs B x = m ++ [d]) : d ≠ 0 := trimN_last ((trimN_digs hB x).trans h)
theorem digs_len_le {B : Nat} (hB : 2 ≤ B) {x n : Nat} (h : x < B ^ n) : (digs B x).length ≤ n := by
  induction n generalizing x with
  | zero => simp at h; subst h; simp [digs_zero]
  | succ n ih =>
    by_cases hx : x = 0
    · subst hx; simp [digs_zero]
    · rw [digs_pos hB hx, List.length_cons]
      have : x / B < B ^ n := Nat.div_lt_of_lt_mul (by rw [Nat.pow_succ, Nat.mul_comm] at h; exact h)
      have := ih this
      omega
theorem digs_lt {B : Nat} (hB : 2 ≤ B) (x : Nat) : x < B ^ (digs B x).length := by
  have := val_lt (digs_small hB x)
  rwa [digs_val hB] at this
theorem digs_ge {B : Nat} (hB : 2 ≤ B) {x : Nat} (h : x ≠ 0) : B ^ ((digs B x).length - 1) ≤ x := by
  rcases List.eq_nil_or_concat (digs B x) with hn | ⟨m, d, hm⟩
  · have := digs_val hB x
    rw [hn] at this
    exact absurd this.symm h
  · have hm : digs B x = m ++ [d] := by simpa using hm
    have hd := digs_last hB hm
    have := digs_val hB x
    rw [hm, val_snoc] at this
    rw [hm]
    simp only [List.length_append, List.length_cons, List.length_nil, Nat.zero_add, Nat.add_sub_cancel]
    have h2 : B ^ m.length * 1 ≤ B ^ m.length * d := Nat.mul_le_mul_left _ (by omega)
    omega
theorem digs_nil {B x : Nat} (hB : 2 ≤ B) : digs B x = [] ↔ x = 0 := by
  constructor
  · intro h
    have := digs_val hB x
    rw [h] at this
    exact this.symm
  · rintro rfl; rfl
theorem digs_len_mono {B : Nat} (hB : 2 ≤ B) {x y : Nat} (h : x ≤ y) : (digs B x).length ≤ (digs B y).length := digs_len_le hB (Nat.lt_of_le_of_lt h (digs_lt hB y))
theorem digs_len_lt {B : Nat} (hB : 2 ≤ B) {x y : Nat} (h : (digs B x).length < (digs B y).length) : x < y := by
  rcases Nat.lt_or_ge x y with h1 | h1
  · exact h1
  · have := digs_len_mono hB h1; omega
theorem digs_inj {B : Nat} (hB : 2 ≤ B) {x y : Nat} (h : digs B x = digs B y) : x = y := by rw [← digs_val hB x, h, digs_val hB]
end Num

namespace Num
/-- How many bits a number has. -/
def blen (x : Nat) : Nat := if x = 0 then 0 else Nat.log2 x + 1
theorem blen_zero : blen 0 = 0 := rfl
theorem blen_pos {x : Nat} (h : x ≠ 0) : blen x = Nat.log2 x + 1 := if_neg h
theorem blen_lt (x : Nat) : x < 2 ^ blen x := by
  unfold blen
  split
  · rename_i h; subst h; decide
  · rename_i h; exact Nat.lt_log2_self
theorem blen_ge {x : Nat} (h : x ≠ 0) : 2 ^ (blen x - 1) ≤ x := by
  rw [blen_pos h, Nat.add_sub_cancel]
  exact Nat.log2_self_le h
theorem blen_unique {x n : Nat} (h0 : x ≠ 0) (h1 : 2 ^ (n - 1) ≤ x) (h2 : x < 2 ^ n) : blen x = n := by
  have a := blen_lt x
  have b := blen_ge h0
  have c : blen x - 1 < n := (Nat.pow_lt_pow_iff_right (by decide : 1 < 2)).1 (Nat.lt_of_le_of_lt b h2)
  have d : n - 1 < blen x := (Nat.pow_lt_pow_iff_right (by decide : 1 < 2)).1 (Nat.lt_of_le_of_lt h1 a)
  have e : n ≠ 0 := by rintro rfl; simp at h2; omega
  have f : blen x ≠ 0 := by rw [blen_pos h0]; omega
  omega
theorem blen_le {x n : Nat} (h : x < 2 ^ n) : blen x ≤ n := by
  by_cases h0 : x = 0
  · subst h0; simp [blen_zero]
  · have b := blen_ge h0
    have c : blen x - 1 < n := (Nat.pow_lt_pow_iff_right (by decide : 1 < 2)).1 (Nat.lt_of_le_of_lt b h)
    omega
theorem blen_mul (x k : Nat) (h : x ≠ 0) : blen (x * 2 ^ k) = blen x + k := by
  have hp : 0 < 2 ^ k := Nat.two_pow_pos k
  have a := blen_lt x
  have b := blen_ge h
  have f : blen x ≠ 0 := by rw [blen_pos h]; omega
  refine blen_unique (by have := Nat.mul_ne_zero h (Nat.ne_of_gt hp); exact this) ?_ ?_
  · have : blen x + k - 1 = (blen x - 1) + k := by omega
    rw [this, Nat.pow_add]
    exact Nat.mul_le_mul_right _ b
  · rw [Nat.pow_add]
    exact Nat.mul_lt_mul_of_pos_right a hp
theorem blen_div (x k : Nat) (h : 2 ^ k ≤ x) : blen x = blen (x / 2 ^ k) + k := by
  have hp : 0 < 2 ^ k := Nat.two_pow_pos k
  have h0 : x / 2 ^ k ≠ 0 := by have := Nat.div_pos h hp; omega
  have a := blen_lt (x / 2 ^ k)
  have b := blen_ge h0
  have f : blen (x / 2 ^ k) ≠ 0 := by rw [blen_pos h0]; omega
  refine blen_unique (by omega) ?_ ?_
  · have : blen (x / 2 ^ k) + k - 1 = (blen (x / 2 ^ k) - 1) + k := by omega
    rw [this, Nat.pow_add]
    exact Nat.le_trans (Nat.mul_le_mul_right _ b) (Nat.div_mul_le_self x _)
  · rw [Nat.pow_add]
    exact (Nat.div_lt_iff_lt_mul hp).1 a
end Num

namespace Num
theorem blen_snoc {B k : Nat} (hB : B = 2 ^ k) {m : List Nat} {d : Nat} (hs : Small B m) (hd : d ≠ 0) : blen (val B (m ++ [d])) = k * m.length + blen d := by
  have h1 := val_lt hs
  rw [val_snoc]
  have e : B ^ m.length = 2 ^ (k * m.length) := by rw [hB, Nat.pow_mul]
  rw [e] at h1 ⊢
  have hp : 0 < 2 ^ (k * m.length) := Nat.two_pow_pos _
  have hq : (val B m + 2 ^ (k * m.length) * d) / 2 ^ (k * m.length) = d := by
    rw [Nat.add_mul_div_left _ _ hp, Nat.div_eq_of_lt h1, Nat.zero_add]
  have hge : 2 ^ (k * m.length) ≤ val B m + 2 ^ (k * m.length) * d := by
    have : 2 ^ (k * m.length) * 1 ≤ 2 ^ (k * m.length) * d := Nat.mul_le_mul_left _ (by omega)
    omega
  have := blen_div _ (k * m.length) hge
  rw [hq] at this
  omega
theorem blen_last {B k x : Nat} (hk : 0 < k) (hB : B = 2 ^ k) {m : List Nat} {d : Nat} (h : digs B x = m ++ [d]) : blen x = k * m.length + blen d := by
  have h2 : 2 ≤ B := by
    have : 2 ^ 1 ≤ 2 ^ k := Nat.pow_le_pow_right (by decide) hk
    omega
  have hs := digs_small h2 x
  rw [h] at hs
  have := blen_snoc hB hs.left (digs_last h2 h)
  rw [← h, digs_val h2] at this
  exact this
theorem digs_len_blen {B k : Nat} (hk : 0 < k) (hB : B = 2 ^ k) (x : Nat) : (digs B x).length ≤ blen x := by
  rcases List.eq_nil_or_concat (digs B x) with h | ⟨m, d, h⟩
  · rw [h]; simp
  · have h : digs B x = m ++ [d] := by simpa using h
    have h2 : 2 ≤ B := by
      have : 2 ^ 1 ≤ 2 ^ k := Nat.pow_le_pow_right (by decide) hk
      omega
    have e := blen_last hk hB h
    have hd := digs_last h2 h
    have hb : blen d ≠ 0 := by rw [blen_pos hd]; omega
    rw [h]
    simp
    have : 1 * m.length ≤ k * m.length := Nat.mul_le_mul_right _ hk
    omega
theorem len64 (x : Nat) : (digs 18446744073709551616 x).length ≤ blen x := digs_len_blen (k := 64) (by decide) (by decide) x
theorem len32 (x : Nat) : (digs 4294967296 x).length ≤ blen x := digs_len_blen (k := 32) (by decide) (by decide) x
theorem blen_mono {x y : Nat} (h : x ≤ y) : blen x ≤ blen y := blen_le (Nat.lt_of_le_of_lt h (blen_lt y))
theorem blen_add (x y : Nat) : blen (x + y) ≤ max (blen x) (blen y) + 1 := by
  refine blen_le ?_
  have h1 := blen_lt x
  have h2 := blen_lt y
  have a := Nat.pow_le_pow_right (n := 2) (by decide) (Nat.le_max_left (blen x) (blen y))
  have b := Nat.pow_le_pow_right (n := 2) (by decide) (Nat.le_max_right (blen x) (blen y))
  rw [Nat.pow_succ]
  omega
theorem blen_times (x y : Nat) : blen (x * y) ≤ blen x + blen y := by
  refine blen_le ?_
  rw [Nat.pow_add]
  have h1 := blen_lt x
  have h2 := blen_lt y
  exact Nat.mul_lt_mul_of_lt_of_le h1 (Nat.le_of_lt h2) (Nat.two_pow_pos _)
end Num

namespace Num
theorem digs_less {B x y : Nat} (hB : 2 ≤ B) {j a b : Nat} (ha : (digs B x)[j]? = some a) (hb : (digs B y)[j]? = some b) (he : (digs B x).drop (j + 1) = (digs B y).drop (j + 1)) (hab : a < b) : x < y := by
  have hx := digs_val hB x
  have hy := digs_val hB y
  have sx := val_split B (digs B x) j (Nat.le_of_lt (List.getElem?_eq_some_iff.1 ha).1)
  have sy := val_split B (digs B y) j (Nat.le_of_lt (List.getElem?_eq_some_iff.1 hb).1)
  rw [val_drop ha] at sx
  rw [val_drop hb, ← he] at sy
  have hlt := val_lt ((digs_small hB x).take j)
  rw [List.length_take, Nat.min_eq_left (Nat.le_of_lt (List.getElem?_eq_some_iff.1 ha).1)] at hlt
  rw [hx] at sx
  rw [hy] at sy
  have h1 : B ^ j * (a + 1) ≤ B ^ j * b := Nat.mul_le_mul_left _ hab
  grind
theorem drop_step {l m : List Nat} {j a : Nat} (ha : l[j]? = some a) (hb : m[j]? = some a) (he : l.drop (j + 1) = m.drop (j + 1)) : l.drop j = m.drop j := by
  rw [List.drop_eq_getElem_cons (List.getElem?_eq_some_iff.1 ha).1, List.drop_eq_getElem_cons (List.getElem?_eq_some_iff.1 hb).1, he, (List.getElem?_eq_some_iff.1 ha).2, (List.getElem?_eq_some_iff.1 hb).2]
end Num
end

section
namespace GoAbs
open Go Num

def wk (k : IntKind) (l : List Nat) : List AV := l.map fun d => AV.int k (((d : Nat) : Int))
abbrev w64 (l : List Nat) : List AV := wk .u64 l
abbrev w32 (l : List Nat) : List AV := wk .u32 l
abbrev w8 (l : List Nat) : List AV := wk .u8 l
/-- A number as package nat has it. -/
def aN (x : Nat) : AV := .agg [.imm false 1 (w64 (digs 18446744073709551616 x))]
/-- A number as the document has it. -/
def aR (x : Nat) : AV := .imm false 1 (w32 (digs 4294967296 x))
abbrev iI (n : Int) : AV := .int .i64 n
abbrev iU (n : Nat) : AV := .int .u64 (((n : Nat) : Int))

/-- -1, 0, 1. -/
def cmp (x y : Nat) : Int := if x < y then -1 else if y < x then 1 else 0
theorem cmp_lt {x y : Nat} (h : x < y) : cmp x y = -1 := if_pos h
theorem cmp_gt {x y : Nat} (h : y < x) : cmp x y = 1 := by unfold cmp; rw [if_neg (by omega), if_pos h]
theorem cmp_eq {x y : Nat} (h : x = y) : cmp x y = 0 := by unfold cmp; rw [if_neg (by omega), if_neg (by omega)]
theorem wk_len (k : IntKind) (l : List Nat) : (wk k l).length = l.length := List.length_map _
theorem wk_get {k : IntKind} {l : List Nat} {i d : Nat} (h : l[i]? = some d) : (wk k l)[i]? = some (.int k (((d : Nat) : Int))) := by
  unfold wk; rw [List.getElem?_map, h]; rfl
theorem wk_set (k : IntKind) (l : List Nat) (i d : Nat) : (wk k l).set i (.int k (((d : Nat) : Int))) = wk k (l.set i d) := by
  unfold wk; rw [List.map_set]
theorem wk_set0 (k : IntKind) (l : List Nat) (i d : Nat) : (wk k l).set (0 + ((i : Nat) : Int).toNat) (.int k ((d : Nat) : Int)) = wk k (l.set i d) := by
  rw [Nat.zero_add]; exact wk_set k l i d
theorem wk_get0 {k : IntKind} {l : List Nat} {i d : Nat} (h : l[i]? = some d) : (wk k l)[0 + ((i : Nat) : Int).toNat]? = some (.int k ((d : Nat) : Int)) := by rw [Nat.zero_add]; exact wk_get h
theorem wk_in0 {k : IntKind} {l : List Nat} {i : Nat} (h : i < l.length) : 0 + ((i : Nat) : Int).toNat < (wk k l).length := by rw [Nat.zero_add, wk_len]; exact h
theorem wk_take (k : IntKind) (l : List Nat) (i : Nat) : (wk k l).take i = wk k (l.take i) := by
  unfold wk; rw [List.map_take]
theorem wk_drop (k : IntKind) (l : List Nat) (i : Nat) : (wk k l).drop i = wk k (l.drop i) := by
  unfold wk; rw [List.map_drop]
theorem wk_app (k : IntKind) (l m : List Nat) : wk k l ++ wk k m = wk k (l ++ m) := by
  unfold wk; rw [List.map_append]
theorem wk_rep (k : IntKind) (n : Nat) : List.replicate n (.int k 0) = wk k (List.replicate n 0) := by
  unfold wk; rw [List.map_replicate]; rfl
theorem wk_snoc (k : IntKind) (l : List Nat) (d : Nat) : wk k l ++ [.int k (((d : Nat) : Int))] = wk k (l ++ [d]) := wk_app k l [d]
theorem wk_cut (k : IntKind) (l : List Nat) (i n : Nat) : ((wk k l).drop i).take n = wk k ((l.drop i).take n) := by rw [wk_drop, wk_take]

theorem wrapI {n : Int} (h0 : -9223372036854775808 ≤ n) (h1 : n < 9223372036854775808) : IntKind.i64.wrap n = n := wrap64_id h0 h1
theorem wI {n m : Int} (h : n = m) (h0 : -9223372036854775808 ≤ m) (h1 : m < 9223372036854775808) : IntKind.i64.wrap n = m := by rw [h]; exact wrapI h0 h1
theorem wrapU (n : Int) : IntKind.u64.wrap n = n % 18446744073709551616 := rfl
theorem wrapU_id {n : Int} (h0 : 0 ≤ n) (h1 : n < 18446744073709551616) : IntKind.u64.wrap n = n := by rw [wrapU]; omega
theorem wU {z : Int} {n : Nat} (h : z = ((n : Nat) : Int)) (hn : n < 18446744073709551616) : IntKind.u64.wrap z = ((n : Nat) : Int) := by rw [h]; exact wrapU_id (Int.natCast_nonneg _) (Int.ofNat_lt.2 hn)
theorem wM {z : Int} {n : Nat} (h : z = ((n : Nat) : Int)) : IntKind.u64.wrap z = ((n % 18446744073709551616 : Nat) : Int) := by rw [h, wrapU]; exact (Int.natCast_emod n _).symm
theorem shlU {x k e : Nat} {y z : Int} (hy : y = ((x : Nat) : Int)) (hz : z = 2 ^ k) (he : e = 2 ^ k) : IntKind.u64.wrap (y * z) = ((x * e % 18446744073709551616 : Nat) : Int) := wM (by rw [hy, hz, he]; simp)
theorem wrap32 (n : Int) : IntKind.u32.wrap n = n % 4294967296 := rfl
theorem wrap8 (n : Int) : IntKind.u8.wrap n = n % 256 := rfl
theorem RVs2 {w : World} {ok : Nat → Prop} {φ : Place} {a b : AV} {l : List Value} (h : RVs w ok φ [a, b] l) : ∃ x y, l = [x, y] ∧ RV w ok φ a x ∧ RV w ok φ b y := by
  cases h with | cons _ _ x _ _ h1 t =>
  cases t with | cons _ _ y _ _ h2 t =>
  cases t
  exact ⟨x, y, rfl, h1, h2⟩
theorem RVs3 {w : World} {ok : Nat → Prop} {φ : Place} {a b c : AV} {l : List Value} (h : RVs w ok φ [a, b, c] l) : ∃ x y z, l = [x, y, z] ∧ RV w ok φ a x ∧ RV w ok φ b y ∧ RV w ok φ c z := by
  cases h with | cons _ _ x _ _ h1 t =>
  obtain ⟨y, z, rfl, h2, h3⟩ := RVs2 t
  exact ⟨x, y, z, rfl, h1, h2, h3⟩
theorem RV_int {w : World} {ok : Nat → Prop} {φ : Place} {k : IntKind} {n : Int} {x : Value} (h : RV w ok φ (.int k n) x) : x = .int k n := by cases h; rfl

/-- math/bits.Add64 and Sub64, which the model gives. -/
theorem add64_ct {E : Env} {f : FuncId} {fn : Func} {e : Array Value → Sem Value} (hf : E.P.funcs[f]? = some fn) (hname : (fn.name == "runtime.NumGoroutine") = false) (hb : fn.body.isNone = true) (hn : Extern.findNext fn = none) (he : Extern.find fn = some e) (hee : e = add64Entry)
    {x y c : Nat} (hc : c ≤ 1) : Ct E f [iU x, iU y, iU c] [] (.tup [iU ((x + y + c) % 18446744073709551616), iU ((x + y + c) / 18446744073709551616)]) [] := by
  refine Ct_extern hf hname hb hn he fun w ok φ vals hv => ?_
  obtain ⟨a, b, d, rfl, h1, h2, h3⟩ := RVs3 hv
  rw [RV_int h1, RV_int h2, RV_int h3, hee]
  refine ⟨_, run_add64 _ _ _ (Int.natCast_nonneg _) (Int.natCast_nonneg _) (Int.natCast_nonneg _) (Int.ofNat_le.2 hc) w, ?_⟩
  exact .tup _ [iU _, iU _] [.int .u64 _, .int .u64 _] (.cons _ _ _ _ _ (.int _ _ _) (.cons _ _ _ _ _ (.int _ _ _) (.nil _)))

def sub64Entry : Array Value → Sem Value := fun args => do
  let (x, y, b) ← Extern.MathBitsCarry.three "Sub64" args
  pure (Extern.MathBitsCarry.pair ((x + Extern.MathBitsCarry.m64 - y - b) % Extern.MathBitsCarry.m64) (if x < y + b then 1 else 0))
theorem run_sub64 {P : Program} (x y c : Nat) (hc : c ≤ 1) (w : World) :
    (sub64Entry #[.int .u64 (((x : Nat) : Int)), .int .u64 (((y : Nat) : Int)), .int .u64 (((c : Nat) : Int))]).run P w =
      .ok (.tuple #[.int .u64 ((((x + 18446744073709551616 - y - c) % 18446744073709551616 : Nat) : Int)), .int .u64 (((if x < y + c then 1 else 0 : Nat) : Int))]) w := by
  have : c = 0 ∨ c = 1 := by omega
  rcases this with rfl | rfl <;> rfl
theorem sub64_ct {E : Env} {f : FuncId} {fn : Func} {e : Array Value → Sem Value} (hf : E.P.funcs[f]? = some fn) (hname : (fn.name == "runtime.NumGoroutine") = false) (hb : fn.body.isNone = true) (hn : Extern.findNext fn = none) (he : Extern.find fn = some e) (hee : e = sub64Entry)
    {x y c : Nat} (hc : c ≤ 1) : Ct E f [iU x, iU y, iU c] [] (.tup [iU ((x + 18446744073709551616 - y - c) % 18446744073709551616), iU (if x < y + c then 1 else 0)]) [] := by
  refine Ct_extern hf hname hb hn he fun w ok φ vals hv => ?_
  obtain ⟨a, b, d, rfl, h1, h2, h3⟩ := RVs3 hv
  rw [RV_int h1, RV_int h2, RV_int h3, hee]
  refine ⟨_, run_sub64 _ _ _ hc w, ?_⟩
  exact .tup _ [iU _, iU _] [.int .u64 _, .int .u64 _] (.cons _ _ _ _ _ (.int _ _ _) (.cons _ _ _ _ _ (.int _ _ _) (.nil _)))
end GoAbs
namespace GoAbs
open Go Num
/-- One word of a sum. -/
theorem add_word {a b c : Nat} (ha : a < 18446744073709551616) (hb : b < 18446744073709551616) (hc : c ≤ 1) : (a + b + c) / 18446744073709551616 ≤ 1 ∧ (a + b + c) % 18446744073709551616 < 18446744073709551616 ∧ (a + b + c) % 18446744073709551616 + 18446744073709551616 * ((a + b + c) / 18446744073709551616) = a + b + c := by omega
end GoAbs
namespace GoAbs
open Go Num
/-- One word of a difference. -/
theorem sub_word {a b c : Nat} (ha : a < 18446744073709551616) (hb : b < 18446744073709551616) (hc : c ≤ 1) : (if a < b + c then 1 else 0) ≤ 1 ∧ (a + 18446744073709551616 - b - c) % 18446744073709551616 < 18446744073709551616 ∧ (a + 18446744073709551616 - b - c) % 18446744073709551616 + b + c = a + 18446744073709551616 * (if a < b + c then 1 else 0) := by
  split <;> omega
theorem aN_nil : Le (.agg [.nils]) (aN 0) := .agg (.cons (.nils _ _) .nil)
end GoAbs
namespace GoAbs
open Go Num
theorem ofInt_nat (w n : Nat) : BitVec.ofInt w ((n : Nat) : Int) = BitVec.ofNat w n := BitVec.ofInt_natCast w n
theorem and64 (x k : Nat) (hx : x < 18446744073709551616) (hk : k ≤ 64) : bitA .and .u64 ((x : Nat) : Int) (((2 ^ k - 1 : Nat)) : Int) = ((x % 2 ^ k : Nat) : Int) := by
  unfold bitA
  simp only [ofInt_nat]
  have h1 : (BitVec.ofNat IntKind.u64.bits x &&& BitVec.ofNat IntKind.u64.bits (2 ^ k - 1)).toNat = x % 2 ^ k := by
    rw [BitVec.toNat_and, BitVec.toNat_ofNat, BitVec.toNat_ofNat]
    have hb : IntKind.u64.bits = 64 := rfl
    have h2 : 2 ^ k ≤ 2 ^ 64 := Nat.pow_le_pow_right (by decide) hk
    have h3 : 0 < 2 ^ k := Nat.two_pow_pos k
    rw [hb, Nat.mod_eq_of_lt (a := x) (by exact hx), Nat.mod_eq_of_lt (by omega), Nat.and_two_pow_sub_one_eq_mod]
  rw [h1]
  exact wrapU_id (by omega) (by have := Nat.mod_le x (2 ^ k); omega)
theorem or64 (x y k : Nat) (hx : x < 18446744073709551616) (hd : 2 ^ k ∣ x) (hy : y < 2 ^ k) (hyy : y < 18446744073709551616) (hs : x + y < 18446744073709551616) : bitA .or .u64 ((x : Nat) : Int) ((y : Nat) : Int) = ((x + y : Nat) : Int) := by
  unfold bitA
  simp only [ofInt_nat]
  have h1 : (BitVec.ofNat IntKind.u64.bits x ||| BitVec.ofNat IntKind.u64.bits y).toNat = x + y := by
    rw [BitVec.toNat_or, BitVec.toNat_ofNat, BitVec.toNat_ofNat]
    have hb : IntKind.u64.bits = 64 := rfl
    rw [hb, Nat.mod_eq_of_lt (a := x) (by exact hx), Nat.mod_eq_of_lt (a := y) (by exact hyy)]
    obtain ⟨z, rfl⟩ := hd
    rw [← Nat.two_pow_add_eq_or_of_lt hy]
  rw [h1]
  exact wrapU_id (by omega) (by omega)
end GoAbs
namespace GoAbs
open Go Num
theorem mul_lt_sq {a b : Nat} (ha : a < 18446744073709551616) (hb : b < 18446744073709551616) : a * b ≤ 340282366920938463426481119284349108225 := Nat.mul_le_mul (Nat.le_of_lt_succ ha) (Nat.le_of_lt_succ hb)
/-- One word of a product that is added. -/
theorem mul_word {p c o : Nat} (hp : p ≤ 340282366920938463426481119284349108225) (hc : c < 18446744073709551616) (ho : o < 18446744073709551616) :
    p / 18446744073709551616 + (p % 18446744073709551616 + c + 0) / 18446744073709551616 < 18446744073709551616 ∧
    p / 18446744073709551616 + (p % 18446744073709551616 + c + 0) / 18446744073709551616 + (o + (p % 18446744073709551616 + c + 0) % 18446744073709551616 + 0) / 18446744073709551616 < 18446744073709551616 ∧
    (o + (p % 18446744073709551616 + c + 0) % 18446744073709551616 + 0) % 18446744073709551616 < 18446744073709551616 ∧
    (o + (p % 18446744073709551616 + c + 0) % 18446744073709551616 + 0) % 18446744073709551616 + 18446744073709551616 * (p / 18446744073709551616 + (p % 18446744073709551616 + c + 0) / 18446744073709551616 + (o + (p % 18446744073709551616 + c + 0) % 18446744073709551616 + 0) / 18446744073709551616) = o + c + p := by
  refine ⟨by omega, by omega, by omega, by omega⟩
theorem take_set_snoc {l : List Nat} {i d : Nat} (hi : i < l.length) : (l.set i d).take (i + 1) = l.take i ++ [d] := by
  rw [List.take_add_one, List.getElem?_set_self hi, List.take_set_of_le (Nat.le_refl i)]; rfl
theorem val_set_take {B : Nat} {l : List Nat} {i d : Nat} (hi : i < l.length) : val B ((l.set i d).take (i + 1)) = val B (l.take i) + B ^ i * d := by
  rw [take_set_snoc hi, val_snoc, List.length_take, Nat.min_eq_left (Nat.le_of_lt hi)]
theorem drop_set_after {l : List Nat} {i k d : Nat} (h : i < k) : (l.set i d).drop k = l.drop k := List.drop_set_of_lt h
end GoAbs
end

section
namespace Num
section
variable {b p w u n : Nat}

/-- A digit's guess q, with what is left r: of u·b + n by p·b + w. -/
structure Gs (b p w u n q r : Nat) : Prop where
  eq : q * p + r = u
  ge : (u * b + n) / (p * b + w) ≤ q
  le : q ≤ b + 1

theorem gs_first (hb : 0 < b) (hp : b ≤ 2 * p) (hw : w < b) (hn : n < b) (hu : u < p * b + w) : Gs b p w u n (u / p) (u % p) := by
  have hp0 : 0 < p := by omega
  have hv : 0 < p * b + w := by have := Nat.mul_pos hp0 hb; omega
  refine ⟨?_, ?_, ?_⟩
  · have := Nat.div_add_mod u p
    rw [Nat.mul_comm] at this
    exact this
  · rw [Nat.le_div_iff_mul_le hp0]
    have h1 : (u * b + n) / (p * b + w) * (p * b + w) ≤ u * b + n := Nat.div_mul_le_self _ _
    generalize (u * b + n) / (p * b + w) = q at h1
    have h2 : q * p * b ≤ q * (p * b + w) := by
      rw [Nat.mul_add, Nat.mul_assoc]; omega
    have h3 : q * p * b < (u + 1) * b := by
      rw [Nat.add_mul]; omega
    have := Nat.lt_of_mul_lt_mul_right h3
    omega
  · have : u / p < b + 2 := by
      rw [Nat.div_lt_iff_lt_mul hp0, Nat.add_mul, Nat.mul_comm b p]
      omega
    omega

theorem gs_small {q r : Nat} (hb : 0 < b) (hp : b ≤ 2 * p) (h : Gs b p w u n q r) (ht : q * w ≤ r * b + n) : q = (u * b + n) / (p * b + w) := by
  have hp0 : 0 < p := by omega
  have hv : 0 < p * b + w := by have := Nat.mul_pos hp0 hb; omega
  refine Nat.le_antisymm ?_ h.ge
  rw [Nat.le_div_iff_mul_le hv]
  have := h.eq
  subst this
  grind

theorem gs_big {q r : Nat} (hb : 0 < b) (hp : b ≤ 2 * p) (hu : u < p * b + w) (hn : n < b) (h : Gs b p w u n q r) (ht : b ≤ q ∨ r * b + n < q * w) : q ≠ 0 ∧ Gs b p w u n (q - 1) (r + p) := by
  have hp0 : 0 < p := by omega
  have hv : 0 < p * b + w := by have := Nat.mul_pos hp0 hb; omega
  have hq : (u * b + n) / (p * b + w) < q := by
    rcases ht with ht | ht
    · refine Nat.lt_of_lt_of_le ?_ ht
      rw [Nat.div_lt_iff_lt_mul hv]
      have : u * b + b ≤ (p * b + w) * b := by
        have := Nat.mul_le_mul_right b hu
        rw [Nat.succ_mul] at this
        exact this
      rw [Nat.mul_comm b]
      omega
    · rw [Nat.div_lt_iff_lt_mul hv]
      have := h.eq
      subst this
      grind
  have q0 : q ≠ 0 := Nat.ne_of_gt (Nat.lt_of_le_of_lt (Nat.zero_le _) hq)
  refine ⟨q0, ?_, Nat.le_sub_one_of_lt hq, Nat.le_trans (Nat.sub_le _ _) h.le⟩
  have := h.eq
  obtain ⟨k, rfl⟩ : ∃ k, q = k + 1 := ⟨q - 1, by omega⟩
  simp only [Nat.add_sub_cancel]
  rw [Nat.add_mul] at this
  omega

theorem gs_out {q r : Nat} (hb : 0 < b) (hp : b ≤ 2 * p) (hw : w < b) (h : Gs b p w u n q r) (hq : q ≤ b) (hr : b ≤ r) : q = (u * b + n) / (p * b + w) := by
  refine gs_small hb hp h ?_
  have h1 : q * w ≤ b * w := Nat.mul_le_mul_right _ hq
  have h2 : b * w ≤ b * b := Nat.mul_le_mul_left _ (Nat.le_of_lt hw)
  have h3 : b * b ≤ r * b := Nat.mul_le_mul_right _ hr
  omega
end
end Num

namespace Num
/-- Two digits of a quotient make it. -/
theorem two_digits {b U n1 n0 V q1 q0 : Nat} (hV : 0 < V) (hU : U < V) (hn1 : n1 < b) (hn0 : n0 < b) (h1 : q1 = (U * b + n1) / V) (h0 : q0 = ((U * b + n1) % V * b + n0) / V) :
    q1 < b ∧ q0 < b ∧ (U * (b * b) + (n1 * b + n0)) / V = q1 * b + q0 ∧ (U * (b * b) + (n1 * b + n0)) % V = ((U * b + n1) % V * b + n0) % V := by
  have hm := Nat.mod_lt (U * b + n1) hV
  have lt : ∀ {u n : Nat}, u < V → n < b → (u * b + n) / V < b := by
    intro u n hu hn
    rw [Nat.div_lt_iff_lt_mul hV]
    have := Nat.mul_le_mul_right b hu
    rw [Nat.succ_mul] at this
    rw [Nat.mul_comm b]
    omega
  have e1 := Nat.div_add_mod (U * b + n1) V
  rw [← h1] at e1
  have e : U * (b * b) + (n1 * b + n0) = ((U * b + n1) % V * b + n0) + V * (q1 * b) := by
    generalize (U * b + n1) % V = R at *
    grind
  refine ⟨h1 ▸ lt hU hn1, h0 ▸ lt hm hn0, ?_, ?_⟩
  · rw [e, Nat.add_mul_div_left _ _ hV, ← h0, Nat.add_comm]
  · rw [e, Nat.add_mul_mod_self_left]
end Num
end

section
namespace Num
/-- A list of words by one word: the quotient's words, and what is left. -/
def sdiv (B v : Nat) : List Nat → List Nat × Nat
  | [] => ([], 0)
  | d :: l => ((((sdiv B v l).2 * B + d) / v) :: (sdiv B v l).1, ((sdiv B v l).2 * B + d) % v)
theorem sdiv_len (B v : Nat) (l : List Nat) : (sdiv B v l).1.length = l.length := by
  induction l with
  | nil => rfl
  | cons d l ih => simp [sdiv, ih]
theorem sdiv_ok {B v : Nat} (hv : 0 < v) {l : List Nat} (h : Small B l) : Small B (sdiv B v l).1 ∧ val B l = val B (sdiv B v l).1 * v + (sdiv B v l).2 ∧ (sdiv B v l).2 < v := by
  induction l with
  | nil => exact ⟨.nil _, by simp [sdiv, val], hv⟩
  | cons d l ih =>
    obtain ⟨h1, h2, h3⟩ := ih h.tail
    have hd := h.head
    simp only [sdiv, val]
    generalize (sdiv B v l).2 = r at *
    generalize (sdiv B v l).1 = q at *
    have e := Nat.div_add_mod (r * B + d) v
    refine ⟨.cons ?_ h1, ?_, Nat.mod_lt _ hv⟩
    · rw [Nat.div_lt_iff_lt_mul hv]
      have := Nat.mul_le_mul_right B h3
      rw [Nat.succ_mul] at this
      rw [Nat.mul_comm B]
      omega
    · rw [h2]
      generalize (r * B + d) / v = x at *
      generalize (r * B + d) % v = y at *
      grind
theorem sdiv_div {B v : Nat} (hv : 0 < v) {l : List Nat} (h : Small B l) : val B (sdiv B v l).1 = val B l / v ∧ (sdiv B v l).2 = val B l % v := by
  obtain ⟨_, h2, h3⟩ := sdiv_ok hv h
  rw [h2]
  constructor
  · rw [Nat.mul_comm, Nat.mul_add_div hv, Nat.div_eq_of_lt h3, Nat.add_zero]
  · rw [Nat.mul_comm, Nat.mul_add_mod, Nat.mod_eq_of_lt h3]
theorem drop_cons {l : List Nat} {j d : Nat} (h : l[j]? = some d) : l.drop j = d :: l.drop (j + 1) := by
  rw [List.drop_eq_getElem_cons (List.getElem?_eq_some_iff.1 h).1, (List.getElem?_eq_some_iff.1 h).2]
theorem drop_set_cons {l : List Nat} {j d : Nat} (h : j < l.length) : (l.set j d).drop j = d :: l.drop (j + 1) := by
  rw [drop_cons (d := d) (by rw [List.getElem?_set_self h]), List.drop_set_of_lt (Nat.lt_succ_self j)]
end Num

namespace Num
/-- A number in just n words. -/
def pad (B : Nat) : Nat → Nat → List Nat
  | 0, _ => []
  | n + 1, x => x % B :: pad B n (x / B)
theorem pad_len (B n x : Nat) : (pad B n x).length = n := by
  induction n generalizing x with
  | zero => rfl
  | succ n ih => simp [pad, ih]
theorem pad_small {B : Nat} (hB : 0 < B) (n x : Nat) : Small B (pad B n x) := by
  induction n generalizing x with
  | zero => exact .nil _
  | succ n ih => exact .cons (Nat.mod_lt _ hB) (ih _)
theorem pad_val {B n x : Nat} (h : x < B ^ n) : val B (pad B n x) = x := by
  induction n generalizing x with
  | zero => simp at h; subst h; rfl
  | succ n ih =>
    have : x / B < B ^ n := Nat.div_lt_of_lt_mul (by rw [Nat.pow_succ, Nat.mul_comm] at h; exact h)
    simp only [pad, val, ih this]
    exact Nat.mod_add_div x B
theorem pad_of {B : Nat} {l : List Nat} (h : Small B l) : pad B l.length (val B l) = l := by
  induction l with
  | nil => rfl
  | cons d l ih =>
    have hd := h.head
    simp only [List.length_cons, pad, val]
    rw [Nat.add_mul_mod_self_left, Nat.mod_eq_of_lt hd, Nat.add_mul_div_left _ _ (by omega), Nat.div_eq_of_lt hd, Nat.zero_add, ih h.tail]
theorem pad_eq {B n x : Nat} {l : List Nat} (h : Small B l) (hl : l.length = n) (hv : val B l = x) : l = pad B n x := by
  subst hl hv; exact (pad_of h).symm

/-- One word moved up by s bits, with what comes in. -/
theorem left_word {v c s : Nat} (hs : s < 64) (hv : v < 18446744073709551616) (hc : c < 2 ^ s) :
    v * 2 ^ s % 18446744073709551616 + c < 18446744073709551616 ∧ v / 2 ^ (64 - s) < 2 ^ s ∧ (v * 2 ^ s % 18446744073709551616 + c) + 18446744073709551616 * (v / 2 ^ (64 - s)) = c + v * 2 ^ s ∧ 2 ^ s ∣ v * 2 ^ s % 18446744073709551616 := by
  have hp : (18446744073709551616 : Nat) = 2 ^ (64 - s) * 2 ^ s := by
    rw [← Nat.pow_add]
    have : 64 - s + s = 64 := by omega
    rw [this]
  have hsp := Nat.two_pow_pos s
  have e1 : v * 2 ^ s % 18446744073709551616 = v % 2 ^ (64 - s) * 2 ^ s := by rw [hp, Nat.mul_mod_mul_right]
  have hm := Nat.mod_lt v (Nat.two_pow_pos (64 - s))
  have e2 := Nat.div_add_mod v (2 ^ (64 - s))
  rw [e1]
  refine ⟨?_, ?_, ?_, ⟨_, Nat.mul_comm _ _⟩⟩
  · rw [hp]
    have := Nat.mul_le_mul_right (2 ^ s) hm
    rw [Nat.succ_mul] at this
    omega
  · rw [Nat.div_lt_iff_lt_mul (Nat.two_pow_pos _), Nat.mul_comm, ← hp]; exact hv
  · rw [hp]
    generalize v / 2 ^ (64 - s) = x at *
    generalize v % 2 ^ (64 - s) = y at *
    grind
/-- One word moved down by s bits, with what comes in from the next. -/
theorem right_word {u n D s : Nat} (hs : s < 64) (hu : u < 18446744073709551616) (hD : D % 2 ^ s = n % 2 ^ s) :
    u / 2 ^ s + n * 2 ^ (64 - s) % 18446744073709551616 < 18446744073709551616 ∧ (u + 18446744073709551616 * D) / 2 ^ s = (u / 2 ^ s + n * 2 ^ (64 - s) % 18446744073709551616) + 18446744073709551616 * (D / 2 ^ s) ∧ 2 ^ (64 - s) ∣ n * 2 ^ (64 - s) % 18446744073709551616 ∧ u / 2 ^ s < 2 ^ (64 - s) := by
  have hp : (18446744073709551616 : Nat) = 2 ^ s * 2 ^ (64 - s) := by
    rw [← Nat.pow_add]
    have : s + (64 - s) = 64 := by omega
    rw [this]
  have hsp := Nat.two_pow_pos s
  have htp := Nat.two_pow_pos (64 - s)
  have e1 : n * 2 ^ (64 - s) % 18446744073709551616 = n % 2 ^ s * 2 ^ (64 - s) := by rw [hp, Nat.mul_mod_mul_right]
  have hul : u / 2 ^ s < 2 ^ (64 - s) := by rw [Nat.div_lt_iff_lt_mul hsp, Nat.mul_comm, ← hp]; exact hu
  have hm := Nat.mod_lt n hsp
  rw [e1]
  refine ⟨?_, ?_, ⟨_, Nat.mul_comm _ _⟩, hul⟩
  · rw [hp]
    have := Nat.mul_le_mul_right (2 ^ (64 - s)) hm
    rw [Nat.succ_mul] at this
    omega
  · have e2 := Nat.div_add_mod D (2 ^ s)
    rw [hD] at e2
    have e3 : u + 18446744073709551616 * D = u + 2 ^ s * (2 ^ (64 - s) * D) := by rw [hp]; grind
    rw [e3, Nat.add_mul_div_left _ _ hsp, hp]
    generalize D / 2 ^ s = x at *
    generalize n % 2 ^ s = y at *
    grind
end Num

namespace Num
theorem low_mod {b V s : Nat} (hs : s < 64) : (b + 18446744073709551616 * V) % 2 ^ s = b % 2 ^ s := by
  have hp : (18446744073709551616 : Nat) = 2 ^ s * 2 ^ (64 - s) := by
    rw [← Nat.pow_add]
    have : s + (64 - s) = 64 := by omega
    rw [this]
  have e : b + 18446744073709551616 * V = b + 2 ^ s * (2 ^ (64 - s) * V) := by rw [hp, Nat.mul_assoc]
  rw [e, Nat.add_mul_mod_self_left]
end Num
end

section
namespace Num

/-- One word taken off, d times another's. -/
theorem less_word {d y k x u : Nat} (hd : d < 18446744073709551616) (hy : y < 18446744073709551616) (hk : k < 18446744073709551616) (hx : x < 18446744073709551616) (hu : u ≤ 1) :
    d * y / 18446744073709551616 + (d * y % 18446744073709551616 + k + 0) / 18446744073709551616 < 18446744073709551616 ∧
    (x + 18446744073709551616 - (d * y % 18446744073709551616 + k + 0) % 18446744073709551616 - u) % 18446744073709551616 < 18446744073709551616 ∧
    (if x < (d * y % 18446744073709551616 + k + 0) % 18446744073709551616 + u then 1 else 0) ≤ 1 ∧
    (x + 18446744073709551616 - (d * y % 18446744073709551616 + k + 0) % 18446744073709551616 - u) % 18446744073709551616 + d * y + k + u =
      x + 18446744073709551616 * ((d * y / 18446744073709551616 + (d * y % 18446744073709551616 + k + 0) / 18446744073709551616) + (if x < (d * y % 18446744073709551616 + k + 0) % 18446744073709551616 + u then 1 else 0)) := by
  have hp : d * y ≤ 340282366920938463426481119284349108225 := Nat.mul_le_mul (Nat.le_of_lt_succ hd) (Nat.le_of_lt_succ hy)
  generalize d * y = p at *
  refine ⟨by omega, by omega, by split <;> omega, ?_⟩
  split <;> omega

/-- What is found where a part of a row has been put. -/
def putAt (l : List Nat) (j : Nat) (p : List Nat) : List Nat := l.take j ++ p ++ l.drop (j + p.length)
theorem putAt_len {l p : List Nat} {j : Nat} (h : j + p.length ≤ l.length) : (putAt l j p).length = l.length := by
  unfold putAt
  simp only [List.length_append, List.length_take, List.length_drop]
  omega
theorem putAt_small {B : Nat} {l p : List Nat} {j : Nat} (hl : Small B l) (hp : Small B p) : Small B (putAt l j p) := ((hl.take j).app hp).app (hl.drop _)
theorem putAt_get {l p : List Nat} {j i : Nat} (hj : j ≤ l.length) (hi : i < p.length) : (putAt l j p)[j + i]? = p[i]? := by
  unfold putAt
  rw [List.append_assoc, List.getElem?_append_right (by simp; omega), List.length_take, Nat.min_eq_left hj, Nat.add_sub_cancel_left, List.getElem?_append_left hi]
theorem putAt_set {l p : List Nat} {j i d : Nat} (hj : j ≤ l.length) (hi : i < p.length) : (putAt l j p).set (j + i) d = putAt l j (p.set i d) := by
  unfold putAt
  rw [List.append_assoc, List.set_append_right _ _ (by simp; omega), List.length_take, Nat.min_eq_left hj, Nat.add_sub_cancel_left, List.set_append_left _ _ hi, List.length_set, List.append_assoc]
theorem putAt_self {l : List Nat} {j n : Nat} (h : j + n ≤ l.length) : putAt l j ((l.drop j).take n) = l := by
  unfold putAt
  have : ((l.drop j).take n).length = n := by simp; omega
  rw [this, List.append_assoc, ← List.drop_drop, List.take_append_drop, List.take_append_drop]
theorem putAt_part {l p : List Nat} {j : Nat} (hj : j ≤ l.length) : ((putAt l j p).drop j).take p.length = p := by
  unfold putAt
  rw [List.append_assoc, List.drop_append_of_le_length (by simp; omega), List.drop_of_length_le (by simp; omega), List.nil_append, List.take_append_of_le_length (Nat.le_refl _), List.take_length]
theorem putAt_putAt {l p q : List Nat} {j : Nat} (hj : j ≤ l.length) (hpq : p.length = q.length) : putAt (putAt l j p) j q = putAt l j q := by
  have h1 : (putAt l j p).take j = l.take j := by
    unfold putAt
    rw [List.append_assoc, List.take_append_of_le_length (by simp; omega), List.take_take, Nat.min_self]
  have h2 : (putAt l j p).drop (j + q.length) = l.drop (j + q.length) := by
    unfold putAt
    rw [List.drop_append, List.drop_of_length_le (by simp; omega), List.nil_append]
    simp only [List.length_append, List.length_take, Nat.min_eq_left hj]
    rw [hpq, Nat.sub_self, List.drop_zero]
  unfold putAt at *
  rw [h1, h2]
theorem putAt_drop {l p : List Nat} {j : Nat} (hj : j ≤ l.length) : (putAt l j p).drop j = p ++ l.drop (j + p.length) := by
  unfold putAt
  rw [List.append_assoc, List.drop_append_of_le_length (by simp; omega), List.drop_of_length_le (by simp; omega), List.nil_append]
theorem putAt_take {l p : List Nat} {j : Nat} (hj : j ≤ l.length) : (putAt l j p).take j = l.take j := by
  unfold putAt
  rw [List.append_assoc, List.take_append_of_le_length (by simp; omega), List.take_take, Nat.min_self]

section
variable {B : Nat}
/-- A quotient's digit is at most what the first digits tell. -/
theorem guess_ge {lo lo' : List Nat} {a b c v w : Nat} (hl : lo.length = lo'.length) (hs : Small B lo) (hS : 0 < v * B + w) (hB : 0 < B) :
    val B (lo ++ [c, b, a]) / val B (lo' ++ [w, v]) ≤ ((a * B + b) * B + c) / (v * B + w) := by
  have e1 : val B (lo ++ [c, b, a]) = val B lo + B ^ lo.length * ((a * B + b) * B + c) := by
    rw [val_app]; simp only [val]; grind
  have e2 : val B (lo' ++ [w, v]) = val B lo' + B ^ lo.length * (v * B + w) := by
    rw [val_app, hl]; simp only [val]; grind
  rw [e1, e2]
  have h1 := val_lt hs
  generalize val B lo = x at *
  generalize val B lo' = y at *
  have hX : 0 < B ^ lo.length := Nat.pow_pos hB
  generalize B ^ lo.length = X at *
  generalize (a * B + b) * B + c = T at *
  generalize v * B + w = S at *
  rw [Nat.le_div_iff_mul_le hS]
  have h2 : (x + X * T) / (y + X * S) * (y + X * S) ≤ x + X * T := Nat.div_mul_le_self _ _
  generalize (x + X * T) / (y + X * S) = q at *
  have h3 : q * S * X < (T + 1) * X := by grind
  have := Nat.lt_of_mul_lt_mul_right h3
  omega

/-- One round of long division. -/
theorem long_round {X : List Nat} {Y j n q : Nat} (hX : Small B X) (hB : 1 < B) (hY : Y < B ^ n) (hY0 : 0 < Y) (hj : j + n < X.length) (htop : val B (X.drop (j + 1)) < Y)
    (hq : q = val B ((X.drop j).take (n + 1)) / Y) :
    val B ((X.drop j).take (n + 1)) < B * Y ∧ q < B ∧ val B ((X.drop j).take (n + 1)) = val B (X.drop j) ∧ val B (X.drop (j + (n + 1))) = 0 ∧
    ∀ R : List Nat, R = pad B (n + 1) (val B ((X.drop j).take (n + 1)) % Y) → val B ((putAt X j R).drop j) < Y ∧ val B X = q * B ^ j * Y + val B (putAt X j R) := by
  obtain ⟨x, hx⟩ : ∃ x, X[j]? = some x := ⟨_, List.getElem?_eq_getElem (by omega)⟩
  have hxs := hX.get hx
  have e1 : val B (X.drop j) = x + B * val B (X.drop (j + 1)) := val_drop hx
  have e2 : val B (X.drop j) < B * Y := by
    rw [e1]
    have : B * (val B (X.drop (j + 1)) + 1) ≤ B * Y := Nat.mul_le_mul_left _ htop
    rw [Nat.mul_add] at this
    omega
  have e3 : B * Y < B ^ (n + 1) := by
    rw [Nat.pow_succ, Nat.mul_comm]
    exact Nat.mul_lt_mul_of_pos_right hY (by omega)
  have e4 := val_split B (X.drop j) (n + 1) (by simp; omega)
  rw [List.drop_drop] at e4
  have e5 : val B (X.drop (j + (n + 1))) = 0 := by
    rcases Nat.eq_zero_or_pos (val B (X.drop (j + (n + 1)))) with h | h
    · exact h
    · have : B ^ (n + 1) * 1 ≤ B ^ (n + 1) * val B (X.drop (j + (n + 1))) := Nat.mul_le_mul_left _ h
      omega
  rw [e5, Nat.mul_zero, Nat.add_zero] at e4
  rw [← e4] at hq ⊢
  refine ⟨e2, ?_, rfl, e5, ?_⟩
  · rw [hq, Nat.div_lt_iff_lt_mul hY0]; exact e2
  · intro R hR
    have hm := Nat.mod_lt (val B (X.drop j)) hY0
    have hRl : R.length = n + 1 := by rw [hR, pad_len]
    have hRv : val B R = val B (X.drop j) % Y := by rw [hR]; exact pad_val (Nat.lt_of_le_of_lt (Nat.mod_le _ _) (Nat.lt_trans e2 e3))
    have hd := Nat.div_add_mod (val B (X.drop j)) Y
    rw [← hq] at hd
    have e6 : val B ((putAt X j R).drop j) = val B R := by
      rw [putAt_drop (by omega), val_app, hRl, e5, Nat.mul_zero, Nat.add_zero]
    refine ⟨by rw [e6, hRv]; exact hm, ?_⟩
    have s1 := val_split B X j (by omega)
    have s2 := val_split B (putAt X j R) j (by rw [putAt_len (by omega)]; omega)
    rw [putAt_take (by omega), e6, hRv] at s2
    have e7 : B ^ j * val B (X.drop j) = q * B ^ j * Y + B ^ j * (val B (X.drop j) % Y) := by
      conv => lhs; rw [← hd]
      rw [Nat.mul_add, Nat.mul_comm Y q, ← Nat.mul_assoc, Nat.mul_comm (B ^ j) q]
    omega
end
/-- How a row taken off ends. -/
theorem less_end {P Q D Z u : Nat} (h : Q + D = P + Z * u) (hQ : Q < Z) (hu : u ≤ 1) : ((((u : Nat) : Int)) != 0) = decide (P < D) ∧ Q = (P + Z - D) % Z := by
  have h0 : u = 0 ∨ u = 1 := by omega
  rcases h0 with rfl | rfl
  · rw [Nat.mul_zero, Nat.add_zero] at h
    have e : P + Z - D = Q + Z := by omega
    rw [e, Nat.add_mod_right, Nat.mod_eq_of_lt hQ]
    exact ⟨by rw [decide_eq_false (by omega)]; rfl, rfl⟩
  · rw [Nat.mul_one] at h
    have e : P + Z - D = Q := by omega
    rw [e, Nat.mod_eq_of_lt hQ]
    exact ⟨by rw [decide_eq_true (by omega)]; rfl, rfl⟩
/-- How a row put back ends. -/
theorem more_end {P Q D Z u : Nat} (h : Q + Z * u = P + D) (hQ : Q < Z) (hP : P < Z) (hD : D < Z) (hu : u ≤ 1) : ((((u : Nat) : Int)) != 0) = decide (Z ≤ P + D) ∧ Q = (P + D) % Z := by
  have h0 : u = 0 ∨ u = 1 := by omega
  rcases h0 with rfl | rfl
  · rw [Nat.mul_zero, Nat.add_zero] at h
    rw [← h, Nat.mod_eq_of_lt hQ]
    exact ⟨by rw [decide_eq_false (by omega)]; rfl, rfl⟩
  · rw [Nat.mul_one] at h
    rw [← h, Nat.add_mod_right, Nat.mod_eq_of_lt hQ]
    exact ⟨by rw [decide_eq_true (by omega)]; rfl, rfl⟩
theorem sub_last {x k u : Nat} (hx : x < 18446744073709551616) (hk : k < 18446744073709551616) (hu : u ≤ 1) :
    (x + 18446744073709551616 - k - u) % 18446744073709551616 < 18446744073709551616 ∧ (if x < k + u then 1 else 0) ≤ 1 ∧ (x + 18446744073709551616 - k - u) % 18446744073709551616 + k + u = x + 18446744073709551616 * (if x < k + u then 1 else 0) := by
  refine ⟨by omega, by split <;> omega, by split <;> omega⟩

theorem split3 {L : List Nat} {n a b c : Nat} (hl : L.length = n + 1) (hn : 2 ≤ n) (ha : L[n]? = some a) (hb : L[n - 1]? = some b) (hc : L[n - 2]? = some c) : L = L.take (n - 2) ++ [c, b, a] := by
  obtain ⟨k, rfl⟩ : ∃ k, n = k + 2 := ⟨n - 2, by omega⟩
  have e1 : k + 2 - 1 = k + 1 := by omega
  have e2 : k + 2 - 2 = k := by omega
  rw [e1] at hb
  rw [e2] at hc ⊢
  have h3 : L.drop k = [c, b, a] := by
    rw [drop_cons hc, drop_cons hb, drop_cons ha, List.drop_of_length_le (by omega)]
  rw [← h3, List.take_append_drop]
theorem split2 {L : List Nat} {n v w : Nat} (hl : L.length = n) (hn : 2 ≤ n) (hv : L[n - 1]? = some v) (hw : L[n - 2]? = some w) : L = L.take (n - 2) ++ [w, v] := by
  obtain ⟨k, rfl⟩ : ∃ k, n = k + 2 := ⟨n - 2, by omega⟩
  have e1 : k + 2 - 1 = k + 1 := by omega
  have e2 : k + 2 - 2 = k := by omega
  rw [e1] at hv
  rw [e2] at hw ⊢
  have h3 : L.drop k = [w, v] := by
    rw [drop_cons hw, drop_cons hv, List.drop_of_length_le (by omega)]
  rw [← h3, List.take_append_drop]
theorem part_get {X : List Nat} {j m i : Nat} (hi : i < m) : ((X.drop j).take m)[i]? = X[j + i]? := by
  rw [List.getElem?_take, if_pos hi, List.getElem?_drop]

/-- The guess is not below the digit. -/
theorem guess_fin {X Y : List Nat} {j n a b c v w q q0 : Nat} (hX : Small 18446744073709551616 X) (hY : Small 18446744073709551616 Y) (hYn : Y.length = n) (hn : 2 ≤ n) (hj : j + n < X.length)
    (ha : X[j + n]? = some a) (hb : X[j + n - 1]? = some b) (hc : X[j + n - 2]? = some c) (hv : Y[n - 1]? = some v) (hw : Y[n - 2]? = some w) (hvn : 18446744073709551616 ≤ 2 * v)
    (hq : q = val 18446744073709551616 ((X.drop j).take (n + 1)) / val 18446744073709551616 Y) (hqB : q < 18446744073709551616)
    (hq0 : q0 = if v ≤ a then 18446744073709551615 else ((a * 18446744073709551616 + b) * 18446744073709551616 + c) / (v * 18446744073709551616 + w)) : q ≤ q0 ∧ q0 < 18446744073709551616 := by
  have hcs := hX.get hc
  have hbs := hX.get hb
  by_cases h : v ≤ a
  · rw [if_pos h] at hq0; omega
  · rw [if_neg h] at hq0
    refine ⟨?_, ?_⟩
    · have e1 := split3 (L := (X.drop j).take (n + 1)) (n := n) (a := a) (b := b) (c := c) (by simp; omega) hn (by rw [part_get (by omega)]; exact ha) (by rw [part_get (by omega), ← Nat.add_sub_assoc (by omega)]; exact hb) (by rw [part_get (by omega), ← Nat.add_sub_assoc (by omega)]; exact hc)
      have e2 := split2 hYn hn hv hw
      rw [hq, hq0, e1, e2]
      exact guess_ge (by simp; omega) (((hX.drop j).take _).take _) (by omega) (by decide)
    · rw [hq0, Nat.div_lt_iff_lt_mul (by omega)]
      omega

/-- A divisor moved up till its first bit stands. -/
theorem norm_val {V : List Nat} {n d s : Nat} (hV : Small 18446744073709551616 V) (hn : V.length = n) (hn1 : 1 ≤ n) (hd : V[n - 1]? = some d) (hd0 : d ≠ 0) (hs : s = 64 - blen d) :
    val 18446744073709551616 V * 2 ^ s < 18446744073709551616 ^ n ∧ 18446744073709551616 ^ (n - 1) * 9223372036854775808 ≤ val 18446744073709551616 V * 2 ^ s ∧ 18446744073709551616 ^ (n - 1) ≤ val 18446744073709551616 V := by
  have hds := hV.get hd
  have hbl : blen d ≤ 64 := blen_le (n := 64) hds
  have hbl0 : blen d ≠ 0 := by rw [blen_pos hd0]; omega
  have h1 := blen_lt d
  have h2 := blen_ge hd0
  have e := val_take_succ (B := 18446744073709551616) hd
  have ht := val_lt (hV.take (n - 1))
  rw [List.length_take, Nat.min_eq_left (by omega)] at ht
  rw [List.take_of_length_le (by omega)] at e
  have p1 : 2 ^ blen d * 2 ^ s = 18446744073709551616 := by
    rw [← Nat.pow_add, hs, show blen d + (64 - blen d) = 64 by omega]
  have p2 : 2 ^ (blen d - 1) * 2 ^ s = 9223372036854775808 := by
    rw [← Nat.pow_add, hs, show blen d - 1 + (64 - blen d) = 63 by omega]
  have p3 : 18446744073709551616 ^ n = 18446744073709551616 ^ (n - 1) * 18446744073709551616 := by
    rw [← Nat.pow_succ, show (n - 1).succ = n by omega]
  have hsp := Nat.two_pow_pos s
  rw [p3, e]
  generalize 18446744073709551616 ^ (n - 1) = Z at *
  generalize val 18446744073709551616 (V.take (n - 1)) = t at *
  refine ⟨?_, ?_, ?_⟩
  · rw [← p1, ← Nat.mul_assoc]
    refine Nat.mul_lt_mul_of_pos_right ?_ hsp
    have : Z * (d + 1) ≤ Z * 2 ^ blen d := Nat.mul_le_mul_left _ h1
    rw [Nat.mul_add] at this
    omega
  · rw [← p2, ← Nat.mul_assoc]
    refine Nat.mul_le_mul_right _ ?_
    have := Nat.mul_le_mul_left Z h2
    omega
  · have : Z * 1 ≤ Z * d := Nat.mul_le_mul_left _ (by omega)
    omega
theorem top_word {Y : List Nat} {n v : Nat} (hY : Small 18446744073709551616 Y) (hn : Y.length = n) (hn1 : 1 ≤ n) (hv : Y[n - 1]? = some v) (h : 18446744073709551616 ^ (n - 1) * 9223372036854775808 ≤ val 18446744073709551616 Y) : 18446744073709551616 ≤ 2 * v := by
  have e := val_take_succ (B := 18446744073709551616) hv
  have ht := val_lt (hY.take (n - 1))
  rw [List.length_take, Nat.min_eq_left (by omega)] at ht
  rw [List.take_of_length_le (by omega)] at e
  rw [e] at h
  generalize 18446744073709551616 ^ (n - 1) = Z at *
  have h2 : Z * 9223372036854775808 < Z * (v + 1) := by rw [Nat.mul_add]; omega
  have := Nat.lt_of_mul_lt_mul_left h2
  omega

theorem long_fin {A B k q x : Nat} (hk : 0 < k) (h : A * k = q * (B * k) + x) (hx : x < B * k) : A / B = q ∧ x = A % B * k := by
  have h1 : A * k / (B * k) = q := by
    rw [h, Nat.mul_comm q, Nat.mul_add_div (by omega), Nat.div_eq_of_lt hx, Nat.add_zero]
  have h2 : A * k % (B * k) = x := by
    rw [h, Nat.mul_comm q, Nat.mul_add_mod, Nat.mod_eq_of_lt hx]
  rw [Nat.mul_div_mul_right _ _ hk] at h1
  rw [Nat.mul_mod_mul_right] at h2
  exact ⟨h1, h2.symm⟩

theorem more_step {P Y Z d v : Nat} (h : P < d * Y) (hd : d * Y < Z) (hv : v = (P + Z - d * Y) % Z) : (!decide (Z ≤ v + Y)) = decide (P < (d - 1) * Y) ∧ (v + Y) % Z = (P + Z - (d - 1) * Y) % Z := by
  have hv2 : v = P + Z - d * Y := by rw [hv]; exact Nat.mod_eq_of_lt (by omega)
  have hd0 : d ≠ 0 := by rintro rfl; simp at h
  have e : (d - 1) * Y + Y = d * Y := by rw [← Nat.succ_mul, show (d - 1).succ = d by omega]
  have e2 : v + Y = P + Z - (d - 1) * Y := by omega
  rw [e2]
  refine ⟨?_, rfl⟩
  by_cases h3 : P < (d - 1) * Y
  · rw [decide_eq_true h3, decide_eq_false (by omega)]; rfl
  · rw [decide_eq_false h3, decide_eq_true (by omega)]; rfl
theorem less_out {P Y Z d q : Nat} (hY : 0 < Y) (hq : q = P / Y) (h : ¬ P < d * Y) (hqd : q ≤ d) (hPZ : P % Y < Z) : d = q ∧ (P + Z - d * Y) % Z = P % Y := by
  have h1 : d ≤ P / Y := by rw [Nat.le_div_iff_mul_le hY]; omega
  have h2 : d = q := by omega
  refine ⟨h2, ?_⟩
  have h3 := Nat.div_add_mod P Y
  rw [← hq, ← h2, Nat.mul_comm] at h3
  have e : P + Z - d * Y = P % Y + Z := by omega
  rw [e, Nat.add_mod_right, Nat.mod_eq_of_lt hPZ]

theorem val_drop_set {B : Nat} {l : List Nat} {j d : Nat} (h : j < l.length) : val B ((l.set j d).drop j) = d + B * val B (l.drop (j + 1)) := by
  rw [drop_set_cons h, val]
end Num
end

section
namespace Num
theorem pad_get {B : Nat} : ∀ {n x k : Nat}, k < n → (pad B n x)[k]? = some (x / B ^ k % B)
  | 0, x, k, h => by omega
  | n + 1, x, 0, _ => by simp [pad]
  | n + 1, x, k + 1, h => by
    simp only [pad, List.getElem?_cons_succ]
    rw [pad_get (by omega), Nat.pow_succ, Nat.mul_comm, Nat.div_div_eq_div_mul]
theorem pad_zero {B : Nat} : ∀ (n : Nat), pad B n 0 = List.replicate n 0
  | 0 => rfl
  | n + 1 => by simp [pad, pad_zero n, List.replicate_succ]
theorem pad_set {B : Nat} (hB : 0 < B) : ∀ {n x k d : Nat}, k < n → x / B ^ k % B + d < B → (pad B n x).set k (x / B ^ k % B + d) = pad B n (x + d * B ^ k)
  | 0, x, k, d, h, _ => by omega
  | n + 1, x, 0, d, _, hd => by
    simp only [Nat.pow_zero, Nat.div_one, Nat.mul_one] at hd ⊢
    simp only [pad, List.set_cons_zero]
    have h1 := Nat.div_add_mod x B
    have e1 : (x + d) % B = x % B + d := by
      conv => lhs; rw [← h1]
      rw [Nat.add_assoc, Nat.mul_add_mod, Nat.mod_eq_of_lt hd]
    have e2 : (x + d) / B = x / B := by
      conv => lhs; rw [← h1]
      rw [Nat.add_assoc, Nat.mul_add_div hB, Nat.div_eq_of_lt hd, Nat.add_zero]
    rw [e1, e2]
  | n + 1, x, k + 1, d, h, hd => by
    have e : x / B ^ (k + 1) = x / B / B ^ k := by rw [Nat.pow_succ, Nat.mul_comm, Nat.div_div_eq_div_mul]
    rw [e] at hd ⊢
    simp only [pad, List.set_cons_succ]
    rw [pad_set hB (by omega) hd]
    have e1 : (x + d * B ^ (k + 1)) % B = x % B := by rw [Nat.pow_succ, ← Nat.mul_assoc, Nat.add_mul_mod_self_right]
    have e2 : (x + d * B ^ (k + 1)) / B = x / B + d * B ^ k := by rw [Nat.pow_succ, ← Nat.mul_assoc, Nat.add_mul_div_right _ _ hB]
    rw [e1, e2]
theorem digs_pad {B : Nat} (hB : 2 ≤ B) {n x : Nat} (h : x < B ^ n) (hn : ∀ m, n = m + 1 → B ^ m ≤ x) : digs B x = pad B n x := by
  have h1 : (digs B x).length ≤ n := digs_len_le hB h
  have h2 : n ≤ (digs B x).length := by
    cases n with
    | zero => omega
    | succ m =>
      have := hn m rfl
      have h3 := digs_lt hB x
      have h4 : B ^ m < B ^ (digs B x).length := Nat.lt_of_le_of_lt this h3
      have := (Nat.pow_lt_pow_iff_right (by omega : 1 < B)).1 h4
      omega
  exact pad_eq (digs_small hB x) (by omega) (digs_val hB x)
/-- How many bytes a number has. -/
theorem digs256_len (x : Nat) : (digs 256 x).length = (blen x + 7) / 8 := by
  by_cases h : x = 0
  · subst h; rfl
  · have a := blen_lt x
    have b := blen_ge h
    have f : blen x ≠ 0 := by rw [blen_pos h]; omega
    have e : ∀ k, 256 ^ k = 2 ^ (8 * k) := fun k => by rw [Nat.pow_mul]
    have h1 : (digs 256 x).length ≤ (blen x + 7) / 8 := digs_len_le (by decide) (by
      rw [e]
      exact Nat.lt_of_lt_of_le a (Nat.pow_le_pow_right (by decide) (by omega)))
    have h2 := digs_lt (B := 256) (by decide) x
    rw [e] at h2
    have h3 : blen x - 1 < 8 * (digs 256 x).length := (Nat.pow_lt_pow_iff_right (by decide : 1 < 2)).1 (Nat.lt_of_le_of_lt b h2)
    omega
/-- A number in bytes, the highest first. -/
def bytesOf (x : Nat) : List Nat := (digs 256 x).reverse
/-- The number of bytes. -/
def ofBytes (l : List Nat) : Nat := val 256 l.reverse
theorem ofBytes_bytesOf (x : Nat) : ofBytes (bytesOf x) = x := by
  unfold ofBytes bytesOf
  rw [List.reverse_reverse, digs_val (by decide)]
theorem bytesOf_inj {x y : Nat} (h : bytesOf x = bytesOf y) : x = y := by rw [← ofBytes_bytesOf x, h, ofBytes_bytesOf]
theorem bytesOf_small (x : Nat) : Small 256 (bytesOf x) := fun d hd => digs_small (by decide) x d (List.mem_reverse.1 hd)
theorem bytesOf_len (x : Nat) : (bytesOf x).length = (blen x + 7) / 8 := by unfold bytesOf; rw [List.length_reverse, digs256_len]
theorem ofBytes_lt {l : List Nat} (h : Small 256 l) : ofBytes l < 256 ^ l.length := by
  have := val_lt (B := 256) (l := l.reverse) (fun d hd => h d (List.mem_reverse.1 hd))
  rwa [List.length_reverse] at this
theorem blen_ofBytes {l : List Nat} (h : Small 256 l) : blen (ofBytes l) ≤ 8 * l.length := blen_le (by
  have := ofBytes_lt h
  rw [show 256 = 2 ^ 8 from rfl, ← Nat.pow_mul] at this
  exact this)

theorem val_rev_take {l : List Nat} {i d : Nat} (hi : i < l.length) (hd : l[l.length - 1 - i]? = some d) : val 256 (l.reverse.take (i + 1)) = val 256 (l.reverse.take i) + 256 ^ i * d := by
  refine val_take_succ ?_
  rw [List.getElem?_reverse hi]
  exact hd
/-- One byte more, in words of w bytes each. -/
theorem word_step {w n V i d : Nat} (hw : 0 < w) (hV : V < 256 ^ i) (hd : d < 256) (hi : i / w < n) :
    V / (256 ^ w) ^ (i / w) % 256 ^ w = V / (256 ^ w) ^ (i / w) ∧ V / (256 ^ w) ^ (i / w) < 256 ^ (i % w) ∧ d * 256 ^ (i % w) + 256 ^ (i % w) ≤ 256 ^ w ∧
      (pad (256 ^ w) n V).set (i / w) (V / (256 ^ w) ^ (i / w) + d * 256 ^ (i % w)) = pad (256 ^ w) n (V + 256 ^ i * d) := by
  have hm := Nat.mod_lt i hw
  have e : 256 ^ i = (256 ^ w) ^ (i / w) * 256 ^ (i % w) := by
    rw [← Nat.pow_mul, ← Nat.pow_add, Nat.div_add_mod]
  have hp : 0 < (256 ^ w) ^ (i / w) := Nat.pow_pos (Nat.pow_pos (by decide))
  have h1 : V / (256 ^ w) ^ (i / w) < 256 ^ (i % w) := by
    rw [Nat.div_lt_iff_lt_mul hp, Nat.mul_comm, ← e]; exact hV
  have h2 : 256 ^ (i % w) * 256 ≤ 256 ^ w := by
    rw [← Nat.pow_succ]; exact Nat.pow_le_pow_right (by decide) hm
  have h3 : d * 256 ^ (i % w) + 256 ^ (i % w) ≤ 256 ^ w := by
    rw [← Nat.succ_mul]
    refine Nat.le_trans (Nat.mul_le_mul_right _ hd) ?_
    rw [Nat.mul_comm]; exact h2
  have h4 : V / (256 ^ w) ^ (i / w) % 256 ^ w = V / (256 ^ w) ^ (i / w) := Nat.mod_eq_of_lt (by omega)
  refine ⟨h4, h1, h3, ?_⟩
  have := pad_set (B := 256 ^ w) (n := n) (x := V) (k := i / w) (d := d * 256 ^ (i % w)) (Nat.pow_pos (by decide)) hi (by rw [h4]; omega)
  rw [h4] at this
  rw [this, e]
  congr 1
  rw [Nat.mul_assoc, Nat.mul_comm ((256 ^ w) ^ (i / w)), Nat.mul_comm d, Nat.mul_assoc]
/-- One byte more in words of 64 bits, from the lowest on. -/
theorem word8_step {n V i d : Nat} (hV : V < 256 ^ i) (hd : d < 256) (hi : i / 8 < n) :
    (pad 18446744073709551616 n V)[i / 8]? = some (V / 18446744073709551616 ^ (i / 8)) ∧ V / 18446744073709551616 ^ (i / 8) < 2 ^ (i % 8 * 8) ∧ d * 2 ^ (i % 8 * 8) + V / 18446744073709551616 ^ (i / 8) < 18446744073709551616 ∧
      (pad 18446744073709551616 n V).set (i / 8) (d * 2 ^ (i % 8 * 8) + V / 18446744073709551616 ^ (i / 8)) = pad 18446744073709551616 n (V + 256 ^ i * d) := by
  have e8 : (256 : Nat) ^ 8 = 18446744073709551616 := by decide
  have e2 : (256 : Nat) ^ (i % 8) = 2 ^ (i % 8 * 8) := by rw [show 256 = 2 ^ 8 from rfl, ← Nat.pow_mul, Nat.mul_comm]
  obtain ⟨h1, h2, h3, h4⟩ := word_step (w := 8) (n := n) (by decide) hV hd hi
  rw [e8] at h1 h2 h3 h4
  rw [e2] at h2 h3 h4
  refine ⟨?_, h2, by omega, ?_⟩
  · rw [pad_get hi, h1]
  · rw [Nat.add_comm (d * _)]; exact h4
theorem ofBytes_take_lt {l : List Nat} (h : Small 256 l) (i : Nat) : val 256 (l.reverse.take i) < 256 ^ i := by
  have h1 : Small 256 (l.reverse.take i) := fun d hd => h d (List.mem_reverse.1 (List.mem_of_mem_take hd))
  have h2 := val_lt h1
  exact Nat.lt_of_lt_of_le h2 (Nat.pow_le_pow_right (by decide) (by rw [List.length_take]; omega))
theorem byte_at {x i : Nat} : x / 18446744073709551616 ^ (i / 8) % 18446744073709551616 / 2 ^ (i % 8 * 8) % 256 = x / 256 ^ i % 256 := by
  have e8 : (256 : Nat) ^ 8 = 18446744073709551616 := by decide
  have e2 : (256 : Nat) ^ (i % 8) = 2 ^ (i % 8 * 8) := by rw [show 256 = 2 ^ 8 from rfl, ← Nat.pow_mul, Nat.mul_comm]
  have e : 256 ^ i = 18446744073709551616 ^ (i / 8) * 256 ^ (i % 8) := by
    rw [← e8, ← Nat.pow_mul, ← Nat.pow_add, Nat.div_add_mod]
  have hm := Nat.mod_lt i (show 0 < 8 by decide)
  have e3 : 18446744073709551616 = 256 ^ (i % 8) * (256 * 256 ^ (7 - i % 8)) := by
    rw [← e8, Nat.mul_comm 256, ← Nat.pow_succ, ← Nat.pow_add]
    congr 1
    omega
  rw [e, ← Nat.div_div_eq_div_mul, ← e2]
  generalize x / 18446744073709551616 ^ (i / 8) = y
  conv => lhs; rw [e3]
  rw [Nat.mod_mul_right_div_self, Nat.mod_mul_right_mod]
theorem digs_len_bits {B k : Nat} (hk : 0 < k) (hB : B = 2 ^ k) (x : Nat) : (digs B x).length = (blen x + k - 1) / k := by
  have h2 : 2 ≤ B := by
    have : 2 ^ 1 ≤ 2 ^ k := Nat.pow_le_pow_right (by decide) hk
    omega
  rcases List.eq_nil_or_concat (digs B x) with h | ⟨m, d, h⟩
  · have h0 := (digs_nil h2).1 h
    rw [h, h0, blen_zero, Nat.zero_add, Nat.div_eq_of_lt (by omega)]
    rfl
  · have h : digs B x = m ++ [d] := by simpa using h
    have e := blen_last hk hB h
    have hd := digs_last h2 h
    have hb : blen d ≠ 0 := by rw [blen_pos hd]; omega
    have hs := digs_small h2 x
    rw [h] at hs
    have hdB : d < B := hs d (by simp)
    have hb2 : blen d ≤ k := blen_le (by rw [← hB]; exact hdB)
    rw [h, List.length_append, List.length_singleton, e]
    have e3 : k * m.length + blen d + k - 1 = (blen d - 1) + k * (m.length + 1) := by rw [Nat.mul_add]; omega
    rw [e3, Nat.add_mul_div_left _ _ hk, Nat.div_eq_of_lt (by omega), Nat.zero_add]
theorem digs64_len (x : Nat) : (digs 18446744073709551616 x).length = (blen x + 63) / 64 := digs_len_bits (k := 64) (by decide) (by decide) x
theorem digs32_len (x : Nat) : (digs 4294967296 x).length = (blen x + 31) / 32 := digs_len_bits (k := 32) (by decide) (by decide) x
theorem rev_set {l : List Nat} {i d : Nat} (h : i < l.length) : l.reverse.set (l.length - 1 - i) d = (l.set i d).reverse := by
  apply List.ext_getElem (by simp)
  intro k h1 h2
  simp only [List.length_set, List.length_reverse] at h1 h2
  rw [List.getElem_set, List.getElem_reverse, List.getElem_reverse, List.getElem_set]
  simp only [List.length_set]
  by_cases he : l.length - 1 - i = k
  · rw [if_pos he, if_pos (by omega)]
  · rw [if_neg he, if_neg (by omega)]
end Num
end

section
namespace Num
theorem ofBytes_snoc (l : List Nat) (d : Nat) : ofBytes (l ++ [d]) = 256 * ofBytes l + d := by
  unfold ofBytes
  rw [List.reverse_append, List.reverse_singleton, List.singleton_append, val]
  omega
theorem take_snoc {l : List Nat} {i d : Nat} (h : l[i]? = some d) : l.take (i + 1) = l.take i ++ [d] := by rw [List.take_add_one, h]; rfl
/-- One byte more in words of 32 bits, from the highest on. -/
theorem from4_step {n V m k d : Nat} (hV : V = 256 ^ (k + 1) * m) (hd : d < 256) (hk : k / 4 < n) :
    (pad 4294967296 n V)[k / 4]? = some (V / 4294967296 ^ (k / 4) % 4294967296) ∧ 2 ^ (8 * (k % 4) + 8) ∣ V / 4294967296 ^ (k / 4) % 4294967296 ∧ d * 2 ^ (8 * (k % 4)) < 2 ^ (8 * (k % 4) + 8) ∧
      V / 4294967296 ^ (k / 4) % 4294967296 + d * 2 ^ (8 * (k % 4)) < 4294967296 ∧
      (pad 4294967296 n V).set (k / 4) (V / 4294967296 ^ (k / 4) % 4294967296 + d * 2 ^ (8 * (k % 4))) = pad 4294967296 n (V + 256 ^ k * d) := by
  have e4 : (4294967296 : Nat) = 256 ^ 4 := by decide
  have e2 : 2 ^ (8 * (k % 4)) = 256 ^ (k % 4) := by rw [Nat.pow_mul]
  have e3 : 2 ^ (8 * (k % 4) + 8) = 256 ^ (k % 4 + 1) := by
    rw [show 8 * (k % 4) + 8 = 8 * (k % 4 + 1) by omega, Nat.pow_mul]
  have hm := Nat.mod_lt k (show 0 < 4 by decide)
  have hB : 4294967296 ^ (k / 4) = 256 ^ (4 * (k / 4)) := by rw [e4, ← Nat.pow_mul]
  have e5 : 256 ^ (k + 1) = 256 ^ (4 * (k / 4)) * 256 ^ (k % 4 + 1) := by
    rw [← Nat.pow_add]; congr 1; omega
  have hq : V / 4294967296 ^ (k / 4) = 256 ^ (k % 4 + 1) * m := by
    rw [hV, hB, e5, Nat.mul_assoc, Nat.mul_div_cancel_left _ (Nat.pow_pos (by decide))]
  have e6 : 4294967296 = 256 ^ (k % 4 + 1) * 256 ^ (3 - k % 4) := by
    rw [← Nat.pow_add, show k % 4 + 1 + (3 - k % 4) = 4 by omega]
  have hx : V / 4294967296 ^ (k / 4) % 4294967296 = 256 ^ (k % 4 + 1) * (m % 256 ^ (3 - k % 4)) := by
    rw [hq]
    conv => lhs; rw [e6]
    rw [Nat.mul_mod_mul_left]
  have hd2 : d * 256 ^ (k % 4) < 256 ^ (k % 4 + 1) := by
    rw [Nat.pow_succ, Nat.mul_comm]
    exact Nat.mul_lt_mul_of_pos_left hd (Nat.pow_pos (by decide))
  have hml := Nat.mod_lt m (show 0 < 256 ^ (3 - k % 4) from Nat.pow_pos (by decide))
  have hlt : V / 4294967296 ^ (k / 4) % 4294967296 + d * 256 ^ (k % 4) < 4294967296 := by
    rw [hx]
    have h1 : 256 ^ (k % 4 + 1) * (m % 256 ^ (3 - k % 4) + 1) ≤ 256 ^ (k % 4 + 1) * 256 ^ (3 - k % 4) := Nat.mul_le_mul_left _ hml
    rw [← e6, Nat.mul_add] at h1
    omega
  rw [e3, e2]
  refine ⟨pad_get hk, ?_, hd2, hlt, ?_⟩
  · rw [hx]; exact ⟨_, rfl⟩
  · rw [pad_set (by decide) hk hlt, hB]
    congr 2
    rw [Nat.mul_assoc, ← Nat.pow_add, show k % 4 + 4 * (k / 4) = k by omega, Nat.mul_comm]
theorem byte_at4 {x i : Nat} : x / 4294967296 ^ (i / 4) % 4294967296 / 2 ^ (8 * (i % 4)) % 256 = x / 256 ^ i % 256 := by
  have e4 : (256 : Nat) ^ 4 = 4294967296 := by decide
  have e2 : (256 : Nat) ^ (i % 4) = 2 ^ (8 * (i % 4)) := by rw [show 256 = 2 ^ 8 from rfl, ← Nat.pow_mul]
  have e : 256 ^ i = 4294967296 ^ (i / 4) * 256 ^ (i % 4) := by
    rw [← e4, ← Nat.pow_mul, ← Nat.pow_add, Nat.div_add_mod]
  have hm := Nat.mod_lt i (show 0 < 4 by decide)
  have e3 : 4294967296 = 256 ^ (i % 4) * (256 * 256 ^ (3 - i % 4)) := by
    rw [← e4, Nat.mul_comm 256, ← Nat.pow_succ, ← Nat.pow_add]
    congr 1
    omega
  rw [e, ← Nat.div_div_eq_div_mul, ← e2]
  generalize x / 4294967296 ^ (i / 4) = y
  conv => lhs; rw [e3]
  rw [Nat.mod_mul_right_div_self, Nat.mod_mul_right_mod]
end Num
end

section
namespace GoAbs
open Go Num
theorem wrap32_id {n : Nat} (h : n < 4294967296) : IntKind.u32.wrap ((n : Nat) : Int) = ((n : Nat) : Int) := by rw [wrap32]; omega
theorem wu32 {z : Int} {n : Nat} (h : z = ((n : Nat) : Int)) (hn : n < 4294967296) : IntKind.u32.wrap z = ((n : Nat) : Int) := by rw [h]; exact wrap32_id hn
theorem or32 (x y k : Nat) (hx : x < 4294967296) (hd : 2 ^ k ∣ x) (hy : y < 2 ^ k) (hyy : y < 4294967296) (hs : x + y < 4294967296) : bitA .or .u32 ((x : Nat) : Int) ((y : Nat) : Int) = ((x + y : Nat) : Int) := by
  unfold bitA
  simp only [ofInt_nat]
  have h1 : (BitVec.ofNat IntKind.u32.bits x ||| BitVec.ofNat IntKind.u32.bits y).toNat = x + y := by
    rw [BitVec.toNat_or, BitVec.toNat_ofNat, BitVec.toNat_ofNat]
    have hb : IntKind.u32.bits = 32 := rfl
    rw [hb, Nat.mod_eq_of_lt (a := x) (by exact hx), Nat.mod_eq_of_lt (a := y) (by exact hyy)]
    obtain ⟨z, rfl⟩ := hd
    rw [← Nat.two_pow_add_eq_or_of_lt hy]
  rw [h1]
  exact wrap32_id (by omega)
end GoAbs
end
