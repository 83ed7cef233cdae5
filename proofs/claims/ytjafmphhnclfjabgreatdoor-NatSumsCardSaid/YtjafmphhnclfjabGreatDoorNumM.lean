/- Limbs of 32 bits in words of 64: plain numbers. -/
import Derived.Test.YtjafmphhnclfjabGreatDoorNumI
set_option linter.all false
set_option linter.all false
namespace Num
open Go GoAbs

theorem val_take_getD (B : Nat) (l : List Nat) (i : Nat) : val B (l.take (i + 1)) = val B (l.take i) + B ^ i * l.getD i 0 := by
  rcases Nat.lt_or_ge i l.length with h | h
  · have : l[i]? = some (l.getD i 0) := by rw [List.getD_eq_getElem?_getD, List.getElem?_eq_getElem h]; rfl
    exact val_take_succ this
  · rw [List.take_of_length_le (by omega), List.take_of_length_le h, List.getD_eq_getElem?_getD, List.getElem?_eq_none h]
    simp
theorem Small.getD {B : Nat} {l : List Nat} (h : Small B l) (hB : 0 < B) (i : Nat) : l.getD i 0 < B := by
  rcases Nat.lt_or_ge i l.length with h1 | h1
  · exact h.get (i := i) (by rw [List.getD_eq_getElem?_getD, List.getElem?_eq_getElem h1]; rfl)
  · rw [List.getD_eq_getElem?_getD, List.getElem?_eq_none h1]; exact hB
theorem getD_some {l : List Nat} {i d : Nat} (h : l[i]? = some d) : l.getD i 0 = d := by rw [List.getD_eq_getElem?_getD, h]; rfl
theorem low32 {x : Nat} {z : Int} (h : z = ((x : Nat) : Int)) : IntKind.u32.wrap z = ((x % 4294967296 : Nat) : Int) := by rw [h, wrap32]; omega
theorem hi32 {x : Nat} {z : Int} (h : z = ((x : Nat) : Int)) : z.fdiv (2 ^ min (Int.toNat 32) IntKind.u64.bits) = ((x / 4294967296 : Nat) : Int) := by
  rw [h]
  exact (Int.ofNat_fdiv x (2 ^ 32)).symm
theorem hi63 {x : Nat} {z : Int} (h : z = ((x : Nat) : Int)) : z.fdiv (2 ^ min (Int.toNat 63) IntKind.u64.bits) = ((x / 9223372036854775808 : Nat) : Int) := by
  rw [h]
  exact (Int.ofNat_fdiv x (2 ^ 63)).symm
theorem sub32 {a b c : Nat} (ha : a < 4294967296) (hb : b < 4294967296) (hc : c ≤ 1) :
    IntKind.u64.wrap (IntKind.u64.wrap (((a : Nat) : Int) - ((b : Nat) : Int)) - ((c : Nat) : Int)) = (((a + 18446744073709551616 - b - c) % 18446744073709551616 : Nat) : Int) := by
  rw [wrapU, wrapU]; omega
theorem sub32_lo {a b c : Nat} (ha : a < 4294967296) (hb : b < 4294967296) (hc : c ≤ 1) :
    (a + 18446744073709551616 - b - c) % 18446744073709551616 % 4294967296 = (a + 4294967296 - b - c) % 4294967296 ∧
    (a + 18446744073709551616 - b - c) % 18446744073709551616 / 9223372036854775808 = (if a < b + c then 1 else 0) ∧
    (a + 4294967296 - b - c) % 4294967296 + b + c = a + 4294967296 * (if a < b + c then 1 else 0) := by
  split <;> omega
theorem mul32 {o a b c : Nat} (ho : o < 4294967296) (ha : a < 4294967296) (hb : b < 4294967296) (hc : c < 4294967296) :
    c + o + a * b < 18446744073709551616 ∧ (c + o + a * b) / 4294967296 < 4294967296 := by
  have := Nat.mul_le_mul (show a ≤ 4294967295 by omega) (show b ≤ 4294967295 by omega)
  omega
end Num
