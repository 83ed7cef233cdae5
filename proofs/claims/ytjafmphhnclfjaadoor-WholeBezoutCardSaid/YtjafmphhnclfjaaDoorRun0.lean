/- What a run asks of the model's own functions. -/
import Derived.Test.YtjafmphhnclfjaaDoorHand1
import Derived.Test.YtjafmphhnclfjaaDoorAbsIV
set_option linter.all false
namespace Go.Proofs.YtjafmphhnclfjaaDoor
open Go GoAbs Num
set_option maxRecDepth 100000

def S0add (l : List AV) : Option AV :=
  match l with
  | [.int .u64 (.ofNat x), .int .u64 (.ofNat y), .int .u64 (.ofNat c)] => (match Nat.ble c 1 with
    | true => some (.tup [.int .u64 (.ofNat ((x + y + c) % 18446744073709551616)), .int .u64 (.ofNat ((x + y + c) / 18446744073709551616))])
    | false => none)
  | _ => none
def S0sub (l : List AV) : Option AV :=
  match l with
  | [.int .u64 (.ofNat x), .int .u64 (.ofNat y), .int .u64 (.ofNat c)] => (match Nat.ble c 1 with
    | true => some (.tup [.int .u64 (.ofNat ((x + 18446744073709551616 - y - c) % 18446744073709551616)), .int .u64 (.ofNat (match Nat.blt x (y + c) with | true => 1 | false => 0))])
    | false => none)
  | _ => none
def S0 (f : FuncId) (l : List AV) : Option AV :=
  match Nat.beq f 62 with
  | true => S0add l
  | false => (match Nat.beq f 70 with
    | true => S0sub l
    | false => none)
theorem S0_ok : ∀ f l r, S0 f l = some r → Ct E f l [] r [] := by
  intro f l r h
  unfold S0 at h
  split at h
  · rename_i hf
    have hf := Nat.eq_of_beq_eq_true hf
    subst hf
    unfold S0add at h
    split at h
    · rename_i x y c
      split at h
      · rename_i hc
        simp only [Option.some.injEq] at h
        subst h
        exact add64_e (Nat.le_of_ble_eq_true hc)
      · simp at h
    · simp at h
  · split at h
    · rename_i hf
      have hf := Nat.eq_of_beq_eq_true hf
      subst hf
      unfold S0sub at h
      split at h
      · rename_i x y c
        split at h
        · rename_i hc
          simp only [Option.some.injEq] at h
          subst h
          refine (sub64_e (Nat.le_of_ble_eq_true hc)).weak (.of_eq ?_)
          congr 2
          have e : (if x < y + c then 1 else 0) = (match Nat.blt x (y + c) with | true => 1 | false => 0) := by
            cases hb : Nat.blt x (y + c) with
            | true => rw [if_pos (by simpa [Nat.blt_eq] using hb)]
            | false => rw [if_neg (by intro hc; rw [← Nat.blt_eq] at hc; rw [hc] at hb; simp at hb)]
          rw [e]
          rfl
        · simp at h
      · simp at h
    · simp at h
end Go.Proofs.YtjafmphhnclfjaaDoor
