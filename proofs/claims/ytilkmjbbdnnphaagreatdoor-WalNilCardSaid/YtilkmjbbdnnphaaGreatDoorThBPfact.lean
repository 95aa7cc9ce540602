/- What the row of one statement stands on: a store, abstract code, functions of the program and their laws (ThPfact). -/
import Derived.Test.YtilkmjbbdnnphaaGreatDoorThBQ10
import Derived.Lib.AtoiAllCases
import Derived.Lib.ItoaNum

section
/- Plain: specs as texts, parsed and printed. -/
set_option linter.unusedSimpArgs false
set_option linter.unusedVariables false
namespace Go.Th.Pure
open Go Go.Th

abbrev Bs := List UInt8
def isDig (b : UInt8) : Bool := decide (48 ≤ b.toNat ∧ b.toNat ≤ 57)
def nd : Bs → Nat
  | [] => 0
  | b :: r => if isDig b then nd r + 1 else 0
def valA (n : Nat) : Bs → Nat
  | [] => n
  | b :: r => valA (n * 10 + (b.toNat - 48)) r
def valD (s : Bs) : Nat := valA 0 s
theorem dec1 {n : Nat} (h : n < 10) : Lib.decDigits n = [UInt8.ofNat (48 + n)] := by rw [Lib.decDigits, dif_pos h]
theorem dec2 {n : Nat} (h : 10 ≤ n) : Lib.decDigits n = Lib.decDigits (n / 10) ++ [UInt8.ofNat (48 + n % 10)] := by rw [Lib.decDigits, dif_neg (by omega)]
end Go.Th.Pure
end
