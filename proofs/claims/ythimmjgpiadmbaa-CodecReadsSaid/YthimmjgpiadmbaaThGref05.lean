/- Functions of ref05, read without frames (printed by tools/lib.py). -/
import Derived.Test.YthimmjgpiadmbaaThFn
set_option linter.unusedVariables false
set_option maxRecDepth 100000
namespace Go.Th.L
open Go Go.Th

def ref05_Check.F (N : Nat → Nat) : AF := ⟨14, [(.tmp 4)], (.seq (.region [⟨(.some 4), .none, (.move (.con (.int .i64 0)))⟩]) (.seq (.seq (.region [⟨(.some 5), .none, (.move (.tmp 1))⟩, ⟨(.some 6), .none, (.bin .lss (.tmp 5) (.con (.int .i64 1)))⟩, ⟨(.some 7), .none, (.move (.tmp 6))⟩, ⟨(.some 8), (.some (7, false)), (.move (.tmp 1))⟩, ⟨(.some 9), (.some (7, false)), (.bin .gtr (.tmp 8) (.con (.int .i64 64)))⟩, ⟨(.some 10), .none, (.pick (.tmp 7) (.con (.bool true)) (.tmp 9))⟩]) (.cond (.tmp 10) (.seq (.region [⟨(.some 4), .none, (.move (.con (.int .i64 30)))⟩]) .ret) .skip)) (.seq (.region [⟨(.some 11), .none, (.move (.tmp 0))⟩, ⟨(.some 12), .none, (.move (.tmp 1))⟩, ⟨(.some 13), .none, (.callF (N Fn.ref03_Rows) [(.tmp 11), (.tmp 12)])⟩, ⟨(.some 4), .none, (.move (.tmp 13))⟩]) .ret)))⟩
def ref05_Check.T (N : Nat → Nat) : TC := (.seq (.region [⟨⟨(.some 4), .none, (.move (.con (.int .i64 0)))⟩, .no, []⟩]) (.seq (.seq (.region [⟨⟨(.some 5), .none, (.move (.tmp 1))⟩, .no, []⟩, ⟨⟨(.some 6), .none, (.bin .lss (.tmp 5) (.con (.int .i64 1)))⟩, .no, []⟩, ⟨⟨(.some 7), .none, (.move (.tmp 6))⟩, .no, []⟩, ⟨⟨(.some 8), (.some (7, false)), (.move (.tmp 1))⟩, .no, []⟩, ⟨⟨(.some 9), (.some (7, false)), (.bin .gtr (.tmp 8) (.con (.int .i64 64)))⟩, .no, []⟩, ⟨⟨(.some 10), .none, (.pick (.tmp 7) (.con (.bool true)) (.tmp 9))⟩, .no, []⟩]) (.cond (.tmp 10) (.seq (.region [⟨⟨(.some 4), .none, (.move (.con (.int .i64 30)))⟩, .no, []⟩]) .ret) .skip)) (.seq (.region [⟨⟨(.some 11), .none, (.move (.tmp 0))⟩, .no, []⟩, ⟨⟨(.some 12), .none, (.move (.tmp 1))⟩, .no, []⟩, ⟨⟨(.some 13), .none, (.callF (N Fn.ref03_Rows) [(.tmp 11), (.tmp 12)])⟩, .no, [(.one (.int .i64))]⟩, ⟨⟨(.some 4), .none, (.move (.tmp 13))⟩, .no, []⟩]) .ret)))
theorem ref05_Check.er (N : Nat → Nat) : (ref05_Check.T N).erase = (ref05_Check.F N).body := by kernel_rfl
theorem ref05_Check.okL (N : Nat → Nat) : (ref05_Check.T N).okL = true := by kernel_rfl
def ref05_Check.p (P : Program) (N : Nat → Nat) (x0 : V) (x1 : Int) (S : St) (K : Int → St → Prop) : Prop :=
  ifC (decide (x1 < (1 : Int)))
  (K 30 S)
  (ifC (decide ((64 : Int) < x1))
  (K 30 S)
  (CallA P (N Fn.ref03_Rows) [x0, (V.int .i64 x1)] S (retT [(.one (.int .i64))] fun (x13 : Int) (S1 : St) =>
   K x13 S1)))
theorem ref05_Check.eq (P : Program) (N : Nat → Nat) (x0 : V) (x1 : Int) (S : St) (K : Int → St → Prop) : wpT P (canEnter P) (ref05_Check.T N) (endT (ref05_Check.F N).results [(.one (.int .i64))] K) (startT [x0, (V.int .i64 x1)] ++ List.replicate ((ref05_Check.F N).nt - 2) .none) S = ref05_Check.p P N x0 x1 S K := by kernel_rfl
abbrev ref05_Check.Ok (P : Program) (N : Nat → Nat) : Prop := afun P (N Fn.ref05_Check) = some (ref05_Check.F N)
theorem ref05_Check.run {P : Program} {N : Nat → Nat} (hF : ref05_Check.Ok P N) {x0 : V} {x1 : Int} {S : St} {K : Int → St → Prop} (h : ref05_Check.p P N x0 x1 S K) : CallA P (N Fn.ref05_Check) [x0, (V.int .i64 x1)] S (retT [(.one (.int .i64))] K) :=
  CallA.of_TP hF (ref05_Check.er N) (ref05_Check.okL N) (Eq.mpr (ref05_Check.eq P N x0 x1 S K) h)

end Go.Th.L
