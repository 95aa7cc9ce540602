/- Functions of wide, read without frames (printed by tools/lib.py). -/
import Derived.Test.YtdpehfhhbmmhjaaThFn
set_option linter.unusedVariables false
set_option maxRecDepth 100000
set_option maxHeartbeats 2000000
namespace Go.Th.L
open Go Go.Th

def wide_Cmp.F (N : Nat → Nat) : AF := ⟨29, [(.tmp 4)], (.seq (.region [⟨(.some 2), .none, (.box (.tmp 0))⟩, ⟨(.some 3), .none, (.box (.tmp 1))⟩, ⟨(.some 4), .none, (.move (.con (.int .i64 0)))⟩]) (.seq (.block 0 (.seq (.region [⟨(.some 6), .none, (.loadN 2 (.tmp 2))⟩, ⟨(.some 7), .none, (.loadN 2 (.tmp 3))⟩, ⟨(.some 8), .none, (.eq false 6 [1, 1] (.tmp 6) (.tmp 7))⟩, ⟨(.some 5), .none, (.move (.tmp 8))⟩]) (.cond (.tmp 5) (.seq (.region [⟨(.some 4), .none, (.move (.con (.int .i64 0)))⟩]) .ret) (.seq (.region [⟨(.some 10), .none, (.fieldAddr 0 (.tmp 2))⟩, ⟨(.some 11), .none, (.load1 (.tmp 10))⟩, ⟨(.some 12), .none, (.fieldAddr 0 (.tmp 3))⟩, ⟨(.some 13), .none, (.load1 (.tmp 12))⟩, ⟨(.some 14), .none, (.bin .lss (.tmp 11) (.tmp 13))⟩, ⟨(.some 15), .none, (.move (.tmp 14))⟩, ⟨(.some 16), (.some (15, false)), (.fieldAddr 0 (.tmp 2))⟩, ⟨(.some 17), (.some (15, false)), (.load1 (.tmp 16))⟩, ⟨(.some 18), (.some (15, false)), (.fieldAddr 0 (.tmp 3))⟩, ⟨(.some 19), (.some (15, false)), (.load1 (.tmp 18))⟩, ⟨(.some 20), (.some (15, false)), (.bin .eql (.tmp 17) (.tmp 19))⟩, ⟨(.some 21), (.some (15, false)), (.move (.tmp 20))⟩, ⟨(.some 22), (.some (21, true)), (.fieldAddr 1 (.tmp 2))⟩, ⟨(.some 23), (.some (21, true)), (.load1 (.tmp 22))⟩, ⟨(.some 24), (.some (21, true)), (.fieldAddr 1 (.tmp 3))⟩, ⟨(.some 25), (.some (21, true)), (.load1 (.tmp 24))⟩, ⟨(.some 26), (.some (21, true)), (.bin .lss (.tmp 23) (.tmp 25))⟩, ⟨(.some 27), (.some (15, false)), (.pick (.tmp 21) (.tmp 26) (.con (.bool false)))⟩, ⟨(.some 28), .none, (.pick (.tmp 15) (.con (.bool true)) (.tmp 27))⟩, ⟨(.some 9), .none, (.move (.tmp 28))⟩]) (.cond (.tmp 9) (.seq (.region [⟨(.some 4), .none, (.move (.con (.int .i64 (-1))))⟩]) .ret) .skip))))) (.seq (.region [⟨(.some 4), .none, (.move (.con (.int .i64 1)))⟩]) .ret)))⟩
def wide_Cmp.T (N : Nat → Nat) : TC := (.seq (.region [⟨⟨(.some 2), .none, (.box (.tmp 0))⟩, .no, []⟩, ⟨⟨(.some 3), .none, (.box (.tmp 1))⟩, .no, []⟩, ⟨⟨(.some 4), .none, (.move (.con (.int .i64 0)))⟩, .no, []⟩]) (.seq (.block 0 (.seq (.region [⟨⟨(.some 6), .none, (.loadN 2 (.tmp 2))⟩, (.dt (.agg [(.int .u64), (.int .u64)])), []⟩, ⟨⟨(.some 7), .none, (.loadN 2 (.tmp 3))⟩, (.dt (.agg [(.int .u64), (.int .u64)])), []⟩, ⟨⟨(.some 8), .none, (.eq false 6 [1, 1] (.tmp 6) (.tmp 7))⟩, .no, []⟩, ⟨⟨(.some 5), .none, (.move (.tmp 8))⟩, .no, []⟩]) (.cond (.tmp 5) (.seq (.region [⟨⟨(.some 4), .none, (.move (.con (.int .i64 0)))⟩, .no, []⟩]) .ret) (.seq (.region [⟨⟨(.some 10), .none, (.fieldAddr 0 (.tmp 2))⟩, .no, []⟩, ⟨⟨(.some 11), .none, (.load1 (.tmp 10))⟩, (.dt (.one (.int .u64))), []⟩, ⟨⟨(.some 12), .none, (.fieldAddr 0 (.tmp 3))⟩, .no, []⟩, ⟨⟨(.some 13), .none, (.load1 (.tmp 12))⟩, (.dt (.one (.int .u64))), []⟩, ⟨⟨(.some 14), .none, (.bin .lss (.tmp 11) (.tmp 13))⟩, .no, []⟩, ⟨⟨(.some 15), .none, (.move (.tmp 14))⟩, .no, []⟩, ⟨⟨(.some 16), (.some (15, false)), (.fieldAddr 0 (.tmp 2))⟩, .no, []⟩, ⟨⟨(.some 17), (.some (15, false)), (.load1 (.tmp 16))⟩, (.dt (.one (.int .u64))), []⟩, ⟨⟨(.some 18), (.some (15, false)), (.fieldAddr 0 (.tmp 3))⟩, .no, []⟩, ⟨⟨(.some 19), (.some (15, false)), (.load1 (.tmp 18))⟩, (.dt (.one (.int .u64))), []⟩, ⟨⟨(.some 20), (.some (15, false)), (.bin .eql (.tmp 17) (.tmp 19))⟩, .no, []⟩, ⟨⟨(.some 21), (.some (15, false)), (.move (.tmp 20))⟩, .no, []⟩, ⟨⟨(.some 22), (.some (21, true)), (.fieldAddr 1 (.tmp 2))⟩, .no, []⟩, ⟨⟨(.some 23), (.some (21, true)), (.load1 (.tmp 22))⟩, (.dt (.one (.int .u64))), []⟩, ⟨⟨(.some 24), (.some (21, true)), (.fieldAddr 1 (.tmp 3))⟩, .no, []⟩, ⟨⟨(.some 25), (.some (21, true)), (.load1 (.tmp 24))⟩, (.dt (.one (.int .u64))), []⟩, ⟨⟨(.some 26), (.some (21, true)), (.bin .lss (.tmp 23) (.tmp 25))⟩, .no, []⟩, ⟨⟨(.some 27), (.some (15, false)), (.pick (.tmp 21) (.tmp 26) (.con (.bool false)))⟩, .no, []⟩, ⟨⟨(.some 28), .none, (.pick (.tmp 15) (.con (.bool true)) (.tmp 27))⟩, .no, []⟩, ⟨⟨(.some 9), .none, (.move (.tmp 28))⟩, .no, []⟩]) (.cond (.tmp 9) (.seq (.region [⟨⟨(.some 4), .none, (.move (.con (.int .i64 (-1))))⟩, .no, []⟩]) .ret) .skip))))) (.seq (.region [⟨⟨(.some 4), .none, (.move (.con (.int .i64 1)))⟩, .no, []⟩]) .ret)))
theorem wide_Cmp.er (N : Nat → Nat) : (wide_Cmp.T N).erase = (wide_Cmp.F N).body := by kernel_rfl
theorem wide_Cmp.okL (N : Nat → Nat) : (wide_Cmp.T N).okL = true := by kernel_rfl
def wide_Cmp.p (P : Program) (N : Nat → Nat) (x0_a : Int) (x0_b : Int) (x1_a : Int) (x1_b : Int) (S : St) (K : Int → St → Prop) : Prop :=
  newS S (.cells [(V.int .u64 x0_a), (V.int .u64 x0_b)] true) fun (S1 : St) =>
  newS S1 (.cells [(V.int .u64 x1_a), (V.int .u64 x1_b)] true) fun (S2 : St) =>
  ∃ x6_a : Int, ∃ x6_b : Int, loadNV S2 2 (V.ptr S.next 0) = some (V.agg [(V.int .u64 x6_a), (V.int .u64 x6_b)]) ∧
  ∃ x7_a : Int, ∃ x7_b : Int, loadNV S2 2 (V.ptr S1.next 0) = some (V.agg [(V.int .u64 x7_a), (V.int .u64 x7_b)]) ∧
  ∃ x8 : Bool, eqV 6 [1, 1] (V.agg [(V.int .u64 x6_a), (V.int .u64 x6_b)]) (V.agg [(V.int .u64 x7_a), (V.int .u64 x7_b)]) = some x8 ∧
  ifC x8
  (K 0 S2)
  (∃ x11 : Int, loadV S2 (V.ptr S.next 0) = some (V.int .u64 x11) ∧
   ∃ x13 : Int, loadV S2 (V.ptr S1.next 0) = some (V.int .u64 x13) ∧
   ifC (decide (x11 < x13))
   (K (-1) S2)
   (∃ x17 : Int, loadV S2 (V.ptr S.next 0) = some (V.int .u64 x17) ∧
   ∃ x19 : Int, loadV S2 (V.ptr S1.next 0) = some (V.int .u64 x19) ∧
   ifC (decide (x17 = x19))
   (∃ x23 : Int, loadV S2 (V.ptr S.next 1) = some (V.int .u64 x23) ∧
   ∃ x25 : Int, loadV S2 (V.ptr S1.next 1) = some (V.int .u64 x25) ∧
   ifC (decide (x23 < x25))
   (K (-1) S2)
   (K 1 S2))
   (K 1 S2)))
theorem wide_Cmp.eq (P : Program) (N : Nat → Nat) (x0_a : Int) (x0_b : Int) (x1_a : Int) (x1_b : Int) (S : St) (K : Int → St → Prop) : wpT P (envP P) (wide_Cmp.T N) (endT (wide_Cmp.F N).results [(.one (.int .i64))] K) (startT [(V.agg [(V.int .u64 x0_a), (V.int .u64 x0_b)]), (V.agg [(V.int .u64 x1_a), (V.int .u64 x1_b)])] ++ List.replicate ((wide_Cmp.F N).nt - 2) .none) S = wide_Cmp.p P N x0_a x0_b x1_a x1_b S K := by kernel_rfl
abbrev wide_Cmp.Ok (P : Program) (N : Nat → Nat) : Prop := afun P (N Fn.wide_Cmp) = some (wide_Cmp.F N)
theorem wide_Cmp.run {P : Program} {N : Nat → Nat} (hF : wide_Cmp.Ok P N) {x0_a : Int} {x0_b : Int} {x1_a : Int} {x1_b : Int} {S : St} {K : Int → St → Prop} (h : wide_Cmp.p P N x0_a x0_b x1_a x1_b S K) : CallA P (N Fn.wide_Cmp) [(V.agg [(V.int .u64 x0_a), (V.int .u64 x0_b)]), (V.agg [(V.int .u64 x1_a), (V.int .u64 x1_b)])] S (retT [(.one (.int .i64))] K) :=
  CallA.of_TP hF (wide_Cmp.er N) (wide_Cmp.okL N) (Eq.mpr (wide_Cmp.eq P N x0_a x0_b x1_a x1_b S K) h)

end Go.Th.L
