/- Functions of ref03, read without frames (printed by tools/lib.py). -/
import Derived.Test.YthimmjgpiadmbaaThFn
set_option linter.unusedVariables false
set_option maxRecDepth 100000
namespace Go.Th.L
open Go Go.Th

def ref03_Id.F (N : Nat → Nat) : AF := ⟨9, [(.tmp 2)], (.seq (.region [⟨(.some 2), .none, (.move (.con (.bool false)))⟩]) (.seq (.region [⟨(.some 3), .none, (.move (.tmp 0))⟩, ⟨(.some 4), .none, (.bin .geq (.tmp 3) (.con (.int .i64 1)))⟩, ⟨(.some 5), .none, (.move (.tmp 4))⟩, ⟨(.some 6), (.some (5, true)), (.move (.tmp 0))⟩, ⟨(.some 7), (.some (5, true)), (.bin .leq (.tmp 6) (.con (.int .i64 1000000000)))⟩, ⟨(.some 8), .none, (.pick (.tmp 5) (.tmp 7) (.con (.bool false)))⟩, ⟨(.some 2), .none, (.move (.tmp 8))⟩]) .ret))⟩
def ref03_Id.T (N : Nat → Nat) : TC := (.seq (.region [⟨⟨(.some 2), .none, (.move (.con (.bool false)))⟩, .no, []⟩]) (.seq (.region [⟨⟨(.some 3), .none, (.move (.tmp 0))⟩, .no, []⟩, ⟨⟨(.some 4), .none, (.bin .geq (.tmp 3) (.con (.int .i64 1)))⟩, .no, []⟩, ⟨⟨(.some 5), .none, (.move (.tmp 4))⟩, .no, []⟩, ⟨⟨(.some 6), (.some (5, true)), (.move (.tmp 0))⟩, .no, []⟩, ⟨⟨(.some 7), (.some (5, true)), (.bin .leq (.tmp 6) (.con (.int .i64 1000000000)))⟩, .no, []⟩, ⟨⟨(.some 8), .none, (.pick (.tmp 5) (.tmp 7) (.con (.bool false)))⟩, .no, []⟩, ⟨⟨(.some 2), .none, (.move (.tmp 8))⟩, .no, []⟩]) .ret))
theorem ref03_Id.er (N : Nat → Nat) : (ref03_Id.T N).erase = (ref03_Id.F N).body := by kernel_rfl
theorem ref03_Id.okL (N : Nat → Nat) : (ref03_Id.T N).okL = true := by kernel_rfl
def ref03_Id.p (P : Program) (N : Nat → Nat) (x0 : Int) (S : St) (K : Bool → St → Prop) : Prop :=
  ifC (decide ((1 : Int) ≤ x0))
  (K (decide (x0 ≤ (1000000000 : Int))) S)
  (K false S)
theorem ref03_Id.eq (P : Program) (N : Nat → Nat) (x0 : Int) (S : St) (K : Bool → St → Prop) : wpT P (canEnter P) (ref03_Id.T N) (endT (ref03_Id.F N).results [(.one .bool)] K) (startT [(V.int .i64 x0)] ++ List.replicate ((ref03_Id.F N).nt - 1) .none) S = ref03_Id.p P N x0 S K := by kernel_rfl
abbrev ref03_Id.Ok (P : Program) (N : Nat → Nat) : Prop := afun P (N Fn.ref03_Id) = some (ref03_Id.F N)
theorem ref03_Id.run {P : Program} {N : Nat → Nat} (hF : ref03_Id.Ok P N) {x0 : Int} {S : St} {K : Bool → St → Prop} (h : ref03_Id.p P N x0 S K) : CallA P (N Fn.ref03_Id) [(V.int .i64 x0)] S (retT [(.one .bool)] K) :=
  CallA.of_TP hF (ref03_Id.er N) (ref03_Id.okL N) (Eq.mpr (ref03_Id.eq P N x0 S K) h)

def ref03_Check.F (N : Nat → Nat) : AF := ⟨36, [(.tmp 4)], (.seq (.region [⟨(.some 4), .none, (.move (.con (.int .i64 0)))⟩]) (.seq (.seq (.region [⟨(.some 6), .none, (.move (.tmp 1))⟩, ⟨(.some 7), .none, (.bin .lss (.tmp 6) (.con (.int .i64 1)))⟩, ⟨(.some 8), .none, (.move (.tmp 7))⟩, ⟨(.some 9), (.some (8, false)), (.move (.tmp 1))⟩, ⟨(.some 10), (.some (8, false)), (.bin .gtr (.tmp 9) (.con (.int .i64 64)))⟩, ⟨(.some 11), .none, (.pick (.tmp 8) (.con (.bool true)) (.tmp 10))⟩, ⟨(.some 12), .none, (.move (.tmp 11))⟩, ⟨(.some 13), (.some (12, false)), (.move (.tmp 0))⟩, ⟨(.some 14), (.some (12, false)), (.len 2 (.tmp 13))⟩, ⟨(.some 15), (.some (12, false)), (.move (.tmp 1))⟩, ⟨(.some 16), (.some (12, false)), (.bin .neq (.tmp 14) (.tmp 15))⟩, ⟨(.some 17), .none, (.pick (.tmp 12) (.con (.bool true)) (.tmp 16))⟩]) (.cond (.tmp 17) (.seq (.region [⟨(.some 4), .none, (.move (.con (.int .i64 30)))⟩]) .ret) .skip)) (.seq (.seq (.region [⟨(.some 5), .none, (.move (.con (.int .i64 0)))⟩]) (.block 0 (.loop (.seq (.seq (.region [⟨(.some 18), .none, (.move (.tmp 5))⟩, ⟨(.some 19), .none, (.move (.tmp 0))⟩, ⟨(.some 20), .none, (.len 2 (.tmp 19))⟩, ⟨(.some 21), .none, (.bin .lss (.tmp 18) (.tmp 20))⟩]) (.cond (.tmp 21) .skip (.exit 0))) (.seq (.block 1 (.seq (.region [⟨(.some 24), .none, (.move (.tmp 0))⟩, ⟨(.some 25), .none, (.move (.tmp 5))⟩, ⟨(.some 26), .none, (.idxAddr 1 (.tmp 24) (.tmp 25))⟩, ⟨(.some 27), .none, (.load1 (.tmp 26))⟩, ⟨(.some 28), .none, (.bin .lss (.tmp 27) (.con (.int .i64 (-2147483647))))⟩, ⟨(.some 29), .none, (.move (.tmp 28))⟩, ⟨(.some 30), (.some (29, false)), (.move (.tmp 0))⟩, ⟨(.some 31), (.some (29, false)), (.move (.tmp 5))⟩, ⟨(.some 32), (.some (29, false)), (.idxAddr 1 (.tmp 30) (.tmp 31))⟩, ⟨(.some 33), (.some (29, false)), (.load1 (.tmp 32))⟩, ⟨(.some 34), (.some (29, false)), (.bin .gtr (.tmp 33) (.con (.int .i64 2147483647)))⟩, ⟨(.some 35), .none, (.pick (.tmp 29) (.con (.bool true)) (.tmp 34))⟩]) (.cond (.tmp 35) (.seq (.region [⟨(.some 4), .none, (.move (.con (.int .i64 31)))⟩]) .ret) .skip))) (.region [⟨(.some 22), .none, (.move (.tmp 5))⟩, ⟨(.some 23), .none, (.bin .add (.tmp 22) (.con (.int .i64 1)))⟩, ⟨(.some 5), .none, (.move (.tmp 23))⟩])))))) (.seq (.region [⟨(.some 4), .none, (.move (.con (.int .i64 0)))⟩]) .ret))))⟩
def ref03_Check.T (N : Nat → Nat) : TC := (.seq (.region [⟨⟨(.some 4), .none, (.move (.con (.int .i64 0)))⟩, .no, []⟩]) (.join [] (.seq (.region [⟨⟨(.some 6), .none, (.move (.tmp 1))⟩, .no, []⟩, ⟨⟨(.some 7), .none, (.bin .lss (.tmp 6) (.con (.int .i64 1)))⟩, .no, []⟩, ⟨⟨(.some 8), .none, (.move (.tmp 7))⟩, .no, []⟩, ⟨⟨(.some 9), (.some (8, false)), (.move (.tmp 1))⟩, .no, []⟩, ⟨⟨(.some 10), (.some (8, false)), (.bin .gtr (.tmp 9) (.con (.int .i64 64)))⟩, .no, []⟩, ⟨⟨(.some 11), .none, (.pick (.tmp 8) (.con (.bool true)) (.tmp 10))⟩, .no, []⟩, ⟨⟨(.some 12), .none, (.move (.tmp 11))⟩, .no, []⟩, ⟨⟨(.some 13), (.some (12, false)), (.move (.tmp 0))⟩, .no, []⟩, ⟨⟨(.some 14), (.some (12, false)), (.len 2 (.tmp 13))⟩, (.dt (.one (.int .i64))), []⟩, ⟨⟨(.some 15), (.some (12, false)), (.move (.tmp 1))⟩, .no, []⟩, ⟨⟨(.some 16), (.some (12, false)), (.bin .neq (.tmp 14) (.tmp 15))⟩, .no, []⟩, ⟨⟨(.some 17), .none, (.pick (.tmp 12) (.con (.bool true)) (.tmp 16))⟩, .no, []⟩]) (.cond (.tmp 17) (.seq (.region [⟨⟨(.some 4), .none, (.move (.con (.int .i64 30)))⟩, .no, []⟩]) .ret) .skip)) (.seq (.seq (.region [⟨⟨(.some 5), .none, (.move (.con (.int .i64 0)))⟩, .no, []⟩]) (.block 0 (.loop [(5, (.one (.int .i64)))] (.seq (.seq (.region [⟨⟨(.some 18), .none, (.move (.tmp 5))⟩, .no, []⟩, ⟨⟨(.some 19), .none, (.move (.tmp 0))⟩, .no, []⟩, ⟨⟨(.some 20), .none, (.len 2 (.tmp 19))⟩, (.dt (.one (.int .i64))), []⟩, ⟨⟨(.some 21), .none, (.bin .lss (.tmp 18) (.tmp 20))⟩, .no, []⟩]) (.cond (.tmp 21) .skip (.exit 0))) (.seq (.block 1 (.seq (.region [⟨⟨(.some 24), .none, (.move (.tmp 0))⟩, .no, []⟩, ⟨⟨(.some 25), .none, (.move (.tmp 5))⟩, .no, []⟩, ⟨⟨(.some 26), .none, (.idxAddr 1 (.tmp 24) (.tmp 25))⟩, .no, []⟩, ⟨⟨(.some 27), .none, (.load1 (.tmp 26))⟩, (.dt (.one (.int .i64))), []⟩, ⟨⟨(.some 28), .none, (.bin .lss (.tmp 27) (.con (.int .i64 (-2147483647))))⟩, .no, []⟩, ⟨⟨(.some 29), .none, (.move (.tmp 28))⟩, .no, []⟩, ⟨⟨(.some 30), (.some (29, false)), (.move (.tmp 0))⟩, .no, []⟩, ⟨⟨(.some 31), (.some (29, false)), (.move (.tmp 5))⟩, .no, []⟩, ⟨⟨(.some 32), (.some (29, false)), (.idxAddr 1 (.tmp 30) (.tmp 31))⟩, .no, []⟩, ⟨⟨(.some 33), (.some (29, false)), (.load1 (.tmp 32))⟩, (.dt (.one (.int .i64))), []⟩, ⟨⟨(.some 34), (.some (29, false)), (.bin .gtr (.tmp 33) (.con (.int .i64 2147483647)))⟩, .no, []⟩, ⟨⟨(.some 35), .none, (.pick (.tmp 29) (.con (.bool true)) (.tmp 34))⟩, .no, []⟩]) (.cond (.tmp 35) (.seq (.region [⟨⟨(.some 4), .none, (.move (.con (.int .i64 31)))⟩, .no, []⟩]) .ret) .skip))) (.region [⟨⟨(.some 22), .none, (.move (.tmp 5))⟩, .no, []⟩, ⟨⟨(.some 23), .none, (.bin .add (.tmp 22) (.con (.int .i64 1)))⟩, .no, []⟩, ⟨⟨(.some 5), .none, (.move (.tmp 23))⟩, .no, []⟩])))))) (.seq (.region [⟨⟨(.some 4), .none, (.move (.con (.int .i64 0)))⟩, .no, []⟩]) .ret))))
theorem ref03_Check.er (N : Nat → Nat) : (ref03_Check.T N).erase = (ref03_Check.F N).body := by kernel_rfl
theorem ref03_Check.okL (N : Nat → Nat) : (ref03_Check.T N).okL = true := by kernel_rfl
def ref03_Check.p (P : Program) (N : Nat → Nat) (x0 : V) (x1 : Int) (S : St) (K : Int → St → Prop) : Prop :=
  Join0 (fun (k1 : St → Prop) =>
   ifC (decide (x1 < (1 : Int)))
   (K 30 S)
   (ifC (decide ((64 : Int) < x1))
   (K 30 S)
   (∃ x14 : Int, lenV S 2 x0 = some (V.int .i64 x14) ∧
   ifC (!decide (x14 = x1))
   (K 30 S)
   (k1  S))))
  (fun (S1 : St) =>
   Loop1 (fun (k2 : Int → St → Prop) (x5 : Int) (S2 : St) =>
    ∃ x20 : Int, lenV S2 2 x0 = some (V.int .i64 x20) ∧
    ifC (decide (x5 < x20))
    (ifS (idxAddrV 1 x0 (V.int .i64 x5)) fun (x26 : V) =>
     ∃ x27 : Int, loadV S2 x26 = some (V.int .i64 x27) ∧
     ifC (decide (x27 < (-2147483647 : Int)))
     (K 31 S2)
     (ifS (idxAddrV 1 x0 (V.int .i64 x5)) fun (x32 : V) =>
     ∃ x33 : Int, loadV S2 x32 = some (V.int .i64 x33) ∧
     ifC (decide ((2147483647 : Int) < x33))
     (K 31 S2)
     (setI (IntKind.i64.wrap (x5 + (1 : Int))) fun (x23 : Int) =>
      k2 x23 S2)))
    (K 0 S2))
   0 S1)
theorem ref03_Check.eq (P : Program) (N : Nat → Nat) (x0 : V) (x1 : Int) (S : St) (K : Int → St → Prop) : wpT P (canEnter P) (ref03_Check.T N) (endT (ref03_Check.F N).results [(.one (.int .i64))] K) (startT [x0, (V.int .i64 x1)] ++ List.replicate ((ref03_Check.F N).nt - 2) .none) S = ref03_Check.p P N x0 x1 S K := by kernel_rfl
abbrev ref03_Check.Ok (P : Program) (N : Nat → Nat) : Prop := afun P (N Fn.ref03_Check) = some (ref03_Check.F N)
theorem ref03_Check.run {P : Program} {N : Nat → Nat} (hF : ref03_Check.Ok P N) {x0 : V} {x1 : Int} {S : St} {K : Int → St → Prop} (h : ref03_Check.p P N x0 x1 S K) : CallA P (N Fn.ref03_Check) [x0, (V.int .i64 x1)] S (retT [(.one (.int .i64))] K) :=
  CallA.of_TP hF (ref03_Check.er N) (ref03_Check.okL N) (Eq.mpr (ref03_Check.eq P N x0 x1 S K) h)

def ref03_Rows.F (N : Nat → Nat) : AF := ⟨50, [(.tmp 4)], (.seq (.region [⟨(.some 4), .none, (.move (.con (.int .i64 0)))⟩]) (.seq (.seq (.region [⟨(.some 8), .none, (.move (.tmp 0))⟩, ⟨(.some 9), .none, (.len 2 (.tmp 8))⟩, ⟨(.some 10), .none, (.bin .gtr (.tmp 9) (.con (.int .i64 512)))⟩]) (.cond (.tmp 10) (.seq (.region [⟨(.some 4), .none, (.move (.con (.int .i64 2)))⟩]) .ret) .skip)) (.seq (.seq (.region [⟨(.some 5), .none, (.move (.con (.int .i64 0)))⟩]) (.block 0 (.loop (.seq (.seq (.region [⟨(.some 11), .none, (.move (.tmp 5))⟩, ⟨(.some 12), .none, (.move (.tmp 0))⟩, ⟨(.some 13), .none, (.len 2 (.tmp 12))⟩, ⟨(.some 14), .none, (.bin .lss (.tmp 11) (.tmp 13))⟩]) (.cond (.tmp 14) .skip (.exit 0))) (.seq (.block 1 (.seq (.seq (.region [⟨(.some 17), .none, (.move (.tmp 0))⟩, ⟨(.some 18), .none, (.move (.tmp 5))⟩, ⟨(.some 19), .none, (.idxAddr 2 (.tmp 17) (.tmp 18))⟩, ⟨(.some 20), .none, (.fieldAddr 0 (.tmp 19))⟩, ⟨(.some 21), .none, (.load1 (.tmp 20))⟩, ⟨(.some 22), .none, (.callF (N Fn.ref03_Id) [(.tmp 21)])⟩, ⟨(.some 23), .none, (.un .not (.tmp 22))⟩]) (.cond (.tmp 23) (.seq (.region [⟨(.some 4), .none, (.move (.con (.int .i64 50)))⟩]) .ret) .skip)) (.seq (.seq (.region [⟨(.some 6), .none, (.move (.con (.int .i64 0)))⟩]) (.block 2 (.loop (.seq (.seq (.region [⟨(.some 24), .none, (.move (.tmp 6))⟩, ⟨(.some 25), .none, (.move (.tmp 5))⟩, ⟨(.some 26), .none, (.bin .lss (.tmp 24) (.tmp 25))⟩]) (.cond (.tmp 26) .skip (.exit 2))) (.seq (.block 3 (.seq (.draw [⟨(.some 29), .none, (.move (.tmp 0))⟩, ⟨(.some 30), .none, (.move (.tmp 6))⟩, ⟨(.some 31), .none, (.idxAddr 2 (.tmp 29) (.tmp 30))⟩, ⟨(.some 32), .none, (.fieldAddr 0 (.tmp 31))⟩, ⟨(.some 33), .none, (.load1 (.tmp 32))⟩, ⟨(.some 34), .none, (.move (.tmp 0))⟩, ⟨(.some 35), .none, (.move (.tmp 5))⟩, ⟨(.some 36), .none, (.idxAddr 2 (.tmp 34) (.tmp 35))⟩, ⟨(.some 37), .none, (.fieldAddr 0 (.tmp 36))⟩, ⟨(.some 38), .none, (.load1 (.tmp 37))⟩, ⟨(.some 39), .none, (.bin .eql (.tmp 33) (.tmp 38))⟩]) (.cond (.tmp 39) (.seq (.region [⟨(.some 4), .none, (.move (.con (.int .i64 50)))⟩]) .ret) .skip))) (.region [⟨(.some 27), .none, (.move (.tmp 6))⟩, ⟨(.some 28), .none, (.bin .add (.tmp 27) (.con (.int .i64 1)))⟩, ⟨(.some 6), .none, (.move (.tmp 28))⟩])))))) (.seq (.region [⟨(.some 40), .none, (.move (.tmp 0))⟩, ⟨(.some 41), .none, (.move (.tmp 5))⟩, ⟨(.some 42), .none, (.idxAddr 2 (.tmp 40) (.tmp 41))⟩, ⟨(.some 43), .none, (.fieldAddr 1 (.tmp 42))⟩, ⟨(.some 44), .none, (.load1 (.tmp 43))⟩, ⟨(.some 45), .none, (.move (.tmp 1))⟩, ⟨(.some 46), .none, (.callF (N Fn.ref03_Check) [(.tmp 44), (.tmp 45)])⟩, ⟨(.some 7), .none, (.move (.tmp 46))⟩]) (.seq (.region [⟨(.some 47), .none, (.move (.tmp 7))⟩, ⟨(.some 48), .none, (.bin .neq (.tmp 47) (.con (.int .i64 0)))⟩]) (.cond (.tmp 48) (.seq (.region [⟨(.some 49), .none, (.move (.tmp 7))⟩, ⟨(.some 4), .none, (.move (.tmp 49))⟩]) .ret) .skip)))))) (.region [⟨(.some 15), .none, (.move (.tmp 5))⟩, ⟨(.some 16), .none, (.bin .add (.tmp 15) (.con (.int .i64 1)))⟩, ⟨(.some 5), .none, (.move (.tmp 16))⟩])))))) (.seq (.region [⟨(.some 4), .none, (.move (.con (.int .i64 0)))⟩]) .ret))))⟩
def ref03_Rows.T (N : Nat → Nat) : TC := (.seq (.region [⟨⟨(.some 4), .none, (.move (.con (.int .i64 0)))⟩, .no, []⟩]) (.seq (.seq (.region [⟨⟨(.some 8), .none, (.move (.tmp 0))⟩, .no, []⟩, ⟨⟨(.some 9), .none, (.len 2 (.tmp 8))⟩, (.dt (.one (.int .i64))), []⟩, ⟨⟨(.some 10), .none, (.bin .gtr (.tmp 9) (.con (.int .i64 512)))⟩, .no, []⟩]) (.cond (.tmp 10) (.seq (.region [⟨⟨(.some 4), .none, (.move (.con (.int .i64 2)))⟩, .no, []⟩]) .ret) .skip)) (.seq (.seq (.region [⟨⟨(.some 5), .none, (.move (.con (.int .i64 0)))⟩, .no, []⟩]) (.block 0 (.loop [(5, (.one (.int .i64)))] (.seq (.seq (.region [⟨⟨(.some 11), .none, (.move (.tmp 5))⟩, .no, []⟩, ⟨⟨(.some 12), .none, (.move (.tmp 0))⟩, .no, []⟩, ⟨⟨(.some 13), .none, (.len 2 (.tmp 12))⟩, (.dt (.one (.int .i64))), []⟩, ⟨⟨(.some 14), .none, (.bin .lss (.tmp 11) (.tmp 13))⟩, .no, []⟩]) (.cond (.tmp 14) .skip (.exit 0))) (.seq (.block 1 (.seq (.seq (.region [⟨⟨(.some 17), .none, (.move (.tmp 0))⟩, .no, []⟩, ⟨⟨(.some 18), .none, (.move (.tmp 5))⟩, .no, []⟩, ⟨⟨(.some 19), .none, (.idxAddr 2 (.tmp 17) (.tmp 18))⟩, .no, []⟩, ⟨⟨(.some 20), .none, (.fieldAddr 0 (.tmp 19))⟩, .no, []⟩, ⟨⟨(.some 21), .none, (.load1 (.tmp 20))⟩, (.dt (.one (.int .i64))), []⟩, ⟨⟨(.some 22), .none, (.callF (N Fn.ref03_Id) [(.tmp 21)])⟩, .no, [(.one .bool)]⟩, ⟨⟨(.some 23), .none, (.un .not (.tmp 22))⟩, .no, []⟩]) (.cond (.tmp 23) (.seq (.region [⟨⟨(.some 4), .none, (.move (.con (.int .i64 50)))⟩, .no, []⟩]) .ret) .skip)) (.seq (.seq (.region [⟨⟨(.some 6), .none, (.move (.con (.int .i64 0)))⟩, .no, []⟩]) (.block 2 (.loop [(6, (.one (.int .i64)))] (.seq (.seq (.region [⟨⟨(.some 24), .none, (.move (.tmp 6))⟩, .no, []⟩, ⟨⟨(.some 25), .none, (.move (.tmp 5))⟩, .no, []⟩, ⟨⟨(.some 26), .none, (.bin .lss (.tmp 24) (.tmp 25))⟩, .no, []⟩]) (.cond (.tmp 26) .skip (.exit 2))) (.seq (.block 3 (.seq (.draw [⟨⟨(.some 29), .none, (.move (.tmp 0))⟩, .no, []⟩, ⟨⟨(.some 30), .none, (.move (.tmp 6))⟩, .no, []⟩, ⟨⟨(.some 31), .none, (.idxAddr 2 (.tmp 29) (.tmp 30))⟩, .no, []⟩, ⟨⟨(.some 32), .none, (.fieldAddr 0 (.tmp 31))⟩, .no, []⟩, ⟨⟨(.some 33), .none, (.load1 (.tmp 32))⟩, (.dt (.one (.int .i64))), []⟩, ⟨⟨(.some 34), .none, (.move (.tmp 0))⟩, .no, []⟩, ⟨⟨(.some 35), .none, (.move (.tmp 5))⟩, .no, []⟩, ⟨⟨(.some 36), .none, (.idxAddr 2 (.tmp 34) (.tmp 35))⟩, .no, []⟩, ⟨⟨(.some 37), .none, (.fieldAddr 0 (.tmp 36))⟩, .no, []⟩, ⟨⟨(.some 38), .none, (.load1 (.tmp 37))⟩, (.dt (.one (.int .i64))), []⟩, ⟨⟨(.some 39), .none, (.bin .eql (.tmp 33) (.tmp 38))⟩, .no, []⟩]) (.cond (.tmp 39) (.seq (.region [⟨⟨(.some 4), .none, (.move (.con (.int .i64 50)))⟩, .no, []⟩]) .ret) .skip))) (.region [⟨⟨(.some 27), .none, (.move (.tmp 6))⟩, .no, []⟩, ⟨⟨(.some 28), .none, (.bin .add (.tmp 27) (.con (.int .i64 1)))⟩, .no, []⟩, ⟨⟨(.some 6), .none, (.move (.tmp 28))⟩, .no, []⟩])))))) (.seq (.region [⟨⟨(.some 40), .none, (.move (.tmp 0))⟩, .no, []⟩, ⟨⟨(.some 41), .none, (.move (.tmp 5))⟩, .no, []⟩, ⟨⟨(.some 42), .none, (.idxAddr 2 (.tmp 40) (.tmp 41))⟩, .no, []⟩, ⟨⟨(.some 43), .none, (.fieldAddr 1 (.tmp 42))⟩, .no, []⟩, ⟨⟨(.some 44), .none, (.load1 (.tmp 43))⟩, .no, []⟩, ⟨⟨(.some 45), .none, (.move (.tmp 1))⟩, .no, []⟩, ⟨⟨(.some 46), .none, (.callF (N Fn.ref03_Check) [(.tmp 44), (.tmp 45)])⟩, .no, [(.one (.int .i64))]⟩, ⟨⟨(.some 7), .none, (.move (.tmp 46))⟩, .no, []⟩]) (.seq (.region [⟨⟨(.some 47), .none, (.move (.tmp 7))⟩, .no, []⟩, ⟨⟨(.some 48), .none, (.bin .neq (.tmp 47) (.con (.int .i64 0)))⟩, .no, []⟩]) (.cond (.tmp 48) (.seq (.region [⟨⟨(.some 49), .none, (.move (.tmp 7))⟩, .no, []⟩, ⟨⟨(.some 4), .none, (.move (.tmp 49))⟩, .no, []⟩]) .ret) .skip)))))) (.region [⟨⟨(.some 15), .none, (.move (.tmp 5))⟩, .no, []⟩, ⟨⟨(.some 16), .none, (.bin .add (.tmp 15) (.con (.int .i64 1)))⟩, .no, []⟩, ⟨⟨(.some 5), .none, (.move (.tmp 16))⟩, .no, []⟩])))))) (.seq (.region [⟨⟨(.some 4), .none, (.move (.con (.int .i64 0)))⟩, .no, []⟩]) .ret))))
theorem ref03_Rows.er (N : Nat → Nat) : (ref03_Rows.T N).erase = (ref03_Rows.F N).body := by kernel_rfl
theorem ref03_Rows.okL (N : Nat → Nat) : (ref03_Rows.T N).okL = true := by kernel_rfl
def ref03_Rows.p (P : Program) (N : Nat → Nat) (x0 : V) (x1 : Int) (S : St) (K : Int → St → Prop) : Prop :=
  ∃ x9 : Int, lenV S 2 x0 = some (V.int .i64 x9) ∧
  ifC (decide ((512 : Int) < x9))
  (K 2 S)
  (Loop1 (fun (k1 : Int → St → Prop) (x5 : Int) (S1 : St) =>
    ∃ x13 : Int, lenV S1 2 x0 = some (V.int .i64 x13) ∧
    ifC (decide (x5 < x13))
    (ifS (idxAddrV 2 x0 (V.int .i64 x5)) fun (x19 : V) =>
     ifS (fieldAddrV 0 x19) fun (x20 : V) =>
     ∃ x21 : Int, loadV S1 x20 = some (V.int .i64 x21) ∧
     CallA P (N Fn.ref03_Id) [(V.int .i64 x21)] S1 (retT [(.one .bool)] fun (x22 : Bool) (S2 : St) =>
     ifC (!x22)
     (K 50 S2)
     (Loop1 (fun (k2 : Int → St → Prop) (x6 : Int) (S3 : St) =>
       ifC (decide (x6 < x5))
       (ifS (idxAddrV 2 x0 (V.int .i64 x6)) fun (x31 : V) =>
        ifS (fieldAddrV 0 x31) fun (x32 : V) =>
        ∃ x33 : Int, loadV S3 x32 = some (V.int .i64 x33) ∧
        ifS (idxAddrV 2 x0 (V.int .i64 x5)) fun (x36 : V) =>
        ifS (fieldAddrV 0 x36) fun (x37 : V) =>
        ∃ x38 : Int, loadV S3 x37 = some (V.int .i64 x38) ∧
        ifC (decide (x33 = x38))
        (K 50 S3)
        (setI (IntKind.i64.wrap (x6 + (1 : Int))) fun (x28 : Int) =>
         k2 x28 S3))
       (ifS (idxAddrV 2 x0 (V.int .i64 x5)) fun (x42 : V) =>
        ifS (fieldAddrV 1 x42) fun (x43 : V) =>
        ifS (loadV S3 x43) fun (x44 : V) =>
        CallA P (N Fn.ref03_Check) [x44, (V.int .i64 x1)] S3 (retT [(.one (.int .i64))] fun (x46 : Int) (S4 : St) =>
        ifC (!decide (x46 = (0 : Int)))
        (K x46 S4)
        (setI (IntKind.i64.wrap (x5 + (1 : Int))) fun (x16 : Int) =>
         k1 x16 S4))))
      0 S2)))
    (K 0 S1))
   0 S)
theorem ref03_Rows.eq (P : Program) (N : Nat → Nat) (x0 : V) (x1 : Int) (S : St) (K : Int → St → Prop) : wpT P (canEnter P) (ref03_Rows.T N) (endT (ref03_Rows.F N).results [(.one (.int .i64))] K) (startT [x0, (V.int .i64 x1)] ++ List.replicate ((ref03_Rows.F N).nt - 2) .none) S = ref03_Rows.p P N x0 x1 S K := by kernel_rfl
abbrev ref03_Rows.Ok (P : Program) (N : Nat → Nat) : Prop := afun P (N Fn.ref03_Rows) = some (ref03_Rows.F N)
theorem ref03_Rows.run {P : Program} {N : Nat → Nat} (hF : ref03_Rows.Ok P N) {x0 : V} {x1 : Int} {S : St} {K : Int → St → Prop} (h : ref03_Rows.p P N x0 x1 S K) : CallA P (N Fn.ref03_Rows) [x0, (V.int .i64 x1)] S (retT [(.one (.int .i64))] K) :=
  CallA.of_TP hF (ref03_Rows.er N) (ref03_Rows.okL N) (Eq.mpr (ref03_Rows.eq P N x0 x1 S K) h)

end Go.Th.L
