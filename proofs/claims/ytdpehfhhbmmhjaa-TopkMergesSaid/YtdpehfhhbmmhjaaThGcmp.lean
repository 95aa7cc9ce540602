/- Functions of cmp, read without frames (printed by tools/lib.py). -/
import Derived.Test.YtdpehfhhbmmhjaaThFn
set_option linter.unusedVariables false
set_option maxRecDepth 100000
set_option maxHeartbeats 2000000
namespace Go.Th.L
open Go Go.Th

def cmp_Or_int.F (N : Nat → Nat) : AF := ⟨18, [(.tmp 2)], (.seq (.region [⟨(.some 2), .none, (.move (.con (.int .i64 0)))⟩]) (.seq (.region [⟨(.some 3), .none, (.move (.con (.int .i64 0)))⟩]) (.seq (.seq (.region [⟨(.some 6), .none, (.move (.tmp 0))⟩, ⟨(.some 7), .none, (.len 2 (.tmp 6))⟩, ⟨(.some 8), .none, (.move (.con (.int .i64 0)))⟩]) (.block 0 (.loop (.seq (.region [⟨(.some 9), .none, (.bin .lss (.tmp 8) (.tmp 7))⟩]) (.seq (.cond (.tmp 9) .skip (.exit 0)) (.seq (.block 1 (.seq (.region [⟨(.some 10), .none, (.idxAddr 1 (.tmp 6) (.tmp 8))⟩, ⟨(.some 11), .none, (.load1 (.tmp 10))⟩, ⟨(.some 5), .none, (.move (.tmp 11))⟩]) (.seq (.region [⟨(.some 12), .none, (.move (.tmp 5))⟩, ⟨(.some 13), .none, (.move (.tmp 3))⟩, ⟨(.some 14), .none, (.bin .neq (.tmp 12) (.tmp 13))⟩]) (.cond (.tmp 14) (.seq (.region [⟨(.some 15), .none, (.move (.tmp 5))⟩, ⟨(.some 2), .none, (.move (.tmp 15))⟩]) .ret) .skip)))) (.region [⟨(.some 16), .none, (.bin .add (.tmp 8) (.con (.int .i64 1)))⟩, ⟨(.some 8), .none, (.move (.tmp 16))⟩]))))))) (.seq (.region [⟨(.some 17), .none, (.move (.tmp 3))⟩, ⟨(.some 2), .none, (.move (.tmp 17))⟩]) .ret))))⟩
def cmp_Or_int.T (N : Nat → Nat) : TC := (.seq (.region [⟨⟨(.some 2), .none, (.move (.con (.int .i64 0)))⟩, .no, []⟩]) (.seq (.region [⟨⟨(.some 3), .none, (.move (.con (.int .i64 0)))⟩, .no, []⟩]) (.seq (.seq (.region [⟨⟨(.some 6), .none, (.move (.tmp 0))⟩, .no, []⟩, ⟨⟨(.some 7), .none, (.len 2 (.tmp 6))⟩, (.dt (.one (.int .i64))), []⟩, ⟨⟨(.some 8), .none, (.move (.con (.int .i64 0)))⟩, .no, []⟩]) (.block 0 (.loop [(8, (.one (.int .i64)))] (.seq (.region [⟨⟨(.some 9), .none, (.bin .lss (.tmp 8) (.tmp 7))⟩, .no, []⟩]) (.seq (.cond (.tmp 9) .skip (.exit 0)) (.seq (.block 1 (.seq (.region [⟨⟨(.some 10), .none, (.idxAddr 1 (.tmp 6) (.tmp 8))⟩, .no, []⟩, ⟨⟨(.some 11), .none, (.load1 (.tmp 10))⟩, (.dt (.one (.int .i64))), []⟩, ⟨⟨(.some 5), .none, (.move (.tmp 11))⟩, .no, []⟩]) (.seq (.region [⟨⟨(.some 12), .none, (.move (.tmp 5))⟩, .no, []⟩, ⟨⟨(.some 13), .none, (.move (.tmp 3))⟩, .no, []⟩, ⟨⟨(.some 14), .none, (.bin .neq (.tmp 12) (.tmp 13))⟩, .no, []⟩]) (.cond (.tmp 14) (.seq (.region [⟨⟨(.some 15), .none, (.move (.tmp 5))⟩, .no, []⟩, ⟨⟨(.some 2), .none, (.move (.tmp 15))⟩, .no, []⟩]) .ret) .skip)))) (.region [⟨⟨(.some 16), .none, (.bin .add (.tmp 8) (.con (.int .i64 1)))⟩, .no, []⟩, ⟨⟨(.some 8), .none, (.move (.tmp 16))⟩, .no, []⟩]))))))) (.seq (.region [⟨⟨(.some 17), .none, (.move (.tmp 3))⟩, .no, []⟩, ⟨⟨(.some 2), .none, (.move (.tmp 17))⟩, .no, []⟩]) .ret))))
theorem cmp_Or_int.er (N : Nat → Nat) : (cmp_Or_int.T N).erase = (cmp_Or_int.F N).body := by kernel_rfl
theorem cmp_Or_int.okL (N : Nat → Nat) : (cmp_Or_int.T N).okL = true := by kernel_rfl
def cmp_Or_int.p (P : Program) (N : Nat → Nat) (x0 : V) (S : St) (K : Int → St → Prop) : Prop :=
  ∃ x7 : Int, lenV S 2 x0 = some (V.int .i64 x7) ∧
  Loop1 (fun (k1 : Int → St → Prop) (x8 : Int) (S1 : St) =>
   ifC (decide (x8 < x7))
   (ifS (idxAddrV 1 x0 (V.int .i64 x8)) fun (x10 : V) =>
    ∃ x11 : Int, loadV S1 x10 = some (V.int .i64 x11) ∧
    ifC (!decide (x11 = (0 : Int)))
    (K x11 S1)
    (setI (IntKind.i64.wrap (x8 + (1 : Int))) fun (x16 : Int) =>
     k1 x16 S1))
   (K 0 S1))
  0 S
theorem cmp_Or_int.eq (P : Program) (N : Nat → Nat) (x0 : V) (S : St) (K : Int → St → Prop) : wpT P (envP P) (cmp_Or_int.T N) (endT (cmp_Or_int.F N).results [(.one (.int .i64))] K) (startT [x0] ++ List.replicate ((cmp_Or_int.F N).nt - 1) .none) S = cmp_Or_int.p P N x0 S K := by kernel_rfl
abbrev cmp_Or_int.Ok (P : Program) (N : Nat → Nat) : Prop := afun P (N Fn.cmp_Or_int) = some (cmp_Or_int.F N)
theorem cmp_Or_int.run {P : Program} {N : Nat → Nat} (hF : cmp_Or_int.Ok P N) {x0 : V} {S : St} {K : Int → St → Prop} (h : cmp_Or_int.p P N x0 S K) : CallA P (N Fn.cmp_Or_int) [x0] S (retT [(.one (.int .i64))] K) :=
  CallA.of_TP hF (cmp_Or_int.er N) (cmp_Or_int.okL N) (Eq.mpr (cmp_Or_int.eq P N x0 S K) h)

def cmp_Compare_int.F (N : Nat → Nat) : AF := ⟨20, [(.tmp 4)], (.seq (.region [⟨(.some 4), .none, (.move (.con (.int .i64 0)))⟩]) (.seq (.region [⟨(.some 7), .none, (.move (.tmp 0))⟩, ⟨(.some 8), .none, (.callF (N Fn.cmp_isNaN_int) [(.tmp 7)])⟩, ⟨(.some 5), .none, (.move (.tmp 8))⟩]) (.seq (.region [⟨(.some 9), .none, (.move (.tmp 1))⟩, ⟨(.some 10), .none, (.callF (N Fn.cmp_isNaN_int) [(.tmp 9)])⟩, ⟨(.some 6), .none, (.move (.tmp 10))⟩]) (.seq (.seq (.region [⟨(.some 11), .none, (.move (.tmp 5))⟩]) (.cond (.tmp 11) (.seq (.seq (.region [⟨(.some 12), .none, (.move (.tmp 6))⟩]) (.cond (.tmp 12) (.seq (.region [⟨(.some 4), .none, (.move (.con (.int .i64 0)))⟩]) .ret) .skip)) (.seq (.region [⟨(.some 4), .none, (.move (.con (.int .i64 (-1))))⟩]) .ret)) .skip)) (.seq (.seq (.region [⟨(.some 13), .none, (.move (.tmp 6))⟩]) (.cond (.tmp 13) (.seq (.region [⟨(.some 4), .none, (.move (.con (.int .i64 1)))⟩]) .ret) .skip)) (.seq (.seq (.region [⟨(.some 14), .none, (.move (.tmp 0))⟩, ⟨(.some 15), .none, (.move (.tmp 1))⟩, ⟨(.some 16), .none, (.bin .lss (.tmp 14) (.tmp 15))⟩]) (.cond (.tmp 16) (.seq (.region [⟨(.some 4), .none, (.move (.con (.int .i64 (-1))))⟩]) .ret) .skip)) (.seq (.seq (.region [⟨(.some 17), .none, (.move (.tmp 0))⟩, ⟨(.some 18), .none, (.move (.tmp 1))⟩, ⟨(.some 19), .none, (.bin .gtr (.tmp 17) (.tmp 18))⟩]) (.cond (.tmp 19) (.seq (.region [⟨(.some 4), .none, (.move (.con (.int .i64 1)))⟩]) .ret) .skip)) (.seq (.region [⟨(.some 4), .none, (.move (.con (.int .i64 0)))⟩]) .ret))))))))⟩
def cmp_Compare_int.T (N : Nat → Nat) : TC := (.seq (.region [⟨⟨(.some 4), .none, (.move (.con (.int .i64 0)))⟩, .no, []⟩]) (.seq (.region [⟨⟨(.some 7), .none, (.move (.tmp 0))⟩, .no, []⟩, ⟨⟨(.some 8), .none, (.callF (N Fn.cmp_isNaN_int) [(.tmp 7)])⟩, .no, [(.one .bool)]⟩, ⟨⟨(.some 5), .none, (.move (.tmp 8))⟩, .no, []⟩]) (.seq (.region [⟨⟨(.some 9), .none, (.move (.tmp 1))⟩, .no, []⟩, ⟨⟨(.some 10), .none, (.callF (N Fn.cmp_isNaN_int) [(.tmp 9)])⟩, .no, [(.one .bool)]⟩, ⟨⟨(.some 6), .none, (.move (.tmp 10))⟩, .no, []⟩]) (.seq (.seq (.region [⟨⟨(.some 11), .none, (.move (.tmp 5))⟩, .no, []⟩]) (.cond (.tmp 11) (.seq (.seq (.region [⟨⟨(.some 12), .none, (.move (.tmp 6))⟩, .no, []⟩]) (.cond (.tmp 12) (.seq (.region [⟨⟨(.some 4), .none, (.move (.con (.int .i64 0)))⟩, .no, []⟩]) .ret) .skip)) (.seq (.region [⟨⟨(.some 4), .none, (.move (.con (.int .i64 (-1))))⟩, .no, []⟩]) .ret)) .skip)) (.seq (.seq (.region [⟨⟨(.some 13), .none, (.move (.tmp 6))⟩, .no, []⟩]) (.cond (.tmp 13) (.seq (.region [⟨⟨(.some 4), .none, (.move (.con (.int .i64 1)))⟩, .no, []⟩]) .ret) .skip)) (.seq (.seq (.region [⟨⟨(.some 14), .none, (.move (.tmp 0))⟩, .no, []⟩, ⟨⟨(.some 15), .none, (.move (.tmp 1))⟩, .no, []⟩, ⟨⟨(.some 16), .none, (.bin .lss (.tmp 14) (.tmp 15))⟩, .no, []⟩]) (.cond (.tmp 16) (.seq (.region [⟨⟨(.some 4), .none, (.move (.con (.int .i64 (-1))))⟩, .no, []⟩]) .ret) .skip)) (.seq (.seq (.region [⟨⟨(.some 17), .none, (.move (.tmp 0))⟩, .no, []⟩, ⟨⟨(.some 18), .none, (.move (.tmp 1))⟩, .no, []⟩, ⟨⟨(.some 19), .none, (.bin .gtr (.tmp 17) (.tmp 18))⟩, .no, []⟩]) (.cond (.tmp 19) (.seq (.region [⟨⟨(.some 4), .none, (.move (.con (.int .i64 1)))⟩, .no, []⟩]) .ret) .skip)) (.seq (.region [⟨⟨(.some 4), .none, (.move (.con (.int .i64 0)))⟩, .no, []⟩]) .ret))))))))
theorem cmp_Compare_int.er (N : Nat → Nat) : (cmp_Compare_int.T N).erase = (cmp_Compare_int.F N).body := by kernel_rfl
theorem cmp_Compare_int.okL (N : Nat → Nat) : (cmp_Compare_int.T N).okL = true := by kernel_rfl
def cmp_Compare_int.p (P : Program) (N : Nat → Nat) (x0 : Int) (x1 : Int) (S : St) (K : Int → St → Prop) : Prop :=
  CallA P (N Fn.cmp_isNaN_int) [(V.int .i64 x0)] S (retT [(.one .bool)] fun (x8 : Bool) (S1 : St) =>
  CallA P (N Fn.cmp_isNaN_int) [(V.int .i64 x1)] S1 (retT [(.one .bool)] fun (x10 : Bool) (S2 : St) =>
  ifC x8
  (ifC x10
   (K 0 S2)
   (K (-1) S2))
  (ifC x10
   (K 1 S2)
   (ifC (decide (x0 < x1))
    (K (-1) S2)
    (ifC (decide (x1 < x0))
     (K 1 S2)
     (K 0 S2))))))
theorem cmp_Compare_int.eq (P : Program) (N : Nat → Nat) (x0 : Int) (x1 : Int) (S : St) (K : Int → St → Prop) : wpT P (envP P) (cmp_Compare_int.T N) (endT (cmp_Compare_int.F N).results [(.one (.int .i64))] K) (startT [(V.int .i64 x0), (V.int .i64 x1)] ++ List.replicate ((cmp_Compare_int.F N).nt - 2) .none) S = cmp_Compare_int.p P N x0 x1 S K := by kernel_rfl
abbrev cmp_Compare_int.Ok (P : Program) (N : Nat → Nat) : Prop := afun P (N Fn.cmp_Compare_int) = some (cmp_Compare_int.F N)
theorem cmp_Compare_int.run {P : Program} {N : Nat → Nat} (hF : cmp_Compare_int.Ok P N) {x0 : Int} {x1 : Int} {S : St} {K : Int → St → Prop} (h : cmp_Compare_int.p P N x0 x1 S K) : CallA P (N Fn.cmp_Compare_int) [(V.int .i64 x0), (V.int .i64 x1)] S (retT [(.one (.int .i64))] K) :=
  CallA.of_TP hF (cmp_Compare_int.er N) (cmp_Compare_int.okL N) (Eq.mpr (cmp_Compare_int.eq P N x0 x1 S K) h)

def cmp_isNaN_int.F (N : Nat → Nat) : AF := ⟨6, [(.tmp 2)], (.seq (.region [⟨(.some 2), .none, (.move (.con (.bool false)))⟩]) (.seq (.region [⟨(.some 3), .none, (.move (.tmp 0))⟩, ⟨(.some 4), .none, (.move (.tmp 0))⟩, ⟨(.some 5), .none, (.bin .neq (.tmp 3) (.tmp 4))⟩, ⟨(.some 2), .none, (.move (.tmp 5))⟩]) .ret))⟩
def cmp_isNaN_int.T (N : Nat → Nat) : TC := (.seq (.region [⟨⟨(.some 2), .none, (.move (.con (.bool false)))⟩, .no, []⟩]) (.seq (.region [⟨⟨(.some 3), .none, (.move (.tmp 0))⟩, .no, []⟩, ⟨⟨(.some 4), .none, (.move (.tmp 0))⟩, .no, []⟩, ⟨⟨(.some 5), .none, (.bin .neq (.tmp 3) (.tmp 4))⟩, .no, []⟩, ⟨⟨(.some 2), .none, (.move (.tmp 5))⟩, .no, []⟩]) .ret))
theorem cmp_isNaN_int.er (N : Nat → Nat) : (cmp_isNaN_int.T N).erase = (cmp_isNaN_int.F N).body := by kernel_rfl
theorem cmp_isNaN_int.okL (N : Nat → Nat) : (cmp_isNaN_int.T N).okL = true := by kernel_rfl
def cmp_isNaN_int.p (P : Program) (N : Nat → Nat) (x0 : Int) (S : St) (K : Bool → St → Prop) : Prop :=
  K (!decide (x0 = x0)) S
theorem cmp_isNaN_int.eq (P : Program) (N : Nat → Nat) (x0 : Int) (S : St) (K : Bool → St → Prop) : wpT P (envP P) (cmp_isNaN_int.T N) (endT (cmp_isNaN_int.F N).results [(.one .bool)] K) (startT [(V.int .i64 x0)] ++ List.replicate ((cmp_isNaN_int.F N).nt - 1) .none) S = cmp_isNaN_int.p P N x0 S K := by kernel_rfl
abbrev cmp_isNaN_int.Ok (P : Program) (N : Nat → Nat) : Prop := afun P (N Fn.cmp_isNaN_int) = some (cmp_isNaN_int.F N)
theorem cmp_isNaN_int.run {P : Program} {N : Nat → Nat} (hF : cmp_isNaN_int.Ok P N) {x0 : Int} {S : St} {K : Bool → St → Prop} (h : cmp_isNaN_int.p P N x0 S K) : CallA P (N Fn.cmp_isNaN_int) [(V.int .i64 x0)] S (retT [(.one .bool)] K) :=
  CallA.of_TP hF (cmp_isNaN_int.er N) (cmp_isNaN_int.okL N) (Eq.mpr (cmp_isNaN_int.eq P N x0 S K) h)

def cmp_Less_int.F (N : Nat → Nat) : AF := ⟨17, [(.tmp 4)], (.seq (.region [⟨(.some 4), .none, (.move (.con (.bool false)))⟩]) (.seq (.region [⟨(.some 5), .none, (.move (.tmp 0))⟩, ⟨(.some 6), .none, (.callF (N Fn.cmp_isNaN_int) [(.tmp 5)])⟩, ⟨(.some 7), .none, (.move (.tmp 6))⟩, ⟨(.some 8), (.some (7, true)), (.move (.tmp 1))⟩, ⟨(.some 9), (.some (7, true)), (.callF (N Fn.cmp_isNaN_int) [(.tmp 8)])⟩, ⟨(.some 10), (.some (7, true)), (.un .not (.tmp 9))⟩, ⟨(.some 11), .none, (.pick (.tmp 7) (.tmp 10) (.con (.bool false)))⟩, ⟨(.some 12), .none, (.move (.tmp 11))⟩, ⟨(.some 13), (.some (12, false)), (.move (.tmp 0))⟩, ⟨(.some 14), (.some (12, false)), (.move (.tmp 1))⟩, ⟨(.some 15), (.some (12, false)), (.bin .lss (.tmp 13) (.tmp 14))⟩, ⟨(.some 16), .none, (.pick (.tmp 12) (.con (.bool true)) (.tmp 15))⟩, ⟨(.some 4), .none, (.move (.tmp 16))⟩]) .ret))⟩
def cmp_Less_int.T (N : Nat → Nat) : TC := (.seq (.region [⟨⟨(.some 4), .none, (.move (.con (.bool false)))⟩, .no, []⟩]) (.seq (.region [⟨⟨(.some 5), .none, (.move (.tmp 0))⟩, .no, []⟩, ⟨⟨(.some 6), .none, (.callF (N Fn.cmp_isNaN_int) [(.tmp 5)])⟩, .no, [(.one .bool)]⟩, ⟨⟨(.some 7), .none, (.move (.tmp 6))⟩, .no, []⟩, ⟨⟨(.some 8), (.some (7, true)), (.move (.tmp 1))⟩, .no, []⟩, ⟨⟨(.some 9), (.some (7, true)), (.callF (N Fn.cmp_isNaN_int) [(.tmp 8)])⟩, .no, [(.one .bool)]⟩, ⟨⟨(.some 10), (.some (7, true)), (.un .not (.tmp 9))⟩, .no, []⟩, ⟨⟨(.some 11), .none, (.pick (.tmp 7) (.tmp 10) (.con (.bool false)))⟩, .no, []⟩, ⟨⟨(.some 12), .none, (.move (.tmp 11))⟩, .no, []⟩, ⟨⟨(.some 13), (.some (12, false)), (.move (.tmp 0))⟩, .no, []⟩, ⟨⟨(.some 14), (.some (12, false)), (.move (.tmp 1))⟩, .no, []⟩, ⟨⟨(.some 15), (.some (12, false)), (.bin .lss (.tmp 13) (.tmp 14))⟩, .no, []⟩, ⟨⟨(.some 16), .none, (.pick (.tmp 12) (.con (.bool true)) (.tmp 15))⟩, .no, []⟩, ⟨⟨(.some 4), .none, (.move (.tmp 16))⟩, .no, []⟩]) .ret))
theorem cmp_Less_int.er (N : Nat → Nat) : (cmp_Less_int.T N).erase = (cmp_Less_int.F N).body := by kernel_rfl
theorem cmp_Less_int.okL (N : Nat → Nat) : (cmp_Less_int.T N).okL = true := by kernel_rfl
def cmp_Less_int.p (P : Program) (N : Nat → Nat) (x0 : Int) (x1 : Int) (S : St) (K : Bool → St → Prop) : Prop :=
  CallA P (N Fn.cmp_isNaN_int) [(V.int .i64 x0)] S (retT [(.one .bool)] fun (x6 : Bool) (S1 : St) =>
  ifC x6
  (CallA P (N Fn.cmp_isNaN_int) [(V.int .i64 x1)] S1 (retT [(.one .bool)] fun (x9 : Bool) (S2 : St) =>
  ifC (!x9)
  (K true S2)
  (K (decide (x0 < x1)) S2)))
  (K (decide (x0 < x1)) S1))
theorem cmp_Less_int.eq (P : Program) (N : Nat → Nat) (x0 : Int) (x1 : Int) (S : St) (K : Bool → St → Prop) : wpT P (envP P) (cmp_Less_int.T N) (endT (cmp_Less_int.F N).results [(.one .bool)] K) (startT [(V.int .i64 x0), (V.int .i64 x1)] ++ List.replicate ((cmp_Less_int.F N).nt - 2) .none) S = cmp_Less_int.p P N x0 x1 S K := by kernel_rfl
abbrev cmp_Less_int.Ok (P : Program) (N : Nat → Nat) : Prop := afun P (N Fn.cmp_Less_int) = some (cmp_Less_int.F N)
theorem cmp_Less_int.run {P : Program} {N : Nat → Nat} (hF : cmp_Less_int.Ok P N) {x0 : Int} {x1 : Int} {S : St} {K : Bool → St → Prop} (h : cmp_Less_int.p P N x0 x1 S K) : CallA P (N Fn.cmp_Less_int) [(V.int .i64 x0), (V.int .i64 x1)] S (retT [(.one .bool)] K) :=
  CallA.of_TP hF (cmp_Less_int.er N) (cmp_Less_int.okL N) (Eq.mpr (cmp_Less_int.eq P N x0 x1 S K) h)

end Go.Th.L
