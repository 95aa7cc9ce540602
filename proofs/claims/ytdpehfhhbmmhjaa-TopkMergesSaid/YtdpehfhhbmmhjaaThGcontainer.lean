/- Functions of container, read without frames (printed by tools/lib.py). -/
import Derived.Test.YtdpehfhhbmmhjaaThFn
set_option linter.unusedVariables false
set_option maxRecDepth 100000
set_option maxHeartbeats 2000000
namespace Go.Th.L
open Go Go.Th

def container_heap_Push.F (N : Nat → Nat) : AF := ⟨12, [], (.seq (.region [⟨(.some 4), .none, (.move (.tmp 0))⟩, ⟨(.some 5), .none, (.move (.tmp 1))⟩, ⟨(.some 6), .none, (.invoke "Push" (.tmp 4) [(.tmp 5)])⟩]) (.region [⟨(.some 7), .none, (.move (.tmp 0))⟩, ⟨(.some 8), .none, (.move (.tmp 0))⟩, ⟨(.some 9), .none, (.invoke "Len" (.tmp 8) [])⟩, ⟨(.some 10), .none, (.bin .sub (.tmp 9) (.con (.int .i64 1)))⟩, ⟨(.some 11), .none, (.callF (N Fn.container_heap_up) [(.tmp 7), (.tmp 10)])⟩]))⟩
def container_heap_Push.T (N : Nat → Nat) : TC := (.seq (.region [⟨⟨(.some 4), .none, (.move (.tmp 0))⟩, .no, []⟩, ⟨⟨(.some 5), .none, (.move (.tmp 1))⟩, .no, []⟩, ⟨⟨(.some 6), .none, (.invoke "Push" (.tmp 4) [(.tmp 5)])⟩, .no, []⟩]) (.region [⟨⟨(.some 7), .none, (.move (.tmp 0))⟩, .no, []⟩, ⟨⟨(.some 8), .none, (.move (.tmp 0))⟩, .no, []⟩, ⟨⟨(.some 9), .none, (.invoke "Len" (.tmp 8) [])⟩, .no, [(.one (.int .i64))]⟩, ⟨⟨(.some 10), .none, (.bin .sub (.tmp 9) (.con (.int .i64 1)))⟩, .no, []⟩, ⟨⟨(.some 11), .none, (.callF (N Fn.container_heap_up) [(.tmp 7), (.tmp 10)])⟩, .no, []⟩]))
theorem container_heap_Push.er (N : Nat → Nat) : (container_heap_Push.T N).erase = (container_heap_Push.F N).body := by kernel_rfl
theorem container_heap_Push.okL (N : Nat → Nat) : (container_heap_Push.T N).okL = true := by kernel_rfl
def container_heap_Push.p (P : Program) (N : Nat → Nat) (x0 : V) (x1 : V) (S : St) (K : St → Prop) : Prop :=
  ifS (invokeV (envP P) S "Push" x0 [x1]) fun (xf : FuncId × List V) =>
  CallA P xf.1 xf.2 S (retT [] fun (S1 : St) =>
  ifS (invokeV (envP P) S1 "Len" x0 []) fun (xf_1 : FuncId × List V) =>
  CallA P xf_1.1 xf_1.2 S1 (retT [(.one (.int .i64))] fun (x9 : Int) (S2 : St) =>
  setI (IntKind.i64.wrap (x9 - (1 : Int))) fun (x10 : Int) =>
  CallA P (N Fn.container_heap_up) [x0, (V.int .i64 x10)] S2 (retT [] fun (S3 : St) =>
  K  S3)))
theorem container_heap_Push.eq (P : Program) (N : Nat → Nat) (x0 : V) (x1 : V) (S : St) (K : St → Prop) : wpT P (envP P) (container_heap_Push.T N) (endT (container_heap_Push.F N).results [] K) (startT [x0, x1] ++ List.replicate ((container_heap_Push.F N).nt - 2) .none) S = container_heap_Push.p P N x0 x1 S K := by kernel_rfl
abbrev container_heap_Push.Ok (P : Program) (N : Nat → Nat) : Prop := afun P (N Fn.container_heap_Push) = some (container_heap_Push.F N)
theorem container_heap_Push.run {P : Program} {N : Nat → Nat} (hF : container_heap_Push.Ok P N) {x0 : V} {x1 : V} {S : St} {K : St → Prop} (h : container_heap_Push.p P N x0 x1 S K) : CallA P (N Fn.container_heap_Push) [x0, x1] S (retT [] K) :=
  CallA.of_TP hF (container_heap_Push.er N) (container_heap_Push.okL N) (Eq.mpr (container_heap_Push.eq P N x0 x1 S K) h)

def container_heap_Fix.F (N : Nat → Nat) : AF := ⟨13, [], (.seq (.region [⟨(.some 4), .none, (.move (.tmp 0))⟩, ⟨(.some 5), .none, (.move (.tmp 1))⟩, ⟨(.some 6), .none, (.move (.tmp 0))⟩, ⟨(.some 7), .none, (.invoke "Len" (.tmp 6) [])⟩, ⟨(.some 8), .none, (.callF (N Fn.container_heap_down) [(.tmp 4), (.tmp 5), (.tmp 7)])⟩, ⟨(.some 9), .none, (.un .not (.tmp 8))⟩]) (.cond (.tmp 9) (.region [⟨(.some 10), .none, (.move (.tmp 0))⟩, ⟨(.some 11), .none, (.move (.tmp 1))⟩, ⟨(.some 12), .none, (.callF (N Fn.container_heap_up) [(.tmp 10), (.tmp 11)])⟩]) .skip))⟩
def container_heap_Fix.T (N : Nat → Nat) : TC := (.seq (.region [⟨⟨(.some 4), .none, (.move (.tmp 0))⟩, .no, []⟩, ⟨⟨(.some 5), .none, (.move (.tmp 1))⟩, .no, []⟩, ⟨⟨(.some 6), .none, (.move (.tmp 0))⟩, .no, []⟩, ⟨⟨(.some 7), .none, (.invoke "Len" (.tmp 6) [])⟩, .no, [(.one (.int .i64))]⟩, ⟨⟨(.some 8), .none, (.callF (N Fn.container_heap_down) [(.tmp 4), (.tmp 5), (.tmp 7)])⟩, .no, [(.one .bool)]⟩, ⟨⟨(.some 9), .none, (.un .not (.tmp 8))⟩, .no, []⟩]) (.cond (.tmp 9) (.region [⟨⟨(.some 10), .none, (.move (.tmp 0))⟩, .no, []⟩, ⟨⟨(.some 11), .none, (.move (.tmp 1))⟩, .no, []⟩, ⟨⟨(.some 12), .none, (.callF (N Fn.container_heap_up) [(.tmp 10), (.tmp 11)])⟩, .no, []⟩]) .skip))
theorem container_heap_Fix.er (N : Nat → Nat) : (container_heap_Fix.T N).erase = (container_heap_Fix.F N).body := by kernel_rfl
theorem container_heap_Fix.okL (N : Nat → Nat) : (container_heap_Fix.T N).okL = true := by kernel_rfl
def container_heap_Fix.p (P : Program) (N : Nat → Nat) (x0 : V) (x1 : Int) (S : St) (K : St → Prop) : Prop :=
  ifS (invokeV (envP P) S "Len" x0 []) fun (xf : FuncId × List V) =>
  CallA P xf.1 xf.2 S (retT [(.one (.int .i64))] fun (x7 : Int) (S1 : St) =>
  CallA P (N Fn.container_heap_down) [x0, (V.int .i64 x1), (V.int .i64 x7)] S1 (retT [(.one .bool)] fun (x8 : Bool) (S2 : St) =>
  ifC (!x8)
  (CallA P (N Fn.container_heap_up) [x0, (V.int .i64 x1)] S2 (retT [] fun (S3 : St) =>
   K  S3))
  (K  S2)))
theorem container_heap_Fix.eq (P : Program) (N : Nat → Nat) (x0 : V) (x1 : Int) (S : St) (K : St → Prop) : wpT P (envP P) (container_heap_Fix.T N) (endT (container_heap_Fix.F N).results [] K) (startT [x0, (V.int .i64 x1)] ++ List.replicate ((container_heap_Fix.F N).nt - 2) .none) S = container_heap_Fix.p P N x0 x1 S K := by kernel_rfl
abbrev container_heap_Fix.Ok (P : Program) (N : Nat → Nat) : Prop := afun P (N Fn.container_heap_Fix) = some (container_heap_Fix.F N)
theorem container_heap_Fix.run {P : Program} {N : Nat → Nat} (hF : container_heap_Fix.Ok P N) {x0 : V} {x1 : Int} {S : St} {K : St → Prop} (h : container_heap_Fix.p P N x0 x1 S K) : CallA P (N Fn.container_heap_Fix) [x0, (V.int .i64 x1)] S (retT [] K) :=
  CallA.of_TP hF (container_heap_Fix.er N) (container_heap_Fix.okL N) (Eq.mpr (container_heap_Fix.eq P N x0 x1 S K) h)

def container_heap_up.F (N : Nat → Nat) : AF := ⟨23, [], (.block 0 (.loop (.block 1 (.seq (.region [⟨(.some 5), .none, (.move (.tmp 1))⟩, ⟨(.some 6), .none, (.bin .sub (.tmp 5) (.con (.int .i64 1)))⟩, ⟨(.some 7), .none, (.bin .quo (.tmp 6) (.con (.int .i64 2)))⟩, ⟨(.some 4), .none, (.move (.tmp 7))⟩]) (.seq (.seq (.region [⟨(.some 8), .none, (.move (.tmp 4))⟩, ⟨(.some 9), .none, (.move (.tmp 1))⟩, ⟨(.some 10), .none, (.bin .eql (.tmp 8) (.tmp 9))⟩, ⟨(.some 11), .none, (.move (.tmp 10))⟩, ⟨(.some 12), (.some (11, false)), (.move (.tmp 0))⟩, ⟨(.some 13), (.some (11, false)), (.move (.tmp 1))⟩, ⟨(.some 14), (.some (11, false)), (.move (.tmp 4))⟩, ⟨(.some 15), (.some (11, false)), (.invoke "Less" (.tmp 12) [(.tmp 13), (.tmp 14)])⟩, ⟨(.some 16), (.some (11, false)), (.un .not (.tmp 15))⟩, ⟨(.some 17), .none, (.pick (.tmp 11) (.con (.bool true)) (.tmp 16))⟩]) (.cond (.tmp 17) (.exit 0) .skip)) (.seq (.region [⟨(.some 18), .none, (.move (.tmp 0))⟩, ⟨(.some 19), .none, (.move (.tmp 4))⟩, ⟨(.some 20), .none, (.move (.tmp 1))⟩, ⟨(.some 21), .none, (.invoke "Swap" (.tmp 18) [(.tmp 19), (.tmp 20)])⟩]) (.region [⟨(.some 22), .none, (.move (.tmp 4))⟩, ⟨(.some 1), .none, (.move (.tmp 22))⟩])))))))⟩
def container_heap_up.T (N : Nat → Nat) : TC := (.block 0 (.loop [(1, (.one (.int .i64)))] (.block 1 (.seq (.region [⟨⟨(.some 5), .none, (.move (.tmp 1))⟩, .no, []⟩, ⟨⟨(.some 6), .none, (.bin .sub (.tmp 5) (.con (.int .i64 1)))⟩, .no, []⟩, ⟨⟨(.some 7), .none, (.bin .quo (.tmp 6) (.con (.int .i64 2)))⟩, .no, []⟩, ⟨⟨(.some 4), .none, (.move (.tmp 7))⟩, .no, []⟩]) (.seq (.seq (.region [⟨⟨(.some 8), .none, (.move (.tmp 4))⟩, .no, []⟩, ⟨⟨(.some 9), .none, (.move (.tmp 1))⟩, .no, []⟩, ⟨⟨(.some 10), .none, (.bin .eql (.tmp 8) (.tmp 9))⟩, .no, []⟩, ⟨⟨(.some 11), .none, (.move (.tmp 10))⟩, .no, []⟩, ⟨⟨(.some 12), (.some (11, false)), (.move (.tmp 0))⟩, .no, []⟩, ⟨⟨(.some 13), (.some (11, false)), (.move (.tmp 1))⟩, .no, []⟩, ⟨⟨(.some 14), (.some (11, false)), (.move (.tmp 4))⟩, .no, []⟩, ⟨⟨(.some 15), (.some (11, false)), (.invoke "Less" (.tmp 12) [(.tmp 13), (.tmp 14)])⟩, .no, [(.one .bool)]⟩, ⟨⟨(.some 16), (.some (11, false)), (.un .not (.tmp 15))⟩, .no, []⟩, ⟨⟨(.some 17), .none, (.pick (.tmp 11) (.con (.bool true)) (.tmp 16))⟩, .no, []⟩]) (.cond (.tmp 17) (.exit 0) .skip)) (.seq (.region [⟨⟨(.some 18), .none, (.move (.tmp 0))⟩, .no, []⟩, ⟨⟨(.some 19), .none, (.move (.tmp 4))⟩, .no, []⟩, ⟨⟨(.some 20), .none, (.move (.tmp 1))⟩, .no, []⟩, ⟨⟨(.some 21), .none, (.invoke "Swap" (.tmp 18) [(.tmp 19), (.tmp 20)])⟩, .no, []⟩]) (.region [⟨⟨(.some 22), .none, (.move (.tmp 4))⟩, .no, []⟩, ⟨⟨(.some 1), .none, (.move (.tmp 22))⟩, .no, []⟩])))))))
theorem container_heap_up.er (N : Nat → Nat) : (container_heap_up.T N).erase = (container_heap_up.F N).body := by kernel_rfl
theorem container_heap_up.okL (N : Nat → Nat) : (container_heap_up.T N).okL = true := by kernel_rfl
def container_heap_up.p (P : Program) (N : Nat → Nat) (x0 : V) (x1 : Int) (S : St) (K : St → Prop) : Prop :=
  Loop1 (fun (k1 : Int → St → Prop) (x1_1 : Int) (S1 : St) =>
   setI (IntKind.i64.wrap (x1_1 - (1 : Int))) fun (x6 : Int) =>
   (2 : Int) ≠ 0 ∧ setI (IntKind.i64.wrap (Int.tdiv x6 (2 : Int))) fun (x7 : Int) =>
   ifC (decide (x7 = x1_1))
   (K  S1)
   (ifS (invokeV (envP P) S1 "Less" x0 [(V.int .i64 x1_1), (V.int .i64 x7)]) fun (xf : FuncId × List V) =>
   CallA P xf.1 xf.2 S1 (retT [(.one .bool)] fun (x15 : Bool) (S2 : St) =>
   ifC (!x15)
   (K  S2)
   (ifS (invokeV (envP P) S2 "Swap" x0 [(V.int .i64 x7), (V.int .i64 x1_1)]) fun (xf_1 : FuncId × List V) =>
    CallA P xf_1.1 xf_1.2 S2 (retT [] fun (S3 : St) =>
    k1 x7 S3)))))
  x1 S
theorem container_heap_up.eq (P : Program) (N : Nat → Nat) (x0 : V) (x1 : Int) (S : St) (K : St → Prop) : wpT P (envP P) (container_heap_up.T N) (endT (container_heap_up.F N).results [] K) (startT [x0, (V.int .i64 x1)] ++ List.replicate ((container_heap_up.F N).nt - 2) .none) S = container_heap_up.p P N x0 x1 S K := by kernel_rfl
abbrev container_heap_up.Ok (P : Program) (N : Nat → Nat) : Prop := afun P (N Fn.container_heap_up) = some (container_heap_up.F N)
theorem container_heap_up.run {P : Program} {N : Nat → Nat} (hF : container_heap_up.Ok P N) {x0 : V} {x1 : Int} {S : St} {K : St → Prop} (h : container_heap_up.p P N x0 x1 S K) : CallA P (N Fn.container_heap_up) [x0, (V.int .i64 x1)] S (retT [] K) :=
  CallA.of_TP hF (container_heap_up.er N) (container_heap_up.okL N) (Eq.mpr (container_heap_up.eq P N x0 x1 S K) h)

def container_heap_down.F (N : Nat → Nat) : AF := ⟨48, [(.tmp 6)], (.seq (.region [⟨(.some 6), .none, (.move (.con (.bool false)))⟩]) (.seq (.region [⟨(.some 11), .none, (.move (.tmp 1))⟩, ⟨(.some 7), .none, (.move (.tmp 11))⟩]) (.seq (.block 0 (.loop (.block 1 (.seq (.region [⟨(.some 12), .none, (.move (.tmp 7))⟩, ⟨(.some 13), .none, (.bin .mul (.con (.int .i64 2)) (.tmp 12))⟩, ⟨(.some 14), .none, (.bin .add (.tmp 13) (.con (.int .i64 1)))⟩, ⟨(.some 8), .none, (.move (.tmp 14))⟩]) (.seq (.seq (.region [⟨(.some 15), .none, (.move (.tmp 8))⟩, ⟨(.some 16), .none, (.move (.tmp 2))⟩, ⟨(.some 17), .none, (.bin .geq (.tmp 15) (.tmp 16))⟩, ⟨(.some 18), .none, (.move (.tmp 17))⟩, ⟨(.some 19), (.some (18, false)), (.move (.tmp 8))⟩, ⟨(.some 20), (.some (18, false)), (.bin .lss (.tmp 19) (.con (.int .i64 0)))⟩, ⟨(.some 21), .none, (.pick (.tmp 18) (.con (.bool true)) (.tmp 20))⟩]) (.cond (.tmp 21) (.exit 0) .skip)) (.seq (.region [⟨(.some 22), .none, (.move (.tmp 8))⟩, ⟨(.some 9), .none, (.move (.tmp 22))⟩]) (.seq (.seq (.region [⟨(.some 23), .none, (.move (.tmp 8))⟩, ⟨(.some 24), .none, (.bin .add (.tmp 23) (.con (.int .i64 1)))⟩, ⟨(.some 10), .none, (.move (.tmp 24))⟩]) (.seq (.region [⟨(.some 25), .none, (.move (.tmp 10))⟩, ⟨(.some 26), .none, (.move (.tmp 2))⟩, ⟨(.some 27), .none, (.bin .lss (.tmp 25) (.tmp 26))⟩, ⟨(.some 28), .none, (.move (.tmp 27))⟩, ⟨(.some 29), (.some (28, true)), (.move (.tmp 0))⟩, ⟨(.some 30), (.some (28, true)), (.move (.tmp 10))⟩, ⟨(.some 31), (.some (28, true)), (.move (.tmp 8))⟩, ⟨(.some 32), (.some (28, true)), (.invoke "Less" (.tmp 29) [(.tmp 30), (.tmp 31)])⟩, ⟨(.some 33), .none, (.pick (.tmp 28) (.tmp 32) (.con (.bool false)))⟩]) (.cond (.tmp 33) (.region [⟨(.some 34), .none, (.move (.tmp 10))⟩, ⟨(.some 9), .none, (.move (.tmp 34))⟩]) .skip))) (.seq (.seq (.region [⟨(.some 35), .none, (.move (.tmp 0))⟩, ⟨(.some 36), .none, (.move (.tmp 9))⟩, ⟨(.some 37), .none, (.move (.tmp 7))⟩, ⟨(.some 38), .none, (.invoke "Less" (.tmp 35) [(.tmp 36), (.tmp 37)])⟩, ⟨(.some 39), .none, (.un .not (.tmp 38))⟩]) (.cond (.tmp 39) (.exit 0) .skip)) (.seq (.region [⟨(.some 40), .none, (.move (.tmp 0))⟩, ⟨(.some 41), .none, (.move (.tmp 7))⟩, ⟨(.some 42), .none, (.move (.tmp 9))⟩, ⟨(.some 43), .none, (.invoke "Swap" (.tmp 40) [(.tmp 41), (.tmp 42)])⟩]) (.region [⟨(.some 44), .none, (.move (.tmp 9))⟩, ⟨(.some 7), .none, (.move (.tmp 44))⟩])))))))))) (.seq (.region [⟨(.some 45), .none, (.move (.tmp 7))⟩, ⟨(.some 46), .none, (.move (.tmp 1))⟩, ⟨(.some 47), .none, (.bin .gtr (.tmp 45) (.tmp 46))⟩, ⟨(.some 6), .none, (.move (.tmp 47))⟩]) .ret))))⟩
def container_heap_down.T (N : Nat → Nat) : TC := (.seq (.region [⟨⟨(.some 6), .none, (.move (.con (.bool false)))⟩, .no, []⟩]) (.seq (.region [⟨⟨(.some 11), .none, (.move (.tmp 1))⟩, .no, []⟩, ⟨⟨(.some 7), .none, (.move (.tmp 11))⟩, .no, []⟩]) (.seq (.block 0 (.loop [(7, (.one (.int .i64)))] (.block 1 (.seq (.region [⟨⟨(.some 12), .none, (.move (.tmp 7))⟩, .no, []⟩, ⟨⟨(.some 13), .none, (.bin .mul (.con (.int .i64 2)) (.tmp 12))⟩, .no, []⟩, ⟨⟨(.some 14), .none, (.bin .add (.tmp 13) (.con (.int .i64 1)))⟩, .no, []⟩, ⟨⟨(.some 8), .none, (.move (.tmp 14))⟩, .no, []⟩]) (.join [] (.seq (.region [⟨⟨(.some 15), .none, (.move (.tmp 8))⟩, .no, []⟩, ⟨⟨(.some 16), .none, (.move (.tmp 2))⟩, .no, []⟩, ⟨⟨(.some 17), .none, (.bin .geq (.tmp 15) (.tmp 16))⟩, .no, []⟩, ⟨⟨(.some 18), .none, (.move (.tmp 17))⟩, .no, []⟩, ⟨⟨(.some 19), (.some (18, false)), (.move (.tmp 8))⟩, .no, []⟩, ⟨⟨(.some 20), (.some (18, false)), (.bin .lss (.tmp 19) (.con (.int .i64 0)))⟩, .no, []⟩, ⟨⟨(.some 21), .none, (.pick (.tmp 18) (.con (.bool true)) (.tmp 20))⟩, .no, []⟩]) (.cond (.tmp 21) (.exit 0) .skip)) (.seq (.region [⟨⟨(.some 22), .none, (.move (.tmp 8))⟩, .no, []⟩, ⟨⟨(.some 9), .none, (.move (.tmp 22))⟩, .no, []⟩]) (.join [(9, (.one (.int .i64)))] (.seq (.region [⟨⟨(.some 23), .none, (.move (.tmp 8))⟩, .no, []⟩, ⟨⟨(.some 24), .none, (.bin .add (.tmp 23) (.con (.int .i64 1)))⟩, .no, []⟩, ⟨⟨(.some 10), .none, (.move (.tmp 24))⟩, .no, []⟩]) (.seq (.region [⟨⟨(.some 25), .none, (.move (.tmp 10))⟩, .no, []⟩, ⟨⟨(.some 26), .none, (.move (.tmp 2))⟩, .no, []⟩, ⟨⟨(.some 27), .none, (.bin .lss (.tmp 25) (.tmp 26))⟩, .no, []⟩, ⟨⟨(.some 28), .none, (.move (.tmp 27))⟩, .no, []⟩, ⟨⟨(.some 29), (.some (28, true)), (.move (.tmp 0))⟩, .no, []⟩, ⟨⟨(.some 30), (.some (28, true)), (.move (.tmp 10))⟩, .no, []⟩, ⟨⟨(.some 31), (.some (28, true)), (.move (.tmp 8))⟩, .no, []⟩, ⟨⟨(.some 32), (.some (28, true)), (.invoke "Less" (.tmp 29) [(.tmp 30), (.tmp 31)])⟩, .no, [(.one .bool)]⟩, ⟨⟨(.some 33), .none, (.pick (.tmp 28) (.tmp 32) (.con (.bool false)))⟩, .no, []⟩]) (.cond (.tmp 33) (.region [⟨⟨(.some 34), .none, (.move (.tmp 10))⟩, .no, []⟩, ⟨⟨(.some 9), .none, (.move (.tmp 34))⟩, .no, []⟩]) .skip))) (.seq (.seq (.region [⟨⟨(.some 35), .none, (.move (.tmp 0))⟩, .no, []⟩, ⟨⟨(.some 36), .none, (.move (.tmp 9))⟩, .no, []⟩, ⟨⟨(.some 37), .none, (.move (.tmp 7))⟩, .no, []⟩, ⟨⟨(.some 38), .none, (.invoke "Less" (.tmp 35) [(.tmp 36), (.tmp 37)])⟩, .no, [(.one .bool)]⟩, ⟨⟨(.some 39), .none, (.un .not (.tmp 38))⟩, .no, []⟩]) (.cond (.tmp 39) (.exit 0) .skip)) (.seq (.region [⟨⟨(.some 40), .none, (.move (.tmp 0))⟩, .no, []⟩, ⟨⟨(.some 41), .none, (.move (.tmp 7))⟩, .no, []⟩, ⟨⟨(.some 42), .none, (.move (.tmp 9))⟩, .no, []⟩, ⟨⟨(.some 43), .none, (.invoke "Swap" (.tmp 40) [(.tmp 41), (.tmp 42)])⟩, .no, []⟩]) (.region [⟨⟨(.some 44), .none, (.move (.tmp 9))⟩, .no, []⟩, ⟨⟨(.some 7), .none, (.move (.tmp 44))⟩, .no, []⟩])))))))))) (.seq (.region [⟨⟨(.some 45), .none, (.move (.tmp 7))⟩, .no, []⟩, ⟨⟨(.some 46), .none, (.move (.tmp 1))⟩, .no, []⟩, ⟨⟨(.some 47), .none, (.bin .gtr (.tmp 45) (.tmp 46))⟩, .no, []⟩, ⟨⟨(.some 6), .none, (.move (.tmp 47))⟩, .no, []⟩]) .ret))))
theorem container_heap_down.er (N : Nat → Nat) : (container_heap_down.T N).erase = (container_heap_down.F N).body := by kernel_rfl
theorem container_heap_down.okL (N : Nat → Nat) : (container_heap_down.T N).okL = true := by kernel_rfl
def container_heap_down.p (P : Program) (N : Nat → Nat) (x0 : V) (x1 : Int) (x2 : Int) (S : St) (K : Bool → St → Prop) : Prop :=
  Loop1 (fun (k1 : Int → St → Prop) (x7 : Int) (S1 : St) =>
   setI (IntKind.i64.wrap ((2 : Int) * x7)) fun (x13 : Int) =>
   setI (IntKind.i64.wrap (x13 + (1 : Int))) fun (x14 : Int) =>
   Join0 (fun (k2 : St → Prop) =>
    ifC (decide (x2 ≤ x14))
    (K (decide (x1 < x7)) S1)
    (ifC (decide (x14 < (0 : Int)))
    (K (decide (x1 < x7)) S1)
    (k2  S1)))
   (fun (S2 : St) =>
    Join1 (fun (k3 : Int → St → Prop) =>
     setI (IntKind.i64.wrap (x14 + (1 : Int))) fun (x24 : Int) =>
     ifC (decide (x24 < x2))
     (ifS (invokeV (envP P) S2 "Less" x0 [(V.int .i64 x24), (V.int .i64 x14)]) fun (xf : FuncId × List V) =>
     CallA P xf.1 xf.2 S2 (retT [(.one .bool)] fun (x32 : Bool) (S4 : St) =>
     ifC x32
     (k3 x24 S4)
     (k3 x14 S4)))
     (k3 x14 S2))
    (fun (x9 : Int) (S3 : St) =>
     ifS (invokeV (envP P) S3 "Less" x0 [(V.int .i64 x9), (V.int .i64 x7)]) fun (xf_1 : FuncId × List V) =>
     CallA P xf_1.1 xf_1.2 S3 (retT [(.one .bool)] fun (x38 : Bool) (S5 : St) =>
     ifC (!x38)
     (K (decide (x1 < x7)) S5)
     (ifS (invokeV (envP P) S5 "Swap" x0 [(V.int .i64 x7), (V.int .i64 x9)]) fun (xf_2 : FuncId × List V) =>
      CallA P xf_2.1 xf_2.2 S5 (retT [] fun (S6 : St) =>
      k1 x9 S6))))))
  x1 S
theorem container_heap_down.eq (P : Program) (N : Nat → Nat) (x0 : V) (x1 : Int) (x2 : Int) (S : St) (K : Bool → St → Prop) : wpT P (envP P) (container_heap_down.T N) (endT (container_heap_down.F N).results [(.one .bool)] K) (startT [x0, (V.int .i64 x1), (V.int .i64 x2)] ++ List.replicate ((container_heap_down.F N).nt - 3) .none) S = container_heap_down.p P N x0 x1 x2 S K := by kernel_rfl
abbrev container_heap_down.Ok (P : Program) (N : Nat → Nat) : Prop := afun P (N Fn.container_heap_down) = some (container_heap_down.F N)
theorem container_heap_down.run {P : Program} {N : Nat → Nat} (hF : container_heap_down.Ok P N) {x0 : V} {x1 : Int} {x2 : Int} {S : St} {K : Bool → St → Prop} (h : container_heap_down.p P N x0 x1 x2 S K) : CallA P (N Fn.container_heap_down) [x0, (V.int .i64 x1), (V.int .i64 x2)] S (retT [(.one .bool)] K) :=
  CallA.of_TP hF (container_heap_down.er N) (container_heap_down.okL N) (Eq.mpr (container_heap_down.eq P N x0 x1 x2 S K) h)

end Go.Th.L
