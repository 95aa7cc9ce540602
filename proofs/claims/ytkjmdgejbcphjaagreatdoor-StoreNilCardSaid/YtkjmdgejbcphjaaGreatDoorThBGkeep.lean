/- What the row of one statement stands on: a store, abstract code, functions of the program and their laws (ThGkeep). -/
import Derived.Test.YtkjmdgejbcphjaaGreatDoorThBGref16

section
/- Functions of keep, read without frames (printed by tools/lib.py). -/
set_option linter.unusedVariables false
set_option maxRecDepth 100000
set_option maxHeartbeats 2000000
namespace Go.Th.L
open Go Go.Th

def keep_Bytes.p (P : Program) (N : Nat → Nat) (x0 : V) (x1 : V) (S : St) (K : Bool → St → Prop) : Prop :=
  ∃ x7 : Int, lenV S 2 x0 = some (V.int .i64 x7) ∧ ∃ x9 : Int, lenV S 2 x1 = some (V.int .i64 x9) ∧ ifC (!decide (x7 = x9)) (K false S) (Loop1 (fun (k1 : Int → St → Prop) (x5 : Int) (S1 : St) => ∃ x13 : Int, lenV S1 2 x0 = some (V.int .i64 x13) ∧ ifC (decide (x5 < x13)) (ifS (idxAddrV 1 x0 (V.int .i64 x5)) fun x19 => ∃ x20 : Int, loadV S1 x19 = some (V.int .u8 x20) ∧ ifS (idxAddrV 1 x1 (V.int .i64 x5)) fun x23 => ∃ x24 : Int, loadV S1 x23 = some (V.int .u8 x24) ∧ ifC (!decide (x20 = x24)) (K false S1) (setI (IntKind.i64.wrap (x5 + (1 : Int))) fun x16 => k1 x16 S1)) (K true S1)) 0 S)
abbrev keep_Bytes.Ok (P : Program) (N : Nat → Nat) : Prop := Reads P (N Fn.keep_Bytes) [(2, (.dt (.one (.int .i64))), []), (1, (.dt (.one (.int .i64))), []), (5, (.dt (.one (.int .i64))), []), (4, (.dt (.one (.int .u8))), []), (3, (.dt (.one (.int .u8))), [])] [] [[(5, (.one (.int .i64)))]] (fun A T (x0 : V) (x1 : V) (S : St) (K : Bool → St → Prop) => wpT P (envP P) T (endT A.results [(.one .bool)] K) (frT A [x0, x1]) S) (fun x0 x1 S K => keep_Bytes.p P N x0 x1 S K)
end Go.Th.L
end
