/- What the row of one statement stands on: a store, abstract code, functions of the program and their laws (ThGslicesByte). -/
import Derived.Test.YtkmmkfiekamgpaaGreatDoorThBGref22

section
/- Functions of slicesByte, read without frames (printed by tools/lib.py). -/
set_option linter.unusedVariables false
set_option maxRecDepth 100000
set_option maxHeartbeats 2000000
namespace Go.Th.L
open Go Go.Th

def slices_ContainsFunc_Lbyte.p (P : Program) (N : Nat → Nat) (x0 : V) (x1 : V) (S : St) (K : Bool → St → Prop) : Prop :=
  CallA P (N Fn.slices_IndexFunc_Lbyte) [x0, x1] S (retT [(.one (.int .i64))] fun (x7 : Int) (S1 : St) => K (decide ((0 : Int) ≤ x7)) S1)
abbrev slices_ContainsFunc_Lbyte.Ok (P : Program) (N : Nat → Nat) : Prop := Reads P (N Fn.slices_ContainsFunc_Lbyte) [(3, .no, [(.one (.int .i64))])] [] [] (fun A T (x0 : V) (x1 : V) (S : St) (K : Bool → St → Prop) => wpT P (envP P) T (endT A.results [(.one .bool)] K) (frT A [x0, x1]) S) (fun x0 x1 S K => slices_ContainsFunc_Lbyte.p P N x0 x1 S K)
theorem slices_ContainsFunc_Lbyte.run {P : Program} {N : Nat → Nat} (hF : slices_ContainsFunc_Lbyte.Ok P N) {x0 : V} {x1 : V} {S : St} {K : Bool → St → Prop} (h : slices_ContainsFunc_Lbyte.p P N x0 x1 S K) : CallA P (N Fn.slices_ContainsFunc_Lbyte) [x0, x1] S (retT [(.one .bool)] K) := hF.run (fun q => q x0 x1 S K) h rfl

def slices_IndexFunc_Lbyte.p (P : Program) (N : Nat → Nat) (x0 : V) (x1 : V) (S : St) (K : Int → St → Prop) : Prop :=
  ∃ x7 : Int, lenV S 2 x0 = some (V.int .i64 x7) ∧ Loop1 (fun (k1 : Int → St → Prop) (x8 : Int) (S1 : St) => ifC (decide (x8 < x7)) (ifS (idxAddrV 1 x0 (V.int .i64 x8)) fun x14 => ∃ x15 : Int, loadV S1 x14 = some (V.int .u8 x15) ∧ ifS (calleeV (envP P) x1 [(V.int .u8 x15)]) fun xf => CallA P xf.1 xf.2 S1 (retT [(.one .bool)] fun (x16 : Bool) (S2 : St) => ifC x16 (K x8 S2) (setI (IntKind.i64.wrap (x8 + (1 : Int))) fun x18 => k1 x18 S2))) (K (-1) S1)) 0 S
abbrev slices_IndexFunc_Lbyte.Ok (P : Program) (N : Nat → Nat) : Prop := Reads P (N Fn.slices_IndexFunc_Lbyte) [(2, (.dt (.one (.int .i64))), []), (8, (.dt (.one (.int .u8))), []), (0, .no, [(.one .bool)])] [] [[(8, (.one (.int .i64)))]] (fun A T (x0 : V) (x1 : V) (S : St) (K : Int → St → Prop) => wpT P (envP P) T (endT A.results [(.one (.int .i64))] K) (frT A [x0, x1]) S) (fun x0 x1 S K => slices_IndexFunc_Lbyte.p P N x0 x1 S K)
theorem slices_IndexFunc_Lbyte.run {P : Program} {N : Nat → Nat} (hF : slices_IndexFunc_Lbyte.Ok P N) {x0 : V} {x1 : V} {S : St} {K : Int → St → Prop} (h : slices_IndexFunc_Lbyte.p P N x0 x1 S K) : CallA P (N Fn.slices_IndexFunc_Lbyte) [x0, x1] S (retT [(.one (.int .i64))] K) := hF.run (fun q => q x0 x1 S K) h rfl

end Go.Th.L
end
