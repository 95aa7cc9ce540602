/- What the row of one statement stands on: a store, abstract code, functions of the program and their laws (ThGflat, ThGref05). -/
import Derived.Test.YtmaocfcjbabelaaThBGref01

section
/- Functions of flat, read without frames (printed by tools/lib.py). -/
set_option linter.unusedVariables false
set_option maxRecDepth 100000
set_option maxHeartbeats 2000000
namespace Go.Th.L
open Go Go.Th

def flat_Check.p (P : Program) (N : Nat → Nat) (x0 : V) (x1 : Int) (S : St) (K : Int → St → Prop) : Prop :=
  Join1 (fun (k1 : Bool → St → Prop) => ifC (decide (x1 < (1 : Int))) (k1 true S) (k1 (decide ((64 : Int) < x1)) S)) (fun (x9 : Bool) (S1 : St) => ifC x9 (K 30 S1) (∃ x18 : Int, lenV S1 2 x0 = some (V.int .i64 x18) ∧ ifC (decide ((512 : Int) < x18)) (K 2 S1) (newS S1 (.map [] true) fun S2 => ∃ x22 : Int, lenV S2 2 x0 = some (V.int .i64 x22) ∧ Loop1 (fun (k2 : Int → St → Prop) (x23 : Int) (S3 : St) => ifC (decide (x23 < x22)) (ifS (idxAddrV 2 x0 (V.int .i64 x23)) fun x25 => ∃ x26_a : Int, ∃ x26_b : V, loadNV S3 2 x25 = some (V.agg [(V.int .i64 x26_a), x26_b]) ∧ newS S3 (.cells [(V.int .i64 0), V.nilSlice] true) fun S4 => ifS (storeV S4 2 (V.ptr S3.next 0) (V.agg [(V.int .i64 x26_a), x26_b])) fun S5 => Join0 (fun (k3 : St → Prop) => ∃ x28 : Int, loadV S5 (V.ptr S3.next 0) = some (V.int .i64 x28) ∧ ifC (decide (x28 < (1 : Int))) (K 50 S5) (∃ x32 : Int, loadV S5 (V.ptr S3.next 0) = some (V.int .i64 x32) ∧ ifC (decide ((1000000000 : Int) < x32)) (K 50 S5) (∃ x38 : Int, loadV S5 (V.ptr S3.next 0) = some (V.int .i64 x38) ∧ ∃ x39 : Bool, lookupV S5 1 (V.bool false) false (V.map S1.next) (V.int .i64 x38) = some (V.bool x39) ∧ ifC x39 (K 50 S5) (k3  S5)))) (fun (S6 : St) => ifS (loadV S6 (V.ptr S3.next 1)) fun x42 => CallA P (N Fn.vec_Check) [x42, (V.int .i64 x1)] S6 (retT [(.one (.int .i64))] fun (x44 : Int) (S7 : St) => ifC (!decide (x44 = (0 : Int))) (K x44 S7) (∃ x50 : Int, loadV S7 (V.ptr S3.next 0) = some (V.int .i64 x50) ∧ ifS (mapUpdV S7 1 (V.map S1.next) (V.int .i64 x50) (V.bool true)) fun S8 => setI (IntKind.i64.wrap (x23 + (1 : Int))) fun x51 => k2 x51 S8)))) (K 0 S3)) 0 S2)))
abbrev flat_Check.Ok (P : Program) (N : Nat → Nat) : Prop := Reads P (N Fn.flat_Check) [(10, (.dt (.one (.int .i64))), []), (6, (.dt (.one (.int .i64))), []), (3, (.dt (.agg [(.int .i64), .any])), []), (3, (.dt (.one (.int .i64))), []), (3, (.dt (.one (.int .i64))), []), (5, (.dt (.one (.int .i64))), []), (0, (.dt (.one .bool)), []), (5, .no, [(.one (.int .i64))]), (7, (.dt (.one (.int .i64))), [])] [(2, [(9, (.one .bool))]), (10, [])] [[(23, (.one (.int .i64)))]] (fun A T (x0 : V) (x1 : Int) (S : St) (K : Int → St → Prop) => wpT P (envP P) T (endT A.results [(.one (.int .i64))] K) (frT A [x0, (V.int .i64 x1)]) S) (fun x0 x1 S K => flat_Check.p P N x0 x1 S K)
theorem flat_Check.run {P : Program} {N : Nat → Nat} (hF : flat_Check.Ok P N) {x0 : V} {x1 : Int} {S : St} {K : Int → St → Prop} (h : flat_Check.p P N x0 x1 S K) : CallA P (N Fn.flat_Check) [x0, (V.int .i64 x1)] S (retT [(.one (.int .i64))] K) := hF.run (fun q => q x0 x1 S K) h rfl

end Go.Th.L
end

section
/- Functions of ref05, read without frames (printed by tools/lib.py). -/
set_option linter.unusedVariables false
set_option maxRecDepth 100000
set_option maxHeartbeats 2000000
namespace Go.Th.L
open Go Go.Th

def ref05_Check.p (P : Program) (N : Nat → Nat) (x0 : V) (x1 : Int) (S : St) (K : Int → St → Prop) : Prop :=
  ifC (decide (x1 < (1 : Int))) (K 30 S) (ifC (decide ((64 : Int) < x1)) (K 30 S) (CallA P (N Fn.ref03_Rows) [x0, (V.int .i64 x1)] S (retT [(.one (.int .i64))] fun (x13 : Int) (S1 : St) => K x13 S1)))
abbrev ref05_Check.Ok (P : Program) (N : Nat → Nat) : Prop := Reads P (N Fn.ref05_Check) [(10, .no, [(.one (.int .i64))])] [] [] (fun A T (x0 : V) (x1 : Int) (S : St) (K : Int → St → Prop) => wpT P (envP P) T (endT A.results [(.one (.int .i64))] K) (frT A [x0, (V.int .i64 x1)]) S) (fun x0 x1 S K => ref05_Check.p P N x0 x1 S K)
theorem ref05_Check.run {P : Program} {N : Nat → Nat} (hF : ref05_Check.Ok P N) {x0 : V} {x1 : Int} {S : St} {K : Int → St → Prop} (h : ref05_Check.p P N x0 x1 S K) : CallA P (N Fn.ref05_Check) [x0, (V.int .i64 x1)] S (retT [(.one (.int .i64))] K) := hF.run (fun q => q x0 x1 S K) h rfl

end Go.Th.L
end
