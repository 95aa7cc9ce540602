/- What the row of one statement stands on: a store, abstract code, functions of the program and their laws (ThGwide, ThGcmp). -/
import Derived.Test.YtkmmkfiekamgpaaGreatDoorThBGref22

section
/- Functions of wide, read without frames (printed by tools/lib.py). -/
set_option linter.unusedVariables false
set_option maxRecDepth 100000
set_option maxHeartbeats 2000000
namespace Go.Th.L
open Go Go.Th

def wide_Cmp.p (P : Program) (N : Nat → Nat) (x0_a : Int) (x0_b : Int) (x1_a : Int) (x1_b : Int) (S : St) (K : Int → St → Prop) : Prop :=
  newS S (.cells [(V.int .u64 x0_a), (V.int .u64 x0_b)] true) fun S1 => newS S1 (.cells [(V.int .u64 x1_a), (V.int .u64 x1_b)] true) fun S2 => ∃ x6_a x6_b : Int, loadNV S2 2 (V.ptr S.next 0) = some (V.agg [(V.int .u64 x6_a), (V.int .u64 x6_b)]) ∧ ∃ x7_a x7_b : Int, loadNV S2 2 (V.ptr S1.next 0) = some (V.agg [(V.int .u64 x7_a), (V.int .u64 x7_b)]) ∧ ∃ x8 : Bool, eqV 6 [1, 1] (V.agg [(V.int .u64 x6_a), (V.int .u64 x6_b)]) (V.agg [(V.int .u64 x7_a), (V.int .u64 x7_b)]) = some x8 ∧ ifC x8 (K 0 S2) (∃ x11 : Int, loadV S2 (V.ptr S.next 0) = some (V.int .u64 x11) ∧ ∃ x13 : Int, loadV S2 (V.ptr S1.next 0) = some (V.int .u64 x13) ∧ ifC (decide (x11 < x13)) (K (-1) S2) (∃ x17 : Int, loadV S2 (V.ptr S.next 0) = some (V.int .u64 x17) ∧ ∃ x19 : Int, loadV S2 (V.ptr S1.next 0) = some (V.int .u64 x19) ∧ ifC (decide (x17 = x19)) (∃ x23 : Int, loadV S2 (V.ptr S.next 1) = some (V.int .u64 x23) ∧ ∃ x25 : Int, loadV S2 (V.ptr S1.next 1) = some (V.int .u64 x25) ∧ ifC (decide (x23 < x25)) (K (-1) S2) (K 1 S2)) (K 1 S2)))
abbrev wide_Cmp.Ok (P : Program) (N : Nat → Nat) : Prop := Reads P (N Fn.wide_Cmp) [(3, (.dt (.agg [(.int .u64), (.int .u64)])), []), (0, (.dt (.agg [(.int .u64), (.int .u64)])), []), (4, (.dt (.one (.int .u64))), []), (1, (.dt (.one (.int .u64))), []), (3, (.dt (.one (.int .u64))), []), (1, (.dt (.one (.int .u64))), []), (3, (.dt (.one (.int .u64))), []), (1, (.dt (.one (.int .u64))), [])] [] [] (fun A T (x0_a : Int) (x0_b : Int) (x1_a : Int) (x1_b : Int) (S : St) (K : Int → St → Prop) => wpT P (envP P) T (endT A.results [(.one (.int .i64))] K) (frT A [(V.agg [(V.int .u64 x0_a), (V.int .u64 x0_b)]), (V.agg [(V.int .u64 x1_a), (V.int .u64 x1_b)])]) S) (fun x0_a x0_b x1_a x1_b S K => wide_Cmp.p P N x0_a x0_b x1_a x1_b S K)
theorem wide_Cmp.run {P : Program} {N : Nat → Nat} (hF : wide_Cmp.Ok P N) {x0_a : Int} {x0_b : Int} {x1_a : Int} {x1_b : Int} {S : St} {K : Int → St → Prop} (h : wide_Cmp.p P N x0_a x0_b x1_a x1_b S K) : CallA P (N Fn.wide_Cmp) [(V.agg [(V.int .u64 x0_a), (V.int .u64 x0_b)]), (V.agg [(V.int .u64 x1_a), (V.int .u64 x1_b)])] S (retT [(.one (.int .i64))] K) := hF.run (fun q => q x0_a x0_b x1_a x1_b S K) h rfl

def wide_Sqrt.p (P : Program) (N : Nat → Nat) (x0_a : Int) (x0_b : Int) (S : St) (K : Int → St → Prop) : Prop :=
  newS S (.cells [(V.int .u64 x0_a), (V.int .u64 x0_b)] true) fun S1 => Loop2 (fun (k1 : Int → Int → St → Prop) (x3 : Int) (x4 : Int) (S2 : St) => Join1 (fun (k2 : Int → St → Prop) => setI (intBits .or .u64 x3 x4) fun x8 => ∃ x12_a x12_b : Int, loadNV S2 2 (V.ptr S.next 0) = some (V.agg [(V.int .u64 x12_a), (V.int .u64 x12_b)]) ∧ CallA P (N Fn.wide_Mul) [(V.int .u64 x8), (V.int .u64 x8)] S2 (retT [(.agg [(.int .u64), (.int .u64)])] fun (x11_a : Int) (x11_b : Int) (S4 : St) => Same (S.next :: []) S2 S4 ∧ CallA P (N Fn.wide_Cmp) [(V.agg [(V.int .u64 x11_a), (V.int .u64 x11_b)]), (V.agg [(V.int .u64 x12_a), (V.int .u64 x12_b)])] S4 (retT [(.one (.int .i64))] fun (x13 : Int) (S5 : St) => ifC (decide (x13 ≤ (0 : Int))) (k2 x8 S5) (k2 x3 S5)))) (fun (x3_1 : Int) (S3 : St) => ifC (decide (x4 = (1 : Int))) (K x3_1 S3) (0 ≤ (1 : Int) ∧ setI (Int.fdiv x4 (2 ^ (min (Int.toNat (1 : Int)) (IntKind.bits .u64)))) fun x19 => k1 x3_1 x19 S3))) 0 9223372036854775808 S1
abbrev wide_Sqrt.Ok (P : Program) (N : Nat → Nat) : Prop := Reads P (N Fn.wide_Sqrt) [(10, (.dt (.agg [(.int .u64), (.int .u64)])), []), (0, .no, [(.agg [(.int .u64), (.int .u64)])]), (0, .no, [(.one (.int .i64))])] [(5, [(3, (.one (.int .u64)))])] [[(3, (.one (.int .u64))), (4, (.one (.int .u64)))]] (fun A T (x0_a : Int) (x0_b : Int) (S : St) (K : Int → St → Prop) => wpT P (envP P) T (endT A.results [(.one (.int .u64))] K) (frT A [(V.agg [(V.int .u64 x0_a), (V.int .u64 x0_b)])]) S) (fun x0_a x0_b S K => wide_Sqrt.p P N x0_a x0_b S K)
theorem wide_Sqrt.run {P : Program} {N : Nat → Nat} (hF : wide_Sqrt.Ok P N) {x0_a : Int} {x0_b : Int} {S : St} {K : Int → St → Prop} (h : wide_Sqrt.p P N x0_a x0_b S K) : CallA P (N Fn.wide_Sqrt) [(V.agg [(V.int .u64 x0_a), (V.int .u64 x0_b)])] S (retT [(.one (.int .u64))] K) := hF.run (fun q => q x0_a x0_b S K) h rfl

def wide_Mul.p (P : Program) (N : Nat → Nat) (x0 : Int) (x1 : Int) (S : St) (K : Int → Int → St → Prop) : Prop :=
  newS S (.cells [(V.int .u64 0), (V.int .u64 0)] true) fun S1 => CallA P (N Fn.math_bits_Mul64) [(V.int .u64 x0), (V.int .u64 x1)] S1 (retT [(.one (.int .u64)), (.one (.int .u64))] fun (x10a : Int) (x10b : Int) (S2 : St) => ifS (storeV S2 2 (V.ptr S.next 0) (V.agg [(V.int .u64 x10a), (V.int .u64 x10b)])) fun S3 => ∃ xr_a xr_b : Int, cellNV S3 2 (V.ptr S.next 0) = some (V.agg [(V.int .u64 xr_a), (V.int .u64 xr_b)]) ∧ K xr_a xr_b S3)
abbrev wide_Mul.Ok (P : Program) (N : Nat → Nat) : Prop := Reads P (N Fn.wide_Mul) [(3, .no, [(.one (.int .u64)), (.one (.int .u64))]), (7, (.dt (.agg [(.int .u64), (.int .u64)])), [])] [] [] (fun A T (x0 : Int) (x1 : Int) (S : St) (K : Int → Int → St → Prop) => wpT P (envP P) T (endT A.results [(.agg [(.int .u64), (.int .u64)])] K) (frT A [(V.int .u64 x0), (V.int .u64 x1)]) S) (fun x0 x1 S K => wide_Mul.p P N x0 x1 S K)
theorem wide_Mul.run {P : Program} {N : Nat → Nat} (hF : wide_Mul.Ok P N) {x0 : Int} {x1 : Int} {S : St} {K : Int → Int → St → Prop} (h : wide_Mul.p P N x0 x1 S K) : CallA P (N Fn.wide_Mul) [(V.int .u64 x0), (V.int .u64 x1)] S (retT [(.agg [(.int .u64), (.int .u64)])] K) := hF.run (fun q => q x0 x1 S K) h rfl

def wide_Add.p (P : Program) (N : Nat → Nat) (x0_a : Int) (x0_b : Int) (x1_a : Int) (x1_b : Int) (S : St) (K : Int → Int → Int → St → Prop) : Prop :=
  newS S (.cells [(V.int .u64 x0_a), (V.int .u64 x0_b)] true) fun S1 => newS S1 (.cells [(V.int .u64 x1_a), (V.int .u64 x1_b)] true) fun S2 => newS S2 (.cells [(V.int .u64 0), (V.int .u64 0)] true) fun S3 => ∃ x11 : Int, loadV S3 (V.ptr S.next 1) = some (V.int .u64 x11) ∧ ∃ x13 : Int, loadV S3 (V.ptr S1.next 1) = some (V.int .u64 x13) ∧ ∃ x14a x14b : Int, extV 0 [(V.int .u64 x11), (V.int .u64 x13), (V.int .u64 0)] = some (V.tuple [(V.int .u64 x14a), (V.int .u64 x14b)]) ∧ ∃ x19 : Int, loadV S3 (V.ptr S.next 0) = some (V.int .u64 x19) ∧ ∃ x21 : Int, loadV S3 (V.ptr S1.next 0) = some (V.int .u64 x21) ∧ ∃ x23a x23b : Int, extV 0 [(V.int .u64 x19), (V.int .u64 x21), (V.int .u64 x14b)] = some (V.tuple [(V.int .u64 x23a), (V.int .u64 x23b)]) ∧ ifC (decide ((0 : Int) < x23b)) (ifS (storeV S3 2 (V.ptr S2.next 0) (V.agg [(V.int .u64 0), (V.int .u64 0)])) fun S4 => ∃ xr_a xr_b : Int, cellNV S4 2 (V.ptr S2.next 0) = some (V.agg [(V.int .u64 xr_a), (V.int .u64 xr_b)]) ∧ K xr_a xr_b 10 S4) (ifS (storeV S3 2 (V.ptr S2.next 0) (V.agg [(V.int .u64 x23a), (V.int .u64 x14a)])) fun S5 => ∃ xr_a_1 xr_b_1 : Int, cellNV S5 2 (V.ptr S2.next 0) = some (V.agg [(V.int .u64 xr_a_1), (V.int .u64 xr_b_1)]) ∧ K xr_a_1 xr_b_1 0 S5)
abbrev wide_Add.Ok (P : Program) (N : Nat → Nat) : Prop := Reads P (N Fn.wide_Add) [(5, (.dt (.one (.int .u64))), []), (1, (.dt (.one (.int .u64))), []), (0, (.tup [(.one (.int .u64)), (.one (.int .u64))]), []), (6, (.dt (.one (.int .u64))), []), (1, (.dt (.one (.int .u64))), []), (1, (.tup [(.one (.int .u64)), (.one (.int .u64))]), []), (7, (.dt (.agg [(.int .u64), (.int .u64)])), []), (4, (.dt (.agg [(.int .u64), (.int .u64)])), [])] [] [] (fun A T (x0_a : Int) (x0_b : Int) (x1_a : Int) (x1_b : Int) (S : St) (K : Int → Int → Int → St → Prop) => wpT P (envP P) T (endT A.results [(.agg [(.int .u64), (.int .u64)]), (.one (.int .i64))] K) (frT A [(V.agg [(V.int .u64 x0_a), (V.int .u64 x0_b)]), (V.agg [(V.int .u64 x1_a), (V.int .u64 x1_b)])]) S) (fun x0_a x0_b x1_a x1_b S K => wide_Add.p P N x0_a x0_b x1_a x1_b S K)
theorem wide_Add.run {P : Program} {N : Nat → Nat} (hF : wide_Add.Ok P N) {x0_a : Int} {x0_b : Int} {x1_a : Int} {x1_b : Int} {S : St} {K : Int → Int → Int → St → Prop} (h : wide_Add.p P N x0_a x0_b x1_a x1_b S K) : CallA P (N Fn.wide_Add) [(V.agg [(V.int .u64 x0_a), (V.int .u64 x0_b)]), (V.agg [(V.int .u64 x1_a), (V.int .u64 x1_b)])] S (retT [(.agg [(.int .u64), (.int .u64)]), (.one (.int .i64))] K) := hF.run (fun q => q x0_a x0_b x1_a x1_b S K) h rfl

end Go.Th.L
end

section
/- Functions of cmp, read without frames (printed by tools/lib.py). -/
set_option linter.unusedVariables false
set_option maxRecDepth 100000
set_option maxHeartbeats 2000000
namespace Go.Th.L
open Go Go.Th

def cmp_Or_int.p (P : Program) (N : Nat → Nat) (x0 : V) (S : St) (K : Int → St → Prop) : Prop :=
  ∃ x7 : Int, lenV S 2 x0 = some (V.int .i64 x7) ∧ Loop1 (fun (k1 : Int → St → Prop) (x8 : Int) (S1 : St) => ifC (decide (x8 < x7)) (ifS (idxAddrV 1 x0 (V.int .i64 x8)) fun x10 => ∃ x11 : Int, loadV S1 x10 = some (V.int .i64 x11) ∧ ifC (!decide (x11 = (0 : Int))) (K x11 S1) (setI (IntKind.i64.wrap (x8 + (1 : Int))) fun x16 => k1 x16 S1)) (K 0 S1)) 0 S
abbrev cmp_Or_int.Ok (P : Program) (N : Nat → Nat) : Prop := Reads P (N Fn.cmp_Or_int) [(3, (.dt (.one (.int .i64))), []), (3, (.dt (.one (.int .i64))), [])] [] [[(8, (.one (.int .i64)))]] (fun A T (x0 : V) (S : St) (K : Int → St → Prop) => wpT P (envP P) T (endT A.results [(.one (.int .i64))] K) (frT A [x0]) S) (fun x0 S K => cmp_Or_int.p P N x0 S K)
theorem cmp_Or_int.run {P : Program} {N : Nat → Nat} (hF : cmp_Or_int.Ok P N) {x0 : V} {S : St} {K : Int → St → Prop} (h : cmp_Or_int.p P N x0 S K) : CallA P (N Fn.cmp_Or_int) [x0] S (retT [(.one (.int .i64))] K) := hF.run (fun q => q x0 S K) h rfl

def cmp_Compare_int.p (P : Program) (N : Nat → Nat) (x0 : Int) (x1 : Int) (S : St) (K : Int → St → Prop) : Prop :=
  CallA P (N Fn.cmp_isNaN_int) [(V.int .i64 x0)] S (retT [(.one .bool)] fun (x8 : Bool) (S1 : St) => CallA P (N Fn.cmp_isNaN_int) [(V.int .i64 x1)] S1 (retT [(.one .bool)] fun (x10 : Bool) (S2 : St) => ifC x8 (ifC x10 (K 0 S2) (K (-1) S2)) (ifC x10 (K 1 S2) (ifC (decide (x0 < x1)) (K (-1) S2) (ifC (decide (x1 < x0)) (K 1 S2) (K 0 S2))))))
abbrev cmp_Compare_int.Ok (P : Program) (N : Nat → Nat) : Prop := Reads P (N Fn.cmp_Compare_int) [(2, .no, [(.one .bool)]), (2, .no, [(.one .bool)])] [] [] (fun A T (x0 : Int) (x1 : Int) (S : St) (K : Int → St → Prop) => wpT P (envP P) T (endT A.results [(.one (.int .i64))] K) (frT A [(V.int .i64 x0), (V.int .i64 x1)]) S) (fun x0 x1 S K => cmp_Compare_int.p P N x0 x1 S K)
theorem cmp_Compare_int.run {P : Program} {N : Nat → Nat} (hF : cmp_Compare_int.Ok P N) {x0 : Int} {x1 : Int} {S : St} {K : Int → St → Prop} (h : cmp_Compare_int.p P N x0 x1 S K) : CallA P (N Fn.cmp_Compare_int) [(V.int .i64 x0), (V.int .i64 x1)] S (retT [(.one (.int .i64))] K) := hF.run (fun q => q x0 x1 S K) h rfl

def cmp_isNaN_int.p (P : Program) (N : Nat → Nat) (x0 : Int) (S : St) (K : Bool → St → Prop) : Prop :=
  K (!decide (x0 = x0)) S
abbrev cmp_isNaN_int.Ok (P : Program) (N : Nat → Nat) : Prop := Reads P (N Fn.cmp_isNaN_int) [] [] [] (fun A T (x0 : Int) (S : St) (K : Bool → St → Prop) => wpT P (envP P) T (endT A.results [(.one .bool)] K) (frT A [(V.int .i64 x0)]) S) (fun x0 S K => cmp_isNaN_int.p P N x0 S K)
theorem cmp_isNaN_int.run {P : Program} {N : Nat → Nat} (hF : cmp_isNaN_int.Ok P N) {x0 : Int} {S : St} {K : Bool → St → Prop} (h : cmp_isNaN_int.p P N x0 S K) : CallA P (N Fn.cmp_isNaN_int) [(V.int .i64 x0)] S (retT [(.one .bool)] K) := hF.run (fun q => q x0 S K) h rfl

def cmp_Less_int.p (P : Program) (N : Nat → Nat) (x0 : Int) (x1 : Int) (S : St) (K : Bool → St → Prop) : Prop :=
  CallA P (N Fn.cmp_isNaN_int) [(V.int .i64 x0)] S (retT [(.one .bool)] fun (x6 : Bool) (S1 : St) => ifC x6 (CallA P (N Fn.cmp_isNaN_int) [(V.int .i64 x1)] S1 (retT [(.one .bool)] fun (x9 : Bool) (S2 : St) => ifC (!x9) (K true S2) (K (decide (x0 < x1)) S2))) (K (decide (x0 < x1)) S1))
abbrev cmp_Less_int.Ok (P : Program) (N : Nat → Nat) : Prop := Reads P (N Fn.cmp_Less_int) [(2, .no, [(.one .bool)]), (2, .no, [(.one .bool)])] [] [] (fun A T (x0 : Int) (x1 : Int) (S : St) (K : Bool → St → Prop) => wpT P (envP P) T (endT A.results [(.one .bool)] K) (frT A [(V.int .i64 x0), (V.int .i64 x1)]) S) (fun x0 x1 S K => cmp_Less_int.p P N x0 x1 S K)
theorem cmp_Less_int.run {P : Program} {N : Nat → Nat} (hF : cmp_Less_int.Ok P N) {x0 : Int} {x1 : Int} {S : St} {K : Bool → St → Prop} (h : cmp_Less_int.p P N x0 x1 S K) : CallA P (N Fn.cmp_Less_int) [(V.int .i64 x0), (V.int .i64 x1)] S (retT [(.one .bool)] K) := hF.run (fun q => q x0 x1 S K) h rfl

end Go.Th.L
end
