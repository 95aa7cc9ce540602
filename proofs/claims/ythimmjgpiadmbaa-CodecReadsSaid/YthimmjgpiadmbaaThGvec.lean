/- Functions of vec, read without frames (printed by tools/lib.py). -/
import Derived.Test.YthimmjgpiadmbaaThFn
set_option linter.unusedVariables false
set_option maxRecDepth 100000
namespace Go.Th.L
open Go Go.Th

def vec_Check.F (N : Nat → Nat) : AF := ⟨29, [(.tmp 4)], (.seq (.region [⟨(.some 4), .none, (.move (.con (.int .i64 0)))⟩]) (.seq (.seq (.region [⟨(.some 7), .none, (.move (.tmp 1))⟩, ⟨(.some 8), .none, (.callF (N Fn.vec_dim) [(.tmp 7)])⟩, ⟨(.some 9), .none, (.un .not (.tmp 8))⟩, ⟨(.some 10), .none, (.move (.tmp 9))⟩, ⟨(.some 11), (.some (10, false)), (.move (.tmp 0))⟩, ⟨(.some 12), (.some (10, false)), (.len 2 (.tmp 11))⟩, ⟨(.some 13), (.some (10, false)), (.move (.tmp 1))⟩, ⟨(.some 14), (.some (10, false)), (.bin .neq (.tmp 12) (.tmp 13))⟩, ⟨(.some 15), .none, (.pick (.tmp 10) (.con (.bool true)) (.tmp 14))⟩]) (.cond (.tmp 15) (.seq (.region [⟨(.some 4), .none, (.move (.con (.int .i64 30)))⟩]) .ret) .skip)) (.seq (.seq (.region [⟨(.some 16), .none, (.move (.tmp 0))⟩, ⟨(.some 17), .none, (.len 2 (.tmp 16))⟩, ⟨(.some 18), .none, (.move (.con (.int .i64 0)))⟩]) (.block 0 (.loop (.seq (.region [⟨(.some 19), .none, (.bin .lss (.tmp 18) (.tmp 17))⟩]) (.seq (.cond (.tmp 19) .skip (.exit 0)) (.seq (.block 1 (.seq (.region [⟨(.some 20), .none, (.idxAddr 1 (.tmp 16) (.tmp 18))⟩, ⟨(.some 21), .none, (.load1 (.tmp 20))⟩, ⟨(.some 6), .none, (.move (.tmp 21))⟩]) (.seq (.region [⟨(.some 22), .none, (.move (.tmp 6))⟩, ⟨(.some 23), .none, (.bin .lss (.tmp 22) (.con (.int .i64 (-2147483647))))⟩, ⟨(.some 24), .none, (.move (.tmp 23))⟩, ⟨(.some 25), (.some (24, false)), (.move (.tmp 6))⟩, ⟨(.some 26), (.some (24, false)), (.bin .gtr (.tmp 25) (.con (.int .i64 2147483647)))⟩, ⟨(.some 27), .none, (.pick (.tmp 24) (.con (.bool true)) (.tmp 26))⟩]) (.cond (.tmp 27) (.seq (.region [⟨(.some 4), .none, (.move (.con (.int .i64 31)))⟩]) .ret) .skip)))) (.region [⟨(.some 28), .none, (.bin .add (.tmp 18) (.con (.int .i64 1)))⟩, ⟨(.some 18), .none, (.move (.tmp 28))⟩]))))))) (.seq (.region [⟨(.some 4), .none, (.move (.con (.int .i64 0)))⟩]) .ret))))⟩
def vec_Check.T (N : Nat → Nat) : TC := (.seq (.region [⟨⟨(.some 4), .none, (.move (.con (.int .i64 0)))⟩, .no, []⟩]) (.join [] (.seq (.region [⟨⟨(.some 7), .none, (.move (.tmp 1))⟩, .no, []⟩, ⟨⟨(.some 8), .none, (.callF (N Fn.vec_dim) [(.tmp 7)])⟩, .no, [(.one .bool)]⟩, ⟨⟨(.some 9), .none, (.un .not (.tmp 8))⟩, .no, []⟩, ⟨⟨(.some 10), .none, (.move (.tmp 9))⟩, .no, []⟩, ⟨⟨(.some 11), (.some (10, false)), (.move (.tmp 0))⟩, .no, []⟩, ⟨⟨(.some 12), (.some (10, false)), (.len 2 (.tmp 11))⟩, (.dt (.one (.int .i64))), []⟩, ⟨⟨(.some 13), (.some (10, false)), (.move (.tmp 1))⟩, .no, []⟩, ⟨⟨(.some 14), (.some (10, false)), (.bin .neq (.tmp 12) (.tmp 13))⟩, .no, []⟩, ⟨⟨(.some 15), .none, (.pick (.tmp 10) (.con (.bool true)) (.tmp 14))⟩, .no, []⟩]) (.cond (.tmp 15) (.seq (.region [⟨⟨(.some 4), .none, (.move (.con (.int .i64 30)))⟩, .no, []⟩]) .ret) .skip)) (.seq (.seq (.region [⟨⟨(.some 16), .none, (.move (.tmp 0))⟩, .no, []⟩, ⟨⟨(.some 17), .none, (.len 2 (.tmp 16))⟩, (.dt (.one (.int .i64))), []⟩, ⟨⟨(.some 18), .none, (.move (.con (.int .i64 0)))⟩, .no, []⟩]) (.block 0 (.loop [(18, (.one (.int .i64)))] (.seq (.region [⟨⟨(.some 19), .none, (.bin .lss (.tmp 18) (.tmp 17))⟩, .no, []⟩]) (.seq (.cond (.tmp 19) .skip (.exit 0)) (.seq (.block 1 (.seq (.region [⟨⟨(.some 20), .none, (.idxAddr 1 (.tmp 16) (.tmp 18))⟩, .no, []⟩, ⟨⟨(.some 21), .none, (.load1 (.tmp 20))⟩, (.dt (.one (.int .i64))), []⟩, ⟨⟨(.some 6), .none, (.move (.tmp 21))⟩, .no, []⟩]) (.seq (.region [⟨⟨(.some 22), .none, (.move (.tmp 6))⟩, .no, []⟩, ⟨⟨(.some 23), .none, (.bin .lss (.tmp 22) (.con (.int .i64 (-2147483647))))⟩, .no, []⟩, ⟨⟨(.some 24), .none, (.move (.tmp 23))⟩, .no, []⟩, ⟨⟨(.some 25), (.some (24, false)), (.move (.tmp 6))⟩, .no, []⟩, ⟨⟨(.some 26), (.some (24, false)), (.bin .gtr (.tmp 25) (.con (.int .i64 2147483647)))⟩, .no, []⟩, ⟨⟨(.some 27), .none, (.pick (.tmp 24) (.con (.bool true)) (.tmp 26))⟩, .no, []⟩]) (.cond (.tmp 27) (.seq (.region [⟨⟨(.some 4), .none, (.move (.con (.int .i64 31)))⟩, .no, []⟩]) .ret) .skip)))) (.region [⟨⟨(.some 28), .none, (.bin .add (.tmp 18) (.con (.int .i64 1)))⟩, .no, []⟩, ⟨⟨(.some 18), .none, (.move (.tmp 28))⟩, .no, []⟩]))))))) (.seq (.region [⟨⟨(.some 4), .none, (.move (.con (.int .i64 0)))⟩, .no, []⟩]) .ret))))
theorem vec_Check.er (N : Nat → Nat) : (vec_Check.T N).erase = (vec_Check.F N).body := by kernel_rfl
theorem vec_Check.okL (N : Nat → Nat) : (vec_Check.T N).okL = true := by kernel_rfl
def vec_Check.p (P : Program) (N : Nat → Nat) (x0 : V) (x1 : Int) (S : St) (K : Int → St → Prop) : Prop :=
  Join0 (fun (k1 : St → Prop) =>
   CallA P (N Fn.vec_dim) [(V.int .i64 x1)] S (retT [(.one .bool)] fun (x8 : Bool) (S2 : St) =>
   ifC (!x8)
   (K 30 S2)
   (∃ x12 : Int, lenV S2 2 x0 = some (V.int .i64 x12) ∧
   ifC (!decide (x12 = x1))
   (K 30 S2)
   (k1  S2))))
  (fun (S1 : St) =>
   ∃ x17 : Int, lenV S1 2 x0 = some (V.int .i64 x17) ∧
   Loop1 (fun (k2 : Int → St → Prop) (x18 : Int) (S3 : St) =>
    ifC (decide (x18 < x17))
    (ifS (idxAddrV 1 x0 (V.int .i64 x18)) fun (x20 : V) =>
     ∃ x21 : Int, loadV S3 x20 = some (V.int .i64 x21) ∧
     ifC (decide (x21 < (-2147483647 : Int)))
     (K 31 S3)
     (ifC (decide ((2147483647 : Int) < x21))
     (K 31 S3)
     (setI (IntKind.i64.wrap (x18 + (1 : Int))) fun (x28 : Int) =>
      k2 x28 S3)))
    (K 0 S3))
   0 S1)
theorem vec_Check.eq (P : Program) (N : Nat → Nat) (x0 : V) (x1 : Int) (S : St) (K : Int → St → Prop) : wpT P (canEnter P) (vec_Check.T N) (endT (vec_Check.F N).results [(.one (.int .i64))] K) (startT [x0, (V.int .i64 x1)] ++ List.replicate ((vec_Check.F N).nt - 2) .none) S = vec_Check.p P N x0 x1 S K := by kernel_rfl
abbrev vec_Check.Ok (P : Program) (N : Nat → Nat) : Prop := afun P (N Fn.vec_Check) = some (vec_Check.F N)
theorem vec_Check.run {P : Program} {N : Nat → Nat} (hF : vec_Check.Ok P N) {x0 : V} {x1 : Int} {S : St} {K : Int → St → Prop} (h : vec_Check.p P N x0 x1 S K) : CallA P (N Fn.vec_Check) [x0, (V.int .i64 x1)] S (retT [(.one (.int .i64))] K) :=
  CallA.of_TP hF (vec_Check.er N) (vec_Check.okL N) (Eq.mpr (vec_Check.eq P N x0 x1 S K) h)

def vec_dim.F (N : Nat → Nat) : AF := ⟨9, [(.tmp 2)], (.seq (.region [⟨(.some 2), .none, (.move (.con (.bool false)))⟩]) (.seq (.region [⟨(.some 3), .none, (.move (.tmp 0))⟩, ⟨(.some 4), .none, (.bin .geq (.tmp 3) (.con (.int .i64 1)))⟩, ⟨(.some 5), .none, (.move (.tmp 4))⟩, ⟨(.some 6), (.some (5, true)), (.move (.tmp 0))⟩, ⟨(.some 7), (.some (5, true)), (.bin .leq (.tmp 6) (.con (.int .i64 64)))⟩, ⟨(.some 8), .none, (.pick (.tmp 5) (.tmp 7) (.con (.bool false)))⟩, ⟨(.some 2), .none, (.move (.tmp 8))⟩]) .ret))⟩
def vec_dim.T (N : Nat → Nat) : TC := (.seq (.region [⟨⟨(.some 2), .none, (.move (.con (.bool false)))⟩, .no, []⟩]) (.seq (.region [⟨⟨(.some 3), .none, (.move (.tmp 0))⟩, .no, []⟩, ⟨⟨(.some 4), .none, (.bin .geq (.tmp 3) (.con (.int .i64 1)))⟩, .no, []⟩, ⟨⟨(.some 5), .none, (.move (.tmp 4))⟩, .no, []⟩, ⟨⟨(.some 6), (.some (5, true)), (.move (.tmp 0))⟩, .no, []⟩, ⟨⟨(.some 7), (.some (5, true)), (.bin .leq (.tmp 6) (.con (.int .i64 64)))⟩, .no, []⟩, ⟨⟨(.some 8), .none, (.pick (.tmp 5) (.tmp 7) (.con (.bool false)))⟩, .no, []⟩, ⟨⟨(.some 2), .none, (.move (.tmp 8))⟩, .no, []⟩]) .ret))
theorem vec_dim.er (N : Nat → Nat) : (vec_dim.T N).erase = (vec_dim.F N).body := by kernel_rfl
theorem vec_dim.okL (N : Nat → Nat) : (vec_dim.T N).okL = true := by kernel_rfl
def vec_dim.p (P : Program) (N : Nat → Nat) (x0 : Int) (S : St) (K : Bool → St → Prop) : Prop :=
  ifC (decide ((1 : Int) ≤ x0))
  (K (decide (x0 ≤ (64 : Int))) S)
  (K false S)
theorem vec_dim.eq (P : Program) (N : Nat → Nat) (x0 : Int) (S : St) (K : Bool → St → Prop) : wpT P (canEnter P) (vec_dim.T N) (endT (vec_dim.F N).results [(.one .bool)] K) (startT [(V.int .i64 x0)] ++ List.replicate ((vec_dim.F N).nt - 1) .none) S = vec_dim.p P N x0 S K := by kernel_rfl
abbrev vec_dim.Ok (P : Program) (N : Nat → Nat) : Prop := afun P (N Fn.vec_dim) = some (vec_dim.F N)
theorem vec_dim.run {P : Program} {N : Nat → Nat} (hF : vec_dim.Ok P N) {x0 : Int} {S : St} {K : Bool → St → Prop} (h : vec_dim.p P N x0 S K) : CallA P (N Fn.vec_dim) [(V.int .i64 x0)] S (retT [(.one .bool)] K) :=
  CallA.of_TP hF (vec_dim.er N) (vec_dim.okL N) (Eq.mpr (vec_dim.eq P N x0 S K) h)

end Go.Th.L
