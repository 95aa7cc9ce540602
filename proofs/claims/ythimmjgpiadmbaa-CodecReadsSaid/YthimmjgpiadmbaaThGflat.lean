/- Functions of flat, read without frames (printed by tools/lib.py). -/
import Derived.Test.YthimmjgpiadmbaaThFn
set_option linter.unusedVariables false
set_option maxRecDepth 100000
namespace Go.Th.L
open Go Go.Th

def flat_Check.F (N : Nat → Nat) : AF := ⟨52, [(.tmp 4)], (.seq (.region [⟨(.some 4), .none, (.move (.con (.int .i64 0)))⟩]) (.seq (.block 0 (.seq (.region [⟨(.some 10), .none, (.move (.tmp 1))⟩, ⟨(.some 11), .none, (.bin .lss (.tmp 10) (.con (.int .i64 1)))⟩, ⟨(.some 12), .none, (.move (.tmp 11))⟩, ⟨(.some 13), (.some (12, false)), (.move (.tmp 1))⟩, ⟨(.some 14), (.some (12, false)), (.bin .gtr (.tmp 13) (.con (.int .i64 64)))⟩, ⟨(.some 15), .none, (.pick (.tmp 12) (.con (.bool true)) (.tmp 14))⟩, ⟨(.some 9), .none, (.move (.tmp 15))⟩]) (.cond (.tmp 9) (.seq (.region [⟨(.some 4), .none, (.move (.con (.int .i64 30)))⟩]) .ret) (.seq (.region [⟨(.some 17), .none, (.move (.tmp 0))⟩, ⟨(.some 18), .none, (.len 2 (.tmp 17))⟩, ⟨(.some 19), .none, (.bin .gtr (.tmp 18) (.con (.int .i64 512)))⟩, ⟨(.some 16), .none, (.move (.tmp 19))⟩]) (.cond (.tmp 16) (.seq (.region [⟨(.some 4), .none, (.move (.con (.int .i64 2)))⟩]) .ret) .skip))))) (.seq (.region [⟨(.some 20), .none, .mkMap⟩, ⟨(.some 5), .none, (.move (.tmp 20))⟩]) (.seq (.seq (.region [⟨(.some 21), .none, (.move (.tmp 0))⟩, ⟨(.some 22), .none, (.len 2 (.tmp 21))⟩, ⟨(.some 23), .none, (.move (.con (.int .i64 0)))⟩]) (.block 1 (.loop (.seq (.region [⟨(.some 24), .none, (.bin .lss (.tmp 23) (.tmp 22))⟩]) (.seq (.cond (.tmp 24) .skip (.exit 1)) (.seq (.block 2 (.seq (.region [⟨(.some 25), .none, (.idxAddr 2 (.tmp 21) (.tmp 23))⟩, ⟨(.some 26), .none, (.loadN 2 (.tmp 25))⟩, ⟨(.some 7), .none, (.alloc [(.int .i64 0), .nilSlice])⟩, ⟨.none, .none, (.store 2 (.tmp 7) (.tmp 26))⟩]) (.seq (.seq (.region [⟨(.some 27), .none, (.fieldAddr 0 (.tmp 7))⟩, ⟨(.some 28), .none, (.load1 (.tmp 27))⟩, ⟨(.some 29), .none, (.bin .lss (.tmp 28) (.con (.int .i64 1)))⟩, ⟨(.some 30), .none, (.move (.tmp 29))⟩, ⟨(.some 31), (.some (30, false)), (.fieldAddr 0 (.tmp 7))⟩, ⟨(.some 32), (.some (30, false)), (.load1 (.tmp 31))⟩, ⟨(.some 33), (.some (30, false)), (.bin .gtr (.tmp 32) (.con (.int .i64 1000000000)))⟩, ⟨(.some 34), .none, (.pick (.tmp 30) (.con (.bool true)) (.tmp 33))⟩, ⟨(.some 35), .none, (.move (.tmp 34))⟩, ⟨(.some 36), (.some (35, false)), (.move (.tmp 5))⟩, ⟨(.some 37), (.some (35, false)), (.fieldAddr 0 (.tmp 7))⟩, ⟨(.some 38), (.some (35, false)), (.load1 (.tmp 37))⟩, ⟨(.some 39), (.some (35, false)), (.lookup 1 (.bool false) false (.tmp 36) (.tmp 38))⟩, ⟨(.some 40), .none, (.pick (.tmp 35) (.con (.bool true)) (.tmp 39))⟩]) (.cond (.tmp 40) (.seq (.region [⟨(.some 4), .none, (.move (.con (.int .i64 50)))⟩]) .ret) .skip)) (.seq (.seq (.region [⟨(.some 41), .none, (.fieldAddr 1 (.tmp 7))⟩, ⟨(.some 42), .none, (.load1 (.tmp 41))⟩, ⟨(.some 43), .none, (.move (.tmp 1))⟩, ⟨(.some 44), .none, (.callF (N Fn.vec_Check) [(.tmp 42), (.tmp 43)])⟩, ⟨(.some 8), .none, (.move (.tmp 44))⟩]) (.seq (.region [⟨(.some 45), .none, (.move (.tmp 8))⟩, ⟨(.some 46), .none, (.bin .neq (.tmp 45) (.con (.int .i64 0)))⟩]) (.cond (.tmp 46) (.seq (.region [⟨(.some 47), .none, (.move (.tmp 8))⟩, ⟨(.some 4), .none, (.move (.tmp 47))⟩]) .ret) .skip))) (.region [⟨(.some 48), .none, (.move (.tmp 5))⟩, ⟨(.some 49), .none, (.fieldAddr 0 (.tmp 7))⟩, ⟨(.some 50), .none, (.load1 (.tmp 49))⟩, ⟨.none, .none, (.mapUpd 1 (.tmp 48) (.tmp 50) (.con (.bool true)))⟩]))))) (.region [⟨(.some 51), .none, (.bin .add (.tmp 23) (.con (.int .i64 1)))⟩, ⟨(.some 23), .none, (.move (.tmp 51))⟩]))))))) (.seq (.region [⟨(.some 4), .none, (.move (.con (.int .i64 0)))⟩]) .ret)))))⟩
def flat_Check.T (N : Nat → Nat) : TC := (.seq (.region [⟨⟨(.some 4), .none, (.move (.con (.int .i64 0)))⟩, .no, []⟩]) (.seq (.block 0 (.join [(9, (.one .bool))] (.region [⟨⟨(.some 10), .none, (.move (.tmp 1))⟩, .no, []⟩, ⟨⟨(.some 11), .none, (.bin .lss (.tmp 10) (.con (.int .i64 1)))⟩, .no, []⟩, ⟨⟨(.some 12), .none, (.move (.tmp 11))⟩, .no, []⟩, ⟨⟨(.some 13), (.some (12, false)), (.move (.tmp 1))⟩, .no, []⟩, ⟨⟨(.some 14), (.some (12, false)), (.bin .gtr (.tmp 13) (.con (.int .i64 64)))⟩, .no, []⟩, ⟨⟨(.some 15), .none, (.pick (.tmp 12) (.con (.bool true)) (.tmp 14))⟩, .no, []⟩, ⟨⟨(.some 9), .none, (.move (.tmp 15))⟩, .no, []⟩]) (.cond (.tmp 9) (.seq (.region [⟨⟨(.some 4), .none, (.move (.con (.int .i64 30)))⟩, .no, []⟩]) .ret) (.seq (.region [⟨⟨(.some 17), .none, (.move (.tmp 0))⟩, .no, []⟩, ⟨⟨(.some 18), .none, (.len 2 (.tmp 17))⟩, (.dt (.one (.int .i64))), []⟩, ⟨⟨(.some 19), .none, (.bin .gtr (.tmp 18) (.con (.int .i64 512)))⟩, .no, []⟩, ⟨⟨(.some 16), .none, (.move (.tmp 19))⟩, .no, []⟩]) (.cond (.tmp 16) (.seq (.region [⟨⟨(.some 4), .none, (.move (.con (.int .i64 2)))⟩, .no, []⟩]) .ret) .skip))))) (.seq (.region [⟨⟨(.some 20), .none, .mkMap⟩, .no, []⟩, ⟨⟨(.some 5), .none, (.move (.tmp 20))⟩, .no, []⟩]) (.seq (.seq (.region [⟨⟨(.some 21), .none, (.move (.tmp 0))⟩, .no, []⟩, ⟨⟨(.some 22), .none, (.len 2 (.tmp 21))⟩, (.dt (.one (.int .i64))), []⟩, ⟨⟨(.some 23), .none, (.move (.con (.int .i64 0)))⟩, .no, []⟩]) (.block 1 (.loop [(23, (.one (.int .i64)))] (.seq (.region [⟨⟨(.some 24), .none, (.bin .lss (.tmp 23) (.tmp 22))⟩, .no, []⟩]) (.seq (.cond (.tmp 24) .skip (.exit 1)) (.seq (.block 2 (.seq (.region [⟨⟨(.some 25), .none, (.idxAddr 2 (.tmp 21) (.tmp 23))⟩, .no, []⟩, ⟨⟨(.some 26), .none, (.loadN 2 (.tmp 25))⟩, (.dt (.agg [(.int .i64), .any])), []⟩, ⟨⟨(.some 7), .none, (.alloc [(.int .i64 0), .nilSlice])⟩, .no, []⟩, ⟨⟨.none, .none, (.store 2 (.tmp 7) (.tmp 26))⟩, .no, []⟩]) (.join [] (.seq (.region [⟨⟨(.some 27), .none, (.fieldAddr 0 (.tmp 7))⟩, .no, []⟩, ⟨⟨(.some 28), .none, (.load1 (.tmp 27))⟩, (.dt (.one (.int .i64))), []⟩, ⟨⟨(.some 29), .none, (.bin .lss (.tmp 28) (.con (.int .i64 1)))⟩, .no, []⟩, ⟨⟨(.some 30), .none, (.move (.tmp 29))⟩, .no, []⟩, ⟨⟨(.some 31), (.some (30, false)), (.fieldAddr 0 (.tmp 7))⟩, .no, []⟩, ⟨⟨(.some 32), (.some (30, false)), (.load1 (.tmp 31))⟩, (.dt (.one (.int .i64))), []⟩, ⟨⟨(.some 33), (.some (30, false)), (.bin .gtr (.tmp 32) (.con (.int .i64 1000000000)))⟩, .no, []⟩, ⟨⟨(.some 34), .none, (.pick (.tmp 30) (.con (.bool true)) (.tmp 33))⟩, .no, []⟩, ⟨⟨(.some 35), .none, (.move (.tmp 34))⟩, .no, []⟩, ⟨⟨(.some 36), (.some (35, false)), (.move (.tmp 5))⟩, .no, []⟩, ⟨⟨(.some 37), (.some (35, false)), (.fieldAddr 0 (.tmp 7))⟩, .no, []⟩, ⟨⟨(.some 38), (.some (35, false)), (.load1 (.tmp 37))⟩, (.dt (.one (.int .i64))), []⟩, ⟨⟨(.some 39), (.some (35, false)), (.lookup 1 (.bool false) false (.tmp 36) (.tmp 38))⟩, (.dt (.one .bool)), []⟩, ⟨⟨(.some 40), .none, (.pick (.tmp 35) (.con (.bool true)) (.tmp 39))⟩, .no, []⟩]) (.cond (.tmp 40) (.seq (.region [⟨⟨(.some 4), .none, (.move (.con (.int .i64 50)))⟩, .no, []⟩]) .ret) .skip)) (.seq (.seq (.region [⟨⟨(.some 41), .none, (.fieldAddr 1 (.tmp 7))⟩, .no, []⟩, ⟨⟨(.some 42), .none, (.load1 (.tmp 41))⟩, .no, []⟩, ⟨⟨(.some 43), .none, (.move (.tmp 1))⟩, .no, []⟩, ⟨⟨(.some 44), .none, (.callF (N Fn.vec_Check) [(.tmp 42), (.tmp 43)])⟩, .no, [(.one (.int .i64))]⟩, ⟨⟨(.some 8), .none, (.move (.tmp 44))⟩, .no, []⟩]) (.seq (.region [⟨⟨(.some 45), .none, (.move (.tmp 8))⟩, .no, []⟩, ⟨⟨(.some 46), .none, (.bin .neq (.tmp 45) (.con (.int .i64 0)))⟩, .no, []⟩]) (.cond (.tmp 46) (.seq (.region [⟨⟨(.some 47), .none, (.move (.tmp 8))⟩, .no, []⟩, ⟨⟨(.some 4), .none, (.move (.tmp 47))⟩, .no, []⟩]) .ret) .skip))) (.region [⟨⟨(.some 48), .none, (.move (.tmp 5))⟩, .no, []⟩, ⟨⟨(.some 49), .none, (.fieldAddr 0 (.tmp 7))⟩, .no, []⟩, ⟨⟨(.some 50), .none, (.load1 (.tmp 49))⟩, (.dt (.one (.int .i64))), []⟩, ⟨⟨.none, .none, (.mapUpd 1 (.tmp 48) (.tmp 50) (.con (.bool true)))⟩, .no, []⟩]))))) (.region [⟨⟨(.some 51), .none, (.bin .add (.tmp 23) (.con (.int .i64 1)))⟩, .no, []⟩, ⟨⟨(.some 23), .none, (.move (.tmp 51))⟩, .no, []⟩]))))))) (.seq (.region [⟨⟨(.some 4), .none, (.move (.con (.int .i64 0)))⟩, .no, []⟩]) .ret)))))
theorem flat_Check.er (N : Nat → Nat) : (flat_Check.T N).erase = (flat_Check.F N).body := by kernel_rfl
theorem flat_Check.okL (N : Nat → Nat) : (flat_Check.T N).okL = true := by kernel_rfl
def flat_Check.p (P : Program) (N : Nat → Nat) (x0 : V) (x1 : Int) (S : St) (K : Int → St → Prop) : Prop :=
  Join1 (fun (k1 : Bool → St → Prop) =>
   ifC (decide (x1 < (1 : Int)))
   (k1 true S)
   (k1 (decide ((64 : Int) < x1)) S))
  (fun (x9 : Bool) (S1 : St) =>
   ifC x9
   (K 30 S1)
   (∃ x18 : Int, lenV S1 2 x0 = some (V.int .i64 x18) ∧
    ifC (decide ((512 : Int) < x18))
    (K 2 S1)
    (newS S1 (.map [] true) fun (S2 : St) =>
     ∃ x22 : Int, lenV S2 2 x0 = some (V.int .i64 x22) ∧
     Loop1 (fun (k2 : Int → St → Prop) (x23 : Int) (S3 : St) =>
      ifC (decide (x23 < x22))
      (ifS (idxAddrV 2 x0 (V.int .i64 x23)) fun (x25 : V) =>
       ∃ x26_a : Int, ∃ x26_b : V, loadNV S3 2 x25 = some (V.agg [(V.int .i64 x26_a), x26_b]) ∧
       newS S3 (.cells [(V.int .i64 0), V.nilSlice] true) fun (S4 : St) =>
       ifS (storeV S4 2 (V.ptr S3.next 0) (V.agg [(V.int .i64 x26_a), x26_b])) fun (S5 : St) =>
       Join0 (fun (k3 : St → Prop) =>
        ∃ x28 : Int, loadV S5 (V.ptr S3.next 0) = some (V.int .i64 x28) ∧
        ifC (decide (x28 < (1 : Int)))
        (K 50 S5)
        (∃ x32 : Int, loadV S5 (V.ptr S3.next 0) = some (V.int .i64 x32) ∧
        ifC (decide ((1000000000 : Int) < x32))
        (K 50 S5)
        (∃ x38 : Int, loadV S5 (V.ptr S3.next 0) = some (V.int .i64 x38) ∧
        ∃ x39 : Bool, lookupV S5 1 (V.bool false) false (V.map S1.next) (V.int .i64 x38) = some (V.bool x39) ∧
        ifC x39
        (K 50 S5)
        (k3  S5))))
       (fun (S6 : St) =>
        ifS (loadV S6 (V.ptr S3.next 1)) fun (x42 : V) =>
        CallA P (N Fn.vec_Check) [x42, (V.int .i64 x1)] S6 (retT [(.one (.int .i64))] fun (x44 : Int) (S7 : St) =>
        ifC (!decide (x44 = (0 : Int)))
        (K x44 S7)
        (∃ x50 : Int, loadV S7 (V.ptr S3.next 0) = some (V.int .i64 x50) ∧
         ifS (mapUpdV S7 1 (V.map S1.next) (V.int .i64 x50) (V.bool true)) fun (S8 : St) =>
         setI (IntKind.i64.wrap (x23 + (1 : Int))) fun (x51 : Int) =>
         k2 x51 S8))))
      (K 0 S3))
     0 S2)))
theorem flat_Check.eq (P : Program) (N : Nat → Nat) (x0 : V) (x1 : Int) (S : St) (K : Int → St → Prop) : wpT P (canEnter P) (flat_Check.T N) (endT (flat_Check.F N).results [(.one (.int .i64))] K) (startT [x0, (V.int .i64 x1)] ++ List.replicate ((flat_Check.F N).nt - 2) .none) S = flat_Check.p P N x0 x1 S K := by kernel_rfl
abbrev flat_Check.Ok (P : Program) (N : Nat → Nat) : Prop := afun P (N Fn.flat_Check) = some (flat_Check.F N)
theorem flat_Check.run {P : Program} {N : Nat → Nat} (hF : flat_Check.Ok P N) {x0 : V} {x1 : Int} {S : St} {K : Int → St → Prop} (h : flat_Check.p P N x0 x1 S K) : CallA P (N Fn.flat_Check) [x0, (V.int .i64 x1)] S (retT [(.one (.int .i64))] K) :=
  CallA.of_TP hF (flat_Check.er N) (flat_Check.okL N) (Eq.mpr (flat_Check.eq P N x0 x1 S K) h)

end Go.Th.L
