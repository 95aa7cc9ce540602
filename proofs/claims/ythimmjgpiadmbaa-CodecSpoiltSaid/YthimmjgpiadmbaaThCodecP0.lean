/- Functions of the program, read without frames (printed by tools/resid.py). -/
import Derived.Test.YthimmjgpiadmbaaThQ3
import Derived.Test.YthimmjgpiadmbaaThCodecF
set_option linter.unusedVariables false
set_option maxRecDepth 100000
namespace Go.Th.Codec
open Go Go.Th

def T3 : TC := (.seq (.region [⟨⟨(.some 6), .none, (.move (.con (.bool false)))⟩, .no, []⟩]) (.join [] (.seq (.region [⟨⟨(.some 22), .none, (.move (.tmp 1))⟩, .no, []⟩, ⟨⟨(.some 23), .none, (.len 1 (.tmp 22))⟩, .no, []⟩, ⟨⟨(.some 24), .none, (.bin .gtr (.tmp 23) (.con (.int .i64 524288)))⟩, .no, []⟩, ⟨⟨(.some 25), .none, (.move (.tmp 24))⟩, .no, []⟩, ⟨⟨(.some 26), (.some (25, false)), (.move (.tmp 2))⟩, .no, []⟩, ⟨⟨(.some 27), (.some (25, false)), (.len 2 (.tmp 26))⟩, (.dt (.one (.int .i64))), []⟩, ⟨⟨(.some 28), (.some (25, false)), (.bin .gtr (.tmp 27) (.con (.int .i64 524288)))⟩, .no, []⟩, ⟨⟨(.some 29), .none, (.pick (.tmp 25) (.con (.bool true)) (.tmp 28))⟩, .no, []⟩]) (.cond (.tmp 29) (.seq (.region [⟨⟨(.some 6), .none, (.move (.con (.bool true)))⟩, .no, []⟩]) .ret) .skip)) (.seq (.region [⟨⟨(.some 31), .none, (.move (.tmp 0))⟩, .no, []⟩, ⟨⟨(.some 32), .none, (.move (.tmp 1))⟩, .no, []⟩, ⟨⟨(.some 33), .none, (.callF 8 [(.tmp 31), (.tmp 32)])⟩, .no, [(.one .any), (.one (.int .i64))]⟩, ⟨⟨(.some 30), .none, (.move (.tmp 33))⟩, .no, []⟩, ⟨⟨(.some 34), .none, (.extract 0 (.tmp 30))⟩, .no, []⟩, ⟨⟨(.some 35), .none, (.extract 1 (.tmp 30))⟩, .no, []⟩, ⟨⟨(.some 7), .none, (.move (.tmp 34))⟩, .no, []⟩, ⟨⟨(.some 8), .none, (.move (.tmp 35))⟩, .no, []⟩]) (.seq (.region [⟨⟨(.some 37), .none, (.move (.tmp 0))⟩, .no, []⟩, ⟨⟨(.some 38), .none, (.move (.tmp 1))⟩, .no, []⟩, ⟨⟨(.some 39), .none, (.callF 9 [(.tmp 37), (.tmp 38)])⟩, .no, [(.one .any), (.one (.int .i64))]⟩, ⟨⟨(.some 36), .none, (.move (.tmp 39))⟩, .no, []⟩, ⟨⟨(.some 40), .none, (.extract 0 (.tmp 36))⟩, .no, []⟩, ⟨⟨(.some 41), .none, (.extract 1 (.tmp 36))⟩, .no, []⟩, ⟨⟨(.some 9), .none, (.move (.tmp 40))⟩, .no, []⟩, ⟨⟨(.some 10), .none, (.move (.tmp 41))⟩, .no, []⟩]) (.seq (.region [⟨⟨(.some 42), .none, (.move (.tmp 2))⟩, .no, []⟩, ⟨⟨(.some 43), .none, (.callF 10 [(.tmp 42)])⟩, .no, [(.one .any)]⟩, ⟨⟨(.some 11), .none, (.move (.tmp 43))⟩, .no, []⟩]) (.seq (.region [⟨⟨(.some 45), .none, (.move (.tmp 11))⟩, .no, []⟩, ⟨⟨(.some 46), .none, (.callF 11 [(.tmp 45)])⟩, .no, [(.one (.int .i64)), (.one .str), (.one (.int .i64)), (.one (.int .i64))]⟩, ⟨⟨(.some 44), .none, (.move (.tmp 46))⟩, .no, []⟩, ⟨⟨(.some 47), .none, (.extract 0 (.tmp 44))⟩, .no, []⟩, ⟨⟨(.some 48), .none, (.extract 1 (.tmp 44))⟩, .no, []⟩, ⟨⟨(.some 49), .none, (.extract 2 (.tmp 44))⟩, .no, []⟩, ⟨⟨(.some 50), .none, (.extract 3 (.tmp 44))⟩, .no, []⟩, ⟨⟨(.some 12), .none, (.move (.tmp 47))⟩, .no, []⟩, ⟨⟨(.some 13), .none, (.move (.tmp 48))⟩, .no, []⟩, ⟨⟨(.some 14), .none, (.move (.tmp 49))⟩, .no, []⟩, ⟨⟨(.some 15), .none, (.move (.tmp 50))⟩, .no, []⟩]) (.seq (.region [⟨⟨(.some 51), .none, (.move (.tmp 11))⟩, .no, []⟩, ⟨⟨(.some 52), .none, (.callF 12 [(.tmp 51)])⟩, .no, [(.one (.int .u32))]⟩, ⟨⟨(.some 16), .none, (.move (.tmp 52))⟩, .no, []⟩]) (.seq (.region [⟨⟨(.some 53), .none, (.move (.tmp 11))⟩, .no, []⟩, ⟨⟨(.some 54), .none, (.move (.tmp 2))⟩, .no, []⟩, ⟨⟨(.some 55), .none, (.callF 13 [(.tmp 53), (.tmp 54)])⟩, .no, [(.one .bool)]⟩, ⟨⟨(.some 17), .none, (.move (.tmp 55))⟩, .no, []⟩]) (.seq (.region [⟨⟨(.some 57), .none, (.move (.tmp 2))⟩, .no, []⟩, ⟨⟨(.some 58), .none, (.callF 14 [(.tmp 57)])⟩, .no, [(.one (.int .i64)), (.one .str), (.one (.int .i64)), (.one (.int .i64))]⟩, ⟨⟨(.some 56), .none, (.move (.tmp 58))⟩, .no, []⟩, ⟨⟨(.some 59), .none, (.extract 0 (.tmp 56))⟩, .no, []⟩, ⟨⟨(.some 60), .none, (.extract 1 (.tmp 56))⟩, .no, []⟩, ⟨⟨(.some 61), .none, (.extract 2 (.tmp 56))⟩, .no, []⟩, ⟨⟨(.some 62), .none, (.extract 3 (.tmp 56))⟩, .no, []⟩, ⟨⟨(.some 18), .none, (.move (.tmp 59))⟩, .no, []⟩, ⟨⟨(.some 19), .none, (.move (.tmp 60))⟩, .no, []⟩, ⟨⟨(.some 20), .none, (.move (.tmp 61))⟩, .no, []⟩, ⟨⟨(.some 21), .none, (.move (.tmp 62))⟩, .no, []⟩]) (.seq (.region [⟨⟨(.some 63), .none, (.callF 15 [])⟩, .no, [(.one .bool)]⟩, ⟨⟨(.some 64), .none, (.move (.tmp 63))⟩, .no, []⟩, ⟨⟨(.some 65), (.some (64, true)), (.move (.tmp 17))⟩, .no, []⟩, ⟨⟨(.some 66), .none, (.pick (.tmp 64) (.tmp 65) (.con (.bool false)))⟩, .no, []⟩, ⟨⟨(.some 67), .none, (.move (.tmp 66))⟩, .no, []⟩, ⟨⟨(.some 68), (.some (67, true)), (.move (.tmp 8))⟩, .no, []⟩, ⟨⟨(.some 69), (.some (67, true)), (.move (.tmp 10))⟩, .no, []⟩, ⟨⟨(.some 70), (.some (67, true)), (.bin .eql (.tmp 68) (.tmp 69))⟩, .no, []⟩, ⟨⟨(.some 71), .none, (.pick (.tmp 67) (.tmp 70) (.con (.bool false)))⟩, .no, []⟩, ⟨⟨(.some 72), .none, (.move (.tmp 71))⟩, .no, []⟩, ⟨⟨(.some 73), (.some (72, true)), (.move (.tmp 7))⟩, .no, []⟩, ⟨⟨(.some 74), (.some (72, true)), (.move (.tmp 9))⟩, .no, []⟩, ⟨⟨(.some 75), (.some (72, true)), (.callF 16 [(.tmp 73), (.tmp 74)])⟩, .no, [(.one .bool)]⟩, ⟨⟨(.some 76), .none, (.pick (.tmp 72) (.tmp 75) (.con (.bool false)))⟩, .no, []⟩, ⟨⟨(.some 77), .none, (.move (.tmp 76))⟩, .no, []⟩, ⟨⟨(.some 78), (.some (77, true)), (.move (.tmp 12))⟩, .no, []⟩, ⟨⟨(.some 79), (.some (77, true)), (.move (.tmp 18))⟩, .no, []⟩, ⟨⟨(.some 80), (.some (77, true)), (.bin .eql (.tmp 78) (.tmp 79))⟩, .no, []⟩, ⟨⟨(.some 81), .none, (.pick (.tmp 77) (.tmp 80) (.con (.bool false)))⟩, .no, []⟩, ⟨⟨(.some 82), .none, (.move (.tmp 81))⟩, .no, []⟩, ⟨⟨(.some 83), (.some (82, true)), (.move (.tmp 13))⟩, .no, []⟩, ⟨⟨(.some 84), (.some (82, true)), (.move (.tmp 19))⟩, .no, []⟩, ⟨⟨(.some 85), (.some (82, true)), (.bin .eql (.tmp 83) (.tmp 84))⟩, .no, []⟩, ⟨⟨(.some 86), .none, (.pick (.tmp 82) (.tmp 85) (.con (.bool false)))⟩, .no, []⟩, ⟨⟨(.some 87), .none, (.move (.tmp 86))⟩, .no, []⟩, ⟨⟨(.some 88), (.some (87, true)), (.move (.tmp 14))⟩, .no, []⟩, ⟨⟨(.some 89), (.some (87, true)), (.move (.tmp 20))⟩, .no, []⟩, ⟨⟨(.some 90), (.some (87, true)), (.bin .eql (.tmp 88) (.tmp 89))⟩, .no, []⟩, ⟨⟨(.some 91), .none, (.pick (.tmp 87) (.tmp 90) (.con (.bool false)))⟩, .no, []⟩, ⟨⟨(.some 92), .none, (.move (.tmp 91))⟩, .no, []⟩, ⟨⟨(.some 93), (.some (92, true)), (.move (.tmp 15))⟩, .no, []⟩, ⟨⟨(.some 94), (.some (92, true)), (.move (.tmp 21))⟩, .no, []⟩, ⟨⟨(.some 95), (.some (92, true)), (.bin .eql (.tmp 93) (.tmp 94))⟩, .no, []⟩, ⟨⟨(.some 96), .none, (.pick (.tmp 92) (.tmp 95) (.con (.bool false)))⟩, .no, []⟩, ⟨⟨(.some 97), .none, (.move (.tmp 96))⟩, .no, []⟩, ⟨⟨(.some 98), (.some (97, true)), (.move (.tmp 16))⟩, .no, []⟩, ⟨⟨(.some 99), (.some (97, true)), (.move (.tmp 2))⟩, .no, []⟩, ⟨⟨(.some 100), (.some (97, true)), (.callF 17 [(.tmp 99)])⟩, .no, [(.one (.int .u32))]⟩, ⟨⟨(.some 101), (.some (97, true)), (.bin .eql (.tmp 98) (.tmp 100))⟩, .no, []⟩, ⟨⟨(.some 102), .none, (.pick (.tmp 97) (.tmp 101) (.con (.bool false)))⟩, .no, []⟩, ⟨⟨(.some 6), .none, (.move (.tmp 102))⟩, .no, []⟩]) .ret))))))))))
theorem T3_er : T3.erase = F3.body := by kernel_rfl
theorem T3_okL : T3.okL = true := by kernel_rfl
def p3 (x0 : Int) (x1 : List UInt8) (x2 : V) (S : St) (K : Bool → St → Prop) : Prop :=
  Join0 (fun (k1 : St → Prop) =>
   ifC (decide ((524288 : Int) < (x1.length : Int)))
   (K true S)
   (∃ x27 : Int, lenV S 2 x2 = some (V.int .i64 x27) ∧
   ifC (decide ((524288 : Int) < x27))
   (K true S)
   (k1  S)))
  (fun (S1 : St) =>
   CallA Go.Proofs.Try.prog 8 [(V.int .i64 x0), (V.str x1)] S1 (retT [(.one .any), (.one (.int .i64))] fun (x33a : V) (x33b : Int) (S2 : St) =>
   CallA Go.Proofs.Try.prog 9 [(V.int .i64 x0), (V.str x1)] S2 (retT [(.one .any), (.one (.int .i64))] fun (x39a : V) (x39b : Int) (S3 : St) =>
   CallA Go.Proofs.Try.prog 10 [x2] S3 (retT [(.one .any)] fun (x43 : V) (S4 : St) =>
   CallA Go.Proofs.Try.prog 11 [x43] S4 (retT [(.one (.int .i64)), (.one .str), (.one (.int .i64)), (.one (.int .i64))] fun (x46a : Int) (x46b : List UInt8) (x46c : Int) (x46d : Int) (S5 : St) =>
   CallA Go.Proofs.Try.prog 12 [x43] S5 (retT [(.one (.int .u32))] fun (x52 : Int) (S6 : St) =>
   CallA Go.Proofs.Try.prog 13 [x43, x2] S6 (retT [(.one .bool)] fun (x55 : Bool) (S7 : St) =>
   CallA Go.Proofs.Try.prog 14 [x2] S7 (retT [(.one (.int .i64)), (.one .str), (.one (.int .i64)), (.one (.int .i64))] fun (x58a : Int) (x58b : List UInt8) (x58c : Int) (x58d : Int) (S8 : St) =>
   CallA Go.Proofs.Try.prog 15 [] S8 (retT [(.one .bool)] fun (x63 : Bool) (S9 : St) =>
   ifC x63
   (ifC x55
   (ifC (decide (x33b = x39b))
   (CallA Go.Proofs.Try.prog 16 [x33a, x39a] S9 (retT [(.one .bool)] fun (x75 : Bool) (S10 : St) =>
   ifC x75
   (ifC (decide (x46a = x58a))
   (ifC (decide (x46b = x58b))
   (ifC (decide (x46c = x58c))
   (ifC (decide (x46d = x58d))
   (CallA Go.Proofs.Try.prog 17 [x2] S10 (retT [(.one (.int .u32))] fun (x100 : Int) (S11 : St) =>
   K (decide (x52 = x100)) S11))
   (K false S10))
   (K false S10))
   (K false S10))
   (K false S10))
   (K false S10)))
   (K false S9))
   (K false S9))
   (K false S9))))))))))
theorem p3_eq (x0 : Int) (x1 : List UInt8) (x2 : V) (S : St) (K : Bool → St → Prop) : wpT Go.Proofs.Try.prog okF T3 (endT F3.results [(.one .bool)] K) (startT [(V.int .i64 x0), (V.str x1), x2] ++ List.replicate (F3.nt - 3) .none) S = p3 x0 x1 x2 S K := by kernel_rfl
theorem p3_ok {x0 : Int} {x1 : List UInt8} {x2 : V} { S : St} {K : Bool → St → Prop} (h : p3 x0 x1 x2 S K) : CallA Go.Proofs.Try.prog 3 [(V.int .i64 x0), (V.str x1), x2] S (retT [(.one .bool)] K) :=
  CallA.of_T okF_ok F3_ok T3_er T3_okL (Eq.mpr (p3_eq x0 x1 x2 S K) h)

def T4 : TC := (.seq (.region [⟨⟨(.some 2), .none, (.box (.tmp 0))⟩, .no, []⟩, ⟨⟨(.some 4), .none, (.move (.con (.bool false)))⟩, .no, []⟩]) (.join [] (.seq (.region [⟨⟨(.some 17), .none, (.fieldAddr 2 (.tmp 2))⟩, .no, []⟩, ⟨⟨(.some 18), .none, (.load1 (.tmp 17))⟩, .no, []⟩, ⟨⟨(.some 19), .none, (.len 2 (.tmp 18))⟩, (.dt (.one (.int .i64))), []⟩, ⟨⟨(.some 20), .none, (.bin .gtr (.tmp 19) (.con (.int .i64 524288)))⟩, .no, []⟩, ⟨⟨(.some 21), .none, (.move (.tmp 20))⟩, .no, []⟩, ⟨⟨(.some 22), (.some (21, false)), (.move (.tmp 1))⟩, .no, []⟩, ⟨⟨(.some 23), (.some (21, false)), (.callF 18 [(.tmp 22)])⟩, .no, [(.one .bool)]⟩, ⟨⟨(.some 24), .none, (.pick (.tmp 21) (.con (.bool true)) (.tmp 23))⟩, .no, []⟩]) (.cond (.tmp 24) (.seq (.region [⟨⟨(.some 4), .none, (.move (.con (.bool true)))⟩, .no, []⟩]) .ret) .skip)) (.seq (.region [⟨⟨(.some 25), .none, (.fieldAddr 2 (.tmp 2))⟩, .no, []⟩, ⟨⟨(.some 26), .none, (.load1 (.tmp 25))⟩, .no, []⟩, ⟨⟨(.some 27), .none, (.callF 19 [(.tmp 26)])⟩, .no, [(.one .any)]⟩, ⟨⟨(.some 5), .none, (.move (.tmp 27))⟩, .no, []⟩]) (.seq (.region [⟨⟨(.some 29), .none, (.fieldAddr 0 (.tmp 2))⟩, .no, []⟩, ⟨⟨(.some 30), .none, (.load1 (.tmp 29))⟩, (.dt (.one (.int .i64))), []⟩, ⟨⟨(.some 31), .none, (.fieldAddr 1 (.tmp 2))⟩, .no, []⟩, ⟨⟨(.some 32), .none, (.load1 (.tmp 31))⟩, (.dt (.one (.int .i64))), []⟩, ⟨⟨(.some 33), .none, (.move (.tmp 5))⟩, .no, []⟩, ⟨⟨(.some 34), .none, (.build [(.int .i64 0), (.int .i64 0), .nilSlice] [(0, (1, (.tmp 30))), (1, (1, (.tmp 32))), (2, (1, (.tmp 33)))])⟩, (.dt (.agg [(.int .i64), (.int .i64), .any])), []⟩, ⟨⟨(.some 35), .none, (.callF 20 [(.tmp 34)])⟩, .no, [(.one .str), (.one (.int .i64))]⟩, ⟨⟨(.some 28), .none, (.move (.tmp 35))⟩, .no, []⟩, ⟨⟨(.some 36), .none, (.extract 0 (.tmp 28))⟩, .no, []⟩, ⟨⟨(.some 37), .none, (.extract 1 (.tmp 28))⟩, .no, []⟩, ⟨⟨(.some 6), .none, (.move (.tmp 36))⟩, .no, []⟩, ⟨⟨(.some 7), .none, (.move (.tmp 37))⟩, .no, []⟩]) (.seq (.region [⟨⟨(.some 38), .none, (.move (.tmp 5))⟩, .no, []⟩, ⟨⟨(.some 39), .none, (.fieldAddr 2 (.tmp 2))⟩, .no, []⟩, ⟨⟨(.some 40), .none, (.load1 (.tmp 39))⟩, .no, []⟩, ⟨⟨(.some 41), .none, (.callF 21 [(.tmp 38), (.tmp 40)])⟩, .no, [(.one .bool)]⟩, ⟨⟨(.some 8), .none, (.move (.tmp 41))⟩, .no, []⟩]) (.seq (.region [⟨⟨(.some 43), .none, (.loadN 3 (.tmp 2))⟩, (.dt (.agg [(.int .i64), (.int .i64), .any])), []⟩, ⟨⟨(.some 44), .none, (.callF 22 [(.tmp 43)])⟩, .no, [(.one .str), (.one (.int .i64))]⟩, ⟨⟨(.some 42), .none, (.move (.tmp 44))⟩, .no, []⟩, ⟨⟨(.some 45), .none, (.extract 0 (.tmp 42))⟩, .no, []⟩, ⟨⟨(.some 46), .none, (.extract 1 (.tmp 42))⟩, .no, []⟩, ⟨⟨(.some 9), .none, (.move (.tmp 45))⟩, .no, []⟩, ⟨⟨(.some 10), .none, (.move (.tmp 46))⟩, .no, []⟩]) (.seq (.region [⟨⟨(.some 47), .none, (.move (.tmp 1))⟩, .no, []⟩, ⟨⟨(.some 48), .none, (.callF 23 [(.tmp 47)])⟩, .no, [(.one .any)]⟩, ⟨⟨(.some 11), .none, (.move (.tmp 48))⟩, .no, []⟩]) (.seq (.region [⟨⟨(.some 50), .none, (.move (.tmp 11))⟩, .no, []⟩, ⟨⟨(.some 51), .none, (.callF 24 [(.tmp 50)])⟩, .no, [(.one .str), (.one (.int .i64))]⟩, ⟨⟨(.some 49), .none, (.move (.tmp 51))⟩, .no, []⟩, ⟨⟨(.some 52), .none, (.extract 0 (.tmp 49))⟩, .no, []⟩, ⟨⟨(.some 53), .none, (.extract 1 (.tmp 49))⟩, .no, []⟩, ⟨⟨(.some 12), .none, (.move (.tmp 52))⟩, .no, []⟩, ⟨⟨(.some 13), .none, (.move (.tmp 53))⟩, .no, []⟩]) (.seq (.region [⟨⟨(.some 54), .none, (.move (.tmp 11))⟩, .no, []⟩, ⟨⟨(.some 55), .none, (.move (.tmp 1))⟩, .no, []⟩, ⟨⟨(.some 56), .none, (.callF 25 [(.tmp 54), (.tmp 55)])⟩, .no, [(.one .bool)]⟩, ⟨⟨(.some 14), .none, (.move (.tmp 56))⟩, .no, []⟩]) (.seq (.region [⟨⟨(.some 58), .none, (.move (.tmp 1))⟩, .no, []⟩, ⟨⟨(.some 59), .none, (.callF 26 [(.tmp 58)])⟩, .no, [(.one .str), (.one (.int .i64))]⟩, ⟨⟨(.some 57), .none, (.move (.tmp 59))⟩, .no, []⟩, ⟨⟨(.some 60), .none, (.extract 0 (.tmp 57))⟩, .no, []⟩, ⟨⟨(.some 61), .none, (.extract 1 (.tmp 57))⟩, .no, []⟩, ⟨⟨(.some 15), .none, (.move (.tmp 60))⟩, .no, []⟩, ⟨⟨(.some 16), .none, (.move (.tmp 61))⟩, .no, []⟩]) (.seq (.region [⟨⟨(.some 62), .none, (.callF 15 [])⟩, .no, [(.one .bool)]⟩, ⟨⟨(.some 63), .none, (.move (.tmp 62))⟩, .no, []⟩, ⟨⟨(.some 64), (.some (63, true)), (.move (.tmp 8))⟩, .no, []⟩, ⟨⟨(.some 65), .none, (.pick (.tmp 63) (.tmp 64) (.con (.bool false)))⟩, .no, []⟩, ⟨⟨(.some 66), .none, (.move (.tmp 65))⟩, .no, []⟩, ⟨⟨(.some 67), (.some (66, true)), (.move (.tmp 14))⟩, .no, []⟩, ⟨⟨(.some 68), .none, (.pick (.tmp 66) (.tmp 67) (.con (.bool false)))⟩, .no, []⟩, ⟨⟨(.some 69), .none, (.move (.tmp 68))⟩, .no, []⟩, ⟨⟨(.some 70), (.some (69, true)), (.move (.tmp 6))⟩, .no, []⟩, ⟨⟨(.some 71), (.some (69, true)), (.move (.tmp 9))⟩, .no, []⟩, ⟨⟨(.some 72), (.some (69, true)), (.bin .eql (.tmp 70) (.tmp 71))⟩, .no, []⟩, ⟨⟨(.some 73), .none, (.pick (.tmp 69) (.tmp 72) (.con (.bool false)))⟩, .no, []⟩, ⟨⟨(.some 74), .none, (.move (.tmp 73))⟩, .no, []⟩, ⟨⟨(.some 75), (.some (74, true)), (.move (.tmp 7))⟩, .no, []⟩, ⟨⟨(.some 76), (.some (74, true)), (.move (.tmp 10))⟩, .no, []⟩, ⟨⟨(.some 77), (.some (74, true)), (.bin .eql (.tmp 75) (.tmp 76))⟩, .no, []⟩, ⟨⟨(.some 78), .none, (.pick (.tmp 74) (.tmp 77) (.con (.bool false)))⟩, .no, []⟩, ⟨⟨(.some 79), .none, (.move (.tmp 78))⟩, .no, []⟩, ⟨⟨(.some 80), (.some (79, true)), (.move (.tmp 12))⟩, .no, []⟩, ⟨⟨(.some 81), (.some (79, true)), (.move (.tmp 15))⟩, .no, []⟩, ⟨⟨(.some 82), (.some (79, true)), (.bin .eql (.tmp 80) (.tmp 81))⟩, .no, []⟩, ⟨⟨(.some 83), .none, (.pick (.tmp 79) (.tmp 82) (.con (.bool false)))⟩, .no, []⟩, ⟨⟨(.some 84), .none, (.move (.tmp 83))⟩, .no, []⟩, ⟨⟨(.some 85), (.some (84, true)), (.move (.tmp 13))⟩, .no, []⟩, ⟨⟨(.some 86), (.some (84, true)), (.move (.tmp 16))⟩, .no, []⟩, ⟨⟨(.some 87), (.some (84, true)), (.bin .eql (.tmp 85) (.tmp 86))⟩, .no, []⟩, ⟨⟨(.some 88), .none, (.pick (.tmp 84) (.tmp 87) (.con (.bool false)))⟩, .no, []⟩, ⟨⟨(.some 4), .none, (.move (.tmp 88))⟩, .no, []⟩]) .ret)))))))))))
theorem T4_er : T4.erase = F4.body := by kernel_rfl
theorem T4_okL : T4.okL = true := by kernel_rfl
def p4 (x0_a : Int) (x0_b : Int) (x0_c : V) (x1 : V) (S : St) (K : Bool → St → Prop) : Prop :=
  newS S (.cells [(V.int .i64 x0_a), (V.int .i64 x0_b), x0_c] true) fun (S1 : St) =>
  Join0 (fun (k1 : St → Prop) =>
   ifS (loadV S1 (V.ptr S.next 2)) fun (x18 : V) =>
   ∃ x19 : Int, lenV S1 2 x18 = some (V.int .i64 x19) ∧
   ifC (decide ((524288 : Int) < x19))
   (K true S1)
   (CallA Go.Proofs.Try.prog 18 [x1] S1 (retT [(.one .bool)] fun (x23 : Bool) (S3 : St) =>
   ifC x23
   (K true S3)
   (k1  S3))))
  (fun (S2 : St) =>
   ifS (loadV S2 (V.ptr S.next 2)) fun (x26 : V) =>
   CallA Go.Proofs.Try.prog 19 [x26] S2 (retT [(.one .any)] fun (x27 : V) (S4 : St) =>
   ∃ x30 : Int, loadV S4 (V.ptr S.next 0) = some (V.int .i64 x30) ∧
   ∃ x32 : Int, loadV S4 (V.ptr S.next 1) = some (V.int .i64 x32) ∧
   V.cells x27 = [x27] ∧ CallA Go.Proofs.Try.prog 20 [(V.agg [(V.int .i64 x30), (V.int .i64 x32), x27])] S4 (retT [(.one .str), (.one (.int .i64))] fun (x35a : List UInt8) (x35b : Int) (S5 : St) =>
   ifS (loadV S5 (V.ptr S.next 2)) fun (x40 : V) =>
   CallA Go.Proofs.Try.prog 21 [x27, x40] S5 (retT [(.one .bool)] fun (x41 : Bool) (S6 : St) =>
   ∃ x43_a : Int, ∃ x43_b : Int, ∃ x43_c : V, loadNV S6 3 (V.ptr S.next 0) = some (V.agg [(V.int .i64 x43_a), (V.int .i64 x43_b), x43_c]) ∧
   CallA Go.Proofs.Try.prog 22 [(V.agg [(V.int .i64 x43_a), (V.int .i64 x43_b), x43_c])] S6 (retT [(.one .str), (.one (.int .i64))] fun (x44a : List UInt8) (x44b : Int) (S7 : St) =>
   CallA Go.Proofs.Try.prog 23 [x1] S7 (retT [(.one .any)] fun (x48 : V) (S8 : St) =>
   CallA Go.Proofs.Try.prog 24 [x48] S8 (retT [(.one .str), (.one (.int .i64))] fun (x51a : List UInt8) (x51b : Int) (S9 : St) =>
   CallA Go.Proofs.Try.prog 25 [x48, x1] S9 (retT [(.one .bool)] fun (x56 : Bool) (S10 : St) =>
   CallA Go.Proofs.Try.prog 26 [x1] S10 (retT [(.one .str), (.one (.int .i64))] fun (x59a : List UInt8) (x59b : Int) (S11 : St) =>
   CallA Go.Proofs.Try.prog 15 [] S11 (retT [(.one .bool)] fun (x62 : Bool) (S12 : St) =>
   ifC x62
   (ifC x41
   (ifC x56
   (ifC (decide (x35a = x44a))
   (ifC (decide (x35b = x44b))
   (ifC (decide (x51a = x59a))
   (K (decide (x51b = x59b)) S12)
   (K false S12))
   (K false S12))
   (K false S12))
   (K false S12))
   (K false S12))
   (K false S12)))))))))))
theorem p4_eq (x0_a : Int) (x0_b : Int) (x0_c : V) (x1 : V) (S : St) (K : Bool → St → Prop) : wpT Go.Proofs.Try.prog okF T4 (endT F4.results [(.one .bool)] K) (startT [(V.agg [(V.int .i64 x0_a), (V.int .i64 x0_b), x0_c]), x1] ++ List.replicate (F4.nt - 2) .none) S = p4 x0_a x0_b x0_c x1 S K := by kernel_rfl
theorem p4_ok {x0_a : Int} {x0_b : Int} {x0_c : V} {x1 : V} { S : St} {K : Bool → St → Prop} (h : p4 x0_a x0_b x0_c x1 S K) : CallA Go.Proofs.Try.prog 4 [(V.agg [(V.int .i64 x0_a), (V.int .i64 x0_b), x0_c]), x1] S (retT [(.one .bool)] K) :=
  CallA.of_T okF_ok F4_ok T4_er T4_okL (Eq.mpr (p4_eq x0_a x0_b x0_c x1 S K) h)

def T5 : TC := (.seq (.region [⟨⟨(.some 10), .none, (.move (.con (.bool false)))⟩, .no, []⟩]) (.join [] (.seq (.region [⟨⟨(.some 22), .none, (.move (.tmp 1))⟩, .no, []⟩, ⟨⟨(.some 23), .none, (.len 1 (.tmp 22))⟩, .no, []⟩, ⟨⟨(.some 24), .none, (.bin .gtr (.tmp 23) (.con (.int .i64 524288)))⟩, .no, []⟩, ⟨⟨(.some 25), .none, (.move (.tmp 24))⟩, .no, []⟩, ⟨⟨(.some 26), (.some (25, false)), (.move (.tmp 2))⟩, .no, []⟩, ⟨⟨(.some 27), (.some (25, false)), (.len 2 (.tmp 26))⟩, (.dt (.one (.int .i64))), []⟩, ⟨⟨(.some 28), (.some (25, false)), (.bin .gtr (.tmp 27) (.con (.int .i64 524288)))⟩, .no, []⟩, ⟨⟨(.some 29), .none, (.pick (.tmp 25) (.con (.bool true)) (.tmp 28))⟩, .no, []⟩]) (.cond (.tmp 29) (.seq (.region [⟨⟨(.some 10), .none, (.move (.con (.bool true)))⟩, .no, []⟩]) .ret) .skip)) (.seq (.region [⟨⟨(.some 31), .none, (.move (.tmp 0))⟩, .no, []⟩, ⟨⟨(.some 32), .none, (.move (.tmp 1))⟩, .no, []⟩, ⟨⟨(.some 33), .none, (.callF 8 [(.tmp 31), (.tmp 32)])⟩, .no, [(.one .any), (.one (.int .i64))]⟩, ⟨⟨(.some 30), .none, (.move (.tmp 33))⟩, .no, []⟩, ⟨⟨(.some 34), .none, (.extract 0 (.tmp 30))⟩, .no, []⟩, ⟨⟨(.some 35), .none, (.extract 1 (.tmp 30))⟩, .no, []⟩, ⟨⟨(.some 11), .none, (.move (.tmp 34))⟩, .no, []⟩, ⟨⟨(.some 12), .none, (.move (.tmp 35))⟩, .no, []⟩]) (.seq (.seq (.region [⟨⟨(.some 36), .none, (.move (.tmp 12))⟩, .no, []⟩, ⟨⟨(.some 37), .none, (.bin .neq (.tmp 36) (.con (.int .i64 0)))⟩, .no, []⟩]) (.cond (.tmp 37) (.seq (.region [⟨⟨(.some 38), .none, (.callF 15 [])⟩, .no, [(.one .bool)]⟩, ⟨⟨(.some 39), .none, (.move (.tmp 38))⟩, .no, []⟩, ⟨⟨(.some 40), (.some (39, true)), (.move (.tmp 11))⟩, .no, []⟩, ⟨⟨(.some 41), (.some (39, true)), (.len 2 (.tmp 40))⟩, (.dt (.one (.int .i64))), []⟩, ⟨⟨(.some 42), (.some (39, true)), (.bin .eql (.tmp 41) (.con (.int .i64 0)))⟩, .no, []⟩, ⟨⟨(.some 43), .none, (.pick (.tmp 39) (.tmp 42) (.con (.bool false)))⟩, .no, []⟩, ⟨⟨(.some 10), .none, (.move (.tmp 43))⟩, .no, []⟩]) .ret) .skip)) (.seq (.region [⟨⟨(.some 13), .none, (.move (.con .nilSlice))⟩, .no, []⟩]) (.seq (.region [⟨⟨(.some 44), .none, (.move (.tmp 13))⟩, .no, []⟩, ⟨⟨(.some 45), .none, (.move (.tmp 11))⟩, .no, []⟩, ⟨⟨(.some 46), .none, (.app 1 1 (.tmp 44) (.tmp 45))⟩, .no, []⟩, ⟨⟨(.some 13), .none, (.move (.tmp 46))⟩, .no, []⟩]) (.seq (.region [⟨⟨(.some 47), .none, (.move (.tmp 13))⟩, .no, []⟩, ⟨⟨(.some 48), .none, (.move (.tmp 2))⟩, .no, []⟩, ⟨⟨(.some 49), .none, (.app 1 1 (.tmp 47) (.tmp 48))⟩, .no, []⟩, ⟨⟨(.some 13), .none, (.move (.tmp 49))⟩, .no, []⟩]) (.seq (.region [⟨⟨(.some 51), .none, (.move (.tmp 13))⟩, .no, []⟩, ⟨⟨(.some 52), .none, (.callF 11 [(.tmp 51)])⟩, .no, [(.one (.int .i64)), (.one .str), (.one (.int .i64)), (.one (.int .i64))]⟩, ⟨⟨(.some 50), .none, (.move (.tmp 52))⟩, .no, []⟩, ⟨⟨(.some 53), .none, (.extract 0 (.tmp 50))⟩, .no, []⟩, ⟨⟨(.some 54), .none, (.extract 1 (.tmp 50))⟩, .no, []⟩, ⟨⟨(.some 55), .none, (.extract 2 (.tmp 50))⟩, .no, []⟩, ⟨⟨(.some 56), .none, (.extract 3 (.tmp 50))⟩, .no, []⟩, ⟨⟨(.some 14), .none, (.move (.tmp 53))⟩, .no, []⟩, ⟨⟨(.some 15), .none, (.move (.tmp 54))⟩, .no, []⟩, ⟨⟨(.some 16), .none, (.move (.tmp 55))⟩, .no, []⟩, ⟨⟨(.some 17), .none, (.move (.tmp 56))⟩, .no, []⟩]) (.join [] (.seq (.region [⟨⟨(.some 57), .none, (.move (.tmp 17))⟩, .no, []⟩, ⟨⟨(.some 58), .none, (.bin .neq (.tmp 57) (.con (.int .i64 0)))⟩, .no, []⟩, ⟨⟨(.some 59), .none, (.move (.tmp 58))⟩, .no, []⟩, ⟨⟨(.some 60), (.some (59, false)), (.move (.tmp 14))⟩, .no, []⟩, ⟨⟨(.some 61), (.some (59, false)), (.move (.tmp 0))⟩, .no, []⟩, ⟨⟨(.some 62), (.some (59, false)), (.bin .neq (.tmp 60) (.tmp 61))⟩, .no, []⟩, ⟨⟨(.some 63), .none, (.pick (.tmp 59) (.con (.bool true)) (.tmp 62))⟩, .no, []⟩, ⟨⟨(.some 64), .none, (.move (.tmp 63))⟩, .no, []⟩, ⟨⟨(.some 65), (.some (64, false)), (.move (.tmp 15))⟩, .no, []⟩, ⟨⟨(.some 66), (.some (64, false)), (.move (.tmp 1))⟩, .no, []⟩, ⟨⟨(.some 67), (.some (64, false)), (.bin .neq (.tmp 65) (.tmp 66))⟩, .no, []⟩, ⟨⟨(.some 68), .none, (.pick (.tmp 64) (.con (.bool true)) (.tmp 67))⟩, .no, []⟩, ⟨⟨(.some 69), .none, (.move (.tmp 68))⟩, .no, []⟩, ⟨⟨(.some 70), (.some (69, false)), (.move (.tmp 16))⟩, .no, []⟩, ⟨⟨(.some 71), (.some (69, false)), (.move (.tmp 11))⟩, .no, []⟩, ⟨⟨(.some 72), (.some (69, false)), (.len 2 (.tmp 71))⟩, (.dt (.one (.int .i64))), []⟩, ⟨⟨(.some 73), (.some (69, false)), (.bin .neq (.tmp 70) (.tmp 72))⟩, .no, []⟩, ⟨⟨(.some 74), .none, (.pick (.tmp 69) (.con (.bool true)) (.tmp 73))⟩, .no, []⟩]) (.cond (.tmp 74) (.seq (.region [⟨⟨(.some 10), .none, (.move (.con (.bool false)))⟩, .no, []⟩]) .ret) .skip)) (.seq (.join [(94, (.one .bool))] (.region [⟨⟨(.some 75), .none, (.move (.tmp 3))⟩, .no, []⟩, ⟨⟨(.some 76), .none, (.bin .lss (.tmp 75) (.con (.int .i64 0)))⟩, .no, []⟩, ⟨⟨(.some 77), .none, (.move (.tmp 76))⟩, .no, []⟩, ⟨⟨(.some 78), (.some (77, false)), (.move (.tmp 3))⟩, .no, []⟩, ⟨⟨(.some 79), (.some (77, false)), (.move (.tmp 11))⟩, .no, []⟩, ⟨⟨(.some 80), (.some (77, false)), (.len 2 (.tmp 79))⟩, (.dt (.one (.int .i64))), []⟩, ⟨⟨(.some 81), (.some (77, false)), (.bin .geq (.tmp 78) (.tmp 80))⟩, .no, []⟩, ⟨⟨(.some 82), .none, (.pick (.tmp 77) (.con (.bool true)) (.tmp 81))⟩, .no, []⟩, ⟨⟨(.some 83), .none, (.move (.tmp 82))⟩, .no, []⟩, ⟨⟨(.some 84), (.some (83, false)), (.move (.tmp 3))⟩, .no, []⟩, ⟨⟨(.some 85), (.some (83, false)), (.bin .geq (.tmp 84) (.con (.int .i64 1)))⟩, .no, []⟩, ⟨⟨(.some 86), (.some (83, false)), (.move (.tmp 85))⟩, .no, []⟩, ⟨⟨(.some 87), (.some (86, true)), (.move (.tmp 3))⟩, .no, []⟩, ⟨⟨(.some 88), (.some (86, true)), (.bin .leq (.tmp 87) (.con (.int .i64 4)))⟩, .no, []⟩, ⟨⟨(.some 89), (.some (83, false)), (.pick (.tmp 86) (.tmp 88) (.con (.bool false)))⟩, .no, []⟩, ⟨⟨(.some 90), .none, (.pick (.tmp 83) (.con (.bool true)) (.tmp 89))⟩, .no, []⟩, ⟨⟨(.some 91), .none, (.move (.tmp 90))⟩, .no, []⟩, ⟨⟨(.some 92), (.some (91, false)), (.move (.tmp 4))⟩, .no, []⟩, ⟨⟨(.some 93), (.some (91, false)), (.bin .eql (.tmp 92) (.con (.int .u8 0)))⟩, .no, []⟩, ⟨⟨(.some 94), .none, (.pick (.tmp 91) (.con (.bool true)) (.tmp 93))⟩, .no, []⟩]) (.cond (.tmp 94) (.seq (.region [⟨⟨(.some 95), .none, (.callF 15 [])⟩, .no, [(.one .bool)]⟩, ⟨⟨(.some 10), .none, (.move (.tmp 95))⟩, .no, []⟩]) .ret) .skip)) (.seq (.region [⟨⟨(.some 96), .none, (.move (.tmp 13))⟩, .no, []⟩, ⟨⟨(.some 97), .none, (.move (.tmp 3))⟩, .no, []⟩, ⟨⟨(.some 98), .none, (.move (.tmp 13))⟩, .no, []⟩, ⟨⟨(.some 99), .none, (.move (.tmp 3))⟩, .no, []⟩, ⟨⟨(.some 100), .none, (.idxAddr 1 (.tmp 98) (.tmp 99))⟩, .no, []⟩, ⟨⟨(.some 101), .none, (.load1 (.tmp 100))⟩, (.dt (.one (.int .u8))), []⟩, ⟨⟨(.some 102), .none, (.move (.tmp 4))⟩, .no, []⟩, ⟨⟨(.some 103), .none, (.bin .xor (.tmp 101) (.tmp 102))⟩, .no, []⟩, ⟨⟨(.some 104), .none, (.idxAddr 1 (.tmp 96) (.tmp 97))⟩, .no, []⟩, ⟨⟨.none, .none, (.store 1 (.tmp 104) (.tmp 103))⟩, .no, []⟩]) (.seq (.region [⟨⟨(.some 106), .none, (.move (.tmp 13))⟩, .no, []⟩, ⟨⟨(.some 107), .none, (.callF 11 [(.tmp 106)])⟩, .no, [(.one (.int .i64)), (.one .str), (.one (.int .i64)), (.one (.int .i64))]⟩, ⟨⟨(.some 105), .none, (.move (.tmp 107))⟩, .no, []⟩, ⟨⟨(.some 108), .none, (.extract 0 (.tmp 105))⟩, .no, []⟩, ⟨⟨(.some 109), .none, (.extract 1 (.tmp 105))⟩, .no, []⟩, ⟨⟨(.some 110), .none, (.extract 2 (.tmp 105))⟩, .no, []⟩, ⟨⟨(.some 111), .none, (.extract 3 (.tmp 105))⟩, .no, []⟩, ⟨⟨(.some 18), .none, (.move (.tmp 108))⟩, .no, []⟩, ⟨⟨(.some 19), .none, (.move (.tmp 109))⟩, .no, []⟩, ⟨⟨(.some 20), .none, (.move (.tmp 110))⟩, .no, []⟩, ⟨⟨(.some 21), .none, (.move (.tmp 111))⟩, .no, []⟩]) (.seq (.region [⟨⟨(.some 112), .none, (.callF 15 [])⟩, .no, [(.one .bool)]⟩, ⟨⟨(.some 113), .none, (.move (.tmp 112))⟩, .no, []⟩, ⟨⟨(.some 114), (.some (113, true)), (.move (.tmp 21))⟩, .no, []⟩, ⟨⟨(.some 115), (.some (113, true)), (.bin .eql (.tmp 114) (.con (.int .i64 162)))⟩, .no, []⟩, ⟨⟨(.some 116), (.some (113, true)), (.move (.tmp 115))⟩, .no, []⟩, ⟨⟨(.some 117), (.some (116, false)), (.move (.tmp 21))⟩, .no, []⟩, ⟨⟨(.some 118), (.some (116, false)), (.bin .eql (.tmp 117) (.con (.int .i64 160)))⟩, .no, []⟩, ⟨⟨(.some 119), (.some (116, false)), (.move (.tmp 118))⟩, .no, []⟩, ⟨⟨(.some 120), (.some (119, true)), (.move (.tmp 3))⟩, .no, []⟩, ⟨⟨(.some 121), (.some (119, true)), (.bin .eql (.tmp 120) (.con (.int .i64 0)))⟩, .no, []⟩, ⟨⟨(.some 122), (.some (116, false)), (.pick (.tmp 119) (.tmp 121) (.con (.bool false)))⟩, .no, []⟩, ⟨⟨(.some 123), (.some (113, true)), (.pick (.tmp 116) (.con (.bool true)) (.tmp 122))⟩, .no, []⟩, ⟨⟨(.some 124), .none, (.pick (.tmp 113) (.tmp 123) (.con (.bool false)))⟩, .no, []⟩, ⟨⟨(.some 10), .none, (.move (.tmp 124))⟩, .no, []⟩]) .ret)))))))))))))
theorem T5_er : T5.erase = F5.body := by kernel_rfl
theorem T5_okL : T5.okL = true := by kernel_rfl
def p5 (x0 : Int) (x1 : List UInt8) (x2 : V) (x3 : Int) (x4 : Int) (S : St) (K : Bool → St → Prop) : Prop :=
  Join0 (fun (k1 : St → Prop) =>
   ifC (decide ((524288 : Int) < (x1.length : Int)))
   (K true S)
   (∃ x27 : Int, lenV S 2 x2 = some (V.int .i64 x27) ∧
   ifC (decide ((524288 : Int) < x27))
   (K true S)
   (k1  S)))
  (fun (S1 : St) =>
   CallA Go.Proofs.Try.prog 8 [(V.int .i64 x0), (V.str x1)] S1 (retT [(.one .any), (.one (.int .i64))] fun (x33a : V) (x33b : Int) (S2 : St) =>
   ifC (!decide (x33b = (0 : Int)))
   (CallA Go.Proofs.Try.prog 15 [] S2 (retT [(.one .bool)] fun (x38 : Bool) (S3 : St) =>
    ifC x38
    (∃ x41 : Int, lenV S3 2 x33a = some (V.int .i64 x41) ∧
    K (decide (x41 = (0 : Int))) S3)
    (K false S3)))
   (ifP (appV S2 1 1 V.nilSlice x33a) fun (x46 : V) (S4 : St) =>
    ifP (appV S4 1 1 x46 x2) fun (x49 : V) (S5 : St) =>
    CallA Go.Proofs.Try.prog 11 [x49] S5 (retT [(.one (.int .i64)), (.one .str), (.one (.int .i64)), (.one (.int .i64))] fun (x52a : Int) (x52b : List UInt8) (x52c : Int) (x52d : Int) (S6 : St) =>
    Join0 (fun (k2 : St → Prop) =>
     ifC (!decide (x52d = (0 : Int)))
     (K false S6)
     (ifC (!decide (x52a = x0))
     (K false S6)
     (ifC (!decide (x52b = x1))
     (K false S6)
     (∃ x72 : Int, lenV S6 2 x33a = some (V.int .i64 x72) ∧
     ifC (!decide (x52c = x72))
     (K false S6)
     (k2  S6)))))
    (fun (S7 : St) =>
     Join1 (fun (k3 : Bool → St → Prop) =>
      ifC (decide (x3 < (0 : Int)))
      (k3 true S7)
      (∃ x80 : Int, lenV S7 2 x33a = some (V.int .i64 x80) ∧
      ifC (decide (x80 ≤ x3))
      (k3 true S7)
      (ifC (decide ((1 : Int) ≤ x3))
      (ifC (decide (x3 ≤ (4 : Int)))
      (k3 true S7)
      (k3 (decide (x4 = (0 : Int))) S7))
      (k3 (decide (x4 = (0 : Int))) S7))))
     (fun (x94 : Bool) (S8 : St) =>
      ifC x94
      (CallA Go.Proofs.Try.prog 15 [] S8 (retT [(.one .bool)] fun (x95 : Bool) (S9 : St) =>
       K x95 S9))
      (ifS (idxAddrV 1 x49 (V.int .i64 x3)) fun (x100 : V) =>
       ∃ x101 : Int, loadV S8 x100 = some (V.int .u8 x101) ∧
       setI (intBits .xor .u8 x101 x4) fun (x103 : Int) =>
       ifS (idxAddrV 1 x49 (V.int .i64 x3)) fun (x104 : V) =>
       ifS (storeV S8 1 x104 (V.int .u8 x103)) fun (S10 : St) =>
       CallA Go.Proofs.Try.prog 11 [x49] S10 (retT [(.one (.int .i64)), (.one .str), (.one (.int .i64)), (.one (.int .i64))] fun (x107a : Int) (x107b : List UInt8) (x107c : Int) (x107d : Int) (S11 : St) =>
       CallA Go.Proofs.Try.prog 15 [] S11 (retT [(.one .bool)] fun (x112 : Bool) (S12 : St) =>
       ifC x112
       (ifC (decide (x107d = (162 : Int)))
       (K true S12)
       (ifC (decide (x107d = (160 : Int)))
       (K (decide (x3 = (0 : Int))) S12)
       (K false S12)))
       (K false S12))))))))))
theorem p5_eq (x0 : Int) (x1 : List UInt8) (x2 : V) (x3 : Int) (x4 : Int) (S : St) (K : Bool → St → Prop) : wpT Go.Proofs.Try.prog okF T5 (endT F5.results [(.one .bool)] K) (startT [(V.int .i64 x0), (V.str x1), x2, (V.int .i64 x3), (V.int .u8 x4)] ++ List.replicate (F5.nt - 5) .none) S = p5 x0 x1 x2 x3 x4 S K := by kernel_rfl
theorem p5_ok {x0 : Int} {x1 : List UInt8} {x2 : V} {x3 : Int} {x4 : Int} { S : St} {K : Bool → St → Prop} (h : p5 x0 x1 x2 x3 x4 S K) : CallA Go.Proofs.Try.prog 5 [(V.int .i64 x0), (V.str x1), x2, (V.int .i64 x3), (V.int .u8 x4)] S (retT [(.one .bool)] K) :=
  CallA.of_T okF_ok F5_ok T5_er T5_okL (Eq.mpr (p5_eq x0 x1 x2 x3 x4 S K) h)

def T6 : TC := (.seq (.region [⟨⟨(.some 2), .none, (.move (.con (.bool false)))⟩, .no, []⟩]) (.seq (.seq (.region [⟨⟨(.some 11), .none, (.move (.tmp 0))⟩, .no, []⟩, ⟨⟨(.some 12), .none, (.len 1 (.tmp 11))⟩, .no, []⟩, ⟨⟨(.some 13), .none, (.bin .gtr (.tmp 12) (.con (.int .i64 524288)))⟩, .no, []⟩]) (.cond (.tmp 13) (.seq (.region [⟨⟨(.some 2), .none, (.move (.con (.bool true)))⟩, .no, []⟩]) .ret) .skip)) (.seq (.region [⟨⟨(.some 15), .none, (.move (.tmp 0))⟩, .no, []⟩, ⟨⟨(.some 16), .none, (.callF 27 [(.tmp 15)])⟩, .no, [(.agg [(.int .i64), (.int .i64), .any]), (.one (.int .i64))]⟩, ⟨⟨(.some 14), .none, (.move (.tmp 16))⟩, .no, []⟩, ⟨⟨(.some 17), .none, (.extract 0 (.tmp 14))⟩, .no, []⟩, ⟨⟨(.some 18), .none, (.extract 1 (.tmp 14))⟩, .no, []⟩, ⟨⟨(.some 3), .none, (.alloc [(.int .i64 0), (.int .i64 0), .nilSlice])⟩, .no, []⟩, ⟨⟨.none, .none, (.store 3 (.tmp 3) (.tmp 17))⟩, .no, []⟩, ⟨⟨(.some 4), .none, (.move (.tmp 18))⟩, .no, []⟩]) (.seq (.region [⟨⟨(.some 20), .none, (.move (.tmp 0))⟩, .no, []⟩, ⟨⟨(.some 21), .none, (.callF 28 [(.tmp 20)])⟩, .no, [(.agg [(.int .i64), (.int .i64), .any]), (.one (.int .i64))]⟩, ⟨⟨(.some 19), .none, (.move (.tmp 21))⟩, .no, []⟩, ⟨⟨(.some 22), .none, (.extract 0 (.tmp 19))⟩, .no, []⟩, ⟨⟨(.some 23), .none, (.extract 1 (.tmp 19))⟩, .no, []⟩, ⟨⟨(.some 5), .none, (.alloc [(.int .i64 0), (.int .i64 0), .nilSlice])⟩, .no, []⟩, ⟨⟨.none, .none, (.store 3 (.tmp 5) (.tmp 22))⟩, .no, []⟩, ⟨⟨(.some 6), .none, (.move (.tmp 23))⟩, .no, []⟩]) (.seq (.region [⟨⟨(.some 25), .none, (.move (.tmp 0))⟩, .no, []⟩, ⟨⟨(.some 26), .none, (.callF 29 [(.tmp 25)])⟩, .no, [(.one .any), (.one (.int .i64))]⟩, ⟨⟨(.some 24), .none, (.move (.tmp 26))⟩, .no, []⟩, ⟨⟨(.some 27), .none, (.extract 0 (.tmp 24))⟩, .no, []⟩, ⟨⟨(.some 28), .none, (.extract 1 (.tmp 24))⟩, .no, []⟩, ⟨⟨(.some 7), .none, (.move (.tmp 27))⟩, .no, []⟩, ⟨⟨(.some 8), .none, (.move (.tmp 28))⟩, .no, []⟩]) (.seq (.region [⟨⟨(.some 30), .none, (.move (.tmp 0))⟩, .no, []⟩, ⟨⟨(.some 31), .none, (.callF 30 [(.tmp 30)])⟩, .no, [(.one .any), (.one (.int .i64))]⟩, ⟨⟨(.some 29), .none, (.move (.tmp 31))⟩, .no, []⟩, ⟨⟨(.some 32), .none, (.extract 0 (.tmp 29))⟩, .no, []⟩, ⟨⟨(.some 33), .none, (.extract 1 (.tmp 29))⟩, .no, []⟩, ⟨⟨(.some 9), .none, (.move (.tmp 32))⟩, .no, []⟩, ⟨⟨(.some 10), .none, (.move (.tmp 33))⟩, .no, []⟩]) (.seq (.region [⟨⟨(.some 34), .none, (.callF 15 [])⟩, .no, [(.one .bool)]⟩, ⟨⟨(.some 35), .none, (.move (.tmp 34))⟩, .no, []⟩, ⟨⟨(.some 36), (.some (35, true)), (.fieldAddr 0 (.tmp 3))⟩, .no, []⟩, ⟨⟨(.some 37), (.some (35, true)), (.load1 (.tmp 36))⟩, (.dt (.one (.int .i64))), []⟩, ⟨⟨(.some 38), (.some (35, true)), (.fieldAddr 0 (.tmp 5))⟩, .no, []⟩, ⟨⟨(.some 39), (.some (35, true)), (.load1 (.tmp 38))⟩, (.dt (.one (.int .i64))), []⟩, ⟨⟨(.some 40), (.some (35, true)), (.bin .eql (.tmp 37) (.tmp 39))⟩, .no, []⟩, ⟨⟨(.some 41), .none, (.pick (.tmp 35) (.tmp 40) (.con (.bool false)))⟩, .no, []⟩, ⟨⟨(.some 42), .none, (.move (.tmp 41))⟩, .no, []⟩, ⟨⟨(.some 43), (.some (42, true)), (.fieldAddr 1 (.tmp 3))⟩, .no, []⟩, ⟨⟨(.some 44), (.some (42, true)), (.load1 (.tmp 43))⟩, (.dt (.one (.int .i64))), []⟩, ⟨⟨(.some 45), (.some (42, true)), (.fieldAddr 1 (.tmp 5))⟩, .no, []⟩, ⟨⟨(.some 46), (.some (42, true)), (.load1 (.tmp 45))⟩, (.dt (.one (.int .i64))), []⟩, ⟨⟨(.some 47), (.some (42, true)), (.bin .eql (.tmp 44) (.tmp 46))⟩, .no, []⟩, ⟨⟨(.some 48), .none, (.pick (.tmp 42) (.tmp 47) (.con (.bool false)))⟩, .no, []⟩, ⟨⟨(.some 49), .none, (.move (.tmp 48))⟩, .no, []⟩, ⟨⟨(.some 50), (.some (49, true)), (.fieldAddr 2 (.tmp 3))⟩, .no, []⟩, ⟨⟨(.some 51), (.some (49, true)), (.load1 (.tmp 50))⟩, .no, []⟩, ⟨⟨(.some 52), (.some (49, true)), (.fieldAddr 2 (.tmp 5))⟩, .no, []⟩, ⟨⟨(.some 53), (.some (49, true)), (.load1 (.tmp 52))⟩, .no, []⟩, ⟨⟨(.some 54), (.some (49, true)), (.callF 31 [(.tmp 51), (.tmp 53)])⟩, .no, [(.one .bool)]⟩, ⟨⟨(.some 55), .none, (.pick (.tmp 49) (.tmp 54) (.con (.bool false)))⟩, .no, []⟩, ⟨⟨(.some 56), .none, (.move (.tmp 55))⟩, .no, []⟩, ⟨⟨(.some 57), (.some (56, true)), (.move (.tmp 4))⟩, .no, []⟩, ⟨⟨(.some 58), (.some (56, true)), (.move (.tmp 6))⟩, .no, []⟩, ⟨⟨(.some 59), (.some (56, true)), (.bin .eql (.tmp 57) (.tmp 58))⟩, .no, []⟩, ⟨⟨(.some 60), .none, (.pick (.tmp 56) (.tmp 59) (.con (.bool false)))⟩, .no, []⟩, ⟨⟨(.some 61), .none, (.move (.tmp 60))⟩, .no, []⟩, ⟨⟨(.some 62), (.some (61, true)), (.move (.tmp 7))⟩, .no, []⟩, ⟨⟨(.some 63), (.some (61, true)), (.move (.tmp 9))⟩, .no, []⟩, ⟨⟨(.some 64), (.some (61, true)), (.callF 32 [(.tmp 62), (.tmp 63)])⟩, .no, [(.one .bool)]⟩, ⟨⟨(.some 65), .none, (.pick (.tmp 61) (.tmp 64) (.con (.bool false)))⟩, .no, []⟩, ⟨⟨(.some 66), .none, (.move (.tmp 65))⟩, .no, []⟩, ⟨⟨(.some 67), (.some (66, true)), (.move (.tmp 8))⟩, .no, []⟩, ⟨⟨(.some 68), (.some (66, true)), (.move (.tmp 10))⟩, .no, []⟩, ⟨⟨(.some 69), (.some (66, true)), (.bin .eql (.tmp 67) (.tmp 68))⟩, .no, []⟩, ⟨⟨(.some 70), .none, (.pick (.tmp 66) (.tmp 69) (.con (.bool false)))⟩, .no, []⟩, ⟨⟨(.some 2), .none, (.move (.tmp 70))⟩, .no, []⟩]) .ret)))))))
theorem T6_er : T6.erase = F6.body := by kernel_rfl
theorem T6_okL : T6.okL = true := by kernel_rfl
def p6 (x0 : List UInt8) (S : St) (K : Bool → St → Prop) : Prop :=
  ifC (decide ((524288 : Int) < (x0.length : Int)))
  (K true S)
  (CallA Go.Proofs.Try.prog 27 [(V.str x0)] S (retT [(.agg [(.int .i64), (.int .i64), .any]), (.one (.int .i64))] fun (x16a_a : Int) (x16a_b : Int) (x16a_c : V) (x16b : Int) (S1 : St) =>
   newS S1 (.cells [(V.int .i64 0), (V.int .i64 0), V.nilSlice] true) fun (S2 : St) =>
   ifS (storeV S2 3 (V.ptr S1.next 0) (V.agg [(V.int .i64 x16a_a), (V.int .i64 x16a_b), x16a_c])) fun (S3 : St) =>
   CallA Go.Proofs.Try.prog 28 [(V.str x0)] S3 (retT [(.agg [(.int .i64), (.int .i64), .any]), (.one (.int .i64))] fun (x21a_a : Int) (x21a_b : Int) (x21a_c : V) (x21b : Int) (S4 : St) =>
   newS S4 (.cells [(V.int .i64 0), (V.int .i64 0), V.nilSlice] true) fun (S5 : St) =>
   ifS (storeV S5 3 (V.ptr S4.next 0) (V.agg [(V.int .i64 x21a_a), (V.int .i64 x21a_b), x21a_c])) fun (S6 : St) =>
   CallA Go.Proofs.Try.prog 29 [(V.str x0)] S6 (retT [(.one .any), (.one (.int .i64))] fun (x26a : V) (x26b : Int) (S7 : St) =>
   CallA Go.Proofs.Try.prog 30 [(V.str x0)] S7 (retT [(.one .any), (.one (.int .i64))] fun (x31a : V) (x31b : Int) (S8 : St) =>
   CallA Go.Proofs.Try.prog 15 [] S8 (retT [(.one .bool)] fun (x34 : Bool) (S9 : St) =>
   ifC x34
   (∃ x37 : Int, loadV S9 (V.ptr S1.next 0) = some (V.int .i64 x37) ∧
   ∃ x39 : Int, loadV S9 (V.ptr S4.next 0) = some (V.int .i64 x39) ∧
   ifC (decide (x37 = x39))
   (∃ x44 : Int, loadV S9 (V.ptr S1.next 1) = some (V.int .i64 x44) ∧
   ∃ x46 : Int, loadV S9 (V.ptr S4.next 1) = some (V.int .i64 x46) ∧
   ifC (decide (x44 = x46))
   (ifS (loadV S9 (V.ptr S1.next 2)) fun (x51 : V) =>
   ifS (loadV S9 (V.ptr S4.next 2)) fun (x53 : V) =>
   CallA Go.Proofs.Try.prog 31 [x51, x53] S9 (retT [(.one .bool)] fun (x54 : Bool) (S10 : St) =>
   ifC x54
   (ifC (decide (x16b = x21b))
   (CallA Go.Proofs.Try.prog 32 [x26a, x31a] S10 (retT [(.one .bool)] fun (x64 : Bool) (S11 : St) =>
   ifC x64
   (K (decide (x26b = x31b)) S11)
   (K false S11)))
   (K false S10))
   (K false S10)))
   (K false S9))
   (K false S9))
   (K false S9)))))))
theorem p6_eq (x0 : List UInt8) (S : St) (K : Bool → St → Prop) : wpT Go.Proofs.Try.prog okF T6 (endT F6.results [(.one .bool)] K) (startT [(V.str x0)] ++ List.replicate (F6.nt - 1) .none) S = p6 x0 S K := by kernel_rfl
theorem p6_ok {x0 : List UInt8} { S : St} {K : Bool → St → Prop} (h : p6 x0 S K) : CallA Go.Proofs.Try.prog 6 [(V.str x0)] S (retT [(.one .bool)] K) :=
  CallA.of_T okF_ok F6_ok T6_er T6_okL (Eq.mpr (p6_eq x0 S K) h)

def T7 : TC := (.seq (.region [⟨⟨(.some 4), .none, (.box (.tmp 0))⟩, .no, []⟩, ⟨⟨(.some 8), .none, (.move (.con (.bool false)))⟩, .no, []⟩]) (.join [] (.seq (.region [⟨⟨(.some 33), .none, (.fieldAddr 2 (.tmp 4))⟩, .no, []⟩, ⟨⟨(.some 34), .none, (.load1 (.tmp 33))⟩, .no, []⟩, ⟨⟨(.some 35), .none, (.len 2 (.tmp 34))⟩, (.dt (.one (.int .i64))), []⟩, ⟨⟨(.some 36), .none, (.bin .gtr (.tmp 35) (.con (.int .i64 524288)))⟩, .no, []⟩, ⟨⟨(.some 37), .none, (.move (.tmp 36))⟩, .no, []⟩, ⟨⟨(.some 38), (.some (37, false)), (.move (.tmp 1))⟩, .no, []⟩, ⟨⟨(.some 39), (.some (37, false)), (.callF 18 [(.tmp 38)])⟩, .no, [(.one .bool)]⟩, ⟨⟨(.some 40), .none, (.pick (.tmp 37) (.con (.bool true)) (.tmp 39))⟩, .no, []⟩, ⟨⟨(.some 41), .none, (.move (.tmp 40))⟩, .no, []⟩, ⟨⟨(.some 42), (.some (41, false)), (.move (.tmp 2))⟩, .no, []⟩, ⟨⟨(.some 43), (.some (41, false)), (.len 1 (.tmp 42))⟩, .no, []⟩, ⟨⟨(.some 44), (.some (41, false)), (.bin .gtr (.tmp 43) (.con (.int .i64 524288)))⟩, .no, []⟩, ⟨⟨(.some 45), .none, (.pick (.tmp 41) (.con (.bool true)) (.tmp 44))⟩, .no, []⟩]) (.cond (.tmp 45) (.seq (.region [⟨⟨(.some 8), .none, (.move (.con (.bool true)))⟩, .no, []⟩]) .ret) .skip)) (.seq (.region [⟨⟨(.some 47), .none, (.loadN 3 (.tmp 4))⟩, (.dt (.agg [(.int .i64), (.int .i64), .any])), []⟩, ⟨⟨(.some 48), .none, (.callF 20 [(.tmp 47)])⟩, .no, [(.one .str), (.one (.int .i64))]⟩, ⟨⟨(.some 46), .none, (.move (.tmp 48))⟩, .no, []⟩, ⟨⟨(.some 49), .none, (.extract 0 (.tmp 46))⟩, .no, []⟩, ⟨⟨(.some 50), .none, (.extract 1 (.tmp 46))⟩, .no, []⟩, ⟨⟨(.some 9), .none, (.move (.tmp 49))⟩, .no, []⟩, ⟨⟨(.some 10), .none, (.move (.tmp 50))⟩, .no, []⟩]) (.join [] (.seq (.region [⟨⟨(.some 51), .none, (.move (.tmp 10))⟩, .no, []⟩, ⟨⟨(.some 52), .none, (.bin .eql (.tmp 51) (.con (.int .i64 0)))⟩, .no, []⟩]) (.cond (.tmp 52) (.seq (.seq (.region [⟨⟨(.some 53), .none, (.move (.tmp 9))⟩, .no, []⟩, ⟨⟨(.some 54), .none, (.len 1 (.tmp 53))⟩, .no, []⟩, ⟨⟨(.some 55), .none, (.bin .lss (.tmp 54) (.con (.int .i64 1)))⟩, .no, []⟩]) (.cond (.tmp 55) (.seq (.region [⟨⟨(.some 8), .none, (.move (.con (.bool false)))⟩, .no, []⟩]) .ret) .skip)) (.seq (.region [⟨⟨(.some 57), .none, (.move (.tmp 9))⟩, .no, []⟩, ⟨⟨(.some 58), .none, (.callF 27 [(.tmp 57)])⟩, .no, [(.agg [(.int .i64), (.int .i64), .any]), (.one (.int .i64))]⟩, ⟨⟨(.some 56), .none, (.move (.tmp 58))⟩, .no, []⟩, ⟨⟨(.some 59), .none, (.extract 0 (.tmp 56))⟩, .no, []⟩, ⟨⟨(.some 60), .none, (.extract 1 (.tmp 56))⟩, .no, []⟩, ⟨⟨(.some 11), .none, (.alloc [(.int .i64 0), (.int .i64 0), .nilSlice])⟩, .no, []⟩, ⟨⟨.none, .none, (.store 3 (.tmp 11) (.tmp 59))⟩, .no, []⟩, ⟨⟨(.some 12), .none, (.move (.tmp 60))⟩, .no, []⟩]) (.seq (.region [⟨⟨(.some 62), .none, (.move (.tmp 9))⟩, .no, []⟩, ⟨⟨(.some 63), .none, (.move (.tmp 3))⟩, .no, []⟩, ⟨⟨(.some 64), .none, (.buildSlice 1 1 [(.int .u8 0)] [(0, (1, (.tmp 63)))])⟩, (.dt (.agg [(.int .u8)])), []⟩, ⟨⟨(.some 65), .none, (.convBS (.tmp 64))⟩, (.dt (.one .str)), []⟩, ⟨⟨(.some 66), .none, (.bin .add (.tmp 62) (.tmp 65))⟩, .no, []⟩, ⟨⟨(.some 67), .none, (.callF 27 [(.tmp 66)])⟩, .no, [(.agg [(.int .i64), (.int .i64), .any]), (.one (.int .i64))]⟩, ⟨⟨(.some 61), .none, (.move (.tmp 67))⟩, .no, []⟩, ⟨⟨(.some 68), .none, (.extract 0 (.tmp 61))⟩, .no, []⟩, ⟨⟨(.some 69), .none, (.extract 1 (.tmp 61))⟩, .no, []⟩, ⟨⟨(.some 13), .none, (.alloc [(.int .i64 0), (.int .i64 0), .nilSlice])⟩, .no, []⟩, ⟨⟨.none, .none, (.store 3 (.tmp 13) (.tmp 68))⟩, .no, []⟩, ⟨⟨(.some 14), .none, (.move (.tmp 69))⟩, .no, []⟩]) (.seq (.region [⟨⟨(.some 71), .none, (.move (.tmp 9))⟩, .no, []⟩, ⟨⟨(.some 72), .none, (.move (.tmp 9))⟩, .no, []⟩, ⟨⟨(.some 73), .none, (.len 1 (.tmp 72))⟩, .no, []⟩, ⟨⟨(.some 74), .none, (.bin .sub (.tmp 73) (.con (.int .i64 1)))⟩, .no, []⟩, ⟨⟨(.some 75), .none, (.sliceStr (.tmp 71) .none (.some (.tmp 74)))⟩, (.dt (.one .str)), []⟩, ⟨⟨(.some 76), .none, (.callF 27 [(.tmp 75)])⟩, .no, [(.agg [(.int .i64), (.int .i64), .any]), (.one (.int .i64))]⟩, ⟨⟨(.some 70), .none, (.move (.tmp 76))⟩, .no, []⟩, ⟨⟨(.some 77), .none, (.extract 0 (.tmp 70))⟩, .no, []⟩, ⟨⟨(.some 78), .none, (.extract 1 (.tmp 70))⟩, .no, []⟩, ⟨⟨(.some 15), .none, (.alloc [(.int .i64 0), (.int .i64 0), .nilSlice])⟩, .no, []⟩, ⟨⟨.none, .none, (.store 3 (.tmp 15) (.tmp 77))⟩, .no, []⟩, ⟨⟨(.some 16), .none, (.move (.tmp 78))⟩, .no, []⟩]) (.seq (.region [⟨⟨(.some 79), .none, (.move (.tmp 12))⟩, .no, []⟩, ⟨⟨(.some 80), .none, (.bin .neq (.tmp 79) (.con (.int .i64 0)))⟩, .no, []⟩, ⟨⟨(.some 81), .none, (.move (.tmp 80))⟩, .no, []⟩, ⟨⟨(.some 82), (.some (81, false)), (.fieldAddr 0 (.tmp 11))⟩, .no, []⟩, ⟨⟨(.some 83), (.some (81, false)), (.load1 (.tmp 82))⟩, (.dt (.one (.int .i64))), []⟩, ⟨⟨(.some 84), (.some (81, false)), (.fieldAddr 0 (.tmp 4))⟩, .no, []⟩, ⟨⟨(.some 85), (.some (81, false)), (.load1 (.tmp 84))⟩, (.dt (.one (.int .i64))), []⟩, ⟨⟨(.some 86), (.some (81, false)), (.bin .neq (.tmp 83) (.tmp 85))⟩, .no, []⟩, ⟨⟨(.some 87), .none, (.pick (.tmp 81) (.con (.bool true)) (.tmp 86))⟩, .no, []⟩, ⟨⟨(.some 88), .none, (.move (.tmp 87))⟩, .no, []⟩, ⟨⟨(.some 89), (.some (88, false)), (.fieldAddr 1 (.tmp 11))⟩, .no, []⟩, ⟨⟨(.some 90), (.some (88, false)), (.load1 (.tmp 89))⟩, (.dt (.one (.int .i64))), []⟩, ⟨⟨(.some 91), (.some (88, false)), (.fieldAddr 1 (.tmp 4))⟩, .no, []⟩, ⟨⟨(.some 92), (.some (88, false)), (.load1 (.tmp 91))⟩, (.dt (.one (.int .i64))), []⟩, ⟨⟨(.some 93), (.some (88, false)), (.bin .neq (.tmp 90) (.tmp 92))⟩, .no, []⟩, ⟨⟨(.some 94), .none, (.pick (.tmp 88) (.con (.bool true)) (.tmp 93))⟩, .no, []⟩, ⟨⟨(.some 95), .none, (.move (.tmp 94))⟩, .no, []⟩, ⟨⟨(.some 96), (.some (95, false)), (.fieldAddr 2 (.tmp 11))⟩, .no, []⟩, ⟨⟨(.some 97), (.some (95, false)), (.load1 (.tmp 96))⟩, .no, []⟩, ⟨⟨(.some 98), (.some (95, false)), (.fieldAddr 2 (.tmp 4))⟩, .no, []⟩, ⟨⟨(.some 99), (.some (95, false)), (.load1 (.tmp 98))⟩, .no, []⟩, ⟨⟨(.some 100), (.some (95, false)), (.callF 31 [(.tmp 97), (.tmp 99)])⟩, .no, [(.one .bool)]⟩, ⟨⟨(.some 101), (.some (95, false)), (.un .not (.tmp 100))⟩, .no, []⟩, ⟨⟨(.some 102), .none, (.pick (.tmp 95) (.con (.bool true)) (.tmp 101))⟩, .no, []⟩, ⟨⟨(.some 103), .none, (.move (.tmp 102))⟩, .no, []⟩, ⟨⟨(.some 104), (.some (103, false)), (.move (.tmp 14))⟩, .no, []⟩, ⟨⟨(.some 105), (.some (103, false)), (.bin .neq (.tmp 104) (.con (.int .i64 161)))⟩, .no, []⟩, ⟨⟨(.some 106), .none, (.pick (.tmp 103) (.con (.bool true)) (.tmp 105))⟩, .no, []⟩, ⟨⟨(.some 107), .none, (.move (.tmp 106))⟩, .no, []⟩, ⟨⟨(.some 108), (.some (107, false)), (.move (.tmp 16))⟩, .no, []⟩, ⟨⟨(.some 109), (.some (107, false)), (.bin .neq (.tmp 108) (.con (.int .i64 161)))⟩, .no, []⟩, ⟨⟨(.some 110), .none, (.pick (.tmp 107) (.con (.bool true)) (.tmp 109))⟩, .no, []⟩]) (.cond (.tmp 110) (.seq (.region [⟨⟨(.some 8), .none, (.move (.con (.bool false)))⟩, .no, []⟩]) .ret) .skip)))))) .skip)) (.seq (.region [⟨⟨(.some 112), .none, (.move (.tmp 1))⟩, .no, []⟩, ⟨⟨(.some 113), .none, (.callF 24 [(.tmp 112)])⟩, .no, [(.one .str), (.one (.int .i64))]⟩, ⟨⟨(.some 111), .none, (.move (.tmp 113))⟩, .no, []⟩, ⟨⟨(.some 114), .none, (.extract 0 (.tmp 111))⟩, .no, []⟩, ⟨⟨(.some 115), .none, (.extract 1 (.tmp 111))⟩, .no, []⟩, ⟨⟨(.some 17), .none, (.move (.tmp 114))⟩, .no, []⟩, ⟨⟨(.some 18), .none, (.move (.tmp 115))⟩, .no, []⟩]) (.join [] (.seq (.region [⟨⟨(.some 116), .none, (.move (.tmp 18))⟩, .no, []⟩, ⟨⟨(.some 117), .none, (.bin .eql (.tmp 116) (.con (.int .i64 0)))⟩, .no, []⟩]) (.cond (.tmp 117) (.seq (.seq (.region [⟨⟨(.some 118), .none, (.move (.tmp 17))⟩, .no, []⟩, ⟨⟨(.some 119), .none, (.len 1 (.tmp 118))⟩, .no, []⟩, ⟨⟨(.some 120), .none, (.bin .lss (.tmp 119) (.con (.int .i64 1)))⟩, .no, []⟩]) (.cond (.tmp 120) (.seq (.region [⟨⟨(.some 8), .none, (.move (.con (.bool false)))⟩, .no, []⟩]) .ret) .skip)) (.seq (.region [⟨⟨(.some 122), .none, (.move (.tmp 17))⟩, .no, []⟩, ⟨⟨(.some 123), .none, (.callF 29 [(.tmp 122)])⟩, .no, [(.one .any), (.one (.int .i64))]⟩, ⟨⟨(.some 121), .none, (.move (.tmp 123))⟩, .no, []⟩, ⟨⟨(.some 124), .none, (.extract 0 (.tmp 121))⟩, .no, []⟩, ⟨⟨(.some 125), .none, (.extract 1 (.tmp 121))⟩, .no, []⟩, ⟨⟨(.some 19), .none, (.move (.tmp 124))⟩, .no, []⟩, ⟨⟨(.some 20), .none, (.move (.tmp 125))⟩, .no, []⟩]) (.seq (.region [⟨⟨(.some 127), .none, (.move (.tmp 17))⟩, .no, []⟩, ⟨⟨(.some 128), .none, (.move (.tmp 3))⟩, .no, []⟩, ⟨⟨(.some 129), .none, (.buildSlice 1 1 [(.int .u8 0)] [(0, (1, (.tmp 128)))])⟩, (.dt (.agg [(.int .u8)])), []⟩, ⟨⟨(.some 130), .none, (.convBS (.tmp 129))⟩, (.dt (.one .str)), []⟩, ⟨⟨(.some 131), .none, (.bin .add (.tmp 127) (.tmp 130))⟩, .no, []⟩, ⟨⟨(.some 132), .none, (.callF 29 [(.tmp 131)])⟩, .no, [(.one .any), (.one (.int .i64))]⟩, ⟨⟨(.some 126), .none, (.move (.tmp 132))⟩, .no, []⟩, ⟨⟨(.some 133), .none, (.extract 0 (.tmp 126))⟩, .no, []⟩, ⟨⟨(.some 134), .none, (.extract 1 (.tmp 126))⟩, .no, []⟩, ⟨⟨(.some 21), .none, (.move (.tmp 133))⟩, .no, []⟩, ⟨⟨(.some 22), .none, (.move (.tmp 134))⟩, .no, []⟩]) (.seq (.region [⟨⟨(.some 136), .none, (.move (.tmp 17))⟩, .no, []⟩, ⟨⟨(.some 137), .none, (.move (.tmp 17))⟩, .no, []⟩, ⟨⟨(.some 138), .none, (.len 1 (.tmp 137))⟩, .no, []⟩, ⟨⟨(.some 139), .none, (.bin .sub (.tmp 138) (.con (.int .i64 1)))⟩, .no, []⟩, ⟨⟨(.some 140), .none, (.sliceStr (.tmp 136) .none (.some (.tmp 139)))⟩, (.dt (.one .str)), []⟩, ⟨⟨(.some 141), .none, (.callF 29 [(.tmp 140)])⟩, .no, [(.one .any), (.one (.int .i64))]⟩, ⟨⟨(.some 135), .none, (.move (.tmp 141))⟩, .no, []⟩, ⟨⟨(.some 142), .none, (.extract 0 (.tmp 135))⟩, .no, []⟩, ⟨⟨(.some 143), .none, (.extract 1 (.tmp 135))⟩, .no, []⟩, ⟨⟨(.some 23), .none, (.move (.tmp 142))⟩, .no, []⟩, ⟨⟨(.some 24), .none, (.move (.tmp 143))⟩, .no, []⟩]) (.seq (.region [⟨⟨(.some 144), .none, (.move (.tmp 20))⟩, .no, []⟩, ⟨⟨(.some 145), .none, (.bin .neq (.tmp 144) (.con (.int .i64 0)))⟩, .no, []⟩, ⟨⟨(.some 146), .none, (.move (.tmp 145))⟩, .no, []⟩, ⟨⟨(.some 147), (.some (146, false)), (.move (.tmp 19))⟩, .no, []⟩, ⟨⟨(.some 148), (.some (146, false)), (.move (.tmp 1))⟩, .no, []⟩, ⟨⟨(.some 149), (.some (146, false)), (.callF 32 [(.tmp 147), (.tmp 148)])⟩, .no, [(.one .bool)]⟩, ⟨⟨(.some 150), (.some (146, false)), (.un .not (.tmp 149))⟩, .no, []⟩, ⟨⟨(.some 151), .none, (.pick (.tmp 146) (.con (.bool true)) (.tmp 150))⟩, .no, []⟩, ⟨⟨(.some 152), .none, (.move (.tmp 151))⟩, .no, []⟩, ⟨⟨(.some 153), (.some (152, false)), (.move (.tmp 22))⟩, .no, []⟩, ⟨⟨(.some 154), (.some (152, false)), (.bin .neq (.tmp 153) (.con (.int .i64 161)))⟩, .no, []⟩, ⟨⟨(.some 155), .none, (.pick (.tmp 152) (.con (.bool true)) (.tmp 154))⟩, .no, []⟩, ⟨⟨(.some 156), .none, (.move (.tmp 155))⟩, .no, []⟩, ⟨⟨(.some 157), (.some (156, false)), (.move (.tmp 24))⟩, .no, []⟩, ⟨⟨(.some 158), (.some (156, false)), (.bin .neq (.tmp 157) (.con (.int .i64 161)))⟩, .no, []⟩, ⟨⟨(.some 159), .none, (.pick (.tmp 156) (.con (.bool true)) (.tmp 158))⟩, .no, []⟩]) (.cond (.tmp 159) (.seq (.region [⟨⟨(.some 8), .none, (.move (.con (.bool false)))⟩, .no, []⟩]) .ret) .skip)))))) .skip)) (.seq (.region [⟨⟨(.some 161), .none, (.move (.tmp 2))⟩, .no, []⟩, ⟨⟨(.some 162), .none, (.callF 27 [(.tmp 161)])⟩, .no, [(.agg [(.int .i64), (.int .i64), .any]), (.one (.int .i64))]⟩, ⟨⟨(.some 160), .none, (.move (.tmp 162))⟩, .no, []⟩, ⟨⟨(.some 163), .none, (.extract 0 (.tmp 160))⟩, .no, []⟩, ⟨⟨(.some 164), .none, (.extract 1 (.tmp 160))⟩, .no, []⟩, ⟨⟨(.some 25), .none, (.alloc [(.int .i64 0), (.int .i64 0), .nilSlice])⟩, .no, []⟩, ⟨⟨.none, .none, (.store 3 (.tmp 25) (.tmp 163))⟩, .no, []⟩, ⟨⟨(.some 26), .none, (.move (.tmp 164))⟩, .no, []⟩]) (.join [] (.seq (.region [⟨⟨(.some 165), .none, (.move (.tmp 26))⟩, .no, []⟩, ⟨⟨(.some 166), .none, (.bin .eql (.tmp 165) (.con (.int .i64 0)))⟩, .no, []⟩]) (.cond (.tmp 166) (.seq (.region [⟨⟨(.some 168), .none, (.loadN 3 (.tmp 25))⟩, (.dt (.agg [(.int .i64), (.int .i64), .any])), []⟩, ⟨⟨(.some 169), .none, (.callF 20 [(.tmp 168)])⟩, .no, [(.one .str), (.one (.int .i64))]⟩, ⟨⟨(.some 167), .none, (.move (.tmp 169))⟩, .no, []⟩, ⟨⟨(.some 170), .none, (.extract 0 (.tmp 167))⟩, .no, []⟩, ⟨⟨(.some 171), .none, (.extract 1 (.tmp 167))⟩, .no, []⟩, ⟨⟨(.some 27), .none, (.move (.tmp 170))⟩, .no, []⟩, ⟨⟨(.some 28), .none, (.move (.tmp 171))⟩, .no, []⟩]) (.seq (.region [⟨⟨(.some 172), .none, (.move (.tmp 28))⟩, .no, []⟩, ⟨⟨(.some 173), .none, (.bin .neq (.tmp 172) (.con (.int .i64 0)))⟩, .no, []⟩, ⟨⟨(.some 174), .none, (.move (.tmp 173))⟩, .no, []⟩, ⟨⟨(.some 175), (.some (174, false)), (.move (.tmp 27))⟩, .no, []⟩, ⟨⟨(.some 176), (.some (174, false)), (.move (.tmp 2))⟩, .no, []⟩, ⟨⟨(.some 177), (.some (174, false)), (.bin .neq (.tmp 175) (.tmp 176))⟩, .no, []⟩, ⟨⟨(.some 178), .none, (.pick (.tmp 174) (.con (.bool true)) (.tmp 177))⟩, .no, []⟩]) (.cond (.tmp 178) (.seq (.region [⟨⟨(.some 8), .none, (.move (.con (.bool false)))⟩, .no, []⟩]) .ret) .skip))) .skip)) (.seq (.region [⟨⟨(.some 180), .none, (.move (.tmp 2))⟩, .no, []⟩, ⟨⟨(.some 181), .none, (.callF 29 [(.tmp 180)])⟩, .no, [(.one .any), (.one (.int .i64))]⟩, ⟨⟨(.some 179), .none, (.move (.tmp 181))⟩, .no, []⟩, ⟨⟨(.some 182), .none, (.extract 0 (.tmp 179))⟩, .no, []⟩, ⟨⟨(.some 183), .none, (.extract 1 (.tmp 179))⟩, .no, []⟩, ⟨⟨(.some 29), .none, (.move (.tmp 182))⟩, .no, []⟩, ⟨⟨(.some 30), .none, (.move (.tmp 183))⟩, .no, []⟩]) (.seq (.seq (.region [⟨⟨(.some 184), .none, (.move (.tmp 30))⟩, .no, []⟩, ⟨⟨(.some 185), .none, (.bin .eql (.tmp 184) (.con (.int .i64 0)))⟩, .no, []⟩]) (.cond (.tmp 185) (.seq (.region [⟨⟨(.some 187), .none, (.move (.tmp 29))⟩, .no, []⟩, ⟨⟨(.some 188), .none, (.callF 24 [(.tmp 187)])⟩, .no, [(.one .str), (.one (.int .i64))]⟩, ⟨⟨(.some 186), .none, (.move (.tmp 188))⟩, .no, []⟩, ⟨⟨(.some 189), .none, (.extract 0 (.tmp 186))⟩, .no, []⟩, ⟨⟨(.some 190), .none, (.extract 1 (.tmp 186))⟩, .no, []⟩, ⟨⟨(.some 31), .none, (.move (.tmp 189))⟩, .no, []⟩, ⟨⟨(.some 32), .none, (.move (.tmp 190))⟩, .no, []⟩]) (.seq (.region [⟨⟨(.some 191), .none, (.move (.tmp 32))⟩, .no, []⟩, ⟨⟨(.some 192), .none, (.bin .neq (.tmp 191) (.con (.int .i64 0)))⟩, .no, []⟩, ⟨⟨(.some 193), .none, (.move (.tmp 192))⟩, .no, []⟩, ⟨⟨(.some 194), (.some (193, false)), (.move (.tmp 31))⟩, .no, []⟩, ⟨⟨(.some 195), (.some (193, false)), (.move (.tmp 2))⟩, .no, []⟩, ⟨⟨(.some 196), (.some (193, false)), (.bin .neq (.tmp 194) (.tmp 195))⟩, .no, []⟩, ⟨⟨(.some 197), .none, (.pick (.tmp 193) (.con (.bool true)) (.tmp 196))⟩, .no, []⟩]) (.cond (.tmp 197) (.seq (.region [⟨⟨(.some 8), .none, (.move (.con (.bool false)))⟩, .no, []⟩]) .ret) .skip))) .skip)) (.seq (.region [⟨⟨(.some 198), .none, (.callF 15 [])⟩, .no, [(.one .bool)]⟩, ⟨⟨(.some 8), .none, (.move (.tmp 198))⟩, .no, []⟩]) .ret)))))))))))
theorem T7_er : T7.erase = F7.body := by kernel_rfl
theorem T7_okL : T7.okL = true := by kernel_rfl
def p7 (x0_a : Int) (x0_b : Int) (x0_c : V) (x1 : V) (x2 : List UInt8) (x3 : Int) (S : St) (K : Bool → St → Prop) : Prop :=
  newS S (.cells [(V.int .i64 x0_a), (V.int .i64 x0_b), x0_c] true) fun (S1 : St) =>
  Join0 (fun (k1 : St → Prop) =>
   ifS (loadV S1 (V.ptr S.next 2)) fun (x34 : V) =>
   ∃ x35 : Int, lenV S1 2 x34 = some (V.int .i64 x35) ∧
   ifC (decide ((524288 : Int) < x35))
   (K true S1)
   (CallA Go.Proofs.Try.prog 18 [x1] S1 (retT [(.one .bool)] fun (x39 : Bool) (S3 : St) =>
   ifC x39
   (K true S3)
   (ifC (decide ((524288 : Int) < (x2.length : Int)))
   (K true S3)
   (k1  S3)))))
  (fun (S2 : St) =>
   ∃ x47_a : Int, ∃ x47_b : Int, ∃ x47_c : V, loadNV S2 3 (V.ptr S.next 0) = some (V.agg [(V.int .i64 x47_a), (V.int .i64 x47_b), x47_c]) ∧
   CallA Go.Proofs.Try.prog 20 [(V.agg [(V.int .i64 x47_a), (V.int .i64 x47_b), x47_c])] S2 (retT [(.one .str), (.one (.int .i64))] fun (x48a : List UInt8) (x48b : Int) (S4 : St) =>
   Join0 (fun (k2 : St → Prop) =>
    ifC (decide (x48b = (0 : Int)))
    (ifC (decide ((x48a.length : Int) < (1 : Int)))
     (K false S4)
     (CallA Go.Proofs.Try.prog 27 [(V.str x48a)] S4 (retT [(.agg [(.int .i64), (.int .i64), .any]), (.one (.int .i64))] fun (x58a_a : Int) (x58a_b : Int) (x58a_c : V) (x58b : Int) (S6 : St) =>
      newS S6 (.cells [(V.int .i64 0), (V.int .i64 0), V.nilSlice] true) fun (S7 : St) =>
      ifS (storeV S7 3 (V.ptr S6.next 0) (V.agg [(V.int .i64 x58a_a), (V.int .i64 x58a_b), x58a_c])) fun (S8 : St) =>
      newS S8 (.cells [(V.int .u8 x3)] true) fun (S9 : St) =>
      ∃ x65 : List UInt8, convBSV S9 (V.slice S8.next 0 1 1 1 true) = some (V.str x65) ∧
      x48a.length + x65.length < 2 ^ 62 ∧ CallA Go.Proofs.Try.prog 27 [(V.str (x48a ++ x65))] S9 (retT [(.agg [(.int .i64), (.int .i64), .any]), (.one (.int .i64))] fun (x67a_a : Int) (x67a_b : Int) (x67a_c : V) (x67b : Int) (S10 : St) =>
      newS S10 (.cells [(V.int .i64 0), (V.int .i64 0), V.nilSlice] true) fun (S11 : St) =>
      ifS (storeV S11 3 (V.ptr S10.next 0) (V.agg [(V.int .i64 x67a_a), (V.int .i64 x67a_b), x67a_c])) fun (S12 : St) =>
      setI (IntKind.i64.wrap ((x48a.length : Int) - (1 : Int))) fun (x74 : Int) =>
      ∃ x75 : List UInt8, sliceStrV (V.str x48a) none (some (V.int .i64 x74)) = some (V.str x75) ∧
      CallA Go.Proofs.Try.prog 27 [(V.str x75)] S12 (retT [(.agg [(.int .i64), (.int .i64), .any]), (.one (.int .i64))] fun (x76a_a : Int) (x76a_b : Int) (x76a_c : V) (x76b : Int) (S13 : St) =>
      newS S13 (.cells [(V.int .i64 0), (V.int .i64 0), V.nilSlice] true) fun (S14 : St) =>
      ifS (storeV S14 3 (V.ptr S13.next 0) (V.agg [(V.int .i64 x76a_a), (V.int .i64 x76a_b), x76a_c])) fun (S15 : St) =>
      ifC (!decide (x58b = (0 : Int)))
      (K false S15)
      (∃ x83 : Int, loadV S15 (V.ptr S6.next 0) = some (V.int .i64 x83) ∧
      ∃ x85 : Int, loadV S15 (V.ptr S.next 0) = some (V.int .i64 x85) ∧
      ifC (!decide (x83 = x85))
      (K false S15)
      (∃ x90 : Int, loadV S15 (V.ptr S6.next 1) = some (V.int .i64 x90) ∧
      ∃ x92 : Int, loadV S15 (V.ptr S.next 1) = some (V.int .i64 x92) ∧
      ifC (!decide (x90 = x92))
      (K false S15)
      (ifS (loadV S15 (V.ptr S6.next 2)) fun (x97 : V) =>
      ifS (loadV S15 (V.ptr S.next 2)) fun (x99 : V) =>
      CallA Go.Proofs.Try.prog 31 [x97, x99] S15 (retT [(.one .bool)] fun (x100 : Bool) (S16 : St) =>
      ifC (!x100)
      (K false S16)
      (ifC (!decide (x67b = (161 : Int)))
      (K false S16)
      (ifC (!decide (x76b = (161 : Int)))
      (K false S16)
      (k2  S16))))))))))))
    (k2  S4))
   (fun (S5 : St) =>
    CallA Go.Proofs.Try.prog 24 [x1] S5 (retT [(.one .str), (.one (.int .i64))] fun (x113a : List UInt8) (x113b : Int) (S17 : St) =>
    Join0 (fun (k3 : St → Prop) =>
     ifC (decide (x113b = (0 : Int)))
     (ifC (decide ((x113a.length : Int) < (1 : Int)))
      (K false S17)
      (CallA Go.Proofs.Try.prog 29 [(V.str x113a)] S17 (retT [(.one .any), (.one (.int .i64))] fun (x123a : V) (x123b : Int) (S19 : St) =>
       newS S19 (.cells [(V.int .u8 x3)] true) fun (S20 : St) =>
       ∃ x130 : List UInt8, convBSV S20 (V.slice S19.next 0 1 1 1 true) = some (V.str x130) ∧
       x113a.length + x130.length < 2 ^ 62 ∧ CallA Go.Proofs.Try.prog 29 [(V.str (x113a ++ x130))] S20 (retT [(.one .any), (.one (.int .i64))] fun (x132a : V) (x132b : Int) (S21 : St) =>
       setI (IntKind.i64.wrap ((x113a.length : Int) - (1 : Int))) fun (x139 : Int) =>
       ∃ x140 : List UInt8, sliceStrV (V.str x113a) none (some (V.int .i64 x139)) = some (V.str x140) ∧
       CallA Go.Proofs.Try.prog 29 [(V.str x140)] S21 (retT [(.one .any), (.one (.int .i64))] fun (x141a : V) (x141b : Int) (S22 : St) =>
       ifC (!decide (x123b = (0 : Int)))
       (K false S22)
       (CallA Go.Proofs.Try.prog 32 [x123a, x1] S22 (retT [(.one .bool)] fun (x149 : Bool) (S23 : St) =>
       ifC (!x149)
       (K false S23)
       (ifC (!decide (x132b = (161 : Int)))
       (K false S23)
       (ifC (!decide (x141b = (161 : Int)))
       (K false S23)
       (k3  S23))))))))))
     (k3  S17))
    (fun (S18 : St) =>
     CallA Go.Proofs.Try.prog 27 [(V.str x2)] S18 (retT [(.agg [(.int .i64), (.int .i64), .any]), (.one (.int .i64))] fun (x162a_a : Int) (x162a_b : Int) (x162a_c : V) (x162b : Int) (S24 : St) =>
     newS S24 (.cells [(V.int .i64 0), (V.int .i64 0), V.nilSlice] true) fun (S25 : St) =>
     ifS (storeV S25 3 (V.ptr S24.next 0) (V.agg [(V.int .i64 x162a_a), (V.int .i64 x162a_b), x162a_c])) fun (S26 : St) =>
     Join0 (fun (k4 : St → Prop) =>
      ifC (decide (x162b = (0 : Int)))
      (∃ x168_a : Int, ∃ x168_b : Int, ∃ x168_c : V, loadNV S26 3 (V.ptr S24.next 0) = some (V.agg [(V.int .i64 x168_a), (V.int .i64 x168_b), x168_c]) ∧
       CallA Go.Proofs.Try.prog 20 [(V.agg [(V.int .i64 x168_a), (V.int .i64 x168_b), x168_c])] S26 (retT [(.one .str), (.one (.int .i64))] fun (x169a : List UInt8) (x169b : Int) (S28 : St) =>
       ifC (!decide (x169b = (0 : Int)))
       (K false S28)
       (ifC (!decide (x169a = x2))
       (K false S28)
       (k4  S28))))
      (k4  S26))
     (fun (S27 : St) =>
      CallA Go.Proofs.Try.prog 29 [(V.str x2)] S27 (retT [(.one .any), (.one (.int .i64))] fun (x181a : V) (x181b : Int) (S29 : St) =>
      ifC (decide (x181b = (0 : Int)))
      (CallA Go.Proofs.Try.prog 24 [x181a] S29 (retT [(.one .str), (.one (.int .i64))] fun (x188a : List UInt8) (x188b : Int) (S30 : St) =>
       ifC (!decide (x188b = (0 : Int)))
       (K false S30)
       (ifC (!decide (x188a = x2))
       (K false S30)
       (CallA Go.Proofs.Try.prog 15 [] S30 (retT [(.one .bool)] fun (x198 : Bool) (S31 : St) =>
        K x198 S31)))))
      (CallA Go.Proofs.Try.prog 15 [] S29 (retT [(.one .bool)] fun (x198_1 : Bool) (S32 : St) =>
       K x198_1 S32))))))))))
theorem p7_eq (x0_a : Int) (x0_b : Int) (x0_c : V) (x1 : V) (x2 : List UInt8) (x3 : Int) (S : St) (K : Bool → St → Prop) : wpT Go.Proofs.Try.prog okF T7 (endT F7.results [(.one .bool)] K) (startT [(V.agg [(V.int .i64 x0_a), (V.int .i64 x0_b), x0_c]), x1, (V.str x2), (V.int .u8 x3)] ++ List.replicate (F7.nt - 4) .none) S = p7 x0_a x0_b x0_c x1 x2 x3 S K := by kernel_rfl
theorem p7_ok {x0_a : Int} {x0_b : Int} {x0_c : V} {x1 : V} {x2 : List UInt8} {x3 : Int} { S : St} {K : Bool → St → Prop} (h : p7 x0_a x0_b x0_c x1 x2 x3 S K) : CallA Go.Proofs.Try.prog 7 [(V.agg [(V.int .i64 x0_a), (V.int .i64 x0_b), x0_c]), x1, (V.str x2), (V.int .u8 x3)] S (retT [(.one .bool)] K) :=
  CallA.of_T okF_ok F7_ok T7_er T7_okL (Eq.mpr (p7_eq x0_a x0_b x0_c x1 x2 x3 S K) h)

def T8 : TC := (.seq (.region [⟨⟨(.some 4), .none, (.move (.con .nilSlice))⟩, .no, []⟩, ⟨⟨(.some 5), .none, (.move (.con (.int .i64 0)))⟩, .no, []⟩]) (.seq (.block 0 (.join [(7, (.one .bool))] (.region [⟨⟨(.some 8), .none, (.move (.tmp 0))⟩, .no, []⟩, ⟨⟨(.some 9), .none, (.bin .lss (.tmp 8) (.con (.int .i64 1)))⟩, .no, []⟩, ⟨⟨(.some 10), .none, (.move (.tmp 9))⟩, .no, []⟩, ⟨⟨(.some 11), (.some (10, false)), (.move (.tmp 0))⟩, .no, []⟩, ⟨⟨(.some 12), (.some (10, false)), (.bin .gtr (.tmp 11) (.con (.int .i64 255)))⟩, .no, []⟩, ⟨⟨(.some 13), .none, (.pick (.tmp 10) (.con (.bool true)) (.tmp 12))⟩, .no, []⟩, ⟨⟨(.some 7), .none, (.move (.tmp 13))⟩, .no, []⟩]) (.cond (.tmp 7) (.seq (.region [⟨⟨(.some 4), .none, (.move (.con .nilSlice))⟩, .no, []⟩, ⟨⟨(.some 5), .none, (.move (.con (.int .i64 160)))⟩, .no, []⟩]) .ret) (.seq (.region [⟨⟨(.some 15), .none, (.move (.tmp 1))⟩, .no, []⟩, ⟨⟨(.some 16), .none, (.len 1 (.tmp 15))⟩, .no, []⟩, ⟨⟨(.some 17), .none, (.bin .gtr (.tmp 16) (.con (.int .i64 262144)))⟩, .no, []⟩, ⟨⟨(.some 14), .none, (.move (.tmp 17))⟩, .no, []⟩]) (.cond (.tmp 14) (.seq (.region [⟨⟨(.some 4), .none, (.move (.con .nilSlice))⟩, .no, []⟩, ⟨⟨(.some 5), .none, (.move (.con (.int .i64 2)))⟩, .no, []⟩]) .ret) .skip))))) (.seq (.region [⟨⟨(.some 18), .none, (.move (.tmp 0))⟩, .no, []⟩, ⟨⟨(.some 19), .none, (.callF 33 [(.con .nilSlice), (.tmp 18), (.con (.int .i64 1))])⟩, .no, [(.one .any)]⟩, ⟨⟨(.some 20), .none, (.move (.tmp 1))⟩, .no, []⟩, ⟨⟨(.some 21), .none, (.len 1 (.tmp 20))⟩, .no, []⟩, ⟨⟨(.some 22), .none, (.callF 33 [(.tmp 19), (.tmp 21), (.con (.int .i64 4))])⟩, .no, [(.one .any)]⟩, ⟨⟨(.some 23), .none, (.move (.tmp 0))⟩, .no, []⟩, ⟨⟨(.some 24), .none, (.move (.tmp 1))⟩, .no, []⟩, ⟨⟨(.some 25), .none, (.callF 34 [(.tmp 23), (.tmp 24)])⟩, .no, [(.one (.int .u32))]⟩, ⟨⟨(.some 26), .none, (.convInt .i64 (.tmp 25))⟩, .no, []⟩, ⟨⟨(.some 27), .none, (.callF 33 [(.tmp 22), (.tmp 26), (.con (.int .i64 4))])⟩, .no, [(.one .any)]⟩, ⟨⟨(.some 6), .none, (.move (.tmp 27))⟩, .no, []⟩]) (.seq (.region [⟨⟨(.some 28), .none, (.move (.tmp 6))⟩, .no, []⟩, ⟨⟨(.some 29), .none, (.move (.tmp 1))⟩, .no, []⟩, ⟨⟨(.some 30), .none, (.app 1 1 (.tmp 28) (.tmp 29))⟩, .no, []⟩, ⟨⟨(.some 4), .none, (.move (.tmp 30))⟩, .no, []⟩, ⟨⟨(.some 5), .none, (.move (.con (.int .i64 0)))⟩, .no, []⟩]) .ret))))
theorem T8_er : T8.erase = F8.body := by kernel_rfl
theorem T8_okL : T8.okL = true := by kernel_rfl
def p8 (x0 : Int) (x1 : List UInt8) (S : St) (K : V → Int → St → Prop) : Prop :=
  Join1 (fun (k1 : Bool → St → Prop) =>
   ifC (decide (x0 < (1 : Int)))
   (k1 true S)
   (k1 (decide ((255 : Int) < x0)) S))
  (fun (x7 : Bool) (S1 : St) =>
   ifC x7
   (K V.nilSlice 160 S1)
   (ifC (decide ((262144 : Int) < (x1.length : Int)))
    (K V.nilSlice 2 S1)
    (CallA Go.Proofs.Try.prog 33 [V.nilSlice, (V.int .i64 x0), (V.int .i64 1)] S1 (retT [(.one .any)] fun (x19 : V) (S2 : St) =>
     CallA Go.Proofs.Try.prog 33 [x19, (V.int .i64 (x1.length : Int)), (V.int .i64 4)] S2 (retT [(.one .any)] fun (x22 : V) (S3 : St) =>
     CallA Go.Proofs.Try.prog 34 [(V.int .i64 x0), (V.str x1)] S3 (retT [(.one (.int .u32))] fun (x25 : Int) (S4 : St) =>
     setI (IntKind.i64.wrap x25) fun (x26 : Int) =>
     CallA Go.Proofs.Try.prog 33 [x22, (V.int .i64 x26), (V.int .i64 4)] S4 (retT [(.one .any)] fun (x27 : V) (S5 : St) =>
     ifP (appV S5 1 1 x27 (V.str x1)) fun (x30 : V) (S6 : St) =>
     K x30 0 S6)))))))
theorem p8_eq (x0 : Int) (x1 : List UInt8) (S : St) (K : V → Int → St → Prop) : wpT Go.Proofs.Try.prog okF T8 (endT F8.results [(.one .any), (.one (.int .i64))] K) (startT [(V.int .i64 x0), (V.str x1)] ++ List.replicate (F8.nt - 2) .none) S = p8 x0 x1 S K := by kernel_rfl
theorem p8_ok {x0 : Int} {x1 : List UInt8} { S : St} {K : V → Int → St → Prop} (h : p8 x0 x1 S K) : CallA Go.Proofs.Try.prog 8 [(V.int .i64 x0), (V.str x1)] S (retT [(.one .any), (.one (.int .i64))] K) :=
  CallA.of_T okF_ok F8_ok T8_er T8_okL (Eq.mpr (p8_eq x0 x1 S K) h)

def T9 : TC := (.seq (.region [⟨⟨(.some 4), .none, (.move (.con .nilSlice))⟩, .no, []⟩, ⟨⟨(.some 5), .none, (.move (.con (.int .i64 0)))⟩, .no, []⟩]) (.join [] (.seq (.region [⟨⟨(.some 8), .none, (.move (.tmp 0))⟩, .no, []⟩, ⟨⟨(.some 9), .none, (.bin .lss (.tmp 8) (.con (.int .i64 1)))⟩, .no, []⟩, ⟨⟨(.some 10), .none, (.move (.tmp 9))⟩, .no, []⟩, ⟨⟨(.some 11), (.some (10, false)), (.move (.tmp 0))⟩, .no, []⟩, ⟨⟨(.some 12), (.some (10, false)), (.bin .gtr (.tmp 11) (.con (.int .i64 255)))⟩, .no, []⟩, ⟨⟨(.some 13), .none, (.pick (.tmp 10) (.con (.bool true)) (.tmp 12))⟩, .no, []⟩]) (.cond (.tmp 13) (.seq (.region [⟨⟨(.some 4), .none, (.move (.con .nilSlice))⟩, .no, []⟩, ⟨⟨(.some 5), .none, (.move (.con (.int .i64 160)))⟩, .no, []⟩]) .ret) .skip)) (.seq (.seq (.region [⟨⟨(.some 14), .none, (.move (.tmp 1))⟩, .no, []⟩, ⟨⟨(.some 15), .none, (.len 1 (.tmp 14))⟩, .no, []⟩, ⟨⟨(.some 16), .none, (.bin .gtr (.tmp 15) (.con (.int .i64 262144)))⟩, .no, []⟩]) (.cond (.tmp 16) (.seq (.region [⟨⟨(.some 4), .none, (.move (.con .nilSlice))⟩, .no, []⟩, ⟨⟨(.some 5), .none, (.move (.con (.int .i64 2)))⟩, .no, []⟩]) .ret) .skip)) (.seq (.region [⟨⟨(.some 17), .none, (.move (.tmp 0))⟩, .no, []⟩, ⟨⟨(.some 18), .none, (.callF 35 [(.con .nilSlice), (.tmp 17), (.con (.int .i64 1))])⟩, .no, [(.one .any)]⟩, ⟨⟨(.some 6), .none, (.move (.tmp 18))⟩, .no, []⟩]) (.seq (.region [⟨⟨(.some 19), .none, (.move (.tmp 6))⟩, .no, []⟩, ⟨⟨(.some 20), .none, (.move (.tmp 1))⟩, .no, []⟩, ⟨⟨(.some 21), .none, (.len 1 (.tmp 20))⟩, .no, []⟩, ⟨⟨(.some 22), .none, (.callF 35 [(.tmp 19), (.tmp 21), (.con (.int .i64 4))])⟩, .no, [(.one .any)]⟩, ⟨⟨(.some 6), .none, (.move (.tmp 22))⟩, .no, []⟩]) (.seq (.region [⟨⟨(.some 7), .none, (.move (.con .nilSlice))⟩, .no, []⟩]) (.seq (.region [⟨⟨(.some 23), .none, (.move (.tmp 7))⟩, .no, []⟩, ⟨⟨(.some 24), .none, (.move (.tmp 0))⟩, .no, []⟩, ⟨⟨(.some 25), .none, (.convInt .u8 (.tmp 24))⟩, .no, []⟩, ⟨⟨(.some 26), .none, (.buildSlice 1 1 [(.int .u8 0)] [(0, (1, (.tmp 25)))])⟩, (.dt (.agg [(.int .u8)])), []⟩, ⟨⟨(.some 27), .none, (.app 1 1 (.tmp 23) (.tmp 26))⟩, .no, []⟩, ⟨⟨(.some 7), .none, (.move (.tmp 27))⟩, .no, []⟩]) (.seq (.region [⟨⟨(.some 28), .none, (.move (.tmp 7))⟩, .no, []⟩, ⟨⟨(.some 29), .none, (.move (.tmp 1))⟩, .no, []⟩, ⟨⟨(.some 30), .none, (.app 1 1 (.tmp 28) (.tmp 29))⟩, .no, []⟩, ⟨⟨(.some 7), .none, (.move (.tmp 30))⟩, .no, []⟩]) (.seq (.region [⟨⟨(.some 31), .none, (.move (.tmp 6))⟩, .no, []⟩, ⟨⟨(.some 32), .none, (.move (.tmp 7))⟩, .no, []⟩, ⟨⟨(.some 33), .none, (.callF 17 [(.tmp 32)])⟩, .no, [(.one (.int .u32))]⟩, ⟨⟨(.some 34), .none, (.convInt .i64 (.tmp 33))⟩, .no, []⟩, ⟨⟨(.some 35), .none, (.callF 35 [(.tmp 31), (.tmp 34), (.con (.int .i64 4))])⟩, .no, [(.one .any)]⟩, ⟨⟨(.some 6), .none, (.move (.tmp 35))⟩, .no, []⟩]) (.seq (.region [⟨⟨(.some 36), .none, (.move (.tmp 6))⟩, .no, []⟩, ⟨⟨(.some 37), .none, (.move (.tmp 1))⟩, .no, []⟩, ⟨⟨(.some 38), .none, (.app 1 1 (.tmp 36) (.tmp 37))⟩, .no, []⟩, ⟨⟨(.some 4), .none, (.move (.tmp 38))⟩, .no, []⟩, ⟨⟨(.some 5), .none, (.move (.con (.int .i64 0)))⟩, .no, []⟩]) .ret))))))))))
theorem T9_er : T9.erase = F9.body := by kernel_rfl
theorem T9_okL : T9.okL = true := by kernel_rfl
def p9 (x0 : Int) (x1 : List UInt8) (S : St) (K : V → Int → St → Prop) : Prop :=
  Join0 (fun (k1 : St → Prop) =>
   ifC (decide (x0 < (1 : Int)))
   (K V.nilSlice 160 S)
   (ifC (decide ((255 : Int) < x0))
   (K V.nilSlice 160 S)
   (k1  S)))
  (fun (S1 : St) =>
   ifC (decide ((262144 : Int) < (x1.length : Int)))
   (K V.nilSlice 2 S1)
   (CallA Go.Proofs.Try.prog 35 [V.nilSlice, (V.int .i64 x0), (V.int .i64 1)] S1 (retT [(.one .any)] fun (x18 : V) (S2 : St) =>
    CallA Go.Proofs.Try.prog 35 [x18, (V.int .i64 (x1.length : Int)), (V.int .i64 4)] S2 (retT [(.one .any)] fun (x22 : V) (S3 : St) =>
    setI (IntKind.u8.wrap x0) fun (x25 : Int) =>
    newS S3 (.cells [(V.int .u8 x25)] true) fun (S4 : St) =>
    ifP (appV S4 1 1 V.nilSlice (V.slice S3.next 0 1 1 1 true)) fun (x27 : V) (S5 : St) =>
    ifP (appV S5 1 1 x27 (V.str x1)) fun (x30 : V) (S6 : St) =>
    CallA Go.Proofs.Try.prog 17 [x30] S6 (retT [(.one (.int .u32))] fun (x33 : Int) (S7 : St) =>
    setI (IntKind.i64.wrap x33) fun (x34 : Int) =>
    CallA Go.Proofs.Try.prog 35 [x22, (V.int .i64 x34), (V.int .i64 4)] S7 (retT [(.one .any)] fun (x35 : V) (S8 : St) =>
    ifP (appV S8 1 1 x35 (V.str x1)) fun (x38 : V) (S9 : St) =>
    K x38 0 S9))))))
theorem p9_eq (x0 : Int) (x1 : List UInt8) (S : St) (K : V → Int → St → Prop) : wpT Go.Proofs.Try.prog okF T9 (endT F9.results [(.one .any), (.one (.int .i64))] K) (startT [(V.int .i64 x0), (V.str x1)] ++ List.replicate (F9.nt - 2) .none) S = p9 x0 x1 S K := by kernel_rfl
theorem p9_ok {x0 : Int} {x1 : List UInt8} { S : St} {K : V → Int → St → Prop} (h : p9 x0 x1 S K) : CallA Go.Proofs.Try.prog 9 [(V.int .i64 x0), (V.str x1)] S (retT [(.one .any), (.one (.int .i64))] K) :=
  CallA.of_T okF_ok F9_ok T9_er T9_okL (Eq.mpr (p9_eq x0 x1 S K) h)

def T10 : TC := (.seq (.region [⟨⟨(.some 2), .none, (.move (.con .nilSlice))⟩, .no, []⟩]) (.seq (.region [⟨⟨(.some 4), .none, (.move (.tmp 0))⟩, .no, []⟩, ⟨⟨(.some 5), .none, (.len 2 (.tmp 4))⟩, (.dt (.one (.int .i64))), []⟩, ⟨⟨(.some 6), .none, (.bin .add (.tmp 5) (.con (.int .i64 2)))⟩, .no, []⟩, ⟨⟨(.some 7), .none, (.mkSlice 1 1 [(.int .u8 0)] (.tmp 6) (.tmp 6))⟩, .no, []⟩, ⟨⟨(.some 3), .none, (.move (.tmp 7))⟩, .no, []⟩]) (.seq (.region [⟨⟨(.some 8), .none, (.move (.tmp 3))⟩, .no, []⟩, ⟨⟨(.some 9), .none, (.move (.tmp 0))⟩, .no, []⟩, ⟨⟨(.some 10), .none, (.copy 1 (.tmp 8) (.tmp 9))⟩, .no, []⟩]) (.seq (.region [⟨⟨(.some 11), .none, (.move (.tmp 3))⟩, .no, []⟩, ⟨⟨(.some 12), .none, (.move (.tmp 0))⟩, .no, []⟩, ⟨⟨(.some 13), .none, (.len 2 (.tmp 12))⟩, (.dt (.one (.int .i64))), []⟩, ⟨⟨(.some 14), .none, (.idxAddr 1 (.tmp 11) (.tmp 13))⟩, .no, []⟩, ⟨⟨.none, .none, (.store 1 (.tmp 14) (.con (.int .u8 165)))⟩, .no, []⟩]) (.seq (.region [⟨⟨(.some 15), .none, (.move (.tmp 3))⟩, .no, []⟩, ⟨⟨(.some 16), .none, (.move (.tmp 0))⟩, .no, []⟩, ⟨⟨(.some 17), .none, (.len 2 (.tmp 16))⟩, (.dt (.one (.int .i64))), []⟩, ⟨⟨(.some 18), .none, (.bin .add (.tmp 17) (.con (.int .i64 1)))⟩, .no, []⟩, ⟨⟨(.some 19), .none, (.idxAddr 1 (.tmp 15) (.tmp 18))⟩, .no, []⟩, ⟨⟨.none, .none, (.store 1 (.tmp 19) (.con (.int .u8 90)))⟩, .no, []⟩]) (.seq (.region [⟨⟨(.some 20), .none, (.move (.tmp 3))⟩, .no, []⟩, ⟨⟨(.some 21), .none, (.move (.tmp 0))⟩, .no, []⟩, ⟨⟨(.some 22), .none, (.len 2 (.tmp 21))⟩, (.dt (.one (.int .i64))), []⟩, ⟨⟨(.some 23), .none, (.sliceSl 1 (.tmp 20) .none (.some (.tmp 22)) .none)⟩, .no, []⟩, ⟨⟨(.some 2), .none, (.move (.tmp 23))⟩, .no, []⟩]) .ret))))))
theorem T10_er : T10.erase = F10.body := by kernel_rfl
theorem T10_okL : T10.okL = true := by kernel_rfl
def p10 (x0 : V) (S : St) (K : V → St → Prop) : Prop :=
  ∃ x5 : Int, lenV S 2 x0 = some (V.int .i64 x5) ∧
  setI (IntKind.i64.wrap (x5 + (2 : Int))) fun (x6 : Int) =>
  ifP (mkSliceV S 1 1 [(V.int .u8 0)] (V.int .i64 x6) (V.int .i64 x6)) fun (x7 : V) (S1 : St) =>
  ifP (copyV S1 1 x7 x0) fun (x10 : V) (S2 : St) =>
  ∃ x13 : Int, lenV S2 2 x0 = some (V.int .i64 x13) ∧
  ifS (idxAddrV 1 x7 (V.int .i64 x13)) fun (x14 : V) =>
  ifS (storeV S2 1 x14 (V.int .u8 165)) fun (S3 : St) =>
  ∃ x17 : Int, lenV S3 2 x0 = some (V.int .i64 x17) ∧
  setI (IntKind.i64.wrap (x17 + (1 : Int))) fun (x18 : Int) =>
  ifS (idxAddrV 1 x7 (V.int .i64 x18)) fun (x19 : V) =>
  ifS (storeV S3 1 x19 (V.int .u8 90)) fun (S4 : St) =>
  ∃ x22 : Int, lenV S4 2 x0 = some (V.int .i64 x22) ∧
  ifS (sliceSlV 1 x7 none (some (V.int .i64 x22)) none) fun (x23 : V) =>
  K x23 S4
theorem p10_eq (x0 : V) (S : St) (K : V → St → Prop) : wpT Go.Proofs.Try.prog okF T10 (endT F10.results [(.one .any)] K) (startT [x0] ++ List.replicate (F10.nt - 1) .none) S = p10 x0 S K := by kernel_rfl
theorem p10_ok {x0 : V} { S : St} {K : V → St → Prop} (h : p10 x0 S K) : CallA Go.Proofs.Try.prog 10 [x0] S (retT [(.one .any)] K) :=
  CallA.of_T okF_ok F10_ok T10_er T10_okL (Eq.mpr (p10_eq x0 S K) h)

end Go.Th.Codec
