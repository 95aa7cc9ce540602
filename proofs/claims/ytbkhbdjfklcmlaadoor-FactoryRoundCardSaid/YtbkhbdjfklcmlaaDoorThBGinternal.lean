/- What the row of one statement stands on: a store, abstract code, functions of the program and their laws (ThGstrings, ThGinternal). -/
import Derived.Test.YtbkhbdjfklcmlaaDoorThBGcmp

section
/- Functions of strings, read without frames (printed by tools/lib.py). -/
set_option linter.unusedVariables false
set_option maxRecDepth 100000
set_option maxHeartbeats 2000000
namespace Go.Th.L
open Go Go.Th

def strings_CutPrefix.p (P : Program) (N : Nat → Nat) (x0 : List UInt8) (x1 : List UInt8) (S : St) (K : List UInt8 → Bool → St → Prop) : Prop :=
  CallA P (N Fn.internal_stringslite_CutPrefix) [(V.str x0), (V.str x1)] S (retT [(.one .str), (.one .bool)] fun (x8a : List UInt8) (x8b : Bool) (S1 : St) => K x8a x8b S1)
abbrev strings_CutPrefix.Ok (P : Program) (N : Nat → Nat) : Prop := Reads P (N Fn.strings_CutPrefix) [(4, .no, [(.one .str), (.one .bool)])] [] [] (fun A T (x0 : List UInt8) (x1 : List UInt8) (S : St) (K : List UInt8 → Bool → St → Prop) => wpT P (envP P) T (endT A.results [(.one .str), (.one .bool)] K) (frT A [(V.str x0), (V.str x1)]) S) (fun x0 x1 S K => strings_CutPrefix.p P N x0 x1 S K)
theorem strings_CutPrefix.run {P : Program} {N : Nat → Nat} (hF : strings_CutPrefix.Ok P N) {x0 : List UInt8} {x1 : List UInt8} {S : St} {K : List UInt8 → Bool → St → Prop} (h : strings_CutPrefix.p P N x0 x1 S K) : CallA P (N Fn.strings_CutPrefix) [(V.str x0), (V.str x1)] S (retT [(.one .str), (.one .bool)] K) := hF.run (fun q => q x0 x1 S K) h rfl

end Go.Th.L
end

section
/- Functions of internal, read without frames (printed by tools/lib.py). -/
set_option linter.unusedVariables false
set_option maxRecDepth 100000
set_option maxHeartbeats 2000000
namespace Go.Th.L
open Go Go.Th

def internal_stringslite_CutPrefix.p (P : Program) (N : Nat → Nat) (x0 : List UInt8) (x1 : List UInt8) (S : St) (K : List UInt8 → Bool → St → Prop) : Prop :=
  CallA P (N Fn.internal_stringslite_HasPrefix) [(V.str x0), (V.str x1)] S (retT [(.one .bool)] fun (x8 : Bool) (S1 : St) => ifC (!x8) (K x0 false S1) (∃ x14 : List UInt8, sliceStrV (V.str x0) (some (V.int .i64 (x1.length : Int))) none = some (V.str x14) ∧ K x14 true S1))
abbrev internal_stringslite_CutPrefix.Ok (P : Program) (N : Nat → Nat) : Prop := Reads P (N Fn.internal_stringslite_CutPrefix) [(4, .no, [(.one .bool)]), (7, (.dt (.one .str)), [])] [] [] (fun A T (x0 : List UInt8) (x1 : List UInt8) (S : St) (K : List UInt8 → Bool → St → Prop) => wpT P (envP P) T (endT A.results [(.one .str), (.one .bool)] K) (frT A [(V.str x0), (V.str x1)]) S) (fun x0 x1 S K => internal_stringslite_CutPrefix.p P N x0 x1 S K)
theorem internal_stringslite_CutPrefix.run {P : Program} {N : Nat → Nat} (hF : internal_stringslite_CutPrefix.Ok P N) {x0 : List UInt8} {x1 : List UInt8} {S : St} {K : List UInt8 → Bool → St → Prop} (h : internal_stringslite_CutPrefix.p P N x0 x1 S K) : CallA P (N Fn.internal_stringslite_CutPrefix) [(V.str x0), (V.str x1)] S (retT [(.one .str), (.one .bool)] K) := hF.run (fun q => q x0 x1 S K) h rfl

def internal_stringslite_HasPrefix.p (P : Program) (N : Nat → Nat) (x0 : List UInt8) (x1 : List UInt8) (S : St) (K : Bool → St → Prop) : Prop :=
  ifC (decide ((x1.length : Int) ≤ (x0.length : Int))) (∃ x14 : List UInt8, sliceStrV (V.str x0) none (some (V.int .i64 (x1.length : Int))) = some (V.str x14) ∧ K (decide (x14 = x1)) S) (K false S)
abbrev internal_stringslite_HasPrefix.Ok (P : Program) (N : Nat → Nat) : Prop := Reads P (N Fn.internal_stringslite_HasPrefix) [(10, (.dt (.one .str)), [])] [] [] (fun A T (x0 : List UInt8) (x1 : List UInt8) (S : St) (K : Bool → St → Prop) => wpT P (envP P) T (endT A.results [(.one .bool)] K) (frT A [(V.str x0), (V.str x1)]) S) (fun x0 x1 S K => internal_stringslite_HasPrefix.p P N x0 x1 S K)
theorem internal_stringslite_HasPrefix.run {P : Program} {N : Nat → Nat} (hF : internal_stringslite_HasPrefix.Ok P N) {x0 : List UInt8} {x1 : List UInt8} {S : St} {K : Bool → St → Prop} (h : internal_stringslite_HasPrefix.p P N x0 x1 S K) : CallA P (N Fn.internal_stringslite_HasPrefix) [(V.str x0), (V.str x1)] S (retT [(.one .bool)] K) := hF.run (fun q => q x0 x1 S K) h rfl

end Go.Th.L
end
