/- What the row of one statement stands on: a store, abstract code, functions of the program and their laws (ThFactN). -/
import Derived.Test.YtbkhbdjfklcmlaaDoorThBGfactory
import Derived.Test.YtbkhbdjfklcmlaaDoorThBGinternal
import Derived.Test.YtbkhbdjfklcmlaaDoorThBGlaw12
import Derived.Test.YtbkhbdjfklcmlaaDoorThBGref12
import Derived.Test.YtbkhbdjfklcmlaaDoorThBM
import Derived.Test.YtbkhbdjfklcmlaaDoorProg

section
/- The seat's numbering of the library's functions, and that they are the program's (printed by tools/seat.py). -/
namespace Go.Th.Fact
open Go Go.Th Go.Th.L
set_option maxRecDepth 100000
set_option maxHeartbeats 2000000

noncomputable abbrev PP := Go.Proofs.Tryd.prog
def tabN : List (Nat × Nat) := [(180, 3), (181, 6), (182, 7), (183, 8), (184, 4), (185, 9), (186, 10), (187, 11), (188, 12), (189, 5), (190, 13), (191, 15), (192, 17), (193, 18), (194, 19), (195, 20), (196, 21), (197, 14), (198, 22), (199, 16), (200, 25), (201, 26), (202, 28)]
def N (k : Nat) : Nat := match tabN.find? (fun p => p.1 == k) with
  | some p => p.2
  | none => 0
theorem has_law12_FactoryParses : law12_FactoryParses.Ok PP N := Reads.of (by kernel_rfl)
theorem has_law12_FactoryPrints : law12_FactoryPrints.Ok PP N := Reads.of (by kernel_rfl)
theorem has_law12_FactoryRound : law12_FactoryRound.Ok PP N := Reads.of (by kernel_rfl)
theorem has_factory_Parse : factory_Parse.Ok PP N := Reads.of (by kernel_rfl)
theorem has_ref12_Parse : ref12_Parse.Ok PP N := Reads.of (by kernel_rfl)
theorem has_law12_awake : law12_awake.Ok PP N := Reads.of (by kernel_rfl)
theorem has_factory_Print : factory_Print.Ok PP N := Reads.of (by kernel_rfl)
theorem has_ref12_Print : ref12_Print.Ok PP N := Reads.of (by kernel_rfl)
theorem has_factory_Check : factory_Check.Ok PP N := Reads.of (by kernel_rfl)
theorem has_ref12_Check : ref12_Check.Ok PP N := Reads.of (by kernel_rfl)
theorem has_factory_Parse_1 : factory_Parse_1.Ok PP N := Reads.of (by kernel_rfl)
theorem has_strings_CutPrefix : strings_CutPrefix.Ok PP N := Reads.of (by kernel_rfl)
theorem has_factory_Parse_2 : factory_Parse_2.Ok PP N := Reads.of (by kernel_rfl)
theorem has_ref12_one : ref12_one.Ok PP N := Reads.of (by kernel_rfl)
theorem has_ref12_ivf : ref12_ivf.Ok PP N := Reads.of (by kernel_rfl)
theorem has_ref12_Number : ref12_Number.Ok PP N := Reads.of (by kernel_rfl)
theorem has_ref12_within : ref12_within.Ok PP N := Reads.of (by kernel_rfl)
theorem has_internal_stringslite_CutPrefix : internal_stringslite_CutPrefix.Ok PP N := Reads.of (by kernel_rfl)
theorem has_ref12_front : ref12_front.Ok PP N := Reads.of (by kernel_rfl)
theorem has_ref12_digits : ref12_digits.Ok PP N := Reads.of (by kernel_rfl)
theorem has_internal_stringslite_HasPrefix : internal_stringslite_HasPrefix.Ok PP N := Reads.of (by kernel_rfl)
noncomputable def tabF (f : Nat) : Option AF := afun PP f
theorem tabF_ok : ∀ f F, tabF f = some F → afun PP f = some F := fun _ _ h => h
def okF (f : Nat) : Bool := [3, 4, 5, 6, 7, 8, 9, 10, 11, 12, 13, 14, 15, 17, 18, 20, 21, 22, 25, 26, 28].contains f
theorem okF_ok : ∀ f, okF f = true → canEnter PP f = true := by
  intro f h
  have hm : f ∈ [3, 4, 5, 6, 7, 8, 9, 10, 11, 12, 13, 14, 15, 17, 18, 20, 21, 22, 25, 26, 28] := by simpa [okF] using h
  have hall : ([3, 4, 5, 6, 7, 8, 9, 10, 11, 12, 13, 14, 15, 17, 18, 20, 21, 22, 25, 26, 28].all fun f => canEnter PP f) = true := by kernel_rfl
  exact List.all_eq_true.mp hall f hm
noncomputable def envF : Env := ⟨okF, methEntry PP⟩
theorem envF_ok : EnvOk PP envF := ⟨okF_ok, fun _ _ _ h => h⟩
end Go.Th.Fact
end
