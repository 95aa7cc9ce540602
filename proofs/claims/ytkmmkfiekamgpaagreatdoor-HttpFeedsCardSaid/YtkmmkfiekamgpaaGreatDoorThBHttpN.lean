/- What the row of one statement stands on: a store, abstract code, functions of the program and their laws (ThHttpN). -/
import Derived.Test.YtkmmkfiekamgpaaGreatDoorThBGref22
import Derived.Test.YtkmmkfiekamgpaaGreatDoorThBM
import Derived.Test.YtkmmkfiekamgpaaGreatDoorProg

section
/- The seat's numbering of the library's functions, and that they are the program's (printed by tools/seat.py). -/
namespace Go.Th.Http
open Go Go.Th Go.Th.L
set_option maxRecDepth 100000
set_option maxHeartbeats 2000000

noncomputable abbrev PP := Go.Proofs.Tryz.prog
def tabN : List (Nat × Nat) := [(4, 11), (7, 13), (10, 16), (194, 27), (197, 33), (199, 32), (206, 3), (207, 9), (208, 10), (209, 12), (210, 14), (211, 15), (212, 4), (213, 5), (214, 17), (215, 18), (216, 19), (217, 6), (218, 20), (219, 21), (220, 22), (221, 23), (222, 24), (223, 7), (224, 25), (225, 8), (226, 26), (227, 28), (228, 29), (229, 30), (230, 31), (231, 34), (232, 35), (233, 36), (234, 37), (235, 38), (236, 39), (237, 40), (238, 41), (243, 50), (244, 51), (245, 52), (246, 53), (247, 54), (248, 55), (249, 56), (250, 57), (251, 58), (252, 59), (254, 71), (255, 73), (256, 72), (257, 74), (258, 75), (259, 76), (260, 78), (261, 77), (262, 79), (263, 101), (264, 102), (265, 103), (266, 80), (267, 81), (268, 82), (270, 100), (271, 101), (279, 109), (280, 110)]
def N (k : Nat) : Nat := match tabN.find? (fun p => p.1 == k) with
  | some p => p.2
  | none => 0
theorem has_law22_HttpPrints : law22_HttpPrints.Ok PP N := Reads.of (by kernel_rfl)
theorem has_law22_HttpRound : law22_HttpRound.Ok PP N := Reads.of (by kernel_rfl)
theorem has_law22_HttpFields : law22_HttpFields.Ok PP N := Reads.of (by kernel_rfl)
theorem has_law22_HttpFeeds : law22_HttpFeeds.Ok PP N := Reads.of (by kernel_rfl)
theorem has_law22_HttpParts : law22_HttpParts.Ok PP N := Reads.of (by kernel_rfl)
theorem has_law22_HttpNil : law22_HttpNil.Ok PP N := Reads.of (by kernel_rfl)
theorem has_http_Print : http_Print.Ok PP N := Reads.of (by kernel_rfl)
theorem has_ref22_Print : ref22_Print.Ok PP N := Reads.of (by kernel_rfl)
theorem has_keep_LendBytes : keep_LendBytes.Ok PP N := Reads.of (by kernel_rfl)
theorem has_http_Read : http_Read.Ok PP N := Reads.of (by kernel_rfl)
theorem has_keep_BackBytes : keep_BackBytes.Ok PP N := Reads.of (by kernel_rfl)
theorem has_ref22_Read : ref22_Read.Ok PP N := Reads.of (by kernel_rfl)
theorem has_law22_awake : law22_awake.Ok PP N := Reads.of (by kernel_rfl)
theorem has_keep_Bytes : keep_Bytes.Ok PP N := Reads.of (by kernel_rfl)
theorem has_http_Fields : http_Fields.Ok PP N := Reads.of (by kernel_rfl)
theorem has_ref22_Fields : ref22_Fields.Ok PP N := Reads.of (by kernel_rfl)
theorem has_keep_Texts : keep_Texts.Ok PP N := Reads.of (by kernel_rfl)
theorem has_http_New : http_New.Ok PP N := Reads.of (by kernel_rfl)
theorem has_http_Parser_Feed : http_Parser_Feed.Ok PP N := Reads.of (by kernel_rfl)
theorem has_http_Parser_Wrong : http_Parser_Wrong.Ok PP N := Reads.of (by kernel_rfl)
theorem has_ref22_Requests : ref22_Requests.Ok PP N := Reads.of (by kernel_rfl)
theorem has_law22_same : law22_same.Ok PP N := Reads.of (by kernel_rfl)
theorem has_law22_cut : law22_cut.Ok PP N := Reads.of (by kernel_rfl)
theorem has_http_word : http_word.Ok PP N := Reads.of (by kernel_rfl)
theorem has_ref22_Word : ref22_Word.Ok PP N := Reads.of (by kernel_rfl)
theorem has_ref22_digits : ref22_digits.Ok PP N := Reads.of (by kernel_rfl)
theorem has_ref22_begins : ref22_begins.Ok PP N := Reads.of (by kernel_rfl)
theorem has_ref22_parts : ref22_parts.Ok PP N := Reads.of (by kernel_rfl)
theorem has_ref22_find : ref22_find.Ok PP N := Reads.of (by kernel_rfl)
theorem has_http_Parser_first : http_Parser_first.Ok PP N := Reads.of (by kernel_rfl)
theorem has_ref22_Reading_one : ref22_Reading_one.Ok PP N := Reads.of (by kernel_rfl)
theorem has_ref22_Reading_stop : ref22_Reading_stop.Ok PP N := Reads.of (by kernel_rfl)
theorem has_http_Parser_line : http_Parser_line.Ok PP N := Reads.of (by kernel_rfl)
theorem has_http_all : http_all.Ok PP N := Reads.of (by kernel_rfl)
theorem has_http_Parser_first_1 : http_Parser_first_1.Ok PP N := Reads.of (by kernel_rfl)
theorem has_http_Parser_first_2 : http_Parser_first_2.Ok PP N := Reads.of (by kernel_rfl)
theorem has_http_Parser_bad : http_Parser_bad.Ok PP N := Reads.of (by kernel_rfl)
theorem has_http_Parser_head : http_Parser_head.Ok PP N := Reads.of (by kernel_rfl)
theorem has_ref22_Reading_line : ref22_Reading_line.Ok PP N := Reads.of (by kernel_rfl)
theorem has_ref22_first : ref22_first.Ok PP N := Reads.of (by kernel_rfl)
theorem has_ref22_Reading_heads : ref22_Reading_heads.Ok PP N := Reads.of (by kernel_rfl)
theorem has_http_all_1 : http_all_1.Ok PP N := Reads.of (by kernel_rfl)
theorem has_http_Parser_body : http_Parser_body.Ok PP N := Reads.of (by kernel_rfl)
theorem has_http_Parser_head_1 : http_Parser_head_1.Ok PP N := Reads.of (by kernel_rfl)
theorem has_http_Parser_head_2 : http_Parser_head_2.Ok PP N := Reads.of (by kernel_rfl)
theorem has_http_means : http_means.Ok PP N := Reads.of (by kernel_rfl)
theorem has_http_Parser_head_3 : http_Parser_head_3.Ok PP N := Reads.of (by kernel_rfl)
theorem has_ref22_within : ref22_within.Ok PP N := Reads.of (by kernel_rfl)
theorem has_ref22_header : ref22_header.Ok PP N := Reads.of (by kernel_rfl)
theorem has_ref22_number : ref22_number.Ok PP N := Reads.of (by kernel_rfl)
theorem has_ref22_name : ref22_name.Ok PP N := Reads.of (by kernel_rfl)
theorem has_ref22_small : ref22_small.Ok PP N := Reads.of (by kernel_rfl)
noncomputable def tabF (f : Nat) : Option AF := afun PP f
theorem tabF_ok : ∀ f F, tabF f = some F → afun PP f = some F := fun _ _ h => h
def okF (f : Nat) : Bool := [3, 4, 5, 6, 7, 8, 9, 10, 11, 12, 13, 14, 15, 16, 17, 18, 19, 20, 21, 22, 23, 24, 25, 26, 28, 29, 35, 37, 38, 39, 40, 41, 50, 51, 52, 54, 55, 56, 57, 58, 59, 73, 74, 75, 76, 77, 79, 80, 81, 82, 109, 110].contains f
theorem okF_ok : ∀ f, okF f = true → canEnter PP f = true := by
  intro f h
  have hm : f ∈ [3, 4, 5, 6, 7, 8, 9, 10, 11, 12, 13, 14, 15, 16, 17, 18, 19, 20, 21, 22, 23, 24, 25, 26, 28, 29, 35, 37, 38, 39, 40, 41, 50, 51, 52, 54, 55, 56, 57, 58, 59, 73, 74, 75, 76, 77, 79, 80, 81, 82, 109, 110] := by simpa [okF] using h
  have hall : ([3, 4, 5, 6, 7, 8, 9, 10, 11, 12, 13, 14, 15, 16, 17, 18, 19, 20, 21, 22, 23, 24, 25, 26, 28, 29, 35, 37, 38, 39, 40, 41, 50, 51, 52, 54, 55, 56, 57, 58, 59, 73, 74, 75, 76, 77, 79, 80, 81, 82, 109, 110].all fun f => canEnter PP f) = true := by kernel_rfl
  exact List.all_eq_true.mp hall f hm
noncomputable def envF : Env := ⟨okF, methEntry PP⟩
theorem envF_ok : EnvOk PP envF := ⟨okF_ok, fun _ _ _ h => h⟩
end Go.Th.Http
end
