/- What the row of one statement stands on: a store, abstract code, functions of the program and their laws (ThJsonzN). -/
import Derived.Test.YtconjbbmdjaehaaGreatDoorThBGstringsLen
import Derived.Test.YtconjbbmdjaehaaGreatDoorProg

section
/- The seat's numbering of the library's functions, and that they are the program's (printed by tools/seat.py). -/
namespace Go.Th.Jsonz
open Go Go.Th Go.Th.L
set_option maxRecDepth 100000
set_option maxHeartbeats 2000000

noncomputable abbrev PP := Go.Proofs.Tryz.prog
def tabN : List (Nat × Nat) := [(194, 54), (197, 65), (198, 78), (199, 68), (202, 87), (204, 80), (242, 34), (282, 53), (283, 56), (284, 27), (410, 105), (419, 79), (432, 88), (433, 89), (451, 3), (452, 5), (453, 6), (454, 7), (455, 8), (456, 4), (457, 9), (458, 10), (459, 11), (460, 12), (461, 13), (462, 14), (463, 15), (464, 16), (465, 17), (466, 18), (467, 19), (468, 20), (469, 21), (470, 22), (471, 23), (472, 24), (473, 25), (474, 26), (475, 28), (476, 29), (477, 30), (478, 31), (479, 32), (480, 33), (481, 35), (482, 36), (483, 37), (484, 38), (485, 39), (486, 40), (487, 42), (488, 41), (489, 42), (490, 43), (491, 45), (492, 44), (493, 46), (494, 47), (495, 48), (496, 49), (497, 50), (498, 51), (499, 52), (500, 55), (501, 58), (502, 57), (503, 59), (504, 60), (505, 66), (506, 67), (507, 69), (508, 70), (509, 73), (510, 74), (511, 82), (575, 55)]
def N (k : Nat) : Nat := match tabN.find? (fun p => p.1 == k) with
  | some p => p.2
  | none => 0
theorem has_law20_JsonPrints : law20_JsonPrints.Ok PP N := Reads.of (by kernel_rfl)
theorem has_json_Parse : json_Parse.Ok PP N := ReadsD.of (by kernel_rfl)
theorem has_law20_awake : law20_awake.Ok PP N := Reads.of (by kernel_rfl)
theorem has_ref20_Same : ref20_Same.Ok PP N := Reads.of (by kernel_rfl)
theorem has_law20_big : law20_big.Ok PP N := Reads.of (by kernel_rfl)
theorem has_law20_copied : law20_copied.Ok PP N := Reads.of (by kernel_rfl)
theorem has_json_Print : json_Print.Ok PP N := Reads.of (by kernel_rfl)
theorem has_json_Check : json_Check.Ok PP N := Reads.of (by kernel_rfl)
theorem has_json_Get : json_Get.Ok PP N := Reads.of (by kernel_rfl)
theorem has_ref20_Print : ref20_Print.Ok PP N := Reads.of (by kernel_rfl)
theorem has_ref20_Get : ref20_Get.Ok PP N := Reads.of (by kernel_rfl)
theorem has_ref20_Check : ref20_Check.Ok PP N := Reads.of (by kernel_rfl)
theorem has_json_Parse_1 : json_Parse_1.Ok PP N := ReadsR.of (by kernel_rfl)
theorem has_json_reading_blanks : json_reading_blanks.Ok PP N := Reads.of (by kernel_rfl)
theorem has_json_reading_value : json_reading_value.Ok PP N := Reads.of (by kernel_rfl)
theorem has_json_is : json_is.Ok PP N := Reads.of (by kernel_rfl)
theorem has_law20_parts : law20_parts.Ok PP N := Reads.of (by kernel_rfl)
theorem has_law20_wide : law20_wide.Ok PP N := Reads.of (by kernel_rfl)
theorem has_json_lay : json_lay.Ok PP N := Reads.of (by kernel_rfl)
theorem has_strings_Builder_Len : strings_Builder_Len.Ok PP N := Reads.of (by kernel_rfl)
theorem has_json_all : json_all.Ok PP N := Reads.of (by kernel_rfl)
theorem has_json_formed : json_formed.Ok PP N := Reads.of (by kernel_rfl)
theorem has_json_deep : json_deep.Ok PP N := Reads.of (by kernel_rfl)
theorem has_json_Check_1 : json_Check_1.Ok PP N := Reads.of (by kernel_rfl)
theorem has_json_Check_2 : json_Check_2.Ok PP N := Reads.of (by kernel_rfl)
theorem has_json_Check_3 : json_Check_3.Ok PP N := Reads.of (by kernel_rfl)
theorem has_slices_Index_Lstring : slices_Index_Lstring.Ok PP N := Reads.of (by kernel_rfl)
theorem has_ref20_text : ref20_text.Ok PP N := Reads.of (by kernel_rfl)
theorem has_ref20_formed : ref20_formed.Ok PP N := Reads.of (by kernel_rfl)
theorem has_ref20_deep : ref20_deep.Ok PP N := Reads.of (by kernel_rfl)
theorem has_ref20_small : ref20_small.Ok PP N := Reads.of (by kernel_rfl)
theorem has_ref20_few : ref20_few.Ok PP N := Reads.of (by kernel_rfl)
theorem has_ref20_unlike : ref20_unlike.Ok PP N := Reads.of (by kernel_rfl)
theorem has_json_reading_comes : json_reading_comes.Ok PP N := Reads.of (by kernel_rfl)
theorem has_json_reading_text : json_reading_text.Ok PP N := Reads.of (by kernel_rfl)
theorem has_json_reading_list : json_reading_list.Ok PP N := Reads.of (by kernel_rfl)
theorem has_json_reading_value_1 : json_reading_value_1.Ok PP N := Reads.of (by kernel_rfl)
theorem has_json_reading_value_2 : json_reading_value_2.Ok PP N := Reads.of (by kernel_rfl)
theorem has_json_reading_number : json_reading_number.Ok PP N := Reads.of (by kernel_rfl)
theorem has_json_quote : json_quote.Ok PP N := Reads.of (by kernel_rfl)
theorem has_slices_ContainsFunc_Lapi_Value : slices_ContainsFunc_Lapi_Value.Ok PP N := Reads.of (by kernel_rfl)
theorem has_json_all_1 : json_all_1.Ok PP N := Reads.of (by kernel_rfl)
theorem has_ref20_Number : ref20_Number.Ok PP N := Reads.of (by kernel_rfl)
theorem has_ref20_quoted : ref20_quoted.Ok PP N := Reads.of (by kernel_rfl)
theorem has_strings_CutPrefix : strings_CutPrefix.Ok PP N := Reads.of (by kernel_rfl)
theorem has_json_reading_one : json_reading_one.Ok PP N := Reads.of (by kernel_rfl)
theorem has_strconv_ParseUint : strconv_ParseUint.Ok PP N := Reads.of (by kernel_rfl)
theorem has_slices_IndexFunc_Lapi_Value : slices_IndexFunc_Lapi_Value.Ok PP N := Reads.of (by kernel_rfl)
theorem has_ref20_digits : ref20_digits.Ok PP N := Reads.of (by kernel_rfl)
theorem has_internal_stringslite_CutPrefix : internal_stringslite_CutPrefix.Ok PP N := Reads.of (by kernel_rfl)
theorem has_internal_strconv_ParseUint : internal_strconv_ParseUint.Ok PP N := Reads.of (by kernel_rfl)
theorem has_internal_stringslite_HasPrefix : internal_stringslite_HasPrefix.Ok PP N := Reads.of (by kernel_rfl)
theorem has_internal_strconv_lower : internal_strconv_lower.Ok PP N := Reads.of (by kernel_rfl)
end Go.Th.Jsonz
end
