/- What the row of one statement stands on: a store, abstract code, functions of the program and their laws (ThJsondN). -/
import Derived.Test.YtconjbbmdjaehaaDoorThBGstringsLen
import Derived.Test.YtconjbbmdjaehaaDoorProg

section
/- The seat's numbering of the library's functions, and that they are the program's (printed by tools/seat.py). -/
namespace Go.Th.Jsond
open Go Go.Th Go.Th.L
set_option maxRecDepth 100000
set_option maxHeartbeats 2000000

noncomputable abbrev PP := Go.Proofs.Tryd.prog
def tabN : List (Nat × Nat) := [(194, 28), (197, 47), (198, 57), (199, 50), (202, 67), (204, 59), (242, 38), (282, 27), (283, 30), (284, 15), (410, 102), (419, 58), (432, 68), (433, 69), (452, 7), (454, 9), (455, 8), (457, 5), (459, 6), (460, 12), (461, 20), (465, 16), (466, 17), (467, 18), (468, 19), (471, 10), (472, 11), (473, 13), (474, 14), (475, 21), (476, 22), (477, 23), (478, 24), (479, 25), (480, 26), (487, 48), (488, 31), (489, 32), (490, 33), (491, 35), (492, 34), (493, 36), (494, 37), (500, 29), (501, 40), (502, 39), (505, 48), (506, 49), (509, 51), (513, 3), (514, 4), (575, 43)]
def N (k : Nat) : Nat := match tabN.find? (fun p => p.1 == k) with
  | some p => p.2
  | none => 0
theorem has_law20_JsonRound : law20_JsonRound.Ok PP N := Reads.of (by kernel_rfl)
theorem has_law20_big : law20_big.Ok PP N := Reads.of (by kernel_rfl)
theorem has_json_Print : json_Print.Ok PP N := Reads.of (by kernel_rfl)
theorem has_json_Parse : json_Parse.Ok PP N := ReadsD.of (by kernel_rfl)
theorem has_ref20_Same : ref20_Same.Ok PP N := Reads.of (by kernel_rfl)
theorem has_law20_awake : law20_awake.Ok PP N := Reads.of (by kernel_rfl)
theorem has_law20_parts : law20_parts.Ok PP N := Reads.of (by kernel_rfl)
theorem has_law20_wide : law20_wide.Ok PP N := Reads.of (by kernel_rfl)
theorem has_json_Check : json_Check.Ok PP N := Reads.of (by kernel_rfl)
theorem has_json_lay : json_lay.Ok PP N := Reads.of (by kernel_rfl)
theorem has_strings_Builder_Len : strings_Builder_Len.Ok PP N := Reads.of (by kernel_rfl)
theorem has_json_Parse_1 : json_Parse_1.Ok PP N := ReadsR.of (by kernel_rfl)
theorem has_json_reading_blanks : json_reading_blanks.Ok PP N := Reads.of (by kernel_rfl)
theorem has_json_reading_value : json_reading_value.Ok PP N := Reads.of (by kernel_rfl)
theorem has_json_is : json_is.Ok PP N := Reads.of (by kernel_rfl)
theorem has_json_Get : json_Get.Ok PP N := Reads.of (by kernel_rfl)
theorem has_json_all : json_all.Ok PP N := Reads.of (by kernel_rfl)
theorem has_json_formed : json_formed.Ok PP N := Reads.of (by kernel_rfl)
theorem has_json_deep : json_deep.Ok PP N := Reads.of (by kernel_rfl)
theorem has_json_Check_1 : json_Check_1.Ok PP N := Reads.of (by kernel_rfl)
theorem has_json_Check_2 : json_Check_2.Ok PP N := Reads.of (by kernel_rfl)
theorem has_json_Check_3 : json_Check_3.Ok PP N := Reads.of (by kernel_rfl)
theorem has_json_quote : json_quote.Ok PP N := Reads.of (by kernel_rfl)
theorem has_json_reading_comes : json_reading_comes.Ok PP N := Reads.of (by kernel_rfl)
theorem has_json_reading_text : json_reading_text.Ok PP N := Reads.of (by kernel_rfl)
theorem has_json_reading_list : json_reading_list.Ok PP N := Reads.of (by kernel_rfl)
theorem has_json_reading_value_1 : json_reading_value_1.Ok PP N := Reads.of (by kernel_rfl)
theorem has_json_reading_value_2 : json_reading_value_2.Ok PP N := Reads.of (by kernel_rfl)
theorem has_json_reading_number : json_reading_number.Ok PP N := Reads.of (by kernel_rfl)
theorem has_slices_Index_Lstring : slices_Index_Lstring.Ok PP N := Reads.of (by kernel_rfl)
theorem has_slices_ContainsFunc_Lapi_Value : slices_ContainsFunc_Lapi_Value.Ok PP N := Reads.of (by kernel_rfl)
theorem has_json_all_1 : json_all_1.Ok PP N := Reads.of (by kernel_rfl)
theorem has_strings_CutPrefix : strings_CutPrefix.Ok PP N := Reads.of (by kernel_rfl)
theorem has_json_reading_one : json_reading_one.Ok PP N := Reads.of (by kernel_rfl)
theorem has_strconv_ParseUint : strconv_ParseUint.Ok PP N := Reads.of (by kernel_rfl)
theorem has_slices_IndexFunc_Lapi_Value : slices_IndexFunc_Lapi_Value.Ok PP N := Reads.of (by kernel_rfl)
theorem has_internal_stringslite_CutPrefix : internal_stringslite_CutPrefix.Ok PP N := Reads.of (by kernel_rfl)
theorem has_internal_strconv_ParseUint : internal_strconv_ParseUint.Ok PP N := Reads.of (by kernel_rfl)
theorem has_internal_stringslite_HasPrefix : internal_stringslite_HasPrefix.Ok PP N := Reads.of (by kernel_rfl)
theorem has_internal_strconv_lower : internal_strconv_lower.Ok PP N := Reads.of (by kernel_rfl)
end Go.Th.Jsond
end
