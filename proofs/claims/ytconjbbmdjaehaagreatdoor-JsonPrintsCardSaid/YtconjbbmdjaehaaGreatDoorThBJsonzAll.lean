/- What the row of one statement stands on: a store, abstract code, functions of the program and their laws (ThJsonzAll). -/
import Derived.Test.YtconjbbmdjaehaaGreatDoorThBJsonzStd
import Derived.Test.YtconjbbmdjaehaaGreatDoorThBHlaw20f
import Derived.Test.YtconjbbmdjaehaaGreatDoorThBHread

section
/- json's great door, each function by its law: JsonParses. -/
set_option linter.unusedVariables false
namespace Go.Th.Jsonz
open Go Go.Th Go.Th.L Go.Th.Pure

theorem s_O : JsonF PP N [2, 3] := ⟨has_json_reading_blanks, has_json_reading_comes, has_json_is, has_json_reading_one, has_json_reading_text, s_Trim, s_Cut, s_Hex, s_Atoi, has_json_reading_number, 5, s_sb⟩
theorem s_Read : ReadF PP N [2, 3] := ⟨s_O, has_json_reading_value, has_json_reading_value_1, has_json_reading_value_2, has_json_reading_list, by kernel_rfl, by kernel_rfl⟩
theorem s_Check : CheckF PP N := ⟨has_json_Check, has_json_all, has_json_all_1, has_slices_ContainsFunc_Lapi_Value, has_slices_IndexFunc_Lapi_Value, has_json_formed, has_json_deep, has_json_Check_1, has_json_Check_2, has_json_Check_3, by kernel_rfl, by kernel_rfl, by kernel_rfl, by kernel_rfl, by kernel_rfl⟩
theorem s_ParseF : ParseF PP N [2, 3] := ⟨s_Read, s_Check, has_json_Parse, has_json_Parse_1, by kernel_rfl⟩
theorem s_PrintF : PrintF PP N := ⟨s_Check, has_json_Print, has_json_lay, has_json_quote, has_strings_Builder_Len, 5, s_sb⟩
theorem s_RefCheck : RefCheckF PP N := ⟨has_ref20_Check, has_ref20_formed, has_ref20_deep, has_ref20_small, has_ref20_few, has_ref20_unlike⟩
theorem s_Awake {S : St} (h : ErrTab [2, 3] 4 S) : Awake20F PP N [2, 3] S := ⟨json_Parse.spec s_ParseF, json_Print.spec s_PrintF (s_Itoa h.2), json_Get.spec has_json_Get has_slices_Index_Lstring, has_law20_awake⟩

end Go.Th.Jsonz
end
