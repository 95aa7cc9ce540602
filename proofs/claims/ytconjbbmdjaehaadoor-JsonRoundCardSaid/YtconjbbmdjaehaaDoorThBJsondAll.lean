/- What the row of one statement stands on: a store, abstract code, functions of the program and their laws (ThJsondAll). -/
import Derived.Test.YtconjbbmdjaehaaDoorThBJsondStd
import Derived.Test.YtconjbbmdjaehaaDoorThBHlaw20c
import Derived.Test.YtconjbbmdjaehaaDoorThBHread

section
/- json's door, each function by its law: JsonBlanks. -/
set_option linter.unusedVariables false
namespace Go.Th.Jsond
open Go Go.Th Go.Th.L Go.Th.Pure

theorem s_O : JsonF PP N [3, 4] := ⟨has_json_reading_blanks, has_json_reading_comes, has_json_is, has_json_reading_one, has_json_reading_text, s_Trim, s_Cut, s_Hex, s_Atoi, has_json_reading_number, 5, s_sb⟩
theorem s_Read : ReadF PP N [3, 4] := ⟨s_O, has_json_reading_value, has_json_reading_value_1, has_json_reading_value_2, has_json_reading_list, by kernel_rfl, by kernel_rfl⟩
theorem s_Check : CheckF PP N := ⟨has_json_Check, has_json_all, has_json_all_1, has_slices_ContainsFunc_Lapi_Value, has_slices_IndexFunc_Lapi_Value, has_json_formed, has_json_deep, has_json_Check_1, has_json_Check_2, has_json_Check_3, by kernel_rfl, by kernel_rfl, by kernel_rfl, by kernel_rfl, by kernel_rfl⟩
theorem s_ParseF : ParseF PP N [3, 4] := ⟨s_Read, s_Check, has_json_Parse, has_json_Parse_1, by kernel_rfl⟩
theorem s_PrintF : PrintF PP N := ⟨s_Check, has_json_Print, has_json_lay, has_json_quote, has_strings_Builder_Len, 5, s_sb⟩
theorem s_Awake {S : St} (h : ErrTab [3, 4] 0 S) : Awake20F PP N [3, 4] S := ⟨json_Parse.spec s_ParseF, json_Print.spec s_PrintF (s_Itoa h.2), json_Get.spec has_json_Get has_slices_Index_Lstring, has_law20_awake⟩

end Go.Th.Jsond
end
