/- What the row of one statement stands on: a store, abstract code, functions of the program and their laws (ThHttpAll2). -/
import Derived.Test.YtkmmkfiekamgpaaGreatDoorThBHttpAll
import Derived.Test.YtkmmkfiekamgpaaGreatDoorThBHhttp1

section
/- The http seat's laws: fields. -/
set_option linter.unusedVariables false
namespace Go.Th.Http
open Go Go.Th Go.Th.L Go.Th.Pure Go.RowKit

theorem s_Texts : keep_Texts.Spec PP N := keep_Texts.spec has_keep_Texts
theorem s_find : ref22_find.Spec PP N := ref22_find.spec has_ref22_find
theorem s_parts : ref22_parts.Spec PP N := ref22_parts.spec has_ref22_parts s_find
theorem s_Fields : FieldsSpec PP (N Fn.http_Fields) := http_Fields.spec has_http_Fields s_Split s_Cut s_Contains
theorem s_Fields' : FieldsSpec PP (N Fn.ref22_Fields) := ref22_Fields.spec has_ref22_Fields s_parts s_find

def law5_shapes : List Sh := [Sh.str]
theorem law5_spec (S : St) (av : List V) (hw : S.Wf) (hg : HG S) (h : HasAs S law5_shapes av) : CallA PP 5 av S (fun r _ => r = .ret (.bool true)) := by
  rw [← (show N Fn.law22_HttpFields = 5 from by kernel_rfl)]
  simp only [law5_shapes, HasAs, HasA, Has] at h
  obtain ⟨_, _, rfl, ⟨s, hs, _⟩, rfl⟩ := h
  cases hs
  exact (law22_HttpFields.spec has_law22_HttpFields s_Fields s_Fields' s_Texts a_awake hw hg (K := fun b _ => b = true) (fun _ => rfl)).mono fun r S' h => retT_true h
end Go.Th.Http
end
