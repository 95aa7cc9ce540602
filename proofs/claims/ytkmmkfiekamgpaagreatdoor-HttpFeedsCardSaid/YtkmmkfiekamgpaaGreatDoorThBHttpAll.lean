/- What the row of one statement stands on: a store, abstract code, functions of the program and their laws (ThHttpAll). -/
import Derived.Test.YtkmmkfiekamgpaaGreatDoorThBHttpOrc
import Derived.Test.YtkmmkfiekamgpaaGreatDoorThBHhttp0
import Derived.Test.YtkmmkfiekamgpaaGreatDoorThBO3

section
/- The http seat's laws: no parser. -/
set_option linter.unusedVariables false
namespace Go.Th.Http
open Go Go.Th Go.Th.L Go.Th.Pure Go.RowKit

theorem a_awake : AwakeG PP (N Fn.law22_awake) := fun S K hg hk => s_awake hg hk

def law8_shapes : List Sh := [Sh.slice 1 1 (Sh.int IntKind.u8)]
theorem law8_spec (S : St) (av : List V) (hw : S.Wf) (hg : HG S) (h : HasAs S law8_shapes av) : CallA PP 8 av S (fun r _ => r = .ret (.bool true)) := by
  rw [← (show N Fn.law22_HttpNil = 8 from by kernel_rfl)]
  simp only [law8_shapes, HasAs, HasA, Has] at h
  obtain ⟨_, _, rfl, ⟨v, n, es, hv, hsl, _, hes⟩, rfl⟩ := h
  cases hv
  exact (law22_HttpNil.spec has_law22_HttpNil has_http_Parser_Feed has_http_Parser_Wrong a_awake hg hsl.len (K := fun b _ => b = true) (fun _ => rfl)).mono fun r S' h => retT_true h
end Go.Th.Http
end
