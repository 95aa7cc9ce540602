/- What the row of one statement stands on: a store, abstract code, functions of the program and their laws (ThDiskAll5). -/
import Derived.Test.YtcdbfhamhcaclaaThBDiskAll4
import Derived.Test.YtcdbfhamhcaclaaThBHlaw17f

section
/- The seat's functions, each by its law: DiskRuns. -/
set_option linter.unusedVariables false
namespace Go.Th.Disk
open Go Go.Th Go.Th.L Go.Th.Pure

theorem s_LF3 : LawF3 PP N := ⟨s_LF2, has_law17_step, has_keep_LendBytes, has_keep_BackBytes⟩

def law4_shapes : List Sh := [Sh.int IntKind.i64, scrS]
theorem law4_spec (S : St) (av : List V) (hw : S.Wf) (h : HasAs S law4_shapes av) : CallA PP 4 av S (fun r _ => r = .ret (.bool true)) := by
  rw [← (show N Fn.law17_DiskRuns = 4 from by kernel_rfl)]
  simp only [law4_shapes, HasAs] at h
  obtain ⟨a1, _, rfl, h1, a2, _, rfl, h2, rfl⟩ := h
  obtain ⟨room, e, _⟩ := rdd_int (S := S) h1
  cases e
  obtain ⟨_, l, e, hs⟩ := rdd_script hw h2
  cases e
  exact (law17_DiskRuns.spec s_LF3 has_law17_DiskRuns hw hs (K := fun b _ => b = true) (fun _ => rfl)).mono fun r S' h => retT_true h

end Go.Th.Disk
end
