/- What the row of one statement stands on: a store, abstract code, functions of the program and their laws (ThDiskAll4). -/
import Derived.Test.YtcdbfhamhcaclaaThBDiskAll2
import Derived.Test.YtcdbfhamhcaclaaThBDiskClone2
import Derived.Test.YtcdbfhamhcaclaaThBHlaw17d

section
/- The seat's functions, each by its law: DiskNew. -/
set_option linter.unusedVariables false
namespace Go.Th.Disk
open Go Go.Th Go.Th.L Go.Th.Pure

theorem s_RF : RefF PP N := ⟨has_ref17_without, has_ref17_with, has_ref17_apply, has_ref17_find, has_ref17_Disk_file, has_ref17_Name, has_ref17_Disk_Down, has_ref17_Disk_step, has_ref17_Disk_change, has_ref17_says, has_ref17_choice, has_ref17_Disk_Used, has_ref17_Disk_Names, has_ref17_Disk_Read, has_ref17_Disk_Create, has_ref17_Disk_Append, has_ref17_Disk_Sync, has_ref17_Disk_Rename, has_ref17_Disk_Remove, has_ref17_Disk_SyncDir, has_ref17_Disk_Stop, has_ref17_Disk_Crash, has_ref17_Disk_Clone, has_ref17_New⟩
theorem s_LF2 : LawF2 PP N := ⟨s_LF, s_RF, s_CloneX, has_keep_SpoilBytes, has_law17_same⟩

end Go.Th.Disk
end
