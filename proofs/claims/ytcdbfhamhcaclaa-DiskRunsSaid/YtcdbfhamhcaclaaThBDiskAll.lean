/- What the row of one statement stands on: a store, abstract code, functions of the program and their laws (ThDiskAll). -/
import Derived.Test.YtcdbfhamhcaclaaThBDiskStd
import Derived.Test.YtcdbfhamhcaclaaThBHdiskR

section
/- The seat's functions, each by its law: DiskNil. -/
set_option linter.unusedVariables false
namespace Go.Th.Disk
open Go Go.Th Go.Th.L Go.Th.Pure

theorem s_F : DiskF PP N := ⟨has_disk_Disk_Down, has_disk_Disk_ready, has_disk_Disk_find, has_disk_Disk_done, has_disk_names_do, has_disk_Disk_change⟩
theorem s_F2 : DiskF2 PP N := ⟨s_F, has_disk_good, has_disk_Disk_Used, has_disk_Disk_Create, has_disk_Disk_Append, has_disk_Disk_Sync, has_disk_Disk_Rename, has_disk_Disk_Remove, has_disk_Disk_Read, has_disk_Disk_Stop, has_disk_Disk_Steps, has_slices_Clone_Lbyte⟩
theorem s_append : slices_AppendSeq.Ok PP (N Fn.slices_AppendSeq_Lstring) := by unfold slices_AppendSeq.Ok; kernel_rfl
theorem s_NF : NamesF PP N := ⟨has_disk_Disk_Names, has_maps_Keys_disk_names, has_maps_Keys_disk_names_1, by kernel_rfl, has_slices_Sorted_string, has_slices_Collect_string, s_append, s_Sort⟩
theorem s_CF : CrashF PP N := ⟨s_F, s_NF, has_disk_Disk_Crash, has_disk_Disk_Crash_1, by kernel_rfl, has_disk_says, has_slices_Clone_Lbyte, s_MapsClone⟩
theorem s_ClF : CloneF PP N := ⟨has_disk_Disk_Clone, has_disk_Disk_Clone_1, by kernel_rfl, has_slices_Clone_Lbyte⟩
theorem s_F3 : DiskF3 PP N := ⟨s_F2, has_disk_New, s_CF, s_ClF, has_disk_Disk_SyncDir, has_keep_Bytes⟩

end Go.Th.Disk
end
