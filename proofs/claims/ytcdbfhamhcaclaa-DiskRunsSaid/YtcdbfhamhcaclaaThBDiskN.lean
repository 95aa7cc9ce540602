/- What the row of one statement stands on: a store, abstract code, functions of the program and their laws (ThDiskN). -/
import Derived.Test.YtcdbfhamhcaclaaThBGslicesStr
import Derived.Test.YtcdbfhamhcaclaaThBR4
import Derived.Test.YtcdbfhamhcaclaaProg

section
/- The seat's numbering of the library's functions, and that they are the program's (printed by tools/seat.py). -/
namespace Go.Th.Disk
open Go Go.Th Go.Th.L
set_option maxRecDepth 100000
set_option maxHeartbeats 2000000

noncomputable abbrev PP := Go.Proofs.Try.prog
def tabN : List (Nat × Nat) := [(4, 41), (7, 42), (10, 23), (86, 76), (97, 86), (98, 87), (100, 89), (101, 90), (216, 25), (319, 3), (320, 8), (321, 9), (322, 11), (323, 10), (324, 4), (325, 12), (326, 13), (327, 14), (328, 15), (329, 5), (330, 16), (331, 17), (332, 18), (333, 19), (334, 20), (335, 21), (336, 22), (337, 24), (338, 26), (339, 6), (340, 27), (341, 28), (342, 29), (343, 7), (344, 30), (345, 31), (346, 32), (347, 33), (348, 34), (349, 35), (350, 36), (351, 37), (352, 39), (353, 40), (354, 43), (355, 44), (356, 45), (357, 46), (358, 47), (359, 48), (360, 49), (361, 50), (362, 51), (363, 52), (364, 53), (365, 38), (366, 54), (367, 55), (368, 56), (369, 57), (370, 58), (371, 60), (372, 59), (373, 61), (374, 62), (375, 63), (376, 64), (377, 65), (378, 67), (379, 66), (380, 68), (381, 70), (382, 71), (383, 72), (384, 73), (385, 74)]
def N (k : Nat) : Nat := match tabN.find? (fun p => p.1 == k) with
  | some p => p.2
  | none => 0
theorem has_law17_DiskRuns : law17_DiskRuns.Ok PP N := Reads.of (by kernel_rfl)
theorem has_disk_New : disk_New.Ok PP N := Reads.of (by kernel_rfl)
theorem has_law17_awake : law17_awake.Ok PP N := Reads.of (by kernel_rfl)
theorem has_law17_same : law17_same.Ok PP N := Reads.of (by kernel_rfl)
theorem has_ref17_New : ref17_New.Ok PP N := Reads.of (by kernel_rfl)
theorem has_law17_large : law17_large.Ok PP N := Reads.of (by kernel_rfl)
theorem has_disk_Disk_Clone : disk_Disk_Clone.Ok PP N := Reads.of (by kernel_rfl)
theorem has_ref17_Disk_Clone : ref17_Disk_Clone.Ok PP N := Reads.of (by kernel_rfl)
theorem has_law17_step : law17_step.Ok PP N := Reads.of (by kernel_rfl)
theorem has_law17_play : law17_play.Ok PP N := Reads.of (by kernel_rfl)
theorem has_disk_Disk_Crash : disk_Disk_Crash.Ok PP N := Reads.of (by kernel_rfl)
theorem has_disk_Disk_Create : disk_Disk_Create.Ok PP N := Reads.of (by kernel_rfl)
theorem has_disk_Disk_SyncDir : disk_Disk_SyncDir.Ok PP N := Reads.of (by kernel_rfl)
theorem has_disk_Disk_Sync : disk_Disk_Sync.Ok PP N := Reads.of (by kernel_rfl)
theorem has_disk_Disk_Read : disk_Disk_Read.Ok PP N := Reads.of (by kernel_rfl)
theorem has_disk_Disk_Append : disk_Disk_Append.Ok PP N := Reads.of (by kernel_rfl)
theorem has_keep_Bytes : keep_Bytes.Ok PP N := Reads.of (by kernel_rfl)
theorem has_disk_Disk_Names : disk_Disk_Names.Ok PP N := Reads.of (by kernel_rfl)
theorem has_keep_Texts : keep_Texts.Ok PP N := Reads.of (by kernel_rfl)
theorem has_disk_Disk_Down : disk_Disk_Down.Ok PP N := Reads.of (by kernel_rfl)
theorem has_disk_Disk_Stop : disk_Disk_Stop.Ok PP N := Reads.of (by kernel_rfl)
theorem has_disk_Disk_Steps : disk_Disk_Steps.Ok PP N := Reads.of (by kernel_rfl)
theorem has_disk_Disk_Used : disk_Disk_Used.Ok PP N := Reads.of (by kernel_rfl)
theorem has_disk_Disk_Rename : disk_Disk_Rename.Ok PP N := Reads.of (by kernel_rfl)
theorem has_disk_Disk_Remove : disk_Disk_Remove.Ok PP N := Reads.of (by kernel_rfl)
theorem has_ref17_Disk_Names : ref17_Disk_Names.Ok PP N := Reads.of (by kernel_rfl)
theorem has_ref17_Disk_Used : ref17_Disk_Used.Ok PP N := Reads.of (by kernel_rfl)
theorem has_ref17_Disk_Down : ref17_Disk_Down.Ok PP N := Reads.of (by kernel_rfl)
theorem has_ref17_Disk_Read : ref17_Disk_Read.Ok PP N := Reads.of (by kernel_rfl)
theorem has_keep_SpoilBytes : keep_SpoilBytes.Ok PP N := Reads.of (by kernel_rfl)
theorem has_disk_Disk_Clone_1 : disk_Disk_Clone_1.Ok PP N := Reads.of (by kernel_rfl)
theorem has_slices_Clone_Lbyte : slices_Clone_Lbyte.Ok PP N := Reads.of (by kernel_rfl)
theorem has_ref17_without : ref17_without.Ok PP N := Reads.of (by kernel_rfl)
theorem has_ref17_Disk_Create : ref17_Disk_Create.Ok PP N := Reads.of (by kernel_rfl)
theorem has_keep_LendBytes : keep_LendBytes.Ok PP N := Reads.of (by kernel_rfl)
theorem has_keep_BackBytes : keep_BackBytes.Ok PP N := Reads.of (by kernel_rfl)
theorem has_ref17_Disk_Append : ref17_Disk_Append.Ok PP N := Reads.of (by kernel_rfl)
theorem has_ref17_Disk_Sync : ref17_Disk_Sync.Ok PP N := Reads.of (by kernel_rfl)
theorem has_ref17_Disk_Rename : ref17_Disk_Rename.Ok PP N := Reads.of (by kernel_rfl)
theorem has_ref17_Disk_Remove : ref17_Disk_Remove.Ok PP N := Reads.of (by kernel_rfl)
theorem has_ref17_Disk_SyncDir : ref17_Disk_SyncDir.Ok PP N := Reads.of (by kernel_rfl)
theorem has_ref17_Disk_Stop : ref17_Disk_Stop.Ok PP N := Reads.of (by kernel_rfl)
theorem has_ref17_Disk_Crash : ref17_Disk_Crash.Ok PP N := Reads.of (by kernel_rfl)
theorem has_disk_Disk_Crash_1 : disk_Disk_Crash_1.Ok PP N := Reads.of (by kernel_rfl)
theorem has_disk_says : disk_says.Ok PP N := Reads.of (by kernel_rfl)
theorem has_disk_names_do : disk_names_do.Ok PP N := Reads.of (by kernel_rfl)
theorem has_disk_Disk_ready : disk_Disk_ready.Ok PP N := Reads.of (by kernel_rfl)
theorem has_disk_good : disk_good.Ok PP N := Reads.of (by kernel_rfl)
theorem has_disk_Disk_change : disk_Disk_change.Ok PP N := Reads.of (by kernel_rfl)
theorem has_disk_Disk_done : disk_Disk_done.Ok PP N := Reads.of (by kernel_rfl)
theorem has_disk_Disk_find : disk_Disk_find.Ok PP N := Reads.of (by kernel_rfl)
theorem has_slices_Sorted_string : slices_Sorted_string.Ok PP N := Reads.of (by kernel_rfl)
theorem has_maps_Keys_disk_names : maps_Keys_disk_names.Ok PP N := Reads.of (by kernel_rfl)
theorem has_ref17_Disk_file : ref17_Disk_file.Ok PP N := Reads.of (by kernel_rfl)
theorem has_ref17_Name : ref17_Name.Ok PP N := Reads.of (by kernel_rfl)
theorem has_ref17_find : ref17_find.Ok PP N := Reads.of (by kernel_rfl)
theorem has_ref17_Disk_change : ref17_Disk_change.Ok PP N := Reads.of (by kernel_rfl)
theorem has_ref17_Disk_step : ref17_Disk_step.Ok PP N := Reads.of (by kernel_rfl)
theorem has_ref17_says : ref17_says.Ok PP N := Reads.of (by kernel_rfl)
theorem has_ref17_choice : ref17_choice.Ok PP N := Reads.of (by kernel_rfl)
theorem has_ref17_apply : ref17_apply.Ok PP N := Reads.of (by kernel_rfl)
theorem has_slices_Collect_string : slices_Collect_string.Ok PP N := Reads.of (by kernel_rfl)
theorem has_maps_Keys_disk_names_1 : maps_Keys_disk_names_1.Ok PP N := Reads.of (by kernel_rfl)
theorem has_ref17_with : ref17_with.Ok PP N := Reads.of (by kernel_rfl)
end Go.Th.Disk
end
