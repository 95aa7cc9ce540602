/- What the row of one statement stands on: a store, abstract code, functions of the program and their laws (ThWalN). -/
import Derived.Test.YtilkmjbbdnnphaaGreatDoorThBGref17
import Derived.Test.YtilkmjbbdnnphaaGreatDoorThBR4
import Derived.Test.YtilkmjbbdnnphaaGreatDoorProg

section
/- The seat's numbering of the library's functions, and that they are the program's (printed by tools/seat.py). -/
namespace Go.Th.Wal
open Go Go.Th Go.Th.L
set_option maxRecDepth 100000
set_option maxHeartbeats 2000000

noncomputable abbrev PP := Go.Proofs.Tryz.prog
def tabN : List (Nat × Nat) := [(6, 61), (194, 45), (199, 18), (246, 17), (320, 29), (331, 13), (332, 46), (333, 26), (334, 25), (335, 19), (336, 47), (337, 16), (338, 14), (342, 64), (345, 27), (361, 30), (362, 31), (363, 32), (364, 33), (365, 34), (366, 35), (367, 63), (368, 51), (369, 50), (370, 41), (371, 37), (372, 36), (381, 53), (382, 54), (383, 55), (385, 68), (387, 3), (388, 4), (389, 5), (390, 6), (391, 7), (392, 8), (393, 9), (394, 10), (395, 11), (396, 12), (397, 15), (398, 20), (399, 21), (400, 22), (401, 23), (402, 24), (403, 28), (404, 42), (405, 43), (406, 44), (407, 48), (408, 49), (416, 67), (417, 66), (418, 65)]
def N (k : Nat) : Nat := match tabN.find? (fun p => p.1 == k) with
  | some p => p.2
  | none => 0
theorem has_law18_WalNil : law18_WalNil.Ok PP N := Reads.of (by kernel_rfl)
theorem has_law18_awake : law18_awake.Ok PP N := Reads.of (by kernel_rfl)
theorem has_wal_Open : wal_Open.Ok PP N := Reads.of (by kernel_rfl)
theorem has_wal_Log_Append : wal_Log_Append.Ok PP N := Reads.of (by kernel_rfl)
theorem has_wal_Log_Sync : wal_Log_Sync.Ok PP N := Reads.of (by kernel_rfl)
theorem has_wal_Log_Cut : wal_Log_Cut.Ok PP N := Reads.of (by kernel_rfl)
theorem has_wal_Log_Synced : wal_Log_Synced.Ok PP N := Reads.of (by kernel_rfl)
theorem has_wal_Log_Last : wal_Log_Last.Ok PP N := Reads.of (by kernel_rfl)
theorem has_wal_Log_First : wal_Log_First.Ok PP N := Reads.of (by kernel_rfl)
theorem has_law18_room : law18_room.Ok PP N := Reads.of (by kernel_rfl)
theorem has_disk_Disk_Crash : disk_Disk_Crash.Ok PP N := Reads.of (by kernel_rfl)
theorem has_disk_Disk_Down : disk_Disk_Down.Ok PP N := Reads.of (by kernel_rfl)
theorem has_disk_Disk_Names : disk_Disk_Names.Ok PP N := Reads.of (by kernel_rfl)
theorem has_disk_Disk_Read : disk_Disk_Read.Ok PP N := Reads.of (by kernel_rfl)
theorem has_wal_begins : wal_begins.Ok PP N := Reads.of (by kernel_rfl)
theorem has_wal_records : wal_records.Ok PP N := Reads.of (by kernel_rfl)
theorem has_wal_Log_settle : wal_Log_settle.Ok PP N := Reads.of (by kernel_rfl)
theorem has_wal_Log_begin : wal_Log_begin.Ok PP N := Reads.of (by kernel_rfl)
theorem has_wal_Log_lay : wal_Log_lay.Ok PP N := Reads.of (by kernel_rfl)
theorem has_disk_Disk_Sync : disk_Disk_Sync.Ok PP N := Reads.of (by kernel_rfl)
theorem has_disk_Disk_SyncDir : disk_Disk_SyncDir.Ok PP N := Reads.of (by kernel_rfl)
theorem has_disk_Disk_Remove : disk_Disk_Remove.Ok PP N := Reads.of (by kernel_rfl)
theorem has_disk_New : disk_New.Ok PP N := Reads.of (by kernel_rfl)
theorem has_disk_Disk_Crash_1 : disk_Disk_Crash_1.Ok PP N := Reads.of (by kernel_rfl)
theorem has_disk_says : disk_says.Ok PP N := Reads.of (by kernel_rfl)
theorem has_disk_names_do : disk_names_do.Ok PP N := Reads.of (by kernel_rfl)
theorem has_slices_Clone_Lbyte : slices_Clone_Lbyte.Ok PP N := Reads.of (by kernel_rfl)
theorem has_disk_Disk_ready : disk_Disk_ready.Ok PP N := Reads.of (by kernel_rfl)
theorem has_slices_Sorted_string : slices_Sorted_string.Ok PP N := Reads.of (by kernel_rfl)
theorem has_maps_Keys_disk_names : maps_Keys_disk_names.Ok PP N := Reads.of (by kernel_rfl)
theorem has_disk_Disk_find : disk_Disk_find.Ok PP N := Reads.of (by kernel_rfl)
theorem has_wal_whole : wal_whole.Ok PP N := Reads.of (by kernel_rfl)
theorem has_wal_get32 : wal_get32.Ok PP N := Reads.of (by kernel_rfl)
theorem has_wal_get64 : wal_get64.Ok PP N := Reads.of (by kernel_rfl)
theorem has_disk_Disk_Create : disk_Disk_Create.Ok PP N := Reads.of (by kernel_rfl)
theorem has_disk_Disk_Append : disk_Disk_Append.Ok PP N := Reads.of (by kernel_rfl)
theorem has_wal_head : wal_head.Ok PP N := Reads.of (by kernel_rfl)
theorem has_wal_laid : wal_laid.Ok PP N := Reads.of (by kernel_rfl)
theorem has_disk_Disk_done : disk_Disk_done.Ok PP N := Reads.of (by kernel_rfl)
theorem has_disk_Disk_change : disk_Disk_change.Ok PP N := Reads.of (by kernel_rfl)
theorem has_slices_Collect_string : slices_Collect_string.Ok PP N := Reads.of (by kernel_rfl)
theorem has_maps_Keys_disk_names_1 : maps_Keys_disk_names_1.Ok PP N := Reads.of (by kernel_rfl)
theorem has_codec_Sum : codec_Sum.Ok PP N := Reads.of (by kernel_rfl)
theorem has_disk_good : disk_good.Ok PP N := Reads.of (by kernel_rfl)
theorem has_disk_Disk_Used : disk_Disk_Used.Ok PP N := Reads.of (by kernel_rfl)
theorem has_wal_sealed : wal_sealed.Ok PP N := Reads.of (by kernel_rfl)
theorem has_wal_put64 : wal_put64.Ok PP N := Reads.of (by kernel_rfl)
theorem has_wal_put32 : wal_put32.Ok PP N := Reads.of (by kernel_rfl)
end Go.Th.Wal
end
