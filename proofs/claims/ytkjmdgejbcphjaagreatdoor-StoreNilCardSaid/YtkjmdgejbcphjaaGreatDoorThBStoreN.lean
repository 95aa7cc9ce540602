/- What the row of one statement stands on: a store, abstract code, functions of the program and their laws (ThStoreN). -/
import Derived.Test.YtkjmdgejbcphjaaGreatDoorThBGref16
import Derived.Test.YtkjmdgejbcphjaaGreatDoorProg

section
/- The seat's numbering of the library's functions, and that they are the program's (printed by tools/seat.py). -/

namespace Go.Th.Store
open Go Go.Th Go.Th.L
set_option maxRecDepth 100000
set_option maxHeartbeats 2000000

noncomputable abbrev PP := Go.Proofs.Tryz.prog
def tabN : List (Nat × Nat) := [(2, 42), (5, 29), (6, 112), (15, 86), (19, 41), (24, 35), (26, 32), (31, 88), (34, 72), (35, 73), (38, 85), (42, 33), (45, 75), (47, 77), (49, 113), (50, 114), (152, 39), (194, 126), (199, 81), (233, 44), (246, 80), (320, 7), (331, 57), (332, 47), (333, 51), (334, 49), (335, 28), (336, 48), (337, 45), (338, 78), (342, 95), (344, 50), (345, 46), (361, 100), (362, 97), (363, 101), (364, 102), (365, 71), (366, 90), (367, 94), (368, 93), (369, 96), (370, 70), (371, 92), (372, 91), (381, 122), (382, 123), (383, 124), (385, 136), (389, 34), (390, 87), (391, 40), (392, 52), (394, 53), (397, 79), (398, 82), (399, 83), (400, 84), (401, 98), (402, 121), (403, 99), (404, 118), (405, 119), (406, 120), (407, 127), (408, 135), (416, 141), (417, 140), (418, 139), (516, 6), (517, 8), (518, 9), (519, 10), (520, 11), (521, 12), (522, 13), (525, 16), (526, 18), (527, 19), (528, 4), (529, 20), (530, 21), (531, 22), (536, 26), (537, 27), (538, 30), (539, 31), (540, 36), (541, 37), (542, 38), (543, 43), (544, 59), (554, 126)]
def N (k : Nat) : Nat := match tabN.find? (fun p => p.1 == k) with
  | some p => p.2
  | none => 0
theorem has_law19_StoreNil : law19_StoreNil.Ok PP N := Reads.of (by kernel_rfl)
theorem has_law19_large : law19_large.Ok PP N := Reads.of (by kernel_rfl)
theorem has_disk_New : disk_New.Ok PP N := Reads.of (by kernel_rfl)
theorem has_store_Open : store_Open.Ok PP N := ReadsD.of (by kernel_rfl)
theorem has_store_Store_Put : store_Store_Put.Ok PP N := Reads.of (by kernel_rfl)
theorem has_store_Store_Delete : store_Store_Delete.Ok PP N := Reads.of (by kernel_rfl)
theorem has_store_Store_Sync : store_Store_Sync.Ok PP N := Reads.of (by kernel_rfl)
theorem has_store_Store_Snapshot : store_Store_Snapshot.Ok PP N := ReadsD.of (by kernel_rfl)
theorem has_store_Store_Since : store_Store_Since.Ok PP N := Reads.of (by kernel_rfl)
theorem has_law19_awake : law19_awake.Ok PP N := Reads.of (by kernel_rfl)
theorem has_store_Store_Rows : store_Store_Rows.Ok PP N := Reads.of (by kernel_rfl)
theorem has_store_Store_Seq : store_Store_Seq.Ok PP N := Reads.of (by kernel_rfl)
theorem has_store_Store_Get : store_Store_Get.Ok PP N := Reads.of (by kernel_rfl)
theorem has_store_Store_Len : store_Store_Len.Ok PP N := Reads.of (by kernel_rfl)
theorem has_store_Store_Safe : store_Store_Safe.Ok PP N := Reads.of (by kernel_rfl)
theorem has_store_Open_1 : store_Open_1.Ok PP N := Reads.of (by kernel_rfl)
theorem has_store_caught : store_caught.Ok PP N := ReadsR.of (by kernel_rfl)
theorem has_disk_Disk_Read : disk_Disk_Read.Ok PP N := Reads.of (by kernel_rfl)
theorem has_store_must : store_must.Ok PP N := Reads.of (by kernel_rfl)
theorem has_store_take : store_take.Ok PP N := Reads.of (by kernel_rfl)
theorem has_wal_Open : wal_Open.Ok PP N := Reads.of (by kernel_rfl)
theorem has_codec_GetChange : codec_GetChange.Ok PP N := Reads.of (by kernel_rfl)
theorem has_store_Store_do : store_Store_do.Ok PP N := Reads.of (by kernel_rfl)
theorem has_flat_May : flat_May.Ok PP N := Reads.of (by kernel_rfl)
theorem has_store_Store_change : store_Store_change.Ok PP N := Reads.of (by kernel_rfl)
theorem has_slices_Clone_Lint : slices_Clone_Lint.Ok PP N := Reads.of (by kernel_rfl)
theorem has_wal_Log_Sync : wal_Log_Sync.Ok PP N := Reads.of (by kernel_rfl)
theorem has_store_lay : store_lay.Ok PP N := Reads.of (by kernel_rfl)
theorem has_disk_Disk_Names : disk_Disk_Names.Ok PP N := Reads.of (by kernel_rfl)
theorem has_disk_Disk_Remove : disk_Disk_Remove.Ok PP N := Reads.of (by kernel_rfl)
theorem has_disk_Disk_Create : disk_Disk_Create.Ok PP N := Reads.of (by kernel_rfl)
theorem has_disk_Disk_Append : disk_Disk_Append.Ok PP N := Reads.of (by kernel_rfl)
theorem has_disk_Disk_Sync : disk_Disk_Sync.Ok PP N := Reads.of (by kernel_rfl)
theorem has_disk_Disk_SyncDir : disk_Disk_SyncDir.Ok PP N := Reads.of (by kernel_rfl)
theorem has_wal_Log_Cut : wal_Log_Cut.Ok PP N := Reads.of (by kernel_rfl)
theorem has_wal_Log_Last : wal_Log_Last.Ok PP N := Reads.of (by kernel_rfl)
theorem has_disk_Disk_Crash : disk_Disk_Crash.Ok PP N := Reads.of (by kernel_rfl)
theorem has_disk_Disk_find : disk_Disk_find.Ok PP N := Reads.of (by kernel_rfl)
theorem has_slices_Clone_Lbyte : slices_Clone_Lbyte.Ok PP N := Reads.of (by kernel_rfl)
theorem has_codec_reading_number : codec_reading_number.Ok PP N := Reads.of (by kernel_rfl)
theorem has_codec_reading_cut : codec_reading_cut.Ok PP N := Reads.of (by kernel_rfl)
theorem has_codec_reading_coords : codec_reading_coords.Ok PP N := Reads.of (by kernel_rfl)
theorem has_vec_Check : vec_Check.Ok PP N := Reads.of (by kernel_rfl)
theorem has_disk_Disk_Down : disk_Disk_Down.Ok PP N := Reads.of (by kernel_rfl)
theorem has_wal_begins : wal_begins.Ok PP N := Reads.of (by kernel_rfl)
theorem has_wal_records : wal_records.Ok PP N := Reads.of (by kernel_rfl)
theorem has_wal_Log_settle : wal_Log_settle.Ok PP N := Reads.of (by kernel_rfl)
theorem has_codec_may : codec_may.Ok PP N := Reads.of (by kernel_rfl)
theorem has_codec_PutChange : codec_PutChange.Ok PP N := Reads.of (by kernel_rfl)
theorem has_wal_Log_Append : wal_Log_Append.Ok PP N := Reads.of (by kernel_rfl)
theorem has_codec_lay : codec_lay.Ok PP N := Reads.of (by kernel_rfl)
theorem has_disk_Disk_ready : disk_Disk_ready.Ok PP N := Reads.of (by kernel_rfl)
theorem has_slices_Sorted_string : slices_Sorted_string.Ok PP N := Reads.of (by kernel_rfl)
theorem has_maps_Keys_disk_names : maps_Keys_disk_names.Ok PP N := Reads.of (by kernel_rfl)
theorem has_disk_Disk_change : disk_Disk_change.Ok PP N := Reads.of (by kernel_rfl)
theorem has_disk_good : disk_good.Ok PP N := Reads.of (by kernel_rfl)
theorem has_disk_Disk_Used : disk_Disk_Used.Ok PP N := Reads.of (by kernel_rfl)
theorem has_disk_Disk_done : disk_Disk_done.Ok PP N := Reads.of (by kernel_rfl)
theorem has_wal_Log_begin : wal_Log_begin.Ok PP N := Reads.of (by kernel_rfl)
theorem has_disk_Disk_Crash_1 : disk_Disk_Crash_1.Ok PP N := Reads.of (by kernel_rfl)
theorem has_disk_says : disk_says.Ok PP N := Reads.of (by kernel_rfl)
theorem has_disk_names_do : disk_names_do.Ok PP N := Reads.of (by kernel_rfl)
theorem has_codec_Sum : codec_Sum.Ok PP N := Reads.of (by kernel_rfl)
theorem has_codec_reading_coords_1 : codec_reading_coords_1.Ok PP N := Reads.of (by kernel_rfl)
theorem has_vec_dim : vec_dim.Ok PP N := Reads.of (by kernel_rfl)
theorem has_wal_whole : wal_whole.Ok PP N := Reads.of (by kernel_rfl)
theorem has_wal_get32 : wal_get32.Ok PP N := Reads.of (by kernel_rfl)
theorem has_wal_get64 : wal_get64.Ok PP N := Reads.of (by kernel_rfl)
theorem has_wal_Log_lay : wal_Log_lay.Ok PP N := Reads.of (by kernel_rfl)
theorem has_slices_Collect_string : slices_Collect_string.Ok PP N := Reads.of (by kernel_rfl)
theorem has_maps_Keys_disk_names_1 : maps_Keys_disk_names_1.Ok PP N := Reads.of (by kernel_rfl)
theorem has_wal_head : wal_head.Ok PP N := Reads.of (by kernel_rfl)
theorem has_wal_laid : wal_laid.Ok PP N := Reads.of (by kernel_rfl)
theorem has_wal_sealed : wal_sealed.Ok PP N := Reads.of (by kernel_rfl)
theorem has_wal_put64 : wal_put64.Ok PP N := Reads.of (by kernel_rfl)
theorem has_wal_put32 : wal_put32.Ok PP N := Reads.of (by kernel_rfl)
end Go.Th.Store
end
