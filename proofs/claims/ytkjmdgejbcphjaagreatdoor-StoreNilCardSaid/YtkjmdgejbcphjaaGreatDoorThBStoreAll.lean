/- What the row of one statement stands on: a store, abstract code, functions of the program and their laws (ThStoreAll). -/
import Derived.Test.YtkjmdgejbcphjaaGreatDoorThBStoreStd2
import Derived.Test.YtkjmdgejbcphjaaGreatDoorThBHstore2

section
/- The store seat's functions, each by its law: StoreNil. -/
set_option linter.unusedVariables false
set_option maxRecDepth 10000
namespace Go.Th.Store
open Go Go.Th Go.Th.L Go.Th.Pure

theorem s_F : DiskF PP N := ⟨has_disk_Disk_Down, has_disk_Disk_ready, has_disk_Disk_find, has_disk_Disk_done, has_disk_names_do, has_disk_Disk_change⟩
theorem s_Fw : DiskFw PP N := ⟨s_F, has_disk_good, has_disk_Disk_Used, has_disk_Disk_Create, has_disk_Disk_Append, has_disk_Disk_Sync, has_disk_Disk_Remove, has_disk_Disk_Read, has_slices_Clone_Lbyte⟩
theorem s_append : slices_AppendSeq.Ok PP (N Fn.slices_AppendSeq_Lstring) := by unfold slices_AppendSeq.Ok; kernel_rfl
theorem s_NF : NamesF PP N := ⟨has_disk_Disk_Names, has_maps_Keys_disk_names, has_maps_Keys_disk_names_1, by kernel_rfl, has_slices_Sorted_string, has_slices_Collect_string, s_append, s_Sort⟩
theorem s_CF : CrashF PP N := ⟨s_F, s_NF, has_disk_Disk_Crash, has_disk_Disk_Crash_1, by kernel_rfl, has_disk_says, has_slices_Clone_Lbyte, s_MapsClone⟩
theorem s_Fv : DiskFv PP N := ⟨s_Fw, has_disk_New, s_CF, has_disk_Disk_SyncDir⟩
theorem s_B : WalB PP N := ⟨has_codec_Sum, has_wal_put32, has_wal_put64, has_wal_sealed, has_wal_head, has_wal_laid, has_wal_get32, has_wal_get64, has_wal_whole, has_wal_begins, has_wal_records⟩
theorem s_W : WalF PP N := ⟨s_B, s_Fv, has_wal_Log_Last, has_wal_Log_Sync, has_wal_Log_begin, has_wal_Log_lay, has_wal_Log_Append, has_wal_Log_settle, has_wal_Open, has_wal_Log_Cut⟩
theorem e_c : canEnter PP (N Fn.store_caught) = true := by kernel_rfl
theorem e_o : canEnter PP (N Fn.store_Open_1) = true := by kernel_rfl
theorem e_r : canEnter PP (N Fn.codec_reading_coords_1) = true := by kernel_rfl
theorem s_Check : ChecksV PP (N Fn.vec_Check) := vec_Check.spec has_vec_Check (vec_dim.spec has_vec_dim)
theorem s_may : codec_may.Spec PP N := codec_may.spec has_codec_may s_Check
theorem s_lay : LaysB PP (N Fn.codec_lay) (fun _ => True) := codec_lay.spec has_codec_lay
theorem s_cut : codec_reading_cut.Spec PP N := codec_reading_cut.spec has_codec_reading_cut
theorem s_num : codec_reading_number.Spec PP N := codec_reading_number.spec has_codec_reading_number s_cut
theorem s_coords : codec_reading_coords.Spec PP N := codec_reading_coords.spec has_codec_reading_coords (codec_reading_coords_1.spec has_codec_reading_coords_1 s_num) e_r
theorem s_S : StoreF PP N := ⟨s_W, has_store_Open, has_store_Open_1, has_store_caught, has_store_must, has_store_take, has_store_Store_do, has_store_Store_change, has_store_lay, has_store_Store_Put, has_store_Store_Delete, has_store_Store_Sync, has_store_Store_Since, has_store_Store_Seq, has_store_Store_Len, has_store_Store_Safe, has_store_Store_Get, has_store_Store_Rows, has_store_Store_Snapshot, has_flat_May, has_slices_Clone_Lint, s_Check, codec_PutChange.spec has_codec_PutChange s_may s_lay, codec_GetChange.specF has_codec_GetChange s_num s_coords s_may⟩

def law4_shapes : List Sh := [Sh.agg op19Fs, Sh.int IntKind.i64]
theorem law4_spec (S : St) (av : List V) (hw : S.Wf) (hg : TabG 2 S) (h : HasAs S law4_shapes av) : CallA PP 4 av S (fun r _ => r = .ret (.bool true)) := by
  rw [← (show N Fn.law19_StoreNil = 4 from by kernel_rfl)]
  simp only [law4_shapes, HasAs] at h
  obtain ⟨a, _, rfl, ha, b, _, rfl, hb, rfl⟩ := h
  obtain ⟨cs, rfl, hc⟩ := ha
  obtain ⟨k, id, n, rid, w, ch, v, is, rfl, hv, hi⟩ := rds_op hc
  obtain ⟨dim, e, _⟩ := rdd_int (S := S) hb
  cases e
  have hl : ∀ {u : V} {l : List Int}, IntsAt S u l → ∀ S', lenV S' 2 u = some (.int .i64 l.length) := fun {u l} hu S' => by
    have := hu.length
    rcases hu.2.2 with ⟨rfl, h0⟩ | ⟨i, o, c, t, rfl, _⟩
    · exact this
    · exact this
  exact (law19_StoreNil.spec s_S e_c e_o (s_Itoa hg) s_Prefix s_Atoi has_law19_awake has_law19_large has_law19_StoreNil hw (SlAt.one1 hv) (SlAt.one1 hi) (hl hv) (hl hi) (K := fun b _ => b = true) (fun _ => rfl)).mono fun r S' h => retT_true h

end Go.Th.Store
end
