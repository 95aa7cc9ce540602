/- What the row of one statement stands on: a store, abstract code, functions of the program and their laws (ThWalAll). -/
import Derived.Test.YtilkmjbbdnnphaaGreatDoorThBWalStd2
import Derived.Test.YtilkmjbbdnnphaaGreatDoorThBHdiskR

section
/- The wal seat's functions, each by its law: WalNil. -/
set_option linter.unusedVariables false
namespace Go.Th.Wal
open Go Go.Th Go.Th.L Go.Th.Pure

theorem s_F : DiskF PP N := ⟨has_disk_Disk_Down, has_disk_Disk_ready, has_disk_Disk_find, has_disk_Disk_done, has_disk_names_do, has_disk_Disk_change⟩
theorem s_Fw : DiskFw PP N := ⟨s_F, has_disk_good, has_disk_Disk_Used, has_disk_Disk_Create, has_disk_Disk_Append, has_disk_Disk_Sync, has_disk_Disk_Remove, has_disk_Disk_Read, has_slices_Clone_Lbyte⟩
theorem s_append : slices_AppendSeq.Ok PP (N Fn.slices_AppendSeq_Lstring) := by unfold slices_AppendSeq.Ok; kernel_rfl
theorem s_NF : NamesF PP N := ⟨has_disk_Disk_Names, has_maps_Keys_disk_names, has_maps_Keys_disk_names_1, by kernel_rfl, has_slices_Sorted_string, has_slices_Collect_string, s_append, s_Sort⟩
theorem s_CF : CrashF PP N := ⟨s_F, s_NF, has_disk_Disk_Crash, has_disk_Disk_Crash_1, by kernel_rfl, has_disk_says, has_slices_Clone_Lbyte, s_MapsClone⟩
theorem s_Fv : DiskFv PP N := ⟨s_Fw, has_disk_New, s_CF, has_disk_Disk_SyncDir⟩
theorem s_B : WalB PP N := ⟨has_codec_Sum, has_wal_put32, has_wal_put64, has_wal_sealed, has_wal_head, has_wal_laid, has_wal_get32, has_wal_get64, has_wal_whole, has_wal_begins, has_wal_records⟩
theorem s_W : WalF PP N := ⟨s_B, s_Fv, has_wal_Log_Last, has_wal_Log_Sync, has_wal_Log_begin, has_wal_Log_lay, has_wal_Log_Append, has_wal_Log_settle, has_wal_Open, has_wal_Log_Cut⟩

def law3_shapes : List Sh := [Sh.str, Sh.int IntKind.i64]
theorem law3_spec (S : St) (av : List V) (hw : S.Wf) (hg : TabG 2 S) (h : HasAs S law3_shapes av) : CallA PP 3 av S (fun r _ => r = .ret (.bool true)) := by
  rw [← (show N Fn.law18_WalNil = 3 from by kernel_rfl)]
  simp only [law3_shapes, HasAs] at h
  obtain ⟨v, _, rfl, hv, k, _, rfl, hk, rfl⟩ := h
  obtain ⟨a, e⟩ := rdd_str (S := S) hv
  cases e
  obtain ⟨n, e, _⟩ := rdd_int (S := S) hk
  cases e
  exact (law18_WalNil.spec s_W (s_Itoa hg) s_Prefix s_Atoi has_wal_Log_Synced has_wal_Log_First has_law18_room has_law18_awake has_law18_WalNil hw (K := fun b _ => b = true) (fun _ => rfl)).mono fun r S' h => retT_true h

end Go.Th.Wal
end
