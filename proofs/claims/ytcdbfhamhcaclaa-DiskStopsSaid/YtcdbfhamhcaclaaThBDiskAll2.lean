/- What the row of one statement stands on: a store, abstract code, functions of the program and their laws (ThDiskAll2). -/
import Derived.Test.YtcdbfhamhcaclaaThBDiskAll
import Derived.Test.YtcdbfhamhcaclaaThBHdiskR2
import Derived.Test.YtcdbfhamhcaclaaThBHlaw17b

section
/- The seat's functions, each by its law: DiskStops. -/
set_option linter.unusedVariables false
namespace Go.Th.Disk
open Go Go.Th Go.Th.L Go.Th.Pure

theorem s_LF : LawF PP N := ⟨s_F3, has_law17_awake, has_law17_large, has_law17_play, has_keep_Texts⟩
abbrev scrS : Sh := Sh.slice 6 96 opSh

def law6_shapes : List Sh := [Sh.int IntKind.i64, scrS, Sh.int IntKind.i64]
theorem law6_spec (S : St) (av : List V) (hw : S.Wf) (h : HasAs S law6_shapes av) : CallA PP 6 av S (fun r _ => r = .ret (.bool true)) := by
  rw [← (show N Fn.law17_DiskStops = 6 from by kernel_rfl)]
  simp only [law6_shapes, HasAs] at h
  obtain ⟨v, _, rfl, hv, u, _, rfl, hu, k, _, rfl, hk, rfl⟩ := h
  obtain ⟨room, e, _⟩ := rdd_int (S := S) hv
  cases e
  obtain ⟨_, l, e, hs⟩ := rdd_script hw hu
  cases e
  obtain ⟨n, e, hn⟩ := rdd_int (S := S) hk
  cases e
  exact (law17_DiskStops.spec s_LF has_law17_DiskStops hw hn.2 hs (K := fun b _ => b = true) (fun _ => rfl)).mono fun r S' h => retT_true h

end Go.Th.Disk
end
