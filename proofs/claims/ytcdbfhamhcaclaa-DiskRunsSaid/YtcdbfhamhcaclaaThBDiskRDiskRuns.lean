/- What the row of one statement stands on: a store, abstract code, functions of the program and their laws (ThDiskRDiskRuns). -/
import Derived.Test.YtcdbfhamhcaclaaThBQ11
import Derived.Test.YtcdbfhamhcaclaaThBDiskAll5
import Derived.Test.YtcdbfhamhcaclaaRows

section
/- The law DiskRuns: its row, out of what its code does over a store. -/
namespace Go.Th.Disk.diskRuns
open Go Go.Th Go.RowKit
set_option maxRecDepth 100000
theorem own : ownKnob Go.Proofs.Try.prog.godebug = none := by kernel_rfl
theorem laidOut : laidOutB Go.Proofs.Try.prog = true := by kernel_rfl
theorem lifted (os : Os) (started : os.Started) (H : Type) (enc : TypeId × Value → H) :
    ReturnsInHanded {} Go.Proofs.Try.checked os 4 .any (Go.Proofs.Ytcdbfhamhcaclaa.Rows.diskRunsSpec.pre6 enc Go.Proofs.Try.prog Go.Proofs.Try.f4 Go.Proofs.Ytcdbfhamhcaclaa.Rows.diskRunsRow.domain false) (Go.Proofs.Ytcdbfhamhcaclaa.Rows.diskRunsSpec.post enc Go.Proofs.Try.prog Go.Proofs.Try.f4 false true false false) := by
  refine returnsInHanded_of_change_sized (C := Go.Proofs.Try.checked) own started (by kernel_rfl) Go.Proofs.Try.func4
    (ChangeSpec.witness6 (enc := enc) (C := Go.Proofs.Try.checked) false ⟨#[], #[.int .i64 0, .slice none 0 0], []⟩ 8 (by kernel_rfl) (by kernel_rfl) (by kernel_rfl) (by kernel_rfl)) ?_
  intro W base args ds gs before hval hW hcnd hsz _
  exact law_contract (g := 8) (shs := law4_shapes) (rt := 4) laidOut (by kernel_rfl) (by kernel_rfl) (by kernel_rfl) (by kernel_rfl) (by kernel_rfl) (by kernel_rfl) (fun ds h => match ds, h with
    | [_, _], _ => rfl) law4_spec hval hW hsz
theorem over : Go.Proofs.Ytcdbfhamhcaclaa.Rows.diskRunsRow.holds Go.Proofs.Ytcdbfhamhcaclaa.Try.pinned (OpenSpec.ofChange Go.Proofs.Ytcdbfhamhcaclaa.Rows.diskRunsSpec) :=
  OpenClaim.holds_of_wide 4 Go.Proofs.Try.f4 rfl rfl rfl rfl rfl rfl rfl ⟨rfl, rfl, rfl, rfl, rfl⟩ rfl rfl rfl rfl rfl (by kernel_rfl) Go.Proofs.Try.func4 (by kernel_rfl)
    (of_decide_eq_true (by kernel_rfl)) (by unfold Func.isWrapper; first | (rw [if_pos (by decide +kernel)]; kernel_rfl) | (rw [if_neg (by decide +kernel)]; exact ⟨rfl, rfl⟩))
    (fun os started H enc _ => lifted os started H enc)
end Go.Th.Disk.diskRuns
namespace Go.Proofs.Ytcdbfhamhcaclaa
theorem diskRuns_holds : Rows.DiskRunsSaid := Go.Th.Disk.diskRuns.over
#print axioms diskRuns_holds
end Go.Proofs.Ytcdbfhamhcaclaa
end
