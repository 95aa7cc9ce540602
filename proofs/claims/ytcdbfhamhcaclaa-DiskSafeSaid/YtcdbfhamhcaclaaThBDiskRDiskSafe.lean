/- What the row of one statement stands on: a store, abstract code, functions of the program and their laws (ThDiskRDiskSafe). -/
import Derived.Test.YtcdbfhamhcaclaaThBQ11
import Derived.Test.YtcdbfhamhcaclaaThBDiskAll3
import Derived.Test.YtcdbfhamhcaclaaRows

section
/- The law DiskSafe: its row, out of what its code does over a store. -/
namespace Go.Th.Disk.diskSafe
open Go Go.Th Go.RowKit
set_option maxRecDepth 100000
theorem own : ownKnob Go.Proofs.Try.prog.godebug = none := by kernel_rfl
theorem laidOut : laidOutB Go.Proofs.Try.prog = true := by kernel_rfl
theorem lifted (os : Os) (started : os.Started) (H : Type) (enc : TypeId × Value → H) :
    ReturnsInHanded {} Go.Proofs.Try.checked os 5 .any (Go.Proofs.Ytcdbfhamhcaclaa.Rows.diskSafeSpec.pre6 enc Go.Proofs.Try.prog Go.Proofs.Try.f5 Go.Proofs.Ytcdbfhamhcaclaa.Rows.diskSafeRow.domain false) (Go.Proofs.Ytcdbfhamhcaclaa.Rows.diskSafeSpec.post enc Go.Proofs.Try.prog Go.Proofs.Try.f5 false true false false) := by
  refine returnsInHanded_of_change_sized (C := Go.Proofs.Try.checked) own started (by kernel_rfl) Go.Proofs.Try.func5
    (ChangeSpec.witness6 (enc := enc) (C := Go.Proofs.Try.checked) false ⟨#[], #[.int .i64 0, .slice none 0 0, .string ByteArray.empty, .slice none 0 0, .slice none 0 0, .slice none 0 0], []⟩ 8 (by kernel_rfl) (by kernel_rfl) (by kernel_rfl) (by kernel_rfl)) ?_
  intro W base args ds gs before hval hW hcnd hsz _
  exact law_contract (g := 8) (shs := law5_shapes) (rt := 4) laidOut (by kernel_rfl) (by kernel_rfl) (by kernel_rfl) (by kernel_rfl) (by kernel_rfl) (by kernel_rfl) (fun ds h => match ds, h with
    | [_, _, _, _, _, _], _ => rfl) law5_spec hval hW hsz
theorem over : Go.Proofs.Ytcdbfhamhcaclaa.Rows.diskSafeRow.holds Go.Proofs.Ytcdbfhamhcaclaa.Try.pinned (OpenSpec.ofChange Go.Proofs.Ytcdbfhamhcaclaa.Rows.diskSafeSpec) :=
  OpenClaim.holds_of_wide 5 Go.Proofs.Try.f5 rfl rfl rfl rfl rfl rfl rfl ⟨rfl, rfl, rfl, rfl, rfl⟩ rfl rfl rfl rfl rfl (by kernel_rfl) Go.Proofs.Try.func5 (by kernel_rfl)
    (of_decide_eq_true (by kernel_rfl)) (by unfold Func.isWrapper; first | (rw [if_pos (by decide +kernel)]; kernel_rfl) | (rw [if_neg (by decide +kernel)]; exact ⟨rfl, rfl⟩))
    (fun os started H enc _ => lifted os started H enc)
end Go.Th.Disk.diskSafe
namespace Go.Proofs.Ytcdbfhamhcaclaa
theorem diskSafe_holds : Rows.DiskSafeSaid := Go.Th.Disk.diskSafe.over
#print axioms diskSafe_holds
end Go.Proofs.Ytcdbfhamhcaclaa
end
