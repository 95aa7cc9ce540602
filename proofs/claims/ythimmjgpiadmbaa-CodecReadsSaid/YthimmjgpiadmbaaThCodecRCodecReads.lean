/- The law CodecReads: its row, out of what its code does over a store. -/
import Derived.Test.YthimmjgpiadmbaaThO
import Derived.Test.YthimmjgpiadmbaaThCodecAll
import Derived.Test.YthimmjgpiadmbaaRows
namespace Go.Th.Codec.codecReads
open Go Go.Th Go.RowKit
set_option maxRecDepth 100000
theorem own : ownKnob Go.Proofs.Try.prog.godebug = none := by kernel_rfl
theorem laidOut : laidOutB Go.Proofs.Try.prog = true := by kernel_rfl
theorem lifted (os : Os) (started : os.Started) (H : Type) (enc : TypeId × Value → H) :
    ReturnsInHanded {} Go.Proofs.Try.checked os 6 .any (Go.Proofs.Ythimmjgpiadmbaa.Rows.codecReadsSpec.pre6 enc Go.Proofs.Try.prog Go.Proofs.Try.f6 Go.Proofs.Ythimmjgpiadmbaa.Rows.codecReadsRow.domain false) (Go.Proofs.Ythimmjgpiadmbaa.Rows.codecReadsSpec.post enc Go.Proofs.Try.prog Go.Proofs.Try.f6 false true false false) := by
  refine returnsInHanded_of_change_sized (C := Go.Proofs.Try.checked) own started (by kernel_rfl) Go.Proofs.Try.func6
    (ChangeSpec.witness6 (enc := enc) (C := Go.Proofs.Try.checked) false ⟨#[], #[.string ByteArray.empty], []⟩ 8 (by kernel_rfl) (by kernel_rfl) (by kernel_rfl) (by kernel_rfl)) ?_
  intro W base args ds gs before hval hW hcnd hsz _
  exact law_contract (g := 8) (shs := law6_shapes) (rt := 4) laidOut (by kernel_rfl) (by kernel_rfl) (by kernel_rfl) (by kernel_rfl) (by kernel_rfl) (fun ds h => match ds, h with
    | [_], _ => rfl) law6_spec hval hW hsz
theorem over : Go.Proofs.Ythimmjgpiadmbaa.Rows.codecReadsRow.holds Go.Proofs.Ythimmjgpiadmbaa.Try.pinned (OpenSpec.ofChange Go.Proofs.Ythimmjgpiadmbaa.Rows.codecReadsSpec) :=
  OpenClaim.holds_of_wide 6 Go.Proofs.Try.f6 rfl rfl rfl rfl rfl rfl rfl ⟨rfl, rfl, rfl, rfl, rfl⟩ rfl rfl rfl rfl rfl (by kernel_rfl) Go.Proofs.Try.func6 (by kernel_rfl)
    (of_decide_eq_true (by kernel_rfl)) (by unfold Func.isWrapper; first | (rw [if_pos (by decide +kernel)]; kernel_rfl) | (rw [if_neg (by decide +kernel)]; exact ⟨rfl, rfl⟩))
    (fun os started H enc _ => lifted os started H enc)
end Go.Th.Codec.codecReads
namespace Go.Proofs.Ythimmjgpiadmbaa
/-- The row. -/
theorem codecReads_holds : Rows.CodecReadsSaid := Go.Th.Codec.codecReads.over
#print axioms codecReads_holds
end Go.Proofs.Ythimmjgpiadmbaa
