/- The law CodecTexts: its row, out of what its code does over a store. -/
import Derived.Test.YthimmjgpiadmbaaThO
import Derived.Test.YthimmjgpiadmbaaThCodecAll
import Derived.Test.YthimmjgpiadmbaaRows
namespace Go.Th.Codec.codecTexts
open Go Go.Th Go.RowKit
set_option maxRecDepth 100000
theorem own : ownKnob Go.Proofs.Try.prog.godebug = none := by kernel_rfl
theorem laidOut : laidOutB Go.Proofs.Try.prog = true := by kernel_rfl
theorem lifted (os : Os) (started : os.Started) (H : Type) (enc : TypeId × Value → H) :
    ReturnsInHanded {} Go.Proofs.Try.checked os 4 .any (Go.Proofs.Ythimmjgpiadmbaa.Rows.codecTextsSpec.pre6 enc Go.Proofs.Try.prog Go.Proofs.Try.f4 Go.Proofs.Ythimmjgpiadmbaa.Rows.codecTextsRow.domain false) (Go.Proofs.Ythimmjgpiadmbaa.Rows.codecTextsSpec.post enc Go.Proofs.Try.prog Go.Proofs.Try.f4 false true false false) := by
  refine returnsInHanded_of_change_sized (C := Go.Proofs.Try.checked) own started (by kernel_rfl) Go.Proofs.Try.func4
    (ChangeSpec.witness6 (enc := enc) (C := Go.Proofs.Try.checked) false ⟨#[], #[.agg #[.int .i64 0, .int .i64 0, .slice none 0 0], .slice none 0 0], []⟩ 8 (by kernel_rfl) (by kernel_rfl) (by kernel_rfl) (by kernel_rfl)) ?_
  intro W base args ds gs before hval hW hcnd hsz _
  exact law_contract (g := 8) (shs := law4_shapes) (rt := 4) laidOut (by kernel_rfl) (by kernel_rfl) (by kernel_rfl) (by kernel_rfl) (by kernel_rfl) (fun ds h => match ds, h with
    | [_, _], _ => rfl) law4_spec hval hW hsz
theorem over : Go.Proofs.Ythimmjgpiadmbaa.Rows.codecTextsRow.holds Go.Proofs.Ythimmjgpiadmbaa.Try.pinned (OpenSpec.ofChange Go.Proofs.Ythimmjgpiadmbaa.Rows.codecTextsSpec) :=
  OpenClaim.holds_of_wide 4 Go.Proofs.Try.f4 rfl rfl rfl rfl rfl rfl rfl ⟨rfl, rfl, rfl, rfl, rfl⟩ rfl rfl rfl rfl rfl (by kernel_rfl) Go.Proofs.Try.func4 (by kernel_rfl)
    (of_decide_eq_true (by kernel_rfl)) (by unfold Func.isWrapper; first | (rw [if_pos (by decide +kernel)]; kernel_rfl) | (rw [if_neg (by decide +kernel)]; exact ⟨rfl, rfl⟩))
    (fun os started H enc _ => lifted os started H enc)
end Go.Th.Codec.codecTexts
namespace Go.Proofs.Ythimmjgpiadmbaa
/-- The row. -/
theorem codecTexts_holds : Rows.CodecTextsSaid := Go.Th.Codec.codecTexts.over
#print axioms codecTexts_holds
end Go.Proofs.Ythimmjgpiadmbaa
