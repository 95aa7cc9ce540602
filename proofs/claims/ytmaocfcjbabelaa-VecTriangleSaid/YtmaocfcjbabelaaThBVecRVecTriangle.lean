/- What the row of one statement stands on: a store, abstract code, functions of the program and their laws (ThVecRVecTriangle). -/
import Derived.Test.YtmaocfcjbabelaaThBQ2
import Derived.Test.YtmaocfcjbabelaaThBVecAll
import Derived.Test.YtmaocfcjbabelaaRows

section
/- The law VecTriangle: its row, out of what its code does over a store. -/
namespace Go.Th.Vec.vecTriangle
open Go Go.Th Go.RowKit
set_option maxRecDepth 100000
theorem own : ownKnob Go.Proofs.Try.prog.godebug = none := by kernel_rfl
theorem laidOut : laidOutB Go.Proofs.Try.prog = true := by kernel_rfl
theorem lifted (os : Os) (started : os.Started) (H : Type) (enc : TypeId × Value → H) :
    ReturnsInHanded {} Go.Proofs.Try.checked os 8 .any (Go.Proofs.Ytmaocfcjbabelaa.Rows.vecTriangleSpec.pre6 enc Go.Proofs.Try.prog Go.Proofs.Try.f8 Go.Proofs.Ytmaocfcjbabelaa.Rows.vecTriangleRow.domain false) (Go.Proofs.Ytmaocfcjbabelaa.Rows.vecTriangleSpec.post enc Go.Proofs.Try.prog Go.Proofs.Try.f8 false true false false) := by
  refine returnsInHanded_of_change_sized (C := Go.Proofs.Try.checked) own started (by kernel_rfl) Go.Proofs.Try.func8
    (ChangeSpec.witness6 (enc := enc) (C := Go.Proofs.Try.checked) false ⟨#[], #[.slice none 0 0, .slice none 0 0, .slice none 0 0], []⟩ 8 (by kernel_rfl) (by kernel_rfl) (by kernel_rfl) (by kernel_rfl)) ?_
  intro W base args ds gs before hval hW hcnd hsz _
  exact law_contract (g := 8) (shs := law8_shapes) (rt := 4) laidOut (by kernel_rfl) (by kernel_rfl) (by kernel_rfl) (by kernel_rfl) (by kernel_rfl) (fun ds h => match ds, h with
    | [_, _, _], _ => rfl) law8_spec hval hW hsz
theorem over : Go.Proofs.Ytmaocfcjbabelaa.Rows.vecTriangleRow.holds Go.Proofs.Ytmaocfcjbabelaa.Try.pinned (OpenSpec.ofChange Go.Proofs.Ytmaocfcjbabelaa.Rows.vecTriangleSpec) :=
  OpenClaim.holds_of_wide 8 Go.Proofs.Try.f8 rfl rfl rfl rfl rfl rfl rfl ⟨rfl, rfl, rfl, rfl, rfl⟩ rfl rfl rfl rfl rfl (by kernel_rfl) Go.Proofs.Try.func8 (by kernel_rfl)
    (of_decide_eq_true (by kernel_rfl)) (by unfold Func.isWrapper; first | (rw [if_pos (by decide +kernel)]; kernel_rfl) | (rw [if_neg (by decide +kernel)]; exact ⟨rfl, rfl⟩))
    (fun os started H enc _ => lifted os started H enc)
end Go.Th.Vec.vecTriangle
namespace Go.Proofs.Ytmaocfcjbabelaa
/-- The row. -/
theorem vecTriangle_holds : Rows.VecTriangleSaid := Go.Th.Vec.vecTriangle.over
#print axioms vecTriangle_holds
end Go.Proofs.Ytmaocfcjbabelaa
end
