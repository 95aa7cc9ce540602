/- What the row of one statement stands on: a store, abstract code, functions of the program and their laws (ThVecRVecDists). -/
import Derived.Test.YtmaocfcjbabelaaThBQ2
import Derived.Test.YtmaocfcjbabelaaThBVecAll
import Derived.Test.YtmaocfcjbabelaaRows

section
/- The law VecDists: its row, out of what its code does over a store. -/
namespace Go.Th.Vec.vecDists
open Go Go.Th Go.RowKit
set_option maxRecDepth 100000
theorem own : ownKnob Go.Proofs.Try.prog.godebug = none := by kernel_rfl
theorem laidOut : laidOutB Go.Proofs.Try.prog = true := by kernel_rfl
theorem lifted (os : Os) (started : os.Started) (H : Type) (enc : TypeId × Value → H) :
    ReturnsInHanded {} Go.Proofs.Try.checked os 3 .any (Go.Proofs.Ytmaocfcjbabelaa.Rows.vecDistsSpec.pre6 enc Go.Proofs.Try.prog Go.Proofs.Try.f3 Go.Proofs.Ytmaocfcjbabelaa.Rows.vecDistsRow.domain false) (Go.Proofs.Ytmaocfcjbabelaa.Rows.vecDistsSpec.post enc Go.Proofs.Try.prog Go.Proofs.Try.f3 false true false false) := by
  refine returnsInHanded_of_change_sized (C := Go.Proofs.Try.checked) own started (by kernel_rfl) Go.Proofs.Try.func3
    (ChangeSpec.witness6 (enc := enc) (C := Go.Proofs.Try.checked) false ⟨#[], #[.slice none 0 0, .slice none 0 0, .int .i64 0], []⟩ 8 (by kernel_rfl) (by kernel_rfl) (by kernel_rfl) (by kernel_rfl)) ?_
  intro W base args ds gs before hval hW hcnd hsz _
  exact law_contract (g := 8) (shs := law3_shapes) (rt := 4) laidOut (by kernel_rfl) (by kernel_rfl) (by kernel_rfl) (by kernel_rfl) (by kernel_rfl) (fun ds h => match ds, h with
    | [_, _, _], _ => rfl) law3_spec hval hW hsz
theorem over : Go.Proofs.Ytmaocfcjbabelaa.Rows.vecDistsRow.holds Go.Proofs.Ytmaocfcjbabelaa.Try.pinned (OpenSpec.ofChange Go.Proofs.Ytmaocfcjbabelaa.Rows.vecDistsSpec) :=
  OpenClaim.holds_of_wide 3 Go.Proofs.Try.f3 rfl rfl rfl rfl rfl rfl rfl ⟨rfl, rfl, rfl, rfl, rfl⟩ rfl rfl rfl rfl rfl (by kernel_rfl) Go.Proofs.Try.func3 (by kernel_rfl)
    (of_decide_eq_true (by kernel_rfl)) (by unfold Func.isWrapper; first | (rw [if_pos (by decide +kernel)]; kernel_rfl) | (rw [if_neg (by decide +kernel)]; exact ⟨rfl, rfl⟩))
    (fun os started H enc _ => lifted os started H enc)
end Go.Th.Vec.vecDists
namespace Go.Proofs.Ytmaocfcjbabelaa
/-- The row. -/
theorem vecDists_holds : Rows.VecDistsSaid := Go.Th.Vec.vecDists.over
#print axioms vecDists_holds
end Go.Proofs.Ytmaocfcjbabelaa
end
