/- The law TopkMerges: its row, out of what its code does over a store. -/
import Derived.Test.YtdpehfhhbmmhjaaThO
import Derived.Test.YtdpehfhhbmmhjaaThTopkAll2
import Derived.Test.YtdpehfhhbmmhjaaRows
namespace Go.Th.Topk.topkMerges
open Go Go.Th Go.RowKit
set_option maxRecDepth 100000
theorem own : ownKnob Go.Proofs.Try.prog.godebug = none := by kernel_rfl
theorem laidOut : laidOutB Go.Proofs.Try.prog = true := by kernel_rfl
theorem lifted (os : Os) (started : os.Started) (H : Type) (enc : TypeId × Value → H) :
    ReturnsInHanded {} Go.Proofs.Try.checked os 4 .any (Go.Proofs.Ytdpehfhhbmmhjaa.Rows.topkMergesSpec.pre6 enc Go.Proofs.Try.prog Go.Proofs.Try.f4 Go.Proofs.Ytdpehfhhbmmhjaa.Rows.topkMergesRow.domain false) (Go.Proofs.Ytdpehfhhbmmhjaa.Rows.topkMergesSpec.post enc Go.Proofs.Try.prog Go.Proofs.Try.f4 false true false false) := by
  refine returnsInHanded_of_change_sized (C := Go.Proofs.Try.checked) own started (by kernel_rfl) Go.Proofs.Try.func4
    (ChangeSpec.witness6 (enc := enc) (C := Go.Proofs.Try.checked) false ⟨#[], #[.int .i64 0, .slice none 0 0], []⟩ 8 (by kernel_rfl) (by kernel_rfl) (by kernel_rfl) (by kernel_rfl)) ?_
  intro W base args ds gs before hval hW hcnd hsz _
  exact law_contract (g := 8) (shs := law4_shapes) (rt := 4) laidOut (by kernel_rfl) (by kernel_rfl) (by kernel_rfl) (by kernel_rfl) (by kernel_rfl) (fun ds h => match ds, h with
    | [_, _], _ => rfl) law4_spec hval hW hsz
theorem over : Go.Proofs.Ytdpehfhhbmmhjaa.Rows.topkMergesRow.holds Go.Proofs.Ytdpehfhhbmmhjaa.Try.pinned (OpenSpec.ofChange Go.Proofs.Ytdpehfhhbmmhjaa.Rows.topkMergesSpec) :=
  OpenClaim.holds_of_wide 4 Go.Proofs.Try.f4 rfl rfl rfl rfl rfl rfl rfl ⟨rfl, rfl, rfl, rfl, rfl⟩ rfl rfl rfl rfl rfl (by kernel_rfl) Go.Proofs.Try.func4 (by kernel_rfl)
    (of_decide_eq_true (by kernel_rfl)) (by unfold Func.isWrapper; first | (rw [if_pos (by decide +kernel)]; kernel_rfl) | (rw [if_neg (by decide +kernel)]; exact ⟨rfl, rfl⟩))
    (fun os started H enc _ => lifted os started H enc)
end Go.Th.Topk.topkMerges
namespace Go.Proofs.Ytdpehfhhbmmhjaa
/-- The row. -/
theorem topkMerges_holds : Rows.TopkMergesSaid := Go.Th.Topk.topkMerges.over
#print axioms topkMerges_holds
end Go.Proofs.Ytdpehfhhbmmhjaa
