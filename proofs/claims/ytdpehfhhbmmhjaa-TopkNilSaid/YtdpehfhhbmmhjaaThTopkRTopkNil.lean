/- The law TopkNil: its row, out of what its code does over a store. -/
import Derived.Test.YtdpehfhhbmmhjaaThO
import Derived.Test.YtdpehfhhbmmhjaaThTopkAll
import Derived.Test.YtdpehfhhbmmhjaaRows
namespace Go.Th.Topk.topkNil
open Go Go.Th Go.RowKit
set_option maxRecDepth 100000
theorem own : ownKnob Go.Proofs.Try.prog.godebug = none := by kernel_rfl
theorem laidOut : laidOutB Go.Proofs.Try.prog = true := by kernel_rfl
theorem lifted (os : Os) (started : os.Started) (H : Type) (enc : TypeId × Value → H) :
    ReturnsInHanded {} Go.Proofs.Try.checked os 7 .any (Go.Proofs.Ytdpehfhhbmmhjaa.Rows.topkNilSpec.pre6 enc Go.Proofs.Try.prog Go.Proofs.Try.f7 Go.Proofs.Ytdpehfhhbmmhjaa.Rows.topkNilRow.domain false) (Go.Proofs.Ytdpehfhhbmmhjaa.Rows.topkNilSpec.post enc Go.Proofs.Try.prog Go.Proofs.Try.f7 false true false false) := by
  refine returnsInHanded_of_change_sized (C := Go.Proofs.Try.checked) own started (by kernel_rfl) Go.Proofs.Try.func7
    (ChangeSpec.witness6 (enc := enc) (C := Go.Proofs.Try.checked) false ⟨#[], #[.agg #[.int .i64 0, .int .u64 0, .int .u64 0]], []⟩ 8 (by kernel_rfl) (by kernel_rfl) (by kernel_rfl) (by kernel_rfl)) ?_
  intro W base args ds gs before hval hW hcnd hsz _
  exact law_contract (g := 8) (shs := law7_shapes) (rt := 4) laidOut (by kernel_rfl) (by kernel_rfl) (by kernel_rfl) (by kernel_rfl) (by kernel_rfl) (fun ds h => match ds, h with
    | [_], _ => rfl) law7_spec hval hW hsz
theorem over : Go.Proofs.Ytdpehfhhbmmhjaa.Rows.topkNilRow.holds Go.Proofs.Ytdpehfhhbmmhjaa.Try.pinned (OpenSpec.ofChange Go.Proofs.Ytdpehfhhbmmhjaa.Rows.topkNilSpec) :=
  OpenClaim.holds_of_wide 7 Go.Proofs.Try.f7 rfl rfl rfl rfl rfl rfl rfl ⟨rfl, rfl, rfl, rfl, rfl⟩ rfl rfl rfl rfl rfl (by kernel_rfl) Go.Proofs.Try.func7 (by kernel_rfl)
    (of_decide_eq_true (by kernel_rfl)) (by unfold Func.isWrapper; first | (rw [if_pos (by decide +kernel)]; kernel_rfl) | (rw [if_neg (by decide +kernel)]; exact ⟨rfl, rfl⟩))
    (fun os started H enc _ => lifted os started H enc)
end Go.Th.Topk.topkNil
namespace Go.Proofs.Ytdpehfhhbmmhjaa
/-- The row. -/
theorem topkNil_holds : Rows.TopkNilSaid := Go.Th.Topk.topkNil.over
#print axioms topkNil_holds
end Go.Proofs.Ytdpehfhhbmmhjaa
