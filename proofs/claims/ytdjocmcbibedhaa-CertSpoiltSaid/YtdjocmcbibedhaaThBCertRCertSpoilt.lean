/- What the row of one statement stands on: a store, abstract code, functions of the program and their laws (ThCertRCertSpoilt). -/
import Derived.Test.YtdjocmcbibedhaaThBGref13
import Derived.Test.YtdjocmcbibedhaaThBCertAll2
import Derived.Test.YtdjocmcbibedhaaRows

section
/- The law CertSpoilt: its row, out of what its code does over a store. -/
namespace Go.Th.Cert.certSpoilt
open Go Go.Th Go.RowKit
set_option maxRecDepth 100000
theorem own : ownKnob Go.Proofs.Try.prog.godebug = none := by kernel_rfl
theorem laidOut : laidOutB Go.Proofs.Try.prog = true := by kernel_rfl
theorem lifted (os : Os) (started : os.Started) (H : Type) (enc : TypeId × Value → H) :
    ReturnsInHanded {} Go.Proofs.Try.checked os 4 .any (Go.Proofs.Ytdjocmcbibedhaa.Rows.certSpoiltSpec.pre6 enc Go.Proofs.Try.prog Go.Proofs.Try.f4 Go.Proofs.Ytdjocmcbibedhaa.Rows.certSpoiltRow.domain false) (Go.Proofs.Ytdjocmcbibedhaa.Rows.certSpoiltSpec.post enc Go.Proofs.Try.prog Go.Proofs.Try.f4 false true false false) := by
  refine returnsInHanded_of_change_sized (C := Go.Proofs.Try.checked) own started (by kernel_rfl) Go.Proofs.Try.func4
    (ChangeSpec.witness6 (enc := enc) (C := Go.Proofs.Try.checked) false ⟨#[], #[.slice none 0 0, .slice none 0 0, .int .i64 0, .agg #[.slice none 0 0, .slice none 0 0, .slice none 0 0], .int .i64 0], []⟩ 8 (by kernel_rfl) (by kernel_rfl) (by kernel_rfl) (by kernel_rfl)) ?_
  intro W base args ds gs before hval hW hcnd hsz _
  exact law_contract (g := 8) (shs := law4_shapes) (rt := 4) laidOut (by kernel_rfl) (by kernel_rfl) (by kernel_rfl) (by kernel_rfl) (by kernel_rfl) (by kernel_rfl) (fun ds h => match ds, h with
    | [_, _, _, _, _], _ => rfl) law4_spec hval hW hsz
theorem over : Go.Proofs.Ytdjocmcbibedhaa.Rows.certSpoiltRow.holds Go.Proofs.Ytdjocmcbibedhaa.Try.pinned (OpenSpec.ofChange Go.Proofs.Ytdjocmcbibedhaa.Rows.certSpoiltSpec) :=
  OpenClaim.holds_of_wide 4 Go.Proofs.Try.f4 rfl rfl rfl rfl rfl rfl rfl ⟨rfl, rfl, rfl, rfl, rfl⟩ rfl rfl rfl rfl rfl (by kernel_rfl) Go.Proofs.Try.func4 (by kernel_rfl)
    (of_decide_eq_true (by kernel_rfl)) (by unfold Func.isWrapper; first | (rw [if_pos (by decide +kernel)]; kernel_rfl) | (rw [if_neg (by decide +kernel)]; exact ⟨rfl, rfl⟩))
    (fun os started H enc _ => lifted os started H enc)
end Go.Th.Cert.certSpoilt
namespace Go.Proofs.Ytdjocmcbibedhaa
/-- The row. -/
theorem certSpoilt_holds : Rows.CertSpoiltSaid := Go.Th.Cert.certSpoilt.over
#print axioms certSpoilt_holds
end Go.Proofs.Ytdjocmcbibedhaa
end
