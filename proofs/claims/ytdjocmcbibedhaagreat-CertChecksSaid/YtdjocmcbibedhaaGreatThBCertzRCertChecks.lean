/- What the row of one statement stands on: a store, abstract code, functions of the program and their laws (ThCertzRCertChecks). -/
import Derived.Test.YtdjocmcbibedhaaGreatThBGslicesInt
import Derived.Test.YtdjocmcbibedhaaGreatThBCertzAll
import Derived.Test.YtdjocmcbibedhaaGreatRows

section
/- The law CertChecks: its row, out of what its code does over a store. -/
namespace Go.Th.Certz.certChecks
open Go Go.Th Go.RowKit
set_option maxRecDepth 100000
theorem own : ownKnob Go.Proofs.Tryz.prog.godebug = none := by kernel_rfl
theorem laidOut : laidOutB Go.Proofs.Tryz.prog = true := by kernel_rfl
theorem lifted (os : Os) (started : os.Started) (H : Type) (enc : TypeId × Value → H) :
    ReturnsInHanded {} Go.Proofs.Tryz.checked os 3 .any (Go.Proofs.YtdjocmcbibedhaaGreat.Rows.certChecksSpec.pre6 enc Go.Proofs.Tryz.prog Go.Proofs.Tryz.f3 Go.Proofs.YtdjocmcbibedhaaGreat.Rows.certChecksRow.domain false) (Go.Proofs.YtdjocmcbibedhaaGreat.Rows.certChecksSpec.post enc Go.Proofs.Tryz.prog Go.Proofs.Tryz.f3 false true false false) := by
  refine returnsInHanded_of_change_sized (C := Go.Proofs.Tryz.checked) own started (by kernel_rfl) Go.Proofs.Tryz.func3
    (ChangeSpec.witness6 (enc := enc) (C := Go.Proofs.Tryz.checked) false ⟨#[], #[.slice none 0 0, .slice none 0 0, .int .i64 0, .agg #[.slice none 0 0, .slice none 0 0, .slice none 0 0]], []⟩ 8 (by kernel_rfl) (by kernel_rfl) (by kernel_rfl) (by kernel_rfl)) ?_
  intro W base args ds gs before hval hW hcnd hsz _
  exact law_contract (g := 8) (shs := law3_shapes) (rt := 4) laidOut (by kernel_rfl) (by kernel_rfl) (by kernel_rfl) (by kernel_rfl) (by kernel_rfl) (by kernel_rfl) (fun ds h => match ds, h with
    | [_, _, _, _], _ => rfl) law3_spec hval hW hsz
theorem over : Go.Proofs.YtdjocmcbibedhaaGreat.Rows.certChecksRow.holds Go.Proofs.YtdjocmcbibedhaaGreat.Tryz.pinned (OpenSpec.ofChange Go.Proofs.YtdjocmcbibedhaaGreat.Rows.certChecksSpec) :=
  OpenClaim.holds_of_wide 3 Go.Proofs.Tryz.f3 rfl rfl rfl rfl rfl rfl rfl ⟨rfl, rfl, rfl, rfl, rfl⟩ rfl rfl rfl rfl rfl (by kernel_rfl) Go.Proofs.Tryz.func3 (by kernel_rfl)
    (of_decide_eq_true (by kernel_rfl)) (by unfold Func.isWrapper; first | (rw [if_pos (by decide +kernel)]; kernel_rfl) | (rw [if_neg (by decide +kernel)]; exact ⟨rfl, rfl⟩))
    (fun os started H enc _ => lifted os started H enc)
end Go.Th.Certz.certChecks
namespace Go.Proofs.YtdjocmcbibedhaaGreat
theorem certChecks_holds : Rows.CertChecksSaid := Go.Th.Certz.certChecks.over
#print axioms certChecks_holds
end Go.Proofs.YtdjocmcbibedhaaGreat
end
