/- What the row of one statement stands on: a store, abstract code, functions of the program and their laws (ThFactRFactoryPrints). -/
import Derived.Test.YtbkhbdjfklcmlaaDoorThBO2
import Derived.Test.YtbkhbdjfklcmlaaDoorThBFactAll
import Derived.Test.YtbkhbdjfklcmlaaDoorThBFactLaid
import Derived.Test.YtbkhbdjfklcmlaaDoorCards
import Derived.Test.YtbkhbdjfklcmlaaDoorTie
import Derived.SevenTiedAt
import Derived.Stop.Joined
import Derived.JoinedOf

section
/- The law FactoryPrints: its row and its tied card, out of what its code does over a store. -/
namespace Go.Th.Fact.factoryPrints
open Go Go.Th Go.RowKit
set_option maxRecDepth 100000
theorem own : ownKnob Go.Proofs.Tryd.prog.godebug = none := by kernel_rfl
theorem laidOut : laidOutB Go.Proofs.Tryd.prog = true := by kernel_rfl
theorem lifted (os : Os) (started : os.Started) (H : Type) (enc : TypeId × Value → H) :
    ReturnsInHanded {} Go.Proofs.Tryd.checked os 4 .any (fun w args => (Go.Proofs.YtbkhbdjfklcmlaaDoor.Rows.factoryPrintsSpec.pre enc Go.Proofs.Tryd.prog Go.Proofs.Tryd.f4 Go.Proofs.YtbkhbdjfklcmlaaDoor.Rows.factoryPrintsRow.domain false w args ∧ laidMetH Go.Proofs.Tryd.prog Go.Proofs.YtbkhbdjfklcmlaaDoor.Rows.factoryPrintsRow.laid w) ∧ sizedMet enc Go.Proofs.Tryd.prog Go.Proofs.Tryd.f4 (OpenSpec.ofChange Go.Proofs.YtbkhbdjfklcmlaaDoor.Rows.factoryPrintsSpec) false w args) (Go.Proofs.YtbkhbdjfklcmlaaDoor.Rows.factoryPrintsSpec.post enc Go.Proofs.Tryd.prog Go.Proofs.Tryd.f4 false true false false) := by
  refine returnsInHanded_of_change_and (C := Go.Proofs.Tryd.checked) (X := fun w _ => laidMetH Go.Proofs.Tryd.prog Go.Proofs.YtbkhbdjfklcmlaaDoor.Rows.factoryPrintsRow.laid w) (fun _ _ _ hh h => h.of_heap hh) own started (by kernel_rfl) Go.Proofs.Tryd.func4
    (ChangeSpec.witness_shaped (enc := enc) (C := Go.Proofs.Tryd.checked) (os := os) (X := fun w _ => laidMetH Go.Proofs.Tryd.prog Go.Proofs.YtbkhbdjfklcmlaaDoor.Rows.factoryPrintsRow.laid w) false (World.laidAll Go.Proofs.Tryd.prog os Go.Proofs.YtbkhbdjfklcmlaaDoor.Rows.factoryPrintsRow.laid) #[.agg #[.int .i64 0, .int .i64 0, .int .i64 0, .int .i64 0]] 8 (World.laidAll_os _ _ _)
      (World.shaped_of_ZipB (by kernel_rfl) (by kernel_rfl)) (by kernel_rfl) (by kernel_rfl) (by kernel_rfl)
      (by rw [MakeChecks.laidMetH_plain _ _ _ (by kernel_rfl)]; exact laidMet_laidAll _ (by kernel_rfl) (by kernel_rfl))) ?_
  intro W base args ds gs before hval hW hcnd hsz hL _
  exact law_contractG (g := 8) (gs0 := [0, 1]) (shs := law4_shapes) (rt := 4) laidOut (by kernel_rfl) (by kernel_rfl) (by kernel_rfl) (by kernel_rfl) (by kernel_rfl) (fun ds h => match ds, h with
    | [_], _ => rfl) law4_spec (errs_of_laid hL) hval hW hsz
theorem over : Go.Proofs.YtbkhbdjfklcmlaaDoor.Rows.factoryPrintsRow.holds Go.Proofs.YtbkhbdjfklcmlaaDoor.Tryd.pinned (OpenSpec.ofChange Go.Proofs.YtbkhbdjfklcmlaaDoor.Rows.factoryPrintsSpec) :=
  OpenClaim.holds_of_wide 4 Go.Proofs.Tryd.f4 rfl rfl rfl rfl rfl rfl rfl ⟨rfl, rfl, rfl, rfl, rfl⟩ rfl rfl rfl rfl rfl (by kernel_rfl) Go.Proofs.Tryd.func4 (by kernel_rfl)
    (of_decide_eq_true (by kernel_rfl)) (by unfold Func.isWrapper; first | (rw [if_pos (by decide +kernel)]; kernel_rfl) | (rw [if_neg (by decide +kernel)]; exact ⟨rfl, rfl⟩))
    (fun os started H enc _ => lifted os started H enc)
end Go.Th.Fact.factoryPrints
namespace Go.Proofs.YtbkhbdjfklcmlaaDoor
open Go
/-- The tied card. -/
theorem factoryPrints_holds : Rows.FactoryPrintsCardSaid :=
  Claim7.holds_tied_plain_at .later [] [.data, .data, .data, .sentinel, .sentinel] true (true, "ed9d0dd0cfbec9c7ef14b5b729b193d8ba5ca60f6e64e4b73e673f3b91b563e9") true
    Go.Th.Fact.factoryPrints.over (fun _ h => by cases h) (by kernel_rfl) (fun _ h => by cases h) factoryPrints_row_tie rfl ⟨rfl, rfl⟩ (by kernel_rfl) rfl
    (fun f fn hf hfn => by
      obtain rfl : f = 4 := Option.some.inj ((show Go.Proofs.Tryd.prog.funcNamed "theodolite/theodolitelaw12.FactoryPrints" = some 4 by kernel_rfl).symm.trans hf) |>.symm
      obtain rfl : fn = Go.Proofs.Tryd.f4 := (Option.some.inj (Go.Proofs.Tryd.func4.symm.trans hfn)).symm
      refine ⟨by kernel_rfl, fun j t ht => ?_⟩
      have h : (Go.Proofs.Tryd.f4.params.toList.all fun t => !Go.Proofs.Tryd.prog.wantsStandIn t) = true := by kernel_rfl
      have := List.all_eq_true.mp h t (by simpa using Array.mem_of_getElem? ht)
      have h2 : Go.Proofs.Tryd.prog.wantsStandIn t = false := by simpa using this
      exact h2)
    (by kernel_rfl)
#print axioms factoryPrints_holds
end Go.Proofs.YtbkhbdjfklcmlaaDoor
end
