/- What the row of one statement stands on: a store, abstract code, functions of the program and their laws (ThHttpRHttpFeeds). -/
import Derived.Test.YtkmmkfiekamgpaaGreatDoorThBO3
import Derived.Test.YtkmmkfiekamgpaaGreatDoorThBHttpAll5
import Derived.Test.YtkmmkfiekamgpaaGreatDoorThBHttpLaid
import Derived.Test.YtkmmkfiekamgpaaGreatDoorCards
import Derived.Test.YtkmmkfiekamgpaaGreatDoorTie
import Derived.SevenTiedAt
import Derived.Stop.Joined
import Derived.JoinedOf

section
/- The law HttpFeeds: its row and its tied card, out of what its code does over a store. -/
namespace Go.Th.Http.httpFeeds
open Go Go.Th Go.RowKit
set_option maxRecDepth 100000
theorem own : ownKnob Go.Proofs.Tryz.prog.godebug = none := by kernel_rfl
theorem laidOut : laidOutB Go.Proofs.Tryz.prog = true := by kernel_rfl
theorem lifted (os : Os) (started : os.Started) (H : Type) (enc : TypeId × Value → H) :
    ReturnsInHanded {} Go.Proofs.Tryz.checked os 6 .any (fun w args => (Go.Proofs.YtkmmkfiekamgpaaGreatDoor.Rows.httpFeedsSpec.pre enc Go.Proofs.Tryz.prog Go.Proofs.Tryz.f6 Go.Proofs.YtkmmkfiekamgpaaGreatDoor.Rows.httpFeedsRow.domain false w args ∧ laidMetH Go.Proofs.Tryz.prog Go.Proofs.YtkmmkfiekamgpaaGreatDoor.Rows.httpFeedsRow.laid w) ∧ sizedMet enc Go.Proofs.Tryz.prog Go.Proofs.Tryz.f6 (OpenSpec.ofChange Go.Proofs.YtkmmkfiekamgpaaGreatDoor.Rows.httpFeedsSpec) false w args) (Go.Proofs.YtkmmkfiekamgpaaGreatDoor.Rows.httpFeedsSpec.post enc Go.Proofs.Tryz.prog Go.Proofs.Tryz.f6 false true false false) := by
  refine returnsInHanded_laid (C := Go.Proofs.Tryz.checked) (X := fun w _ => laidMetH Go.Proofs.Tryz.prog Go.Proofs.YtkmmkfiekamgpaaGreatDoor.Rows.httpFeedsRow.laid w) (fun _ _ _ hh h => h.of_heap hh) own started (by kernel_rfl) Go.Proofs.Tryz.func6
    (ChangeSpec.witness_shaped (enc := enc) (C := Go.Proofs.Tryz.checked) (os := os) (X := fun w _ => laidMetH Go.Proofs.Tryz.prog Go.Proofs.YtkmmkfiekamgpaaGreatDoor.Rows.httpFeedsRow.laid w) false (World.laidAll Go.Proofs.Tryz.prog os Go.Proofs.YtkmmkfiekamgpaaGreatDoor.Rows.httpFeedsRow.laid) #[.slice none 0 0] 8 (World.laidAll_os _ _ _)
      (World.shaped_of_ZipB (by kernel_rfl) (by kernel_rfl)) (by kernel_rfl) (by kernel_rfl) (by kernel_rfl)
      (by rw [MakeChecks.laidMetH_plain _ _ _ (by kernel_rfl)]; exact laidMet_laidAll _ (by kernel_rfl) (by kernel_rfl))) ?_
  intro W base args ds gs before hval hW hcnd hsz hL hSh
  exact law_contractH (g := 8) (shs := law6_shapes) (rt := 4) laidOut (by kernel_rfl) (by kernel_rfl) (by kernel_rfl) (by kernel_rfl) (by kernel_rfl) (fun ds h => match ds, h with
    | [_], _ => rfl) law6_spec (hw_of_laid hL hSh) hval hW hsz
theorem over : Go.Proofs.YtkmmkfiekamgpaaGreatDoor.Rows.httpFeedsRow.holds Go.Proofs.YtkmmkfiekamgpaaGreatDoor.Tryz.pinned (OpenSpec.ofChange Go.Proofs.YtkmmkfiekamgpaaGreatDoor.Rows.httpFeedsSpec) :=
  OpenClaim.holds_of_wide 6 Go.Proofs.Tryz.f6 rfl rfl rfl rfl rfl rfl rfl ⟨rfl, rfl, rfl, rfl, rfl⟩ rfl rfl rfl rfl rfl (by kernel_rfl) Go.Proofs.Tryz.func6 (by kernel_rfl)
    (of_decide_eq_true (by kernel_rfl)) (by unfold Func.isWrapper; first | (rw [if_pos (by decide +kernel)]; kernel_rfl) | (rw [if_neg (by decide +kernel)]; exact ⟨rfl, rfl⟩))
    (fun os started H enc _ => lifted os started H enc)
end Go.Th.Http.httpFeeds
namespace Go.Proofs.YtkmmkfiekamgpaaGreatDoor
open Go
/-- The tied card. -/
theorem httpFeeds_holds : Rows.HttpFeedsCardSaid :=
  Claim7.holds_tied_plain_at .later [] [.data, .data, .data, .data, .sentinel, .sentinel, .pinned, .pinned] true (true, "ac133a3cdc6a18d487190c06acaa73ad93228a92e246e35c30d3ef264efad7b9") true
    Go.Th.Http.httpFeeds.over (fun _ h => by cases h) (by kernel_rfl) (fun _ h => by cases h) httpFeeds_row_tie rfl ⟨rfl, rfl⟩ (by kernel_rfl) rfl
    (fun f fn hf hfn => by
      obtain rfl : f = 6 := Option.some.inj ((show Go.Proofs.Tryz.prog.funcNamed "theodolite/theodolitelaw22.HttpFeeds" = some 6 by kernel_rfl).symm.trans hf) |>.symm
      obtain rfl : fn = Go.Proofs.Tryz.f6 := (Option.some.inj (Go.Proofs.Tryz.func6.symm.trans hfn)).symm
      refine ⟨by kernel_rfl, fun j t ht => ?_⟩
      have h : (Go.Proofs.Tryz.f6.params.toList.all fun t => !Go.Proofs.Tryz.prog.wantsStandIn t) = true := by kernel_rfl
      have := List.all_eq_true.mp h t (by simpa using Array.mem_of_getElem? ht)
      have h2 : Go.Proofs.Tryz.prog.wantsStandIn t = false := by simpa using this
      exact h2)
    (by kernel_rfl)
#print axioms httpFeeds_holds
end Go.Proofs.YtkmmkfiekamgpaaGreatDoor
end
