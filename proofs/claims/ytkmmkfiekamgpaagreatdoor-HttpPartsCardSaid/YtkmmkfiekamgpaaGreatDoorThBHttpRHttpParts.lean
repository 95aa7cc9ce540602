/- What the row of one statement stands on: a store, abstract code, functions of the program and their laws (ThHttpRHttpParts). -/
import Derived.Test.YtkmmkfiekamgpaaGreatDoorThBO3
import Derived.Test.YtkmmkfiekamgpaaGreatDoorThBHttpAll4
import Derived.Test.YtkmmkfiekamgpaaGreatDoorThBHttpLaid
import Derived.Test.YtkmmkfiekamgpaaGreatDoorCards
import Derived.Test.YtkmmkfiekamgpaaGreatDoorTie
import Derived.SevenTiedAt
import Derived.Stop.Joined
import Derived.JoinedOf

section
/- The law HttpParts: its row and its tied card, out of what its code does over a store. -/
namespace Go.Th.Http.httpParts
open Go Go.Th Go.RowKit
set_option maxRecDepth 100000
theorem own : ownKnob Go.Proofs.Tryz.prog.godebug = none := by kernel_rfl
theorem laidOut : laidOutB Go.Proofs.Tryz.prog = true := by kernel_rfl
theorem lifted (os : Os) (started : os.Started) (H : Type) (enc : TypeId × Value → H) :
    ReturnsInHanded {} Go.Proofs.Tryz.checked os 7 .any (fun w args => (Go.Proofs.YtkmmkfiekamgpaaGreatDoor.Rows.httpPartsSpec.pre enc Go.Proofs.Tryz.prog Go.Proofs.Tryz.f7 Go.Proofs.YtkmmkfiekamgpaaGreatDoor.Rows.httpPartsRow.domain false w args ∧ laidMetH Go.Proofs.Tryz.prog Go.Proofs.YtkmmkfiekamgpaaGreatDoor.Rows.httpPartsRow.laid w) ∧ sizedMet enc Go.Proofs.Tryz.prog Go.Proofs.Tryz.f7 (OpenSpec.ofChange Go.Proofs.YtkmmkfiekamgpaaGreatDoor.Rows.httpPartsSpec) false w args) (Go.Proofs.YtkmmkfiekamgpaaGreatDoor.Rows.httpPartsSpec.post enc Go.Proofs.Tryz.prog Go.Proofs.Tryz.f7 false true false false) := by
  refine returnsInHanded_laid (C := Go.Proofs.Tryz.checked) (X := fun w _ => laidMetH Go.Proofs.Tryz.prog Go.Proofs.YtkmmkfiekamgpaaGreatDoor.Rows.httpPartsRow.laid w) (fun _ _ _ hh h => h.of_heap hh) own started (by kernel_rfl) Go.Proofs.Tryz.func7
    (ChangeSpec.witness_shaped (enc := enc) (C := Go.Proofs.Tryz.checked) (os := os) (X := fun w _ => laidMetH Go.Proofs.Tryz.prog Go.Proofs.YtkmmkfiekamgpaaGreatDoor.Rows.httpPartsRow.laid w) false (World.laidAll Go.Proofs.Tryz.prog os Go.Proofs.YtkmmkfiekamgpaaGreatDoor.Rows.httpPartsRow.laid) #[.slice none 0 0, .slice none 0 0] 8 (World.laidAll_os _ _ _)
      (World.shaped_of_ZipB (by kernel_rfl) (by kernel_rfl)) (by kernel_rfl) (by kernel_rfl) (by kernel_rfl)
      (by rw [MakeChecks.laidMetH_plain _ _ _ (by kernel_rfl)]; exact laidMet_laidAll _ (by kernel_rfl) (by kernel_rfl))) ?_
  intro W base args ds gs before hval hW hcnd hsz hL hSh
  exact law_contractH (g := 8) (shs := law7_shapes) (rt := 4) laidOut (by kernel_rfl) (by kernel_rfl) (by kernel_rfl) (by kernel_rfl) (by kernel_rfl) (fun ds h => match ds, h with
    | [_, _], _ => rfl) law7_spec (hw_of_laid hL hSh) hval hW hsz
theorem over : Go.Proofs.YtkmmkfiekamgpaaGreatDoor.Rows.httpPartsRow.holds Go.Proofs.YtkmmkfiekamgpaaGreatDoor.Tryz.pinned (OpenSpec.ofChange Go.Proofs.YtkmmkfiekamgpaaGreatDoor.Rows.httpPartsSpec) :=
  OpenClaim.holds_of_wide 7 Go.Proofs.Tryz.f7 rfl rfl rfl rfl rfl rfl rfl ⟨rfl, rfl, rfl, rfl, rfl⟩ rfl rfl rfl rfl rfl (by kernel_rfl) Go.Proofs.Tryz.func7 (by kernel_rfl)
    (of_decide_eq_true (by kernel_rfl)) (by unfold Func.isWrapper; first | (rw [if_pos (by decide +kernel)]; kernel_rfl) | (rw [if_neg (by decide +kernel)]; exact ⟨rfl, rfl⟩))
    (fun os started H enc _ => lifted os started H enc)
end Go.Th.Http.httpParts
namespace Go.Proofs.YtkmmkfiekamgpaaGreatDoor
open Go
/-- The tied card. -/
theorem httpParts_holds : Rows.HttpPartsCardSaid :=
  Claim7.holds_tied_plain_at .later [] [.data, .data, .data, .data, .sentinel, .sentinel, .pinned, .pinned] true (true, "ac133a3cdc6a18d487190c06acaa73ad93228a92e246e35c30d3ef264efad7b9") true
    Go.Th.Http.httpParts.over (fun _ h => by cases h) (by kernel_rfl) (fun _ h => by cases h) httpParts_row_tie rfl ⟨rfl, rfl⟩ (by kernel_rfl) rfl
    (fun f fn hf hfn => by
      obtain rfl : f = 7 := Option.some.inj ((show Go.Proofs.Tryz.prog.funcNamed "theodolite/theodolitelaw22.HttpParts" = some 7 by kernel_rfl).symm.trans hf) |>.symm
      obtain rfl : fn = Go.Proofs.Tryz.f7 := (Option.some.inj (Go.Proofs.Tryz.func7.symm.trans hfn)).symm
      refine ⟨by kernel_rfl, fun j t ht => ?_⟩
      have h : (Go.Proofs.Tryz.f7.params.toList.all fun t => !Go.Proofs.Tryz.prog.wantsStandIn t) = true := by kernel_rfl
      have := List.all_eq_true.mp h t (by simpa using Array.mem_of_getElem? ht)
      have h2 : Go.Proofs.Tryz.prog.wantsStandIn t = false := by simpa using this
      exact h2)
    (by kernel_rfl)
#print axioms httpParts_holds
end Go.Proofs.YtkmmkfiekamgpaaGreatDoor
end
