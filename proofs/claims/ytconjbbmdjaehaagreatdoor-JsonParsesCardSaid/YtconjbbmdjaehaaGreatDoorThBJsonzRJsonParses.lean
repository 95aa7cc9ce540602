/- What the row of one statement stands on: a store, abstract code, functions of the program and their laws (ThJsonzRJsonParses). -/
import Derived.Test.YtconjbbmdjaehaaGreatDoorThBO5
import Derived.Test.YtconjbbmdjaehaaGreatDoorThBJsonzAll
import Derived.Test.YtconjbbmdjaehaaGreatDoorThBJsonzLaid
import Derived.Test.YtconjbbmdjaehaaGreatDoorCards
import Derived.Test.YtconjbbmdjaehaaGreatDoorTie
import Derived.SevenTiedAt
import Derived.Stop.Joined
import Derived.JoinedOf

section
/- The law JsonParses: its row and its tied card, out of what its code does over a store. -/
namespace Go.Th.Jsonz.jsonParses
open Go Go.Th Go.RowKit
set_option maxRecDepth 100000
theorem own : ownKnob Go.Proofs.Tryz.prog.godebug = none := by kernel_rfl
theorem laidOut : laidOutB Go.Proofs.Tryz.prog = true := by kernel_rfl
theorem lifted (os : Os) (started : os.Started) (H : Type) (enc : TypeId × Value → H) :
    ReturnsInHanded {} Go.Proofs.Tryz.checked os 3 .any (fun w args => (Go.Proofs.YtconjbbmdjaehaaGreatDoor.Rows.jsonParsesSpec.pre enc Go.Proofs.Tryz.prog Go.Proofs.Tryz.f3 Go.Proofs.YtconjbbmdjaehaaGreatDoor.Rows.jsonParsesRow.domain false w args ∧ laidMetH Go.Proofs.Tryz.prog Go.Proofs.YtconjbbmdjaehaaGreatDoor.Rows.jsonParsesRow.laid w) ∧ sizedMet enc Go.Proofs.Tryz.prog Go.Proofs.Tryz.f3 (OpenSpec.ofChange Go.Proofs.YtconjbbmdjaehaaGreatDoor.Rows.jsonParsesSpec) false w args) (Go.Proofs.YtconjbbmdjaehaaGreatDoor.Rows.jsonParsesSpec.post enc Go.Proofs.Tryz.prog Go.Proofs.Tryz.f3 false true false false) := by
  refine returnsInHanded_laid (C := Go.Proofs.Tryz.checked) (X := fun w _ => laidMetH Go.Proofs.Tryz.prog Go.Proofs.YtconjbbmdjaehaaGreatDoor.Rows.jsonParsesRow.laid w) (fun _ _ _ hh h => h.of_heap hh) own started (by kernel_rfl) Go.Proofs.Tryz.func3
    (ChangeSpec.witness_shaped (enc := enc) (C := Go.Proofs.Tryz.checked) (os := os) (X := fun w _ => laidMetH Go.Proofs.Tryz.prog Go.Proofs.YtconjbbmdjaehaaGreatDoor.Rows.jsonParsesRow.laid w) false (World.laidAll Go.Proofs.Tryz.prog os Go.Proofs.YtconjbbmdjaehaaGreatDoor.Rows.jsonParsesRow.laid) #[.string ⟨#[]⟩] 8 (World.laidAll_os _ _ _)
      (World.shaped_of_ZipB (by kernel_rfl) (by kernel_rfl)) (by kernel_rfl) (by kernel_rfl) (by kernel_rfl)
      (by rw [MakeChecks.laidMetH_plain _ _ _ (by kernel_rfl)]; exact laidMet_laidAll _ (by kernel_rfl) (by kernel_rfl))) ?_
  intro W base args ds gs before hval hW hcnd hsz hL hSh
  exact law_contractS (Q := ErrTab [2, 3] 4) (g := 8) (shs := law3_shapes) (rt := 4) laidOut (by kernel_rfl) (by kernel_rfl) (by kernel_rfl) (by kernel_rfl) (by kernel_rfl) (by kernel_rfl) (fun ds h => match ds, h with
    | [_], _ => rfl) ErrTab.keep law3_spec (Go.Th.Jsonz.start hL) hval hW hsz
theorem over : Go.Proofs.YtconjbbmdjaehaaGreatDoor.Rows.jsonParsesRow.holds Go.Proofs.YtconjbbmdjaehaaGreatDoor.Tryz.pinned (OpenSpec.ofChange Go.Proofs.YtconjbbmdjaehaaGreatDoor.Rows.jsonParsesSpec) :=
  OpenClaim.holds_of_wide 3 Go.Proofs.Tryz.f3 rfl rfl rfl rfl rfl rfl rfl ⟨rfl, rfl, rfl, rfl, rfl⟩ rfl rfl rfl rfl rfl (by kernel_rfl) Go.Proofs.Tryz.func3 (by kernel_rfl)
    (of_decide_eq_true (by kernel_rfl)) (by unfold Func.isWrapper; first | (rw [if_pos (by decide +kernel)]; kernel_rfl) | (rw [if_neg (by decide +kernel)]; exact ⟨rfl, rfl⟩))
    (fun os started H enc _ => lifted os started H enc)
end Go.Th.Jsonz.jsonParses
namespace Go.Proofs.YtconjbbmdjaehaaGreatDoor
open Go
theorem jsonParses_holds : Rows.JsonParsesCardSaid :=
  Claim7.holds_tied_plain_at .later [] [.data, .data, .data, .data, .sentinel, .sentinel, .pinned] true (true, "cebd747c398119fb048513925f4d0558f1204baf393eb9a96a43c7650f130665") true
    Go.Th.Jsonz.jsonParses.over (fun _ h => by cases h) (by kernel_rfl) (fun _ h => by cases h) jsonParses_row_tie rfl ⟨rfl, rfl⟩ (by kernel_rfl) rfl
    (fun f fn hf hfn => by
      obtain rfl : f = 3 := Option.some.inj ((show Go.Proofs.Tryz.prog.funcNamed "theodolite/theodolitelaw20.JsonParses" = some 3 by kernel_rfl).symm.trans hf) |>.symm
      obtain rfl : fn = Go.Proofs.Tryz.f3 := (Option.some.inj (Go.Proofs.Tryz.func3.symm.trans hfn)).symm
      refine ⟨by kernel_rfl, fun j t ht => ?_⟩
      have h : (Go.Proofs.Tryz.f3.params.toList.all fun t => !Go.Proofs.Tryz.prog.wantsStandIn t) = true := by kernel_rfl
      have := List.all_eq_true.mp h t (by simpa using Array.mem_of_getElem? ht)
      have h2 : Go.Proofs.Tryz.prog.wantsStandIn t = false := by simpa using this
      exact h2)
    (by kernel_rfl)
#print axioms jsonParses_holds
end Go.Proofs.YtconjbbmdjaehaaGreatDoor
end
