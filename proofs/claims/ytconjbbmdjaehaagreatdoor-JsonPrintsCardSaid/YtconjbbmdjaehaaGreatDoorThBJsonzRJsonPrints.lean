/- What the row of one statement stands on: a store, abstract code, functions of the program and their laws (ThJsonzRJsonPrints). -/
import Derived.Test.YtconjbbmdjaehaaGreatDoorThBO7
import Derived.Test.YtconjbbmdjaehaaGreatDoorThBJsonzAll2
import Derived.Test.YtconjbbmdjaehaaGreatDoorThBJsonzLaid
import Derived.Test.YtconjbbmdjaehaaGreatDoorCards
import Derived.Test.YtconjbbmdjaehaaGreatDoorTie
import Derived.SevenTiedAt
import Derived.Stop.Joined
import Derived.JoinedOf

section
/- The law JsonPrints: its row and its tied card, out of what its code does over a store. -/
namespace Go.Th.Jsonz.jsonPrints
open Go Go.Th Go.RowKit
set_option maxRecDepth 100000
theorem own : ownKnob Go.Proofs.Tryz.prog.godebug = none := by kernel_rfl
theorem laidOut : laidOutB Go.Proofs.Tryz.prog = true := by kernel_rfl
theorem lifted (os : Os) (started : os.Started) (H : Type) (enc : TypeId × Value → H) :
    ReturnsInHanded {} Go.Proofs.Tryz.checked os 4 .any (fun w args => (Go.Proofs.YtconjbbmdjaehaaGreatDoor.Rows.jsonPrintsSpec.pre enc Go.Proofs.Tryz.prog Go.Proofs.Tryz.f4 Go.Proofs.YtconjbbmdjaehaaGreatDoor.Rows.jsonPrintsRow.domain false w args ∧ laidMetH Go.Proofs.Tryz.prog Go.Proofs.YtconjbbmdjaehaaGreatDoor.Rows.jsonPrintsRow.laid w) ∧ sizedMet enc Go.Proofs.Tryz.prog Go.Proofs.Tryz.f4 (OpenSpec.ofChange Go.Proofs.YtconjbbmdjaehaaGreatDoor.Rows.jsonPrintsSpec) false w args) (Go.Proofs.YtconjbbmdjaehaaGreatDoor.Rows.jsonPrintsSpec.post enc Go.Proofs.Tryz.prog Go.Proofs.Tryz.f4 false true false false) := by
  refine returnsInHanded_laid (C := Go.Proofs.Tryz.checked) (X := fun w _ => laidMetH Go.Proofs.Tryz.prog Go.Proofs.YtconjbbmdjaehaaGreatDoor.Rows.jsonPrintsRow.laid w) (fun _ _ _ hh h => h.of_heap hh) own started (by kernel_rfl) Go.Proofs.Tryz.func4
    (ChangeSpec.witness_shaped (enc := enc) (C := Go.Proofs.Tryz.checked) (os := os) (X := fun w _ => laidMetH Go.Proofs.Tryz.prog Go.Proofs.YtconjbbmdjaehaaGreatDoor.Rows.jsonPrintsRow.laid w) false (World.laidAll Go.Proofs.Tryz.prog os Go.Proofs.YtconjbbmdjaehaaGreatDoor.Rows.jsonPrintsRow.laid) #[.agg #[.int .i64 0, .int .i64 0, .string ⟨#[]⟩, .slice none 0 0, .slice none 0 0], .string ⟨#[]⟩] 8 (World.laidAll_os _ _ _)
      (World.shaped_of_ZipB (by kernel_rfl) (by kernel_rfl)) (by kernel_rfl) (by kernel_rfl) (by kernel_rfl)
      (by rw [MakeChecks.laidMetH_plain _ _ _ (by kernel_rfl)]; exact laidMet_laidAll _ (by kernel_rfl) (by kernel_rfl))) ?_
  intro W base args ds gs before hval hW hcnd hsz hL hSh
  exact law_contractR (Q := ErrTab [2, 3] 4) (rt := 4) laidOut (by kernel_rfl) (by kernel_rfl) law4_ty (by kernel_rfl) (by kernel_rfl) (by kernel_rfl) (fun ds h => match ds, h with
    | [_, _], _ => rfl) ErrTab.keep law4_spec (Go.Th.Jsonz.start hL) hval hW hsz
theorem over : Go.Proofs.YtconjbbmdjaehaaGreatDoor.Rows.jsonPrintsRow.holds Go.Proofs.YtconjbbmdjaehaaGreatDoor.Tryz.pinned (OpenSpec.ofChange Go.Proofs.YtconjbbmdjaehaaGreatDoor.Rows.jsonPrintsSpec) :=
  OpenClaim.holds_of_wide 4 Go.Proofs.Tryz.f4 rfl rfl rfl rfl rfl rfl rfl ⟨rfl, rfl, rfl, rfl, rfl⟩ rfl rfl rfl rfl rfl (by kernel_rfl) Go.Proofs.Tryz.func4 (by kernel_rfl)
    (of_decide_eq_true (by kernel_rfl)) (by unfold Func.isWrapper; first | (rw [if_pos (by decide +kernel)]; kernel_rfl) | (rw [if_neg (by decide +kernel)]; exact ⟨rfl, rfl⟩))
    (fun os started H enc _ => lifted os started H enc)
end Go.Th.Jsonz.jsonPrints
namespace Go.Proofs.YtconjbbmdjaehaaGreatDoor
open Go
theorem jsonPrints_holds : Rows.JsonPrintsCardSaid :=
  Claim7.holds_tied_plain_at .later [] [.data, .data, .data, .data, .sentinel, .sentinel, .pinned] true (true, "cebd747c398119fb048513925f4d0558f1204baf393eb9a96a43c7650f130665") true
    Go.Th.Jsonz.jsonPrints.over (fun _ h => by cases h) (by kernel_rfl) (fun _ h => by cases h) jsonPrints_row_tie rfl ⟨rfl, rfl⟩ (by kernel_rfl) rfl
    (fun f fn hf hfn => by
      obtain rfl : f = 4 := Option.some.inj ((show Go.Proofs.Tryz.prog.funcNamed "theodolite/theodolitelaw20.JsonPrints" = some 4 by kernel_rfl).symm.trans hf) |>.symm
      obtain rfl : fn = Go.Proofs.Tryz.f4 := (Option.some.inj (Go.Proofs.Tryz.func4.symm.trans hfn)).symm
      refine ⟨by kernel_rfl, fun j t ht => ?_⟩
      have h : (Go.Proofs.Tryz.f4.params.toList.all fun t => !Go.Proofs.Tryz.prog.wantsStandIn t) = true := by kernel_rfl
      have := List.all_eq_true.mp h t (by simpa using Array.mem_of_getElem? ht)
      have h2 : Go.Proofs.Tryz.prog.wantsStandIn t = false := by simpa using this
      exact h2)
    (by kernel_rfl)
#print axioms jsonPrints_holds
end Go.Proofs.YtconjbbmdjaehaaGreatDoor
end
