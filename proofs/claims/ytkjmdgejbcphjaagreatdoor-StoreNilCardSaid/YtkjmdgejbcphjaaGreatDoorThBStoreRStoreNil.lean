/- What the row of one statement stands on: a store, abstract code, functions of the program and their laws (ThStoreRStoreNil). -/
import Derived.Test.YtkjmdgejbcphjaaGreatDoorThBO4
import Derived.Test.YtkjmdgejbcphjaaGreatDoorThBStoreAll
import Derived.Test.YtkjmdgejbcphjaaGreatDoorThBStoreLaid
import Derived.Test.YtkjmdgejbcphjaaGreatDoorCards
import Derived.Test.YtkjmdgejbcphjaaGreatDoorTie
import Derived.SevenTiedAt
import Derived.Stop.Joined
import Derived.JoinedOf

section
/- The law StoreNil: its row and its tied card, out of what its code does over a store. -/
namespace Go.Th.Store.storeNil
open Go Go.Th Go.RowKit
set_option maxRecDepth 100000
theorem own : ownKnob Go.Proofs.Tryz.prog.godebug = none := by kernel_rfl
theorem laidOut : laidOutB Go.Proofs.Tryz.prog = true := by kernel_rfl
theorem lifted (os : Os) (started : os.Started) (H : Type) (enc : TypeId × Value → H) :
    ReturnsInHanded {} Go.Proofs.Tryz.checked os 4 .any (fun w args => (Go.Proofs.YtkjmdgejbcphjaaGreatDoor.Rows.storeNilSpec.pre enc Go.Proofs.Tryz.prog Go.Proofs.Tryz.f4 Go.Proofs.YtkjmdgejbcphjaaGreatDoor.Rows.storeNilRow.domain false w args ∧ laidMetH Go.Proofs.Tryz.prog Go.Proofs.YtkjmdgejbcphjaaGreatDoor.Rows.storeNilRow.laid w) ∧ sizedMet enc Go.Proofs.Tryz.prog Go.Proofs.Tryz.f4 (OpenSpec.ofChange Go.Proofs.YtkjmdgejbcphjaaGreatDoor.Rows.storeNilSpec) false w args) (Go.Proofs.YtkjmdgejbcphjaaGreatDoor.Rows.storeNilSpec.post enc Go.Proofs.Tryz.prog Go.Proofs.Tryz.f4 false true false false) := by
  refine returnsInHanded_laid (C := Go.Proofs.Tryz.checked) (X := fun w _ => laidMetH Go.Proofs.Tryz.prog Go.Proofs.YtkjmdgejbcphjaaGreatDoor.Rows.storeNilRow.laid w) (fun _ _ _ hh h => h.of_heap hh) own started (by kernel_rfl) Go.Proofs.Tryz.func4
    (ChangeSpec.witness_shaped (enc := enc) (C := Go.Proofs.Tryz.checked) (os := os) (X := fun w _ => laidMetH Go.Proofs.Tryz.prog Go.Proofs.YtkjmdgejbcphjaaGreatDoor.Rows.storeNilRow.laid w) false (World.laidAll Go.Proofs.Tryz.prog os Go.Proofs.YtkjmdgejbcphjaaGreatDoor.Rows.storeNilRow.laid) #[.agg #[.int .i64 0, .int .i64 0, .int .i64 0, .int .i64 0, .slice none 0 0, .slice none 0 0], .int .i64 0] 8 (World.laidAll_os _ _ _)
      (World.shaped_of_ZipB (by kernel_rfl) (by kernel_rfl)) (by kernel_rfl) (by kernel_rfl) (by kernel_rfl)
      (by rw [MakeChecks.laidMetH_plain _ _ _ (by kernel_rfl)]; exact laidMet_laidAll _ (by kernel_rfl) (by kernel_rfl))) ?_
  intro W base args ds gs before hval hW hcnd hsz hL hSh
  exact law_contractS (Q := TabG 2) (g := 8) (shs := law4_shapes) (rt := 4) laidOut (by kernel_rfl) (by kernel_rfl) (by kernel_rfl) (by kernel_rfl) (by kernel_rfl) (by kernel_rfl) (fun ds h => match ds, h with
    | [_, _], _ => rfl) TabG.keep law4_spec (TabG.start (tab_of_laid hL)) hval hW hsz
theorem over : Go.Proofs.YtkjmdgejbcphjaaGreatDoor.Rows.storeNilRow.holds Go.Proofs.YtkjmdgejbcphjaaGreatDoor.Tryz.pinned (OpenSpec.ofChange Go.Proofs.YtkjmdgejbcphjaaGreatDoor.Rows.storeNilSpec) :=
  OpenClaim.holds_of_wide 4 Go.Proofs.Tryz.f4 rfl rfl rfl rfl rfl rfl rfl ⟨rfl, rfl, rfl, rfl, rfl⟩ rfl rfl rfl rfl rfl (by kernel_rfl) Go.Proofs.Tryz.func4 (by kernel_rfl)
    (of_decide_eq_true (by kernel_rfl)) (by unfold Func.isWrapper; first | (rw [if_pos (by decide +kernel)]; kernel_rfl) | (rw [if_neg (by decide +kernel)]; exact ⟨rfl, rfl⟩))
    (fun os started H enc _ => lifted os started H enc)
end Go.Th.Store.storeNil
namespace Go.Proofs.YtkjmdgejbcphjaaGreatDoor
open Go
theorem storeNil_holds : Rows.StoreNilCardSaid :=
  Claim7.holds_tied_plain_at .later [] [.data, .data, .data, .sentinel, .sentinel] true (true, "9e72f93791ba32a3700fa9ea1a1f7d87d8f10c52cf1f781a1349f4223e80dcd3") true
    Go.Th.Store.storeNil.over (fun _ h => by cases h) (by kernel_rfl) (fun _ h => by cases h) storeNil_row_tie rfl ⟨rfl, rfl⟩ (by kernel_rfl) rfl
    (fun f fn hf hfn => by
      obtain rfl : f = 4 := Option.some.inj ((show Go.Proofs.Tryz.prog.funcNamed "theodolite/theodolitelaw19.StoreNil" = some 4 by kernel_rfl).symm.trans hf) |>.symm
      obtain rfl : fn = Go.Proofs.Tryz.f4 := (Option.some.inj (Go.Proofs.Tryz.func4.symm.trans hfn)).symm
      refine ⟨by kernel_rfl, fun j t ht => ?_⟩
      have h : (Go.Proofs.Tryz.f4.params.toList.all fun t => !Go.Proofs.Tryz.prog.wantsStandIn t) = true := by kernel_rfl
      have := List.all_eq_true.mp h t (by simpa using Array.mem_of_getElem? ht)
      have h2 : Go.Proofs.Tryz.prog.wantsStandIn t = false := by simpa using this
      exact h2)
    (by kernel_rfl)
#print axioms storeNil_holds
end Go.Proofs.YtkjmdgejbcphjaaGreatDoor
end
