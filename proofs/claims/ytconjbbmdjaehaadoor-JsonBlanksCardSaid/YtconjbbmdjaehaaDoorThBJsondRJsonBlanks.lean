/- What the row of one statement stands on: a store, abstract code, functions of the program and their laws (ThJsondRJsonBlanks). -/
import Derived.Test.YtconjbbmdjaehaaDoorThBO6
import Derived.Test.YtconjbbmdjaehaaDoorThBJsondAll
import Derived.Test.YtconjbbmdjaehaaDoorThBJsondLaid
import Derived.Test.YtconjbbmdjaehaaDoorCards
import Derived.Test.YtconjbbmdjaehaaDoorTie
import Derived.SevenTiedAt
import Derived.Stop.Joined
import Derived.JoinedOf

section
/- The law JsonBlanks: its row and its tied card, out of what its code does over a store. -/
namespace Go.Th.Jsond.jsonBlanks
open Go Go.Th Go.RowKit
set_option maxRecDepth 100000
theorem own : ownKnob Go.Proofs.Tryd.prog.godebug = none := by kernel_rfl
theorem laidOut : laidOutB Go.Proofs.Tryd.prog = true := by kernel_rfl
theorem lifted (os : Os) (started : os.Started) (H : Type) (enc : TypeId × Value → H) :
    ReturnsInHanded {} Go.Proofs.Tryd.checked os 4 .any (fun w args => (Go.Proofs.YtconjbbmdjaehaaDoor.Rows.jsonBlanksSpec.pre enc Go.Proofs.Tryd.prog Go.Proofs.Tryd.f4 Go.Proofs.YtconjbbmdjaehaaDoor.Rows.jsonBlanksRow.domain false w args ∧ laidMetH Go.Proofs.Tryd.prog Go.Proofs.YtconjbbmdjaehaaDoor.Rows.jsonBlanksRow.laid w) ∧ sizedMet enc Go.Proofs.Tryd.prog Go.Proofs.Tryd.f4 (OpenSpec.ofChange Go.Proofs.YtconjbbmdjaehaaDoor.Rows.jsonBlanksSpec) false w args) (Go.Proofs.YtconjbbmdjaehaaDoor.Rows.jsonBlanksSpec.post enc Go.Proofs.Tryd.prog Go.Proofs.Tryd.f4 false true false false) := by
  refine returnsInHanded_laid (C := Go.Proofs.Tryd.checked) (X := fun w _ => laidMetH Go.Proofs.Tryd.prog Go.Proofs.YtconjbbmdjaehaaDoor.Rows.jsonBlanksRow.laid w) (fun _ _ _ hh h => h.of_heap hh) own started (by kernel_rfl) Go.Proofs.Tryd.func4
    (ChangeSpec.witness_shaped (enc := enc) (C := Go.Proofs.Tryd.checked) (os := os) (X := fun w _ => laidMetH Go.Proofs.Tryd.prog Go.Proofs.YtconjbbmdjaehaaDoor.Rows.jsonBlanksRow.laid w) false (World.laidAll Go.Proofs.Tryd.prog os Go.Proofs.YtconjbbmdjaehaaDoor.Rows.jsonBlanksRow.laid) #[.string ⟨#[]⟩, .string ⟨#[]⟩, .slice none 0 0] 8 (World.laidAll_os _ _ _)
      (World.shaped_of_ZipB (by kernel_rfl) (by kernel_rfl)) (by kernel_rfl) (by kernel_rfl) (by kernel_rfl)
      (by rw [MakeChecks.laidMetH_plain _ _ _ (by kernel_rfl)]; exact laidMet_laidAll _ (by kernel_rfl) (by kernel_rfl))) ?_
  intro W base args ds gs before hval hW hcnd hsz hL hSh
  exact law_contractS (Q := ErrTab [3, 4] 0) (g := 8) (shs := law4_shapes) (rt := 4) laidOut (by kernel_rfl) (by kernel_rfl) (by kernel_rfl) (by kernel_rfl) (by kernel_rfl) (by kernel_rfl) (fun ds h => match ds, h with
    | [_, _, _], _ => rfl) ErrTab.keep law4_spec (Go.Th.Jsond.start hL) hval hW hsz
theorem over : Go.Proofs.YtconjbbmdjaehaaDoor.Rows.jsonBlanksRow.holds Go.Proofs.YtconjbbmdjaehaaDoor.Tryd.pinned (OpenSpec.ofChange Go.Proofs.YtconjbbmdjaehaaDoor.Rows.jsonBlanksSpec) :=
  OpenClaim.holds_of_wide 4 Go.Proofs.Tryd.f4 rfl rfl rfl rfl rfl rfl rfl ⟨rfl, rfl, rfl, rfl, rfl⟩ rfl rfl rfl rfl rfl (by kernel_rfl) Go.Proofs.Tryd.func4 (by kernel_rfl)
    (of_decide_eq_true (by kernel_rfl)) (by unfold Func.isWrapper; first | (rw [if_pos (by decide +kernel)]; kernel_rfl) | (rw [if_neg (by decide +kernel)]; exact ⟨rfl, rfl⟩))
    (fun os started H enc _ => lifted os started H enc)
end Go.Th.Jsond.jsonBlanks
namespace Go.Proofs.YtconjbbmdjaehaaDoor
open Go
theorem jsonBlanks_holds : Rows.JsonBlanksCardSaid :=
  Claim7.holds_tied_plain_at .later [] [.data, .data, .data, .data, .sentinel, .sentinel, .pinned] true (true, "3c5e33301b36229da41b4e11b146f55ce84908ff178fe85e8925b1f10d71455e") true
    Go.Th.Jsond.jsonBlanks.over (fun _ h => by cases h) (by kernel_rfl) (fun _ h => by cases h) jsonBlanks_row_tie rfl ⟨rfl, rfl⟩ (by kernel_rfl) rfl
    (fun f fn hf hfn => by
      obtain rfl : f = 4 := Option.some.inj ((show Go.Proofs.Tryd.prog.funcNamed "theodolite/theodolitelaw20.JsonBlanks" = some 4 by kernel_rfl).symm.trans hf) |>.symm
      obtain rfl : fn = Go.Proofs.Tryd.f4 := (Option.some.inj (Go.Proofs.Tryd.func4.symm.trans hfn)).symm
      refine ⟨by kernel_rfl, fun j t ht => ?_⟩
      have h : (Go.Proofs.Tryd.f4.params.toList.all fun t => !Go.Proofs.Tryd.prog.wantsStandIn t) = true := by kernel_rfl
      have := List.all_eq_true.mp h t (by simpa using Array.mem_of_getElem? ht)
      have h2 : Go.Proofs.Tryd.prog.wantsStandIn t = false := by simpa using this
      exact h2)
    (by kernel_rfl)
#print axioms jsonBlanks_holds
end Go.Proofs.YtconjbbmdjaehaaDoor
end
