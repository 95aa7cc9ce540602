/- What the row of one statement stands on: a store, abstract code, functions of the program and their laws (ThJsondRJsonRound). -/
import Derived.Test.YtconjbbmdjaehaaDoorThBO7
import Derived.Test.YtconjbbmdjaehaaDoorThBJsondAll2
import Derived.Test.YtconjbbmdjaehaaDoorThBJsondLaid
import Derived.Test.YtconjbbmdjaehaaDoorCards
import Derived.Test.YtconjbbmdjaehaaDoorTie
import Derived.SevenTiedAt
import Derived.Stop.Joined
import Derived.JoinedOf

section
/- The law JsonRound: its row and its tied card, out of what its code does over a store. -/
namespace Go.Th.Jsond.jsonRound
open Go Go.Th Go.RowKit
set_option maxRecDepth 100000
theorem own : ownKnob Go.Proofs.Tryd.prog.godebug = none := by kernel_rfl
theorem laidOut : laidOutB Go.Proofs.Tryd.prog = true := by kernel_rfl
theorem lifted (os : Os) (started : os.Started) (H : Type) (enc : TypeId × Value → H) :
    ReturnsInHanded {} Go.Proofs.Tryd.checked os 3 .any (fun w args => (Go.Proofs.YtconjbbmdjaehaaDoor.Rows.jsonRoundSpec.pre enc Go.Proofs.Tryd.prog Go.Proofs.Tryd.f3 Go.Proofs.YtconjbbmdjaehaaDoor.Rows.jsonRoundRow.domain false w args ∧ laidMetH Go.Proofs.Tryd.prog Go.Proofs.YtconjbbmdjaehaaDoor.Rows.jsonRoundRow.laid w) ∧ sizedMet enc Go.Proofs.Tryd.prog Go.Proofs.Tryd.f3 (OpenSpec.ofChange Go.Proofs.YtconjbbmdjaehaaDoor.Rows.jsonRoundSpec) false w args) (Go.Proofs.YtconjbbmdjaehaaDoor.Rows.jsonRoundSpec.post enc Go.Proofs.Tryd.prog Go.Proofs.Tryd.f3 false true false false) := by
  refine returnsInHanded_laid (C := Go.Proofs.Tryd.checked) (X := fun w _ => laidMetH Go.Proofs.Tryd.prog Go.Proofs.YtconjbbmdjaehaaDoor.Rows.jsonRoundRow.laid w) (fun _ _ _ hh h => h.of_heap hh) own started (by kernel_rfl) Go.Proofs.Tryd.func3
    (ChangeSpec.witness_shaped (enc := enc) (C := Go.Proofs.Tryd.checked) (os := os) (X := fun w _ => laidMetH Go.Proofs.Tryd.prog Go.Proofs.YtconjbbmdjaehaaDoor.Rows.jsonRoundRow.laid w) false (World.laidAll Go.Proofs.Tryd.prog os Go.Proofs.YtconjbbmdjaehaaDoor.Rows.jsonRoundRow.laid) #[.agg #[.int .i64 0, .int .i64 0, .string ⟨#[]⟩, .slice none 0 0, .slice none 0 0], .string ⟨#[]⟩] 8 (World.laidAll_os _ _ _)
      (World.shaped_of_ZipB (by kernel_rfl) (by kernel_rfl)) (by kernel_rfl) (by kernel_rfl) (by kernel_rfl)
      (by rw [MakeChecks.laidMetH_plain _ _ _ (by kernel_rfl)]; exact laidMet_laidAll _ (by kernel_rfl) (by kernel_rfl))) ?_
  intro W base args ds gs before hval hW hcnd hsz hL hSh
  exact law_contractR (Q := ErrTab [3, 4] 0) (rt := 4) laidOut (by kernel_rfl) (by kernel_rfl) law3_ty (by kernel_rfl) (by kernel_rfl) (by kernel_rfl) (fun ds h => match ds, h with
    | [_, _], _ => rfl) ErrTab.keep law3_spec (Go.Th.Jsond.start hL) hval hW hsz
theorem over : Go.Proofs.YtconjbbmdjaehaaDoor.Rows.jsonRoundRow.holds Go.Proofs.YtconjbbmdjaehaaDoor.Tryd.pinned (OpenSpec.ofChange Go.Proofs.YtconjbbmdjaehaaDoor.Rows.jsonRoundSpec) :=
  OpenClaim.holds_of_wide 3 Go.Proofs.Tryd.f3 rfl rfl rfl rfl rfl rfl rfl ⟨rfl, rfl, rfl, rfl, rfl⟩ rfl rfl rfl rfl rfl (by kernel_rfl) Go.Proofs.Tryd.func3 (by kernel_rfl)
    (of_decide_eq_true (by kernel_rfl)) (by unfold Func.isWrapper; first | (rw [if_pos (by decide +kernel)]; kernel_rfl) | (rw [if_neg (by decide +kernel)]; exact ⟨rfl, rfl⟩))
    (fun os started H enc _ => lifted os started H enc)
end Go.Th.Jsond.jsonRound
namespace Go.Proofs.YtconjbbmdjaehaaDoor
open Go
theorem jsonRound_holds : Rows.JsonRoundCardSaid :=
  Claim7.holds_tied_plain_at .later [] [.data, .data, .data, .data, .sentinel, .sentinel, .pinned] true (true, "3c5e33301b36229da41b4e11b146f55ce84908ff178fe85e8925b1f10d71455e") true
    Go.Th.Jsond.jsonRound.over (fun _ h => by cases h) (by kernel_rfl) (fun _ h => by cases h) jsonRound_row_tie rfl ⟨rfl, rfl⟩ (by kernel_rfl) rfl
    (fun f fn hf hfn => by
      obtain rfl : f = 3 := Option.some.inj ((show Go.Proofs.Tryd.prog.funcNamed "theodolite/theodolitelaw20.JsonRound" = some 3 by kernel_rfl).symm.trans hf) |>.symm
      obtain rfl : fn = Go.Proofs.Tryd.f3 := (Option.some.inj (Go.Proofs.Tryd.func3.symm.trans hfn)).symm
      refine ⟨by kernel_rfl, fun j t ht => ?_⟩
      have h : (Go.Proofs.Tryd.f3.params.toList.all fun t => !Go.Proofs.Tryd.prog.wantsStandIn t) = true := by kernel_rfl
      have := List.all_eq_true.mp h t (by simpa using Array.mem_of_getElem? ht)
      have h2 : Go.Proofs.Tryd.prog.wantsStandIn t = false := by simpa using this
      exact h2)
    (by kernel_rfl)
#print axioms jsonRound_holds
end Go.Proofs.YtconjbbmdjaehaaDoor
end
