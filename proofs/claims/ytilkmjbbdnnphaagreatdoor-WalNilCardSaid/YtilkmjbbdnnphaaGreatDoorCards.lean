/-
  DERIVED. GIVEN WITH THE SEED: THE CARDS: each row of YtilkmjbbdnnphaaGreatDoorRows.lean that lists a variable, with what it lists TIED to the program's text (the seventh form; the later family's looks); each row that meets fmt, with fmt's text TOLD by the authors' own Lean function (tested against real Go, not proved from fmt's source: count such statements apart). THE CARD IS WHAT COUNTS. Prove the row's statement (the work); the ties are given (YtilkmjbbdnnphaaGreatDoorTie.lean); close each card by the builder's one call (the guide's Derived/Test/ToyasCard.lean, 'card_holds'). Laid BY PROGRAM, IN A SANDBOX (cutbox-door.mjs). By AI agents, Wed Nov 11 2026. No macro, syntax, notation, axiom, sorry.
-/
import Derived.Test.YtilkmjbbdnnphaaGreatDoorRows
import GoSem.ClaimSeven
namespace Go.Proofs.YtilkmjbbdnnphaaGreatDoor
namespace Rows

/-- THE TIED CARD OF 'theodolitelaw18.WalNil'. -/
def walNilCard : Claim7 := { stood := { row := walNilRow, standIns := [], harness := (true, "540c6e21be037849305de677a34685eca7bdf4cd5253a8c07ccc579c4ee94b52"), looks := true }, kinds := [], alts := [], laidByText := true, laidKinds := [.data, .data, .data, .sentinel, .sentinel], laidTests := true, laidLooks := .later }
def WalNilCardSaid : Prop := Claim7.holds Tryz.pinned (.plain (OpenSpec.ofChange walNilSpec)) walNilCard

/-- THE SECOND FORM's CARD OF 'theodolitelaw18.WalNil'. -/
def walNilUptoCard : Claim7 := { stood := { row := walNilUptoRow, standIns := [], harness := (true, "540c6e21be037849305de677a34685eca7bdf4cd5253a8c07ccc579c4ee94b52"), looks := true }, kinds := [], alts := [], laidByText := true, laidKinds := [.data, .data, .data, .sentinel, .sentinel], laidTests := true, laidLooks := .later }
def WalNilUptoCardSaid : Prop := Claim7.holds Tryz.pinned (.plain (OpenSpec.upto walNilSpec)) walNilUptoCard
end Rows
end Go.Proofs.YtilkmjbbdnnphaaGreatDoor
