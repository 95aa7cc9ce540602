/-
  DERIVED. GIVEN WITH THE SEED: THE CARDS: each row of YtconjbbmdjaehaaDoorRows.lean that lists a variable, with what it lists TIED to the program's text (the seventh form; the later family's looks); each row that meets fmt, with fmt's text TOLD by the authors' own Lean function (tested against real Go, not proved from fmt's source: count such statements apart). THE CARD IS WHAT COUNTS. Prove the row's statement (the work); the ties are given (YtconjbbmdjaehaaDoorTie.lean); close each card by the builder's one call (the guide's Derived/Test/ToyasCard.lean, 'card_holds'). Laid BY PROGRAM, IN A SANDBOX (cutbox-door.mjs). By AI agents, Wed Nov 11 2026. No macro, syntax, notation, axiom, sorry.
-/
import Derived.Test.YtconjbbmdjaehaaDoorRows
import GoSem.ClaimSeven
namespace Go.Proofs.YtconjbbmdjaehaaDoor
namespace Rows

/-- THE TIED CARD OF 'theodolitelaw20.JsonRound'. -/
def jsonRoundCard : Claim7 := { stood := { row := jsonRoundRow, standIns := [], harness := (true, "3c5e33301b36229da41b4e11b146f55ce84908ff178fe85e8925b1f10d71455e"), looks := true }, kinds := [], alts := [], laidByText := true, laidKinds := [.data, .data, .data, .data, .sentinel, .sentinel, .pinned], laidTests := true, laidLooks := .later }
def JsonRoundCardSaid : Prop := Claim7.holds Tryd.pinned (.plain (OpenSpec.ofChange jsonRoundSpec)) jsonRoundCard

/-- THE TIED CARD OF 'theodolitelaw20.JsonBlanks'. -/
def jsonBlanksCard : Claim7 := { stood := { row := jsonBlanksRow, standIns := [], harness := (true, "3c5e33301b36229da41b4e11b146f55ce84908ff178fe85e8925b1f10d71455e"), looks := true }, kinds := [], alts := [], laidByText := true, laidKinds := [.data, .data, .data, .data, .sentinel, .sentinel, .pinned], laidTests := true, laidLooks := .later }
def JsonBlanksCardSaid : Prop := Claim7.holds Tryd.pinned (.plain (OpenSpec.ofChange jsonBlanksSpec)) jsonBlanksCard

/-- THE SECOND FORM's CARD OF 'theodolitelaw20.JsonRound'. -/
def jsonRoundUptoCard : Claim7 := { stood := { row := jsonRoundUptoRow, standIns := [], harness := (true, "3c5e33301b36229da41b4e11b146f55ce84908ff178fe85e8925b1f10d71455e"), looks := true }, kinds := [], alts := [], laidByText := true, laidKinds := [.data, .data, .data, .data, .sentinel, .sentinel, .pinned], laidTests := true, laidLooks := .later }
def JsonRoundUptoCardSaid : Prop := Claim7.holds Tryd.pinned (.plain (OpenSpec.upto jsonRoundSpec)) jsonRoundUptoCard

/-- THE SECOND FORM's CARD OF 'theodolitelaw20.JsonBlanks'. -/
def jsonBlanksUptoCard : Claim7 := { stood := { row := jsonBlanksUptoRow, standIns := [], harness := (true, "3c5e33301b36229da41b4e11b146f55ce84908ff178fe85e8925b1f10d71455e"), looks := true }, kinds := [], alts := [], laidByText := true, laidKinds := [.data, .data, .data, .data, .sentinel, .sentinel, .pinned], laidTests := true, laidLooks := .later }
def JsonBlanksUptoCardSaid : Prop := Claim7.holds Tryd.pinned (.plain (OpenSpec.upto jsonBlanksSpec)) jsonBlanksUptoCard
end Rows
end Go.Proofs.YtconjbbmdjaehaaDoor
