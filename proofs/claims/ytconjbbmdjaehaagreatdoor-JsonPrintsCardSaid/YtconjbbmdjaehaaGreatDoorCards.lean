/-
  DERIVED. GIVEN WITH THE SEED: THE CARDS: each row of YtconjbbmdjaehaaGreatDoorRows.lean that lists a variable, with what it lists TIED to the program's text (the seventh form; the later family's looks); each row that meets fmt, with fmt's text TOLD by the authors' own Lean function (tested against real Go, not proved from fmt's source: count such statements apart). THE CARD IS WHAT COUNTS. Prove the row's statement (the work); the ties are given (YtconjbbmdjaehaaGreatDoorTie.lean); close each card by the builder's one call (the guide's Derived/Test/ToyasCard.lean, 'card_holds'). Laid BY PROGRAM, IN A SANDBOX (cutbox-door.mjs). By AI agents, Wed Nov 11 2026. No macro, syntax, notation, axiom, sorry.
-/
import Derived.Test.YtconjbbmdjaehaaGreatDoorRows
import GoSem.ClaimSeven
namespace Go.Proofs.YtconjbbmdjaehaaGreatDoor
namespace Rows

/-- THE TIED CARD OF 'theodolitelaw20.JsonParses'. -/
def jsonParsesCard : Claim7 := { stood := { row := jsonParsesRow, standIns := [], harness := (true, "cebd747c398119fb048513925f4d0558f1204baf393eb9a96a43c7650f130665"), looks := true }, kinds := [], alts := [], laidByText := true, laidKinds := [.data, .data, .data, .data, .sentinel, .sentinel, .pinned], laidTests := true, laidLooks := .later }
def JsonParsesCardSaid : Prop := Claim7.holds Tryz.pinned (.plain (OpenSpec.ofChange jsonParsesSpec)) jsonParsesCard

/-- THE TIED CARD OF 'theodolitelaw20.JsonPrints'. -/
def jsonPrintsCard : Claim7 := { stood := { row := jsonPrintsRow, standIns := [], harness := (true, "cebd747c398119fb048513925f4d0558f1204baf393eb9a96a43c7650f130665"), looks := true }, kinds := [], alts := [], laidByText := true, laidKinds := [.data, .data, .data, .data, .sentinel, .sentinel, .pinned], laidTests := true, laidLooks := .later }
def JsonPrintsCardSaid : Prop := Claim7.holds Tryz.pinned (.plain (OpenSpec.ofChange jsonPrintsSpec)) jsonPrintsCard

/-- THE SECOND FORM's CARD OF 'theodolitelaw20.JsonParses'. -/
def jsonParsesUptoCard : Claim7 := { stood := { row := jsonParsesUptoRow, standIns := [], harness := (true, "cebd747c398119fb048513925f4d0558f1204baf393eb9a96a43c7650f130665"), looks := true }, kinds := [], alts := [], laidByText := true, laidKinds := [.data, .data, .data, .data, .sentinel, .sentinel, .pinned], laidTests := true, laidLooks := .later }
def JsonParsesUptoCardSaid : Prop := Claim7.holds Tryz.pinned (.plain (OpenSpec.upto jsonParsesSpec)) jsonParsesUptoCard

/-- THE SECOND FORM's CARD OF 'theodolitelaw20.JsonPrints'. -/
def jsonPrintsUptoCard : Claim7 := { stood := { row := jsonPrintsUptoRow, standIns := [], harness := (true, "cebd747c398119fb048513925f4d0558f1204baf393eb9a96a43c7650f130665"), looks := true }, kinds := [], alts := [], laidByText := true, laidKinds := [.data, .data, .data, .data, .sentinel, .sentinel, .pinned], laidTests := true, laidLooks := .later }
def JsonPrintsUptoCardSaid : Prop := Claim7.holds Tryz.pinned (.plain (OpenSpec.upto jsonPrintsSpec)) jsonPrintsUptoCard
end Rows
end Go.Proofs.YtconjbbmdjaehaaGreatDoor
