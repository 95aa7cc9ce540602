/-
  DERIVED. GIVEN WITH THE SEED: THE CARDS: each row of YtkjmdgejbcphjaaGreatDoorRows.lean that lists a variable, with what it lists TIED to the program's text (the seventh form; the later family's looks); each row that meets fmt, with fmt's text TOLD by the authors' own Lean function (tested against real Go, not proved from fmt's source: count such statements apart). THE CARD IS WHAT COUNTS. Prove the row's statement (the work); the ties are given (YtkjmdgejbcphjaaGreatDoorTie.lean); close each card by the builder's one call (the guide's Derived/Test/ToyasCard.lean, 'card_holds'). Laid BY PROGRAM, IN A SANDBOX (cutbox-door.mjs). By AI agents, Wed Nov 11 2026. No macro, syntax, notation, axiom, sorry.
-/
import Derived.Test.YtkjmdgejbcphjaaGreatDoorRows
import GoSem.ClaimSeven
namespace Go.Proofs.YtkjmdgejbcphjaaGreatDoor
namespace Rows

/-- THE TIED CARD OF 'theodolitelaw19.StoreQuiet'. -/
def storeQuietCard : Claim7 := { stood := { row := storeQuietRow, standIns := [], harness := (true, "9e72f93791ba32a3700fa9ea1a1f7d87d8f10c52cf1f781a1349f4223e80dcd3"), looks := true }, kinds := [], alts := [], laidByText := true, laidKinds := [.data, .data, .data, .sentinel, .sentinel], laidTests := true, laidLooks := .later }
def StoreQuietCardSaid : Prop := Claim7.holds Tryz.pinned (.plain (OpenSpec.ofChange storeQuietSpec)) storeQuietCard

/-- THE TIED CARD OF 'theodolitelaw19.StoreNil'. -/
def storeNilCard : Claim7 := { stood := { row := storeNilRow, standIns := [], harness := (true, "9e72f93791ba32a3700fa9ea1a1f7d87d8f10c52cf1f781a1349f4223e80dcd3"), looks := true }, kinds := [], alts := [], laidByText := true, laidKinds := [.data, .data, .data, .sentinel, .sentinel], laidTests := true, laidLooks := .later }
def StoreNilCardSaid : Prop := Claim7.holds Tryz.pinned (.plain (OpenSpec.ofChange storeNilSpec)) storeNilCard

/-- THE TIED CARD OF 'theodolitelaw19.StoreRuns'. -/
def storeRunsCard : Claim7 := { stood := { row := storeRunsRow, standIns := [], harness := (true, "9e72f93791ba32a3700fa9ea1a1f7d87d8f10c52cf1f781a1349f4223e80dcd3"), looks := true }, kinds := [], alts := [], laidByText := true, laidKinds := [.data, .data, .data, .sentinel, .sentinel], laidTests := true, laidLooks := .later }
def StoreRunsCardSaid : Prop := Claim7.holds Tryz.pinned (.plain (OpenSpec.ofChange storeRunsSpec)) storeRunsCard

/-- THE SECOND FORM's CARD OF 'theodolitelaw19.StoreQuiet'. -/
def storeQuietUptoCard : Claim7 := { stood := { row := storeQuietUptoRow, standIns := [], harness := (true, "9e72f93791ba32a3700fa9ea1a1f7d87d8f10c52cf1f781a1349f4223e80dcd3"), looks := true }, kinds := [], alts := [], laidByText := true, laidKinds := [.data, .data, .data, .sentinel, .sentinel], laidTests := true, laidLooks := .later }
def StoreQuietUptoCardSaid : Prop := Claim7.holds Tryz.pinned (.plain (OpenSpec.upto storeQuietSpec)) storeQuietUptoCard

/-- THE SECOND FORM's CARD OF 'theodolitelaw19.StoreNil'. -/
def storeNilUptoCard : Claim7 := { stood := { row := storeNilUptoRow, standIns := [], harness := (true, "9e72f93791ba32a3700fa9ea1a1f7d87d8f10c52cf1f781a1349f4223e80dcd3"), looks := true }, kinds := [], alts := [], laidByText := true, laidKinds := [.data, .data, .data, .sentinel, .sentinel], laidTests := true, laidLooks := .later }
def StoreNilUptoCardSaid : Prop := Claim7.holds Tryz.pinned (.plain (OpenSpec.upto storeNilSpec)) storeNilUptoCard

/-- THE SECOND FORM's CARD OF 'theodolitelaw19.StoreRuns'. -/
def storeRunsUptoCard : Claim7 := { stood := { row := storeRunsUptoRow, standIns := [], harness := (true, "9e72f93791ba32a3700fa9ea1a1f7d87d8f10c52cf1f781a1349f4223e80dcd3"), looks := true }, kinds := [], alts := [], laidByText := true, laidKinds := [.data, .data, .data, .sentinel, .sentinel], laidTests := true, laidLooks := .later }
def StoreRunsUptoCardSaid : Prop := Claim7.holds Tryz.pinned (.plain (OpenSpec.upto storeRunsSpec)) storeRunsUptoCard
end Rows
end Go.Proofs.YtkjmdgejbcphjaaGreatDoor
