/-
  DERIVED. GIVEN WITH THE SEED: THE CARDS: each row of YtkmmkfiekamgpaaGreatDoorRows.lean that lists a variable, with what it lists TIED to the program's text (the seventh form; the later family's looks); each row that meets fmt, with fmt's text TOLD by the authors' own Lean function (tested against real Go, not proved from fmt's source: count such statements apart). THE CARD IS WHAT COUNTS. Prove the row's statement (the work); the ties are given (YtkmmkfiekamgpaaGreatDoorTie.lean); close each card by the builder's one call (the guide's Derived/Test/ToyasCard.lean, 'card_holds'). Laid BY PROGRAM, IN A SANDBOX (cutbox-door.mjs). By AI agents, Wed Nov 11 2026. No macro, syntax, notation, axiom, sorry.
-/
import Derived.Test.YtkmmkfiekamgpaaGreatDoorRows
import GoSem.ClaimSeven
namespace Go.Proofs.YtkmmkfiekamgpaaGreatDoor
namespace Rows

/-- THE TIED CARD OF 'theodolitelaw22.HttpPrints'. -/
def httpPrintsCard : Claim7 := { stood := { row := httpPrintsRow, standIns := [], harness := (true, "ac133a3cdc6a18d487190c06acaa73ad93228a92e246e35c30d3ef264efad7b9"), looks := true }, kinds := [], alts := [], laidByText := true, laidKinds := [.data, .data, .data, .data, .sentinel, .sentinel, .pinned, .pinned], laidTests := true, laidLooks := .later }
def HttpPrintsCardSaid : Prop := Claim7.holds Tryz.pinned (.plain (OpenSpec.ofChange httpPrintsSpec)) httpPrintsCard

/-- THE TIED CARD OF 'theodolitelaw22.HttpRound'. -/
def httpRoundCard : Claim7 := { stood := { row := httpRoundRow, standIns := [], harness := (true, "ac133a3cdc6a18d487190c06acaa73ad93228a92e246e35c30d3ef264efad7b9"), looks := true }, kinds := [], alts := [], laidByText := true, laidKinds := [.data, .data, .data, .data, .sentinel, .sentinel, .pinned, .pinned], laidTests := true, laidLooks := .later }
def HttpRoundCardSaid : Prop := Claim7.holds Tryz.pinned (.plain (OpenSpec.ofChange httpRoundSpec)) httpRoundCard

/-- THE TIED CARD OF 'theodolitelaw22.HttpFields'. -/
def httpFieldsCard : Claim7 := { stood := { row := httpFieldsRow, standIns := [], harness := (true, "ac133a3cdc6a18d487190c06acaa73ad93228a92e246e35c30d3ef264efad7b9"), looks := true }, kinds := [], alts := [], laidByText := true, laidKinds := [.data, .data, .data, .data, .sentinel, .sentinel, .pinned, .pinned], laidTests := true, laidLooks := .later }
def HttpFieldsCardSaid : Prop := Claim7.holds Tryz.pinned (.plain (OpenSpec.ofChange httpFieldsSpec)) httpFieldsCard

/-- THE TIED CARD OF 'theodolitelaw22.HttpFeeds'. -/
def httpFeedsCard : Claim7 := { stood := { row := httpFeedsRow, standIns := [], harness := (true, "ac133a3cdc6a18d487190c06acaa73ad93228a92e246e35c30d3ef264efad7b9"), looks := true }, kinds := [], alts := [], laidByText := true, laidKinds := [.data, .data, .data, .data, .sentinel, .sentinel, .pinned, .pinned], laidTests := true, laidLooks := .later }
def HttpFeedsCardSaid : Prop := Claim7.holds Tryz.pinned (.plain (OpenSpec.ofChange httpFeedsSpec)) httpFeedsCard

/-- THE TIED CARD OF 'theodolitelaw22.HttpParts'. -/
def httpPartsCard : Claim7 := { stood := { row := httpPartsRow, standIns := [], harness := (true, "ac133a3cdc6a18d487190c06acaa73ad93228a92e246e35c30d3ef264efad7b9"), looks := true }, kinds := [], alts := [], laidByText := true, laidKinds := [.data, .data, .data, .data, .sentinel, .sentinel, .pinned, .pinned], laidTests := true, laidLooks := .later }
def HttpPartsCardSaid : Prop := Claim7.holds Tryz.pinned (.plain (OpenSpec.ofChange httpPartsSpec)) httpPartsCard

/-- THE TIED CARD OF 'theodolitelaw22.HttpNil'. -/
def httpNilCard : Claim7 := { stood := { row := httpNilRow, standIns := [], harness := (true, "ac133a3cdc6a18d487190c06acaa73ad93228a92e246e35c30d3ef264efad7b9"), looks := true }, kinds := [], alts := [], laidByText := true, laidKinds := [.data, .data, .data, .data, .sentinel, .sentinel, .pinned, .pinned], laidTests := true, laidLooks := .later }
def HttpNilCardSaid : Prop := Claim7.holds Tryz.pinned (.plain (OpenSpec.ofChange httpNilSpec)) httpNilCard

/-- THE SECOND FORM's CARD OF 'theodolitelaw22.HttpPrints'. -/
def httpPrintsUptoCard : Claim7 := { stood := { row := httpPrintsUptoRow, standIns := [], harness := (true, "ac133a3cdc6a18d487190c06acaa73ad93228a92e246e35c30d3ef264efad7b9"), looks := true }, kinds := [], alts := [], laidByText := true, laidKinds := [.data, .data, .data, .data, .sentinel, .sentinel, .pinned, .pinned], laidTests := true, laidLooks := .later }
def HttpPrintsUptoCardSaid : Prop := Claim7.holds Tryz.pinned (.plain (OpenSpec.upto httpPrintsSpec)) httpPrintsUptoCard

/-- THE SECOND FORM's CARD OF 'theodolitelaw22.HttpRound'. -/
def httpRoundUptoCard : Claim7 := { stood := { row := httpRoundUptoRow, standIns := [], harness := (true, "ac133a3cdc6a18d487190c06acaa73ad93228a92e246e35c30d3ef264efad7b9"), looks := true }, kinds := [], alts := [], laidByText := true, laidKinds := [.data, .data, .data, .data, .sentinel, .sentinel, .pinned, .pinned], laidTests := true, laidLooks := .later }
def HttpRoundUptoCardSaid : Prop := Claim7.holds Tryz.pinned (.plain (OpenSpec.upto httpRoundSpec)) httpRoundUptoCard

/-- THE SECOND FORM's CARD OF 'theodolitelaw22.HttpFields'. -/
def httpFieldsUptoCard : Claim7 := { stood := { row := httpFieldsUptoRow, standIns := [], harness := (true, "ac133a3cdc6a18d487190c06acaa73ad93228a92e246e35c30d3ef264efad7b9"), looks := true }, kinds := [], alts := [], laidByText := true, laidKinds := [.data, .data, .data, .data, .sentinel, .sentinel, .pinned, .pinned], laidTests := true, laidLooks := .later }
def HttpFieldsUptoCardSaid : Prop := Claim7.holds Tryz.pinned (.plain (OpenSpec.upto httpFieldsSpec)) httpFieldsUptoCard

/-- THE SECOND FORM's CARD OF 'theodolitelaw22.HttpFeeds'. -/
def httpFeedsUptoCard : Claim7 := { stood := { row := httpFeedsUptoRow, standIns := [], harness := (true, "ac133a3cdc6a18d487190c06acaa73ad93228a92e246e35c30d3ef264efad7b9"), looks := true }, kinds := [], alts := [], laidByText := true, laidKinds := [.data, .data, .data, .data, .sentinel, .sentinel, .pinned, .pinned], laidTests := true, laidLooks := .later }
def HttpFeedsUptoCardSaid : Prop := Claim7.holds Tryz.pinned (.plain (OpenSpec.upto httpFeedsSpec)) httpFeedsUptoCard

/-- THE SECOND FORM's CARD OF 'theodolitelaw22.HttpParts'. -/
def httpPartsUptoCard : Claim7 := { stood := { row := httpPartsUptoRow, standIns := [], harness := (true, "ac133a3cdc6a18d487190c06acaa73ad93228a92e246e35c30d3ef264efad7b9"), looks := true }, kinds := [], alts := [], laidByText := true, laidKinds := [.data, .data, .data, .data, .sentinel, .sentinel, .pinned, .pinned], laidTests := true, laidLooks := .later }
def HttpPartsUptoCardSaid : Prop := Claim7.holds Tryz.pinned (.plain (OpenSpec.upto httpPartsSpec)) httpPartsUptoCard

/-- THE SECOND FORM's CARD OF 'theodolitelaw22.HttpNil'. -/
def httpNilUptoCard : Claim7 := { stood := { row := httpNilUptoRow, standIns := [], harness := (true, "ac133a3cdc6a18d487190c06acaa73ad93228a92e246e35c30d3ef264efad7b9"), looks := true }, kinds := [], alts := [], laidByText := true, laidKinds := [.data, .data, .data, .data, .sentinel, .sentinel, .pinned, .pinned], laidTests := true, laidLooks := .later }
def HttpNilUptoCardSaid : Prop := Claim7.holds Tryz.pinned (.plain (OpenSpec.upto httpNilSpec)) httpNilUptoCard
end Rows
end Go.Proofs.YtkmmkfiekamgpaaGreatDoor
