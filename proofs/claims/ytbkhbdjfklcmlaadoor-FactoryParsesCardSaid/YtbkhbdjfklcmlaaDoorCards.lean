/-
  DERIVED. GIVEN WITH THE SEED: THE CARDS: each row of YtbkhbdjfklcmlaaDoorRows.lean that lists a variable, with what it lists TIED to the program's text (the seventh form; the later family's looks); each row that meets fmt, with fmt's text TOLD by the authors' own Lean function (tested against real Go, not proved from fmt's source: count such statements apart). THE CARD IS WHAT COUNTS. Prove the row's statement (the work); the ties are given (YtbkhbdjfklcmlaaDoorTie.lean); close each card by the builder's one call (the guide's Derived/Test/ToyasCard.lean, 'card_holds'). Laid BY PROGRAM, IN A SANDBOX (cutbox-door.mjs). By AI agents, Wed Nov 11 2026. No macro, syntax, notation, axiom, sorry.
-/
import Derived.Test.YtbkhbdjfklcmlaaDoorRows
import GoSem.ClaimSeven
namespace Go.Proofs.YtbkhbdjfklcmlaaDoor
namespace Rows

/-- THE TIED CARD OF 'theodolitelaw12.FactoryParses'. -/
def factoryParsesCard : Claim7 := { stood := { row := factoryParsesRow, standIns := [], harness := (true, "ed9d0dd0cfbec9c7ef14b5b729b193d8ba5ca60f6e64e4b73e673f3b91b563e9"), looks := true }, kinds := [], alts := [], laidByText := true, laidKinds := [.data, .data, .data, .sentinel, .sentinel], laidTests := true, laidLooks := .later }
def FactoryParsesCardSaid : Prop := Claim7.holds Tryd.pinned (.plain (OpenSpec.ofChange factoryParsesSpec)) factoryParsesCard

/-- THE TIED CARD OF 'theodolitelaw12.FactoryPrints'. -/
def factoryPrintsCard : Claim7 := { stood := { row := factoryPrintsRow, standIns := [], harness := (true, "ed9d0dd0cfbec9c7ef14b5b729b193d8ba5ca60f6e64e4b73e673f3b91b563e9"), looks := true }, kinds := [], alts := [], laidByText := true, laidKinds := [.data, .data, .data, .sentinel, .sentinel], laidTests := true, laidLooks := .later }
def FactoryPrintsCardSaid : Prop := Claim7.holds Tryd.pinned (.plain (OpenSpec.ofChange factoryPrintsSpec)) factoryPrintsCard

/-- THE TIED CARD OF 'theodolitelaw12.FactoryRound'. -/
def factoryRoundCard : Claim7 := { stood := { row := factoryRoundRow, standIns := [], harness := (true, "ed9d0dd0cfbec9c7ef14b5b729b193d8ba5ca60f6e64e4b73e673f3b91b563e9"), looks := true }, kinds := [], alts := [], laidByText := true, laidKinds := [.data, .data, .data, .sentinel, .sentinel], laidTests := true, laidLooks := .later }
def FactoryRoundCardSaid : Prop := Claim7.holds Tryd.pinned (.plain (OpenSpec.ofChange factoryRoundSpec)) factoryRoundCard

/-- THE SECOND FORM's CARD OF 'theodolitelaw12.FactoryParses'. -/
def factoryParsesUptoCard : Claim7 := { stood := { row := factoryParsesUptoRow, standIns := [], harness := (true, "ed9d0dd0cfbec9c7ef14b5b729b193d8ba5ca60f6e64e4b73e673f3b91b563e9"), looks := true }, kinds := [], alts := [], laidByText := true, laidKinds := [.data, .data, .data, .sentinel, .sentinel], laidTests := true, laidLooks := .later }
def FactoryParsesUptoCardSaid : Prop := Claim7.holds Tryd.pinned (.plain (OpenSpec.upto factoryParsesSpec)) factoryParsesUptoCard

/-- THE SECOND FORM's CARD OF 'theodolitelaw12.FactoryPrints'. -/
def factoryPrintsUptoCard : Claim7 := { stood := { row := factoryPrintsUptoRow, standIns := [], harness := (true, "ed9d0dd0cfbec9c7ef14b5b729b193d8ba5ca60f6e64e4b73e673f3b91b563e9"), looks := true }, kinds := [], alts := [], laidByText := true, laidKinds := [.data, .data, .data, .sentinel, .sentinel], laidTests := true, laidLooks := .later }
def FactoryPrintsUptoCardSaid : Prop := Claim7.holds Tryd.pinned (.plain (OpenSpec.upto factoryPrintsSpec)) factoryPrintsUptoCard

/-- THE SECOND FORM's CARD OF 'theodolitelaw12.FactoryRound'. -/
def factoryRoundUptoCard : Claim7 := { stood := { row := factoryRoundUptoRow, standIns := [], harness := (true, "ed9d0dd0cfbec9c7ef14b5b729b193d8ba5ca60f6e64e4b73e673f3b91b563e9"), looks := true }, kinds := [], alts := [], laidByText := true, laidKinds := [.data, .data, .data, .sentinel, .sentinel], laidTests := true, laidLooks := .later }
def FactoryRoundUptoCardSaid : Prop := Claim7.holds Tryd.pinned (.plain (OpenSpec.upto factoryRoundSpec)) factoryRoundUptoCard
end Rows
end Go.Proofs.YtbkhbdjfklcmlaaDoor
