/-
  No cell of these rows narrows 'for every input' (looked for: loops, veiled, ifaces, maps, wideKeys, modest, calm, conditions, laid).
  DERIVED. THE GIVEN ROWS OF THIS SEAT. 5 by the template 'for every input the law returns true; each argument reads behind the call as it read before'; 0 by the template 'total and deterministic' (their statements: YtdpehfhhbmmhjaaTotals.lean).
  GIVEN WITH THE SEED: the statements are not yours to turn. If you find one false, say at which input.
  Laid BY PROGRAM, IN A SANDBOX (cutbox-rows.mjs): the forced cells as the released guide's own fill.sh prints them over the translation 206e68896a7ead6e… (all of the seat's roots in one cut). By AI agents, Wed Nov 11 2026. No macro, syntax, notation, axiom, sorry.
-/
import Derived.Test.YtdpehfhhbmmhjaaChecked
import GoSem.Claim
import GoSem.ClaimJoined
import GoSem.ClaimMapViews
import Derived.JoinedTies
import Derived.KernelRfl
namespace Go.Proofs.Ytdpehfhhbmmhjaa
/- THE CELL 'sum', in the pinned program and in every row, IS THE sha256 OF THE DUMP (.gsa) THAT YtdpehfhhbmmhjaaProg.lean LOADS. Nothing in Lean hashes anything: it is a label: what it is worth is what the hold of that sum in a sandbox is worth. -/
noncomputable def Try.pinned : Pinned := { name := "ytdpehfhhbmmhjaa", sum := "206e68896a7ead6e0a776b6332e4b2eea2b3ceee180b1615bdb33d94ef44cd95", checked := Try.checked }
namespace Rows
def none {H : Type} : Left H := { results := [], args := [] }

/-- 'theodolitelaw02.TopkLess': WHATEVER THE INPUT: true; the input reads as it did. -/
def topkLessSpec : ChangeSpec := { name := "topkLess", fn := fun _ => fun
  | [d1, d2, d3] => { results := [.lit (.bool true)], args := [d1, d2, d3] }
  | _ => none }
def topkLessRow : OpenClaim := { program := "ytdpehfhhbmmhjaa", sum := "206e68896a7ead6e0a776b6332e4b2eea2b3ceee180b1615bdb33d94ef44cd95", func := "theodolite/theodolitelaw02.TopkLess", spec := "topkLess", unfollowed := true, recurses := true, apart := false }
def TopkLessSaid : Prop := topkLessRow.holds Try.pinned (OpenSpec.ofChange topkLessSpec)

/-- ITS FALSE NEIGHBOUR: 'it returns false'. Refute it at one input. -/
def topkLessWrong : ChangeSpec := { name := "topkLess", fn := fun _ => fun
  | [d1, d2, d3] => { results := [.lit (.bool false)], args := [d1, d2, d3] }
  | _ => none }
def TopkLessWrongFalsely : Prop := topkLessRow.holds Try.pinned (OpenSpec.ofChange topkLessWrong)

/-- 'theodolitelaw02.TopkMerges': WHATEVER THE INPUT: true; the input reads as it did. -/
def topkMergesSpec : ChangeSpec := { name := "topkMerges", fn := fun _ => fun
  | [d1, d2] => { results := [.lit (.bool true)], args := [d1, d2] }
  | _ => none }
def topkMergesRow : OpenClaim := { program := "ytdpehfhhbmmhjaa", sum := "206e68896a7ead6e0a776b6332e4b2eea2b3ceee180b1615bdb33d94ef44cd95", func := "theodolite/theodolitelaw02.TopkMerges", spec := "topkMerges", unfollowed := true, recurses := true, apart := false }
def TopkMergesSaid : Prop := topkMergesRow.holds Try.pinned (OpenSpec.ofChange topkMergesSpec)

/-- ITS FALSE NEIGHBOUR: 'it returns false'. Refute it at one input. -/
def topkMergesWrong : ChangeSpec := { name := "topkMerges", fn := fun _ => fun
  | [d1, d2] => { results := [.lit (.bool false)], args := [d1, d2] }
  | _ => none }
def TopkMergesWrongFalsely : Prop := topkMergesRow.holds Try.pinned (OpenSpec.ofChange topkMergesWrong)

/-- 'theodolitelaw02.TopkOrder': WHATEVER THE INPUT: true; the input reads as it did. -/
def topkOrderSpec : ChangeSpec := { name := "topkOrder", fn := fun _ => fun
  | [d1, d2, d3] => { results := [.lit (.bool true)], args := [d1, d2, d3] }
  | _ => none }
def topkOrderRow : OpenClaim := { program := "ytdpehfhhbmmhjaa", sum := "206e68896a7ead6e0a776b6332e4b2eea2b3ceee180b1615bdb33d94ef44cd95", func := "theodolite/theodolitelaw02.TopkOrder", spec := "topkOrder", unfollowed := true, recurses := true, apart := false }
def TopkOrderSaid : Prop := topkOrderRow.holds Try.pinned (OpenSpec.ofChange topkOrderSpec)

/-- ITS FALSE NEIGHBOUR: 'it returns false'. Refute it at one input. -/
def topkOrderWrong : ChangeSpec := { name := "topkOrder", fn := fun _ => fun
  | [d1, d2, d3] => { results := [.lit (.bool false)], args := [d1, d2, d3] }
  | _ => none }
def TopkOrderWrongFalsely : Prop := topkOrderRow.holds Try.pinned (OpenSpec.ofChange topkOrderWrong)

/-- 'theodolitelaw02.TopkOffers': WHATEVER THE INPUT: true; the input reads as it did. -/
def topkOffersSpec : ChangeSpec := { name := "topkOffers", fn := fun _ => fun
  | [d1, d2] => { results := [.lit (.bool true)], args := [d1, d2] }
  | _ => none }
def topkOffersRow : OpenClaim := { program := "ytdpehfhhbmmhjaa", sum := "206e68896a7ead6e0a776b6332e4b2eea2b3ceee180b1615bdb33d94ef44cd95", func := "theodolite/theodolitelaw02.TopkOffers", spec := "topkOffers", unfollowed := true, recurses := true, apart := false }
def TopkOffersSaid : Prop := topkOffersRow.holds Try.pinned (OpenSpec.ofChange topkOffersSpec)

/-- ITS FALSE NEIGHBOUR: 'it returns false'. Refute it at one input. -/
def topkOffersWrong : ChangeSpec := { name := "topkOffers", fn := fun _ => fun
  | [d1, d2] => { results := [.lit (.bool false)], args := [d1, d2] }
  | _ => none }
def TopkOffersWrongFalsely : Prop := topkOffersRow.holds Try.pinned (OpenSpec.ofChange topkOffersWrong)

/-- 'theodolitelaw02.TopkNil': WHATEVER THE INPUT: true; the input reads as it did. -/
def topkNilSpec : ChangeSpec := { name := "topkNil", fn := fun _ => fun
  | [d] => { results := [.lit (.bool true)], args := [d] }
  | _ => none }
def topkNilRow : OpenClaim := { program := "ytdpehfhhbmmhjaa", sum := "206e68896a7ead6e0a776b6332e4b2eea2b3ceee180b1615bdb33d94ef44cd95", func := "theodolite/theodolitelaw02.TopkNil", spec := "topkNil", unfollowed := true, recurses := true, apart := false }
def TopkNilSaid : Prop := topkNilRow.holds Try.pinned (OpenSpec.ofChange topkNilSpec)

/-- ITS FALSE NEIGHBOUR: 'it returns false'. Refute it at one input. -/
def topkNilWrong : ChangeSpec := { name := "topkNil", fn := fun _ => fun
  | [d] => { results := [.lit (.bool false)], args := [d] }
  | _ => none }
def TopkNilWrongFalsely : Prop := topkNilRow.holds Try.pinned (OpenSpec.ofChange topkNilWrong)

/- THE SECOND FORM. 'bulk': how many values and letters a reading holds, each counted each time it is reached (what is shared counts as often as it is met; a slice's spare places count too). A statement '..UptoSaid' is the law's where the arguments, and the package variables that the reading takes, are together of bulk at most 1048576: NARROWER than '..Said'. Prove '..Said' where nothing that the law and all that it calls make is longer than what came in: it says more and counts as full. Else prove '..UptoSaid'. A law counts once. -/
mutual
def uptoBulk {H : Type} : DataW H → Nat
  | .lit (.string bytes) => bytes.length + 1
  | .lit _ => 1
  | .nil => 1
  | .ptr d => uptoBulk d + 1
  | .slice elems spare => uptoBulkAll elems + uptoBulkAll spare + 1
  | .agg parts => uptoBulkAll parts + 1
  | .iface _ d => uptoBulk d + 1
  | .map entries => uptoBulkEntries entries + 1
  | .held _ => 1
def uptoBulkAll {H : Type} : List (DataW H) → Nat
  | [] => 0
  | d :: r => uptoBulk d + uptoBulkAll r
def uptoBulkEntries {H : Type} : List (Lit × DataW H) → Nat
  | [] => 0
  | x :: r => uptoBulkEntry x + uptoBulkEntries r
def uptoBulkEntry {H : Type} : Lit × DataW H → Nat
  | (.string bytes, d) => bytes.length + uptoBulk d + 1
  | (_, d) => uptoBulk d + 1
 end
def uptoSmall : (H : Type) → List (DataW H) → Bool := fun _ ds => decide (uptoBulkAll ds ≤ 1048576)
def OpenSpec.upto (s : _root_.Go.ChangeSpec) : _root_.Go.OpenSpec := { _root_.Go.OpenSpec.ofChange s with cond := some uptoSmall }

/-- 'theodolitelaw02.TopkLess', WHERE WHAT IT READS IS OF BULK AT MOST 1048576: true; the input reads as it did. -/
def topkLessUptoRow : OpenClaim := { program := "ytdpehfhhbmmhjaa", sum := "206e68896a7ead6e0a776b6332e4b2eea2b3ceee180b1615bdb33d94ef44cd95", func := "theodolite/theodolitelaw02.TopkLess", spec := "topkLess", unfollowed := true, recurses := true, apart := false, narrowed := true }
def TopkLessUptoSaid : Prop := topkLessUptoRow.holds Try.pinned (OpenSpec.upto topkLessSpec)

/-- 'theodolitelaw02.TopkMerges', WHERE WHAT IT READS IS OF BULK AT MOST 1048576: true; the input reads as it did. -/
def topkMergesUptoRow : OpenClaim := { program := "ytdpehfhhbmmhjaa", sum := "206e68896a7ead6e0a776b6332e4b2eea2b3ceee180b1615bdb33d94ef44cd95", func := "theodolite/theodolitelaw02.TopkMerges", spec := "topkMerges", unfollowed := true, recurses := true, apart := false, narrowed := true }
def TopkMergesUptoSaid : Prop := topkMergesUptoRow.holds Try.pinned (OpenSpec.upto topkMergesSpec)

/-- 'theodolitelaw02.TopkOrder', WHERE WHAT IT READS IS OF BULK AT MOST 1048576: true; the input reads as it did. -/
def topkOrderUptoRow : OpenClaim := { program := "ytdpehfhhbmmhjaa", sum := "206e68896a7ead6e0a776b6332e4b2eea2b3ceee180b1615bdb33d94ef44cd95", func := "theodolite/theodolitelaw02.TopkOrder", spec := "topkOrder", unfollowed := true, recurses := true, apart := false, narrowed := true }
def TopkOrderUptoSaid : Prop := topkOrderUptoRow.holds Try.pinned (OpenSpec.upto topkOrderSpec)

/-- 'theodolitelaw02.TopkOffers', WHERE WHAT IT READS IS OF BULK AT MOST 1048576: true; the input reads as it did. -/
def topkOffersUptoRow : OpenClaim := { program := "ytdpehfhhbmmhjaa", sum := "206e68896a7ead6e0a776b6332e4b2eea2b3ceee180b1615bdb33d94ef44cd95", func := "theodolite/theodolitelaw02.TopkOffers", spec := "topkOffers", unfollowed := true, recurses := true, apart := false, narrowed := true }
def TopkOffersUptoSaid : Prop := topkOffersUptoRow.holds Try.pinned (OpenSpec.upto topkOffersSpec)

/-- 'theodolitelaw02.TopkNil', WHERE WHAT IT READS IS OF BULK AT MOST 1048576: true; the input reads as it did. -/
def topkNilUptoRow : OpenClaim := { program := "ytdpehfhhbmmhjaa", sum := "206e68896a7ead6e0a776b6332e4b2eea2b3ceee180b1615bdb33d94ef44cd95", func := "theodolite/theodolitelaw02.TopkNil", spec := "topkNil", unfollowed := true, recurses := true, apart := false, narrowed := true }
def TopkNilUptoSaid : Prop := topkNilUptoRow.holds Try.pinned (OpenSpec.upto topkNilSpec)

end Rows
end Go.Proofs.Ytdpehfhhbmmhjaa
