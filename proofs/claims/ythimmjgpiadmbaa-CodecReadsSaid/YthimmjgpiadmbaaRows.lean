/-
  No cell of these rows narrows 'for every input' (looked for: loops, veiled, ifaces, maps, wideKeys, modest, calm, conditions, laid).
  DERIVED. THE GIVEN ROWS OF THIS SEAT. 5 by the template 'for every input the law returns true; each argument reads behind the call as it read before'; 0 by the template 'total and deterministic' (their statements: YthimmjgpiadmbaaTotals.lean).
  GIVEN WITH THE SEED: the statements are not yours to turn. If you find one false, say at which input.
  Laid BY PROGRAM, IN A SANDBOX (cutbox-rows.mjs): the forced cells as the released guide's own fill.sh prints them over the translation 1136a0dfdbb860a4… (all of the seat's roots in one cut). By AI agents, Wed Nov 11 2026. No macro, syntax, notation, axiom, sorry.
-/
import Derived.Test.YthimmjgpiadmbaaChecked
import GoSem.Claim
import GoSem.ClaimJoined
import GoSem.ClaimMapViews
import Derived.JoinedTies
import Derived.KernelRfl
namespace Go.Proofs.Ythimmjgpiadmbaa
/- THE CELL 'sum', in the pinned program and in every row, IS THE sha256 OF THE DUMP (.gsa) THAT YthimmjgpiadmbaaProg.lean LOADS. Nothing in Lean hashes anything: it is a label: what it is worth is what the hold of that sum in a sandbox is worth. -/
noncomputable def Try.pinned : Pinned := { name := "ythimmjgpiadmbaa", sum := "1136a0dfdbb860a4e93f992582d8d4b25d961e7d0f734d9c38794a2fa53124ac", checked := Try.checked }
namespace Rows
def none {H : Type} : Left H := { results := [], args := [] }

/-- 'theodolitelaw16.CodecRecords': WHATEVER THE INPUT: true; the input reads as it did. -/
def codecRecordsSpec : ChangeSpec := { name := "codecRecords", fn := fun _ => fun
  | [d1, d2, d3] => { results := [.lit (.bool true)], args := [d1, d2, d3] }
  | _ => none }
def codecRecordsRow : OpenClaim := { program := "ythimmjgpiadmbaa", sum := "1136a0dfdbb860a4e93f992582d8d4b25d961e7d0f734d9c38794a2fa53124ac", func := "theodolite/theodolitelaw16.CodecRecords", spec := "codecRecords", unfollowed := true, recurses := true, apart := false }
def CodecRecordsSaid : Prop := codecRecordsRow.holds Try.pinned (OpenSpec.ofChange codecRecordsSpec)

/-- ITS FALSE NEIGHBOUR: 'it returns false'. Refute it at one input. -/
def codecRecordsWrong : ChangeSpec := { name := "codecRecords", fn := fun _ => fun
  | [d1, d2, d3] => { results := [.lit (.bool false)], args := [d1, d2, d3] }
  | _ => none }
def CodecRecordsWrongFalsely : Prop := codecRecordsRow.holds Try.pinned (OpenSpec.ofChange codecRecordsWrong)

/-- 'theodolitelaw16.CodecTexts': WHATEVER THE INPUT: true; the input reads as it did. -/
def codecTextsSpec : ChangeSpec := { name := "codecTexts", fn := fun _ => fun
  | [d1, d2] => { results := [.lit (.bool true)], args := [d1, d2] }
  | _ => none }
def codecTextsRow : OpenClaim := { program := "ythimmjgpiadmbaa", sum := "1136a0dfdbb860a4e93f992582d8d4b25d961e7d0f734d9c38794a2fa53124ac", func := "theodolite/theodolitelaw16.CodecTexts", spec := "codecTexts", unfollowed := true, recurses := true, apart := false }
def CodecTextsSaid : Prop := codecTextsRow.holds Try.pinned (OpenSpec.ofChange codecTextsSpec)

/-- ITS FALSE NEIGHBOUR: 'it returns false'. Refute it at one input. -/
def codecTextsWrong : ChangeSpec := { name := "codecTexts", fn := fun _ => fun
  | [d1, d2] => { results := [.lit (.bool false)], args := [d1, d2] }
  | _ => none }
def CodecTextsWrongFalsely : Prop := codecTextsRow.holds Try.pinned (OpenSpec.ofChange codecTextsWrong)

/-- 'theodolitelaw16.CodecSpoilt': WHATEVER THE INPUT: true; the input reads as it did. -/
def codecSpoiltSpec : ChangeSpec := { name := "codecSpoilt", fn := fun _ => fun
  | [d1, d2, d3, d4, d5] => { results := [.lit (.bool true)], args := [d1, d2, d3, d4, d5] }
  | _ => none }
def codecSpoiltRow : OpenClaim := { program := "ythimmjgpiadmbaa", sum := "1136a0dfdbb860a4e93f992582d8d4b25d961e7d0f734d9c38794a2fa53124ac", func := "theodolite/theodolitelaw16.CodecSpoilt", spec := "codecSpoilt", unfollowed := true, recurses := true, apart := false }
def CodecSpoiltSaid : Prop := codecSpoiltRow.holds Try.pinned (OpenSpec.ofChange codecSpoiltSpec)

/-- ITS FALSE NEIGHBOUR: 'it returns false'. Refute it at one input. -/
def codecSpoiltWrong : ChangeSpec := { name := "codecSpoilt", fn := fun _ => fun
  | [d1, d2, d3, d4, d5] => { results := [.lit (.bool false)], args := [d1, d2, d3, d4, d5] }
  | _ => none }
def CodecSpoiltWrongFalsely : Prop := codecSpoiltRow.holds Try.pinned (OpenSpec.ofChange codecSpoiltWrong)

/-- 'theodolitelaw16.CodecReads': WHATEVER THE INPUT: true; the input reads as it did. -/
def codecReadsSpec : ChangeSpec := { name := "codecReads", fn := fun _ => fun
  | [d] => { results := [.lit (.bool true)], args := [d] }
  | _ => none }
def codecReadsRow : OpenClaim := { program := "ythimmjgpiadmbaa", sum := "1136a0dfdbb860a4e93f992582d8d4b25d961e7d0f734d9c38794a2fa53124ac", func := "theodolite/theodolitelaw16.CodecReads", spec := "codecReads", unfollowed := true, recurses := true, apart := false }
def CodecReadsSaid : Prop := codecReadsRow.holds Try.pinned (OpenSpec.ofChange codecReadsSpec)

/-- ITS FALSE NEIGHBOUR: 'it returns false'. Refute it at one input. -/
def codecReadsWrong : ChangeSpec := { name := "codecReads", fn := fun _ => fun
  | [d] => { results := [.lit (.bool false)], args := [d] }
  | _ => none }
def CodecReadsWrongFalsely : Prop := codecReadsRow.holds Try.pinned (OpenSpec.ofChange codecReadsWrong)

/-- 'theodolitelaw16.CodecRound': WHATEVER THE INPUT: true; the input reads as it did. -/
def codecRoundSpec : ChangeSpec := { name := "codecRound", fn := fun _ => fun
  | [d1, d2, d3, d4] => { results := [.lit (.bool true)], args := [d1, d2, d3, d4] }
  | _ => none }
def codecRoundRow : OpenClaim := { program := "ythimmjgpiadmbaa", sum := "1136a0dfdbb860a4e93f992582d8d4b25d961e7d0f734d9c38794a2fa53124ac", func := "theodolite/theodolitelaw16.CodecRound", spec := "codecRound", unfollowed := true, recurses := true, apart := false }
def CodecRoundSaid : Prop := codecRoundRow.holds Try.pinned (OpenSpec.ofChange codecRoundSpec)

/-- ITS FALSE NEIGHBOUR: 'it returns false'. Refute it at one input. -/
def codecRoundWrong : ChangeSpec := { name := "codecRound", fn := fun _ => fun
  | [d1, d2, d3, d4] => { results := [.lit (.bool false)], args := [d1, d2, d3, d4] }
  | _ => none }
def CodecRoundWrongFalsely : Prop := codecRoundRow.holds Try.pinned (OpenSpec.ofChange codecRoundWrong)

/- THE SECOND FORM. 'bulk': how many values and letters a reading holds, each counted each time it is reached (what is shared counts as often as it is met; a slice's spare places count too). A statement '..UptoSaid' is the law's where the arguments, and the package variables that the reading takes, are together of bulk at most 1048576: NARROWER than '..Said'. Prove '..Said' where nothing that the law and all that it calls make is longer than what came in: it says more and counts as full. Else prove '..UptoSaid'. A law counts once. -/
mutual
def uptoBulk {H : Type} : DataW H → Nat
  | .lit (.string bytes) => bytes.length + 1
  | .lit _ => 1
  | .nil => 1
  | .ptr d => uptoBulk d + 1
  | .slice elems spare => uptoBulkAll elems + uptoBulkAll spare + 1
  | .agg parts => uptoBulkAll parts + 1
  | .iface _ d => uptoBulk d + 1
  | .map entries => uptoBulkEntries entries + 1
  | .held _ => 1
def uptoBulkAll {H : Type} : List (DataW H) → Nat
  | [] => 0
  | d :: r => uptoBulk d + uptoBulkAll r
def uptoBulkEntries {H : Type} : List (Lit × DataW H) → Nat
  | [] => 0
  | x :: r => uptoBulkEntry x + uptoBulkEntries r
def uptoBulkEntry {H : Type} : Lit × DataW H → Nat
  | (.string bytes, d) => bytes.length + uptoBulk d + 1
  | (_, d) => uptoBulk d + 1
 end
def uptoSmall : (H : Type) → List (DataW H) → Bool := fun _ ds => decide (uptoBulkAll ds ≤ 1048576)
def OpenSpec.upto (s : _root_.Go.ChangeSpec) : _root_.Go.OpenSpec := { _root_.Go.OpenSpec.ofChange s with cond := some uptoSmall }

/-- 'theodolitelaw16.CodecRecords', WHERE WHAT IT READS IS OF BULK AT MOST 1048576: true; the input reads as it did. -/
def codecRecordsUptoRow : OpenClaim := { program := "ythimmjgpiadmbaa", sum := "1136a0dfdbb860a4e93f992582d8d4b25d961e7d0f734d9c38794a2fa53124ac", func := "theodolite/theodolitelaw16.CodecRecords", spec := "codecRecords", unfollowed := true, recurses := true, apart := false, narrowed := true }
def CodecRecordsUptoSaid : Prop := codecRecordsUptoRow.holds Try.pinned (OpenSpec.upto codecRecordsSpec)

/-- 'theodolitelaw16.CodecTexts', WHERE WHAT IT READS IS OF BULK AT MOST 1048576: true; the input reads as it did. -/
def codecTextsUptoRow : OpenClaim := { program := "ythimmjgpiadmbaa", sum := "1136a0dfdbb860a4e93f992582d8d4b25d961e7d0f734d9c38794a2fa53124ac", func := "theodolite/theodolitelaw16.CodecTexts", spec := "codecTexts", unfollowed := true, recurses := true, apart := false, narrowed := true }
def CodecTextsUptoSaid : Prop := codecTextsUptoRow.holds Try.pinned (OpenSpec.upto codecTextsSpec)

/-- 'theodolitelaw16.CodecSpoilt', WHERE WHAT IT READS IS OF BULK AT MOST 1048576: true; the input reads as it did. -/
def codecSpoiltUptoRow : OpenClaim := { program := "ythimmjgpiadmbaa", sum := "1136a0dfdbb860a4e93f992582d8d4b25d961e7d0f734d9c38794a2fa53124ac", func := "theodolite/theodolitelaw16.CodecSpoilt", spec := "codecSpoilt", unfollowed := true, recurses := true, apart := false, narrowed := true }
def CodecSpoiltUptoSaid : Prop := codecSpoiltUptoRow.holds Try.pinned (OpenSpec.upto codecSpoiltSpec)

/-- 'theodolitelaw16.CodecReads', WHERE WHAT IT READS IS OF BULK AT MOST 1048576: true; the input reads as it did. -/
def codecReadsUptoRow : OpenClaim := { program := "ythimmjgpiadmbaa", sum := "1136a0dfdbb860a4e93f992582d8d4b25d961e7d0f734d9c38794a2fa53124ac", func := "theodolite/theodolitelaw16.CodecReads", spec := "codecReads", unfollowed := true, recurses := true, apart := false, narrowed := true }
def CodecReadsUptoSaid : Prop := codecReadsUptoRow.holds Try.pinned (OpenSpec.upto codecReadsSpec)

/-- 'theodolitelaw16.CodecRound', WHERE WHAT IT READS IS OF BULK AT MOST 1048576: true; the input reads as it did. -/
def codecRoundUptoRow : OpenClaim := { program := "ythimmjgpiadmbaa", sum := "1136a0dfdbb860a4e93f992582d8d4b25d961e7d0f734d9c38794a2fa53124ac", func := "theodolite/theodolitelaw16.CodecRound", spec := "codecRound", unfollowed := true, recurses := true, apart := false, narrowed := true }
def CodecRoundUptoSaid : Prop := codecRoundUptoRow.holds Try.pinned (OpenSpec.upto codecRoundSpec)

end Rows
end Go.Proofs.Ythimmjgpiadmbaa
