/-
  No cell of these rows narrows 'for every input' (looked for: loops, veiled, ifaces, maps, wideKeys, modest, calm, conditions, laid).
  DERIVED. THE GIVEN ROWS OF THIS SEAT. 8 by the template 'for every input the law returns true; each argument reads behind the call as it read before'; 0 by the template 'total and deterministic' (their statements: YtmaocfcjbabelaaTotals.lean).
  GIVEN WITH THE SEED: the statements are not yours to turn. If you find one false, say at which input.
  Laid BY PROGRAM, IN A SANDBOX (cutbox-rows.mjs): the forced cells as the released guide's own fill.sh prints them over the translation a6bb06d0759e04fd… (all of the seat's roots in one cut). By AI agents, Wed Nov 11 2026. No macro, syntax, notation, axiom, sorry.
-/
import Derived.Test.YtmaocfcjbabelaaChecked
import GoSem.Claim
import GoSem.ClaimJoined
import GoSem.ClaimMapViews
import Derived.JoinedTies
import Derived.KernelRfl
namespace Go.Proofs.Ytmaocfcjbabelaa
/- THE CELL 'sum', in the pinned program and in every row, IS THE sha256 OF THE DUMP (.gsa) THAT YtmaocfcjbabelaaProg.lean LOADS. Nothing in Lean hashes anything: it is a label: what it is worth is what the hold of that sum in a sandbox is worth. -/
noncomputable def Try.pinned : Pinned := { name := "ytmaocfcjbabelaa", sum := "a6bb06d0759e04fd6a937ec505e963aea6b812197dca8571aa85338aec042cd9", checked := Try.checked }
namespace Rows
def none {H : Type} : Left H := { results := [], args := [] }

/-- 'theodolitelaw03.VecDists': WHATEVER THE INPUT: true; the input reads as it did. -/
def vecDistsSpec : ChangeSpec := { name := "vecDists", fn := fun _ => fun
  | [d1, d2, d3] => { results := [.lit (.bool true)], args := [d1, d2, d3] }
  | _ => none }
def vecDistsRow : OpenClaim := { program := "ytmaocfcjbabelaa", sum := "a6bb06d0759e04fd6a937ec505e963aea6b812197dca8571aa85338aec042cd9", func := "theodolite/theodolitelaw03.VecDists", spec := "vecDists", inPlace := ["math/bits.Add64"], unfollowed := true, recurses := true, apart := false }
def VecDistsSaid : Prop := vecDistsRow.holds Try.pinned (OpenSpec.ofChange vecDistsSpec)

/-- ITS FALSE NEIGHBOUR: 'it returns false'. Refute it at one input. -/
def vecDistsWrong : ChangeSpec := { name := "vecDists", fn := fun _ => fun
  | [d1, d2, d3] => { results := [.lit (.bool false)], args := [d1, d2, d3] }
  | _ => none }
def VecDistsWrongFalsely : Prop := vecDistsRow.holds Try.pinned (OpenSpec.ofChange vecDistsWrong)

/-- 'theodolitelaw03.VecRegions': WHATEVER THE INPUT: true; the input reads as it did. -/
def vecRegionsSpec : ChangeSpec := { name := "vecRegions", fn := fun _ => fun
  | [d1, d2, d3] => { results := [.lit (.bool true)], args := [d1, d2, d3] }
  | _ => none }
def vecRegionsRow : OpenClaim := { program := "ytmaocfcjbabelaa", sum := "a6bb06d0759e04fd6a937ec505e963aea6b812197dca8571aa85338aec042cd9", func := "theodolite/theodolitelaw03.VecRegions", spec := "vecRegions", inPlace := ["math/bits.Add64"], unfollowed := true, recurses := true, apart := false }
def VecRegionsSaid : Prop := vecRegionsRow.holds Try.pinned (OpenSpec.ofChange vecRegionsSpec)

/-- ITS FALSE NEIGHBOUR: 'it returns false'. Refute it at one input. -/
def vecRegionsWrong : ChangeSpec := { name := "vecRegions", fn := fun _ => fun
  | [d1, d2, d3] => { results := [.lit (.bool false)], args := [d1, d2, d3] }
  | _ => none }
def VecRegionsWrongFalsely : Prop := vecRegionsRow.holds Try.pinned (OpenSpec.ofChange vecRegionsWrong)

/-- 'theodolitelaw03.VecBounds': WHATEVER THE INPUT: true; the input reads as it did. -/
def vecBoundsSpec : ChangeSpec := { name := "vecBounds", fn := fun _ => fun
  | [d1, d2, d3] => { results := [.lit (.bool true)], args := [d1, d2, d3] }
  | _ => none }
def vecBoundsRow : OpenClaim := { program := "ytmaocfcjbabelaa", sum := "a6bb06d0759e04fd6a937ec505e963aea6b812197dca8571aa85338aec042cd9", func := "theodolite/theodolitelaw03.VecBounds", spec := "vecBounds", inPlace := ["math/bits.Add64"], unfollowed := true, recurses := true, apart := false }
def VecBoundsSaid : Prop := vecBoundsRow.holds Try.pinned (OpenSpec.ofChange vecBoundsSpec)

/-- ITS FALSE NEIGHBOUR: 'it returns false'. Refute it at one input. -/
def vecBoundsWrong : ChangeSpec := { name := "vecBounds", fn := fun _ => fun
  | [d1, d2, d3] => { results := [.lit (.bool false)], args := [d1, d2, d3] }
  | _ => none }
def VecBoundsWrongFalsely : Prop := vecBoundsRow.holds Try.pinned (OpenSpec.ofChange vecBoundsWrong)

/-- 'theodolitelaw03.VecMoves': WHATEVER THE INPUT: true; the input reads as it did. -/
def vecMovesSpec : ChangeSpec := { name := "vecMoves", fn := fun _ => fun
  | [d1, d2, d3] => { results := [.lit (.bool true)], args := [d1, d2, d3] }
  | _ => none }
def vecMovesRow : OpenClaim := { program := "ytmaocfcjbabelaa", sum := "a6bb06d0759e04fd6a937ec505e963aea6b812197dca8571aa85338aec042cd9", func := "theodolite/theodolitelaw03.VecMoves", spec := "vecMoves", inPlace := ["math/bits.Add64"], unfollowed := true, recurses := true, apart := false }
def VecMovesSaid : Prop := vecMovesRow.holds Try.pinned (OpenSpec.ofChange vecMovesSpec)

/-- ITS FALSE NEIGHBOUR: 'it returns false'. Refute it at one input. -/
def vecMovesWrong : ChangeSpec := { name := "vecMoves", fn := fun _ => fun
  | [d1, d2, d3] => { results := [.lit (.bool false)], args := [d1, d2, d3] }
  | _ => none }
def VecMovesWrongFalsely : Prop := vecMovesRow.holds Try.pinned (OpenSpec.ofChange vecMovesWrong)

/-- 'theodolitelaw03.VecScale': WHATEVER THE INPUT: true; the input reads as it did. -/
def vecScaleSpec : ChangeSpec := { name := "vecScale", fn := fun _ => fun
  | [d1, d2] => { results := [.lit (.bool true)], args := [d1, d2] }
  | _ => none }
def vecScaleRow : OpenClaim := { program := "ytmaocfcjbabelaa", sum := "a6bb06d0759e04fd6a937ec505e963aea6b812197dca8571aa85338aec042cd9", func := "theodolite/theodolitelaw03.VecScale", spec := "vecScale", inPlace := ["math/bits.Add64"], unfollowed := true, recurses := true, apart := false }
def VecScaleSaid : Prop := vecScaleRow.holds Try.pinned (OpenSpec.ofChange vecScaleSpec)

/-- ITS FALSE NEIGHBOUR: 'it returns false'. Refute it at one input. -/
def vecScaleWrong : ChangeSpec := { name := "vecScale", fn := fun _ => fun
  | [d1, d2] => { results := [.lit (.bool false)], args := [d1, d2] }
  | _ => none }
def VecScaleWrongFalsely : Prop := vecScaleRow.holds Try.pinned (OpenSpec.ofChange vecScaleWrong)

/-- 'theodolitelaw03.VecTriangle': WHATEVER THE INPUT: true; the input reads as it did. -/
def vecTriangleSpec : ChangeSpec := { name := "vecTriangle", fn := fun _ => fun
  | [d1, d2, d3] => { results := [.lit (.bool true)], args := [d1, d2, d3] }
  | _ => none }
def vecTriangleRow : OpenClaim := { program := "ytmaocfcjbabelaa", sum := "a6bb06d0759e04fd6a937ec505e963aea6b812197dca8571aa85338aec042cd9", func := "theodolite/theodolitelaw03.VecTriangle", spec := "vecTriangle", inPlace := ["math/bits.Add64"], unfollowed := true, recurses := true, apart := false }
def VecTriangleSaid : Prop := vecTriangleRow.holds Try.pinned (OpenSpec.ofChange vecTriangleSpec)

/-- ITS FALSE NEIGHBOUR: 'it returns false'. Refute it at one input. -/
def vecTriangleWrong : ChangeSpec := { name := "vecTriangle", fn := fun _ => fun
  | [d1, d2, d3] => { results := [.lit (.bool false)], args := [d1, d2, d3] }
  | _ => none }
def VecTriangleWrongFalsely : Prop := vecTriangleRow.holds Try.pinned (OpenSpec.ofChange vecTriangleWrong)

/-- 'theodolitelaw03.VecShapes': WHATEVER THE INPUT: true; the input reads as it did. -/
def vecShapesSpec : ChangeSpec := { name := "vecShapes", fn := fun _ => fun
  | [d1, d2, d3] => { results := [.lit (.bool true)], args := [d1, d2, d3] }
  | _ => none }
def vecShapesRow : OpenClaim := { program := "ytmaocfcjbabelaa", sum := "a6bb06d0759e04fd6a937ec505e963aea6b812197dca8571aa85338aec042cd9", func := "theodolite/theodolitelaw03.VecShapes", spec := "vecShapes", inPlace := ["math/bits.Add64"], unfollowed := true, recurses := true, apart := false }
def VecShapesSaid : Prop := vecShapesRow.holds Try.pinned (OpenSpec.ofChange vecShapesSpec)

/-- ITS FALSE NEIGHBOUR: 'it returns false'. Refute it at one input. -/
def vecShapesWrong : ChangeSpec := { name := "vecShapes", fn := fun _ => fun
  | [d1, d2, d3] => { results := [.lit (.bool false)], args := [d1, d2, d3] }
  | _ => none }
def VecShapesWrongFalsely : Prop := vecShapesRow.holds Try.pinned (OpenSpec.ofChange vecShapesWrong)

/-- 'theodolitelaw03.VecHolds': WHATEVER THE INPUT: true; the input reads as it did. -/
def vecHoldsSpec : ChangeSpec := { name := "vecHolds", fn := fun _ => fun
  | [d1, d2, d3] => { results := [.lit (.bool true)], args := [d1, d2, d3] }
  | _ => none }
def vecHoldsRow : OpenClaim := { program := "ytmaocfcjbabelaa", sum := "a6bb06d0759e04fd6a937ec505e963aea6b812197dca8571aa85338aec042cd9", func := "theodolite/theodolitelaw03.VecHolds", spec := "vecHolds", inPlace := ["math/bits.Add64"], unfollowed := true, recurses := true, apart := false }
def VecHoldsSaid : Prop := vecHoldsRow.holds Try.pinned (OpenSpec.ofChange vecHoldsSpec)

/-- ITS FALSE NEIGHBOUR: 'it returns false'. Refute it at one input. -/
def vecHoldsWrong : ChangeSpec := { name := "vecHolds", fn := fun _ => fun
  | [d1, d2, d3] => { results := [.lit (.bool false)], args := [d1, d2, d3] }
  | _ => none }
def VecHoldsWrongFalsely : Prop := vecHoldsRow.holds Try.pinned (OpenSpec.ofChange vecHoldsWrong)

/- THE SECOND FORM. 'bulk': how many values and letters a reading holds, each counted each time it is reached (what is shared counts as often as it is met; a slice's spare places count too). A statement '..UptoSaid' is the law's where the arguments, and the package variables that the reading takes, are together of bulk at most 1048576: NARROWER than '..Said'. Prove '..Said' where nothing that the law and all that it calls make is longer than what came in: it says more and counts as full. Else prove '..UptoSaid'. A law counts once. -/
mutual
def uptoBulk {H : Type} : DataW H → Nat
  | .lit (.string bytes) => bytes.length + 1
  | .lit _ => 1
  | .nil => 1
  | .ptr d => uptoBulk d + 1
  | .slice elems spare => uptoBulkAll elems + uptoBulkAll spare + 1
  | .agg parts => uptoBulkAll parts + 1
  | .iface _ d => uptoBulk d + 1
  | .map entries => uptoBulkEntries entries + 1
  | .held _ => 1
def uptoBulkAll {H : Type} : List (DataW H) → Nat
  | [] => 0
  | d :: r => uptoBulk d + uptoBulkAll r
def uptoBulkEntries {H : Type} : List (Lit × DataW H) → Nat
  | [] => 0
  | x :: r => uptoBulkEntry x + uptoBulkEntries r
def uptoBulkEntry {H : Type} : Lit × DataW H → Nat
  | (.string bytes, d) => bytes.length + uptoBulk d + 1
  | (_, d) => uptoBulk d + 1
 end
def uptoSmall : (H : Type) → List (DataW H) → Bool := fun _ ds => decide (uptoBulkAll ds ≤ 1048576)
def OpenSpec.upto (s : _root_.Go.ChangeSpec) : _root_.Go.OpenSpec := { _root_.Go.OpenSpec.ofChange s with cond := some uptoSmall }

/-- 'theodolitelaw03.VecDists', WHERE WHAT IT READS IS OF BULK AT MOST 1048576: true; the input reads as it did. -/
def vecDistsUptoRow : OpenClaim := { program := "ytmaocfcjbabelaa", sum := "a6bb06d0759e04fd6a937ec505e963aea6b812197dca8571aa85338aec042cd9", func := "theodolite/theodolitelaw03.VecDists", spec := "vecDists", inPlace := ["math/bits.Add64"], unfollowed := true, recurses := true, apart := false, narrowed := true }
def VecDistsUptoSaid : Prop := vecDistsUptoRow.holds Try.pinned (OpenSpec.upto vecDistsSpec)

/-- 'theodolitelaw03.VecRegions', WHERE WHAT IT READS IS OF BULK AT MOST 1048576: true; the input reads as it did. -/
def vecRegionsUptoRow : OpenClaim := { program := "ytmaocfcjbabelaa", sum := "a6bb06d0759e04fd6a937ec505e963aea6b812197dca8571aa85338aec042cd9", func := "theodolite/theodolitelaw03.VecRegions", spec := "vecRegions", inPlace := ["math/bits.Add64"], unfollowed := true, recurses := true, apart := false, narrowed := true }
def VecRegionsUptoSaid : Prop := vecRegionsUptoRow.holds Try.pinned (OpenSpec.upto vecRegionsSpec)

/-- 'theodolitelaw03.VecBounds', WHERE WHAT IT READS IS OF BULK AT MOST 1048576: true; the input reads as it did. -/
def vecBoundsUptoRow : OpenClaim := { program := "ytmaocfcjbabelaa", sum := "a6bb06d0759e04fd6a937ec505e963aea6b812197dca8571aa85338aec042cd9", func := "theodolite/theodolitelaw03.VecBounds", spec := "vecBounds", inPlace := ["math/bits.Add64"], unfollowed := true, recurses := true, apart := false, narrowed := true }
def VecBoundsUptoSaid : Prop := vecBoundsUptoRow.holds Try.pinned (OpenSpec.upto vecBoundsSpec)

/-- 'theodolitelaw03.VecMoves', WHERE WHAT IT READS IS OF BULK AT MOST 1048576: true; the input reads as it did. -/
def vecMovesUptoRow : OpenClaim := { program := "ytmaocfcjbabelaa", sum := "a6bb06d0759e04fd6a937ec505e963aea6b812197dca8571aa85338aec042cd9", func := "theodolite/theodolitelaw03.VecMoves", spec := "vecMoves", inPlace := ["math/bits.Add64"], unfollowed := true, recurses := true, apart := false, narrowed := true }
def VecMovesUptoSaid : Prop := vecMovesUptoRow.holds Try.pinned (OpenSpec.upto vecMovesSpec)

/-- 'theodolitelaw03.VecScale', WHERE WHAT IT READS IS OF BULK AT MOST 1048576: true; the input reads as it did. -/
def vecScaleUptoRow : OpenClaim := { program := "ytmaocfcjbabelaa", sum := "a6bb06d0759e04fd6a937ec505e963aea6b812197dca8571aa85338aec042cd9", func := "theodolite/theodolitelaw03.VecScale", spec := "vecScale", inPlace := ["math/bits.Add64"], unfollowed := true, recurses := true, apart := false, narrowed := true }
def VecScaleUptoSaid : Prop := vecScaleUptoRow.holds Try.pinned (OpenSpec.upto vecScaleSpec)

/-- 'theodolitelaw03.VecTriangle', WHERE WHAT IT READS IS OF BULK AT MOST 1048576: true; the input reads as it did. -/
def vecTriangleUptoRow : OpenClaim := { program := "ytmaocfcjbabelaa", sum := "a6bb06d0759e04fd6a937ec505e963aea6b812197dca8571aa85338aec042cd9", func := "theodolite/theodolitelaw03.VecTriangle", spec := "vecTriangle", inPlace := ["math/bits.Add64"], unfollowed := true, recurses := true, apart := false, narrowed := true }
def VecTriangleUptoSaid : Prop := vecTriangleUptoRow.holds Try.pinned (OpenSpec.upto vecTriangleSpec)

/-- 'theodolitelaw03.VecShapes', WHERE WHAT IT READS IS OF BULK AT MOST 1048576: true; the input reads as it did. -/
def vecShapesUptoRow : OpenClaim := { program := "ytmaocfcjbabelaa", sum := "a6bb06d0759e04fd6a937ec505e963aea6b812197dca8571aa85338aec042cd9", func := "theodolite/theodolitelaw03.VecShapes", spec := "vecShapes", inPlace := ["math/bits.Add64"], unfollowed := true, recurses := true, apart := false, narrowed := true }
def VecShapesUptoSaid : Prop := vecShapesUptoRow.holds Try.pinned (OpenSpec.upto vecShapesSpec)

/-- 'theodolitelaw03.VecHolds', WHERE WHAT IT READS IS OF BULK AT MOST 1048576: true; the input reads as it did. -/
def vecHoldsUptoRow : OpenClaim := { program := "ytmaocfcjbabelaa", sum := "a6bb06d0759e04fd6a937ec505e963aea6b812197dca8571aa85338aec042cd9", func := "theodolite/theodolitelaw03.VecHolds", spec := "vecHolds", inPlace := ["math/bits.Add64"], unfollowed := true, recurses := true, apart := false, narrowed := true }
def VecHoldsUptoSaid : Prop := vecHoldsUptoRow.holds Try.pinned (OpenSpec.upto vecHoldsSpec)

end Rows
end Go.Proofs.Ytmaocfcjbabelaa
