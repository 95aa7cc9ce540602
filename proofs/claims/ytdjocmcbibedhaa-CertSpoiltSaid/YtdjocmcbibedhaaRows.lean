/-
  No cell of these rows narrows 'for every input' (looked for: loops, veiled, ifaces, maps, wideKeys, modest, calm, conditions, laid).
  DERIVED. THE GIVEN ROWS OF THIS SEAT. 3 by the template 'for every input the law returns true; each argument reads behind the call as it read before'; 0 by the template 'total and deterministic' (their statements: YtdjocmcbibedhaaTotals.lean).
  GIVEN WITH THE SEED: the statements are not yours to turn. If you find one false, say at which input.
  Laid BY PROGRAM, IN A SANDBOX (cutbox-rows.mjs): the forced cells as the released guide's own fill.sh prints them over the translation 3d94ab39cf9e7bc5… (all of the seat's roots in one cut). By AI agents, Wed Nov 11 2026. No macro, syntax, notation, axiom, sorry.
-/
import Derived.Test.YtdjocmcbibedhaaChecked
import GoSem.Claim
import GoSem.ClaimJoined
import GoSem.ClaimMapViews
import Derived.JoinedTies
import Derived.KernelRfl
namespace Go.Proofs.Ytdjocmcbibedhaa
/- THE CELL 'sum', in the pinned program and in every row, IS THE sha256 OF THE DUMP (.gsa) THAT YtdjocmcbibedhaaProg.lean LOADS. Nothing in Lean hashes anything: it is a label: what it is worth is what the hold of that sum in a sandbox is worth. -/
noncomputable def Try.pinned : Pinned := { name := "ytdjocmcbibedhaa", sum := "3d94ab39cf9e7bc582bcf9afa1ddaace6d541159a6edd1dc575e0cbfe893b2b0", checked := Try.checked }
namespace Rows
def none {H : Type} : Left H := { results := [], args := [] }

/-- 'theodolitelaw13.CertTrue': WHATEVER THE INPUT: true; the input reads as it did. -/
def certTrueSpec : ChangeSpec := { name := "certTrue", fn := fun _ => fun
  | [d1, d2, d3, d4] => { results := [.lit (.bool true)], args := [d1, d2, d3, d4] }
  | _ => none }
def certTrueRow : OpenClaim := { program := "ytdjocmcbibedhaa", sum := "3d94ab39cf9e7bc582bcf9afa1ddaace6d541159a6edd1dc575e0cbfe893b2b0", func := "theodolite/theodolitelaw13.CertTrue", spec := "certTrue", inPlace := ["math/bits.Add64"], unfollowed := true, recurses := true, apart := false }
def CertTrueSaid : Prop := certTrueRow.holds Try.pinned (OpenSpec.ofChange certTrueSpec)

/-- ITS FALSE NEIGHBOUR: 'it returns false'. Refute it at one input. -/
def certTrueWrong : ChangeSpec := { name := "certTrue", fn := fun _ => fun
  | [d1, d2, d3, d4] => { results := [.lit (.bool false)], args := [d1, d2, d3, d4] }
  | _ => none }
def CertTrueWrongFalsely : Prop := certTrueRow.holds Try.pinned (OpenSpec.ofChange certTrueWrong)

/-- 'theodolitelaw13.CertSpoilt': WHATEVER THE INPUT: true; the input reads as it did. -/
def certSpoiltSpec : ChangeSpec := { name := "certSpoilt", fn := fun _ => fun
  | [d1, d2, d3, d4, d5] => { results := [.lit (.bool true)], args := [d1, d2, d3, d4, d5] }
  | _ => none }
def certSpoiltRow : OpenClaim := { program := "ytdjocmcbibedhaa", sum := "3d94ab39cf9e7bc582bcf9afa1ddaace6d541159a6edd1dc575e0cbfe893b2b0", func := "theodolite/theodolitelaw13.CertSpoilt", spec := "certSpoilt", inPlace := ["math/bits.Add64"], unfollowed := true, recurses := true, apart := false }
def CertSpoiltSaid : Prop := certSpoiltRow.holds Try.pinned (OpenSpec.ofChange certSpoiltSpec)

/-- ITS FALSE NEIGHBOUR: 'it returns false'. Refute it at one input. -/
def certSpoiltWrong : ChangeSpec := { name := "certSpoilt", fn := fun _ => fun
  | [d1, d2, d3, d4, d5] => { results := [.lit (.bool false)], args := [d1, d2, d3, d4, d5] }
  | _ => none }
def CertSpoiltWrongFalsely : Prop := certSpoiltRow.holds Try.pinned (OpenSpec.ofChange certSpoiltWrong)

/-- 'theodolitelaw13.CertAll': WHATEVER THE INPUT: true; the input reads as it did. -/
def certAllSpec : ChangeSpec := { name := "certAll", fn := fun _ => fun
  | [d1, d2, d3] => { results := [.lit (.bool true)], args := [d1, d2, d3] }
  | _ => none }
def certAllRow : OpenClaim := { program := "ytdjocmcbibedhaa", sum := "3d94ab39cf9e7bc582bcf9afa1ddaace6d541159a6edd1dc575e0cbfe893b2b0", func := "theodolite/theodolitelaw13.CertAll", spec := "certAll", inPlace := ["math/bits.Add64"], unfollowed := true, recurses := true, apart := false }
def CertAllSaid : Prop := certAllRow.holds Try.pinned (OpenSpec.ofChange certAllSpec)

/-- ITS FALSE NEIGHBOUR: 'it returns false'. Refute it at one input. -/
def certAllWrong : ChangeSpec := { name := "certAll", fn := fun _ => fun
  | [d1, d2, d3] => { results := [.lit (.bool false)], args := [d1, d2, d3] }
  | _ => none }
def CertAllWrongFalsely : Prop := certAllRow.holds Try.pinned (OpenSpec.ofChange certAllWrong)

/- THE SECOND FORM. 'bulk': how many values and letters a reading holds, each counted each time it is reached (what is shared counts as often as it is met; a slice's spare places count too). A statement '..UptoSaid' is the law's where the arguments, and the package variables that the reading takes, are together of bulk at most 1048576: NARROWER than '..Said'. Prove '..Said' where nothing that the law and all that it calls make is longer than what came in: it says more and counts as full. Else prove '..UptoSaid'. A law counts once. -/
mutual
def uptoBulk {H : Type} : DataW H → Nat
  | .lit (.string bytes) => bytes.length + 1
  | .lit _ => 1
  | .nil => 1
  | .ptr d => uptoBulk d + 1
  | .slice elems spare => uptoBulkAll elems + uptoBulkAll spare + 1
  | .agg parts => uptoBulkAll parts + 1
  | .iface _ d => uptoBulk d + 1
  | .map entries => uptoBulkEntries entries + 1
  | .held _ => 1
def uptoBulkAll {H : Type} : List (DataW H) → Nat
  | [] => 0
  | d :: r => uptoBulk d + uptoBulkAll r
def uptoBulkEntries {H : Type} : List (Lit × DataW H) → Nat
  | [] => 0
  | x :: r => uptoBulkEntry x + uptoBulkEntries r
def uptoBulkEntry {H : Type} : Lit × DataW H → Nat
  | (.string bytes, d) => bytes.length + uptoBulk d + 1
  | (_, d) => uptoBulk d + 1
 end
def uptoSmall : (H : Type) → List (DataW H) → Bool := fun _ ds => decide (uptoBulkAll ds ≤ 1048576)
def OpenSpec.upto (s : _root_.Go.ChangeSpec) : _root_.Go.OpenSpec := { _root_.Go.OpenSpec.ofChange s with cond := some uptoSmall }

/-- 'theodolitelaw13.CertTrue', WHERE WHAT IT READS IS OF BULK AT MOST 1048576: true; the input reads as it did. -/
def certTrueUptoRow : OpenClaim := { program := "ytdjocmcbibedhaa", sum := "3d94ab39cf9e7bc582bcf9afa1ddaace6d541159a6edd1dc575e0cbfe893b2b0", func := "theodolite/theodolitelaw13.CertTrue", spec := "certTrue", inPlace := ["math/bits.Add64"], unfollowed := true, recurses := true, apart := false, narrowed := true }
def CertTrueUptoSaid : Prop := certTrueUptoRow.holds Try.pinned (OpenSpec.upto certTrueSpec)

/-- 'theodolitelaw13.CertSpoilt', WHERE WHAT IT READS IS OF BULK AT MOST 1048576: true; the input reads as it did. -/
def certSpoiltUptoRow : OpenClaim := { program := "ytdjocmcbibedhaa", sum := "3d94ab39cf9e7bc582bcf9afa1ddaace6d541159a6edd1dc575e0cbfe893b2b0", func := "theodolite/theodolitelaw13.CertSpoilt", spec := "certSpoilt", inPlace := ["math/bits.Add64"], unfollowed := true, recurses := true, apart := false, narrowed := true }
def CertSpoiltUptoSaid : Prop := certSpoiltUptoRow.holds Try.pinned (OpenSpec.upto certSpoiltSpec)

/-- 'theodolitelaw13.CertAll', WHERE WHAT IT READS IS OF BULK AT MOST 1048576: true; the input reads as it did. -/
def certAllUptoRow : OpenClaim := { program := "ytdjocmcbibedhaa", sum := "3d94ab39cf9e7bc582bcf9afa1ddaace6d541159a6edd1dc575e0cbfe893b2b0", func := "theodolite/theodolitelaw13.CertAll", spec := "certAll", inPlace := ["math/bits.Add64"], unfollowed := true, recurses := true, apart := false, narrowed := true }
def CertAllUptoSaid : Prop := certAllUptoRow.holds Try.pinned (OpenSpec.upto certAllSpec)

end Rows
end Go.Proofs.Ytdjocmcbibedhaa
