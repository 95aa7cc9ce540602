/- What the row of one statement stands on: a store, abstract code, functions of the program and their laws (ThHstd). -/
import Derived.Test.YtconjbbmdjaehaaGreatDoorThBQ12
import Derived.Test.YtconjbbmdjaehaaGreatDoorThBR4
import Derived.Test.YtconjbbmdjaehaaGreatDoorThBPjson7
import Derived.Test.YtconjbbmdjaehaaGreatDoorThBHread
import Derived.Lib.TrimByte
import Derived.Lib.Case
import Derived.Lib.SlicesS
import Derived.Lib.Bytes

section
/- What the library's functions answer (texts, bytes), as calls over the store; package variables that they read. -/
set_option linter.unusedSimpArgs false
set_option linter.unusedVariables false
namespace Go.Th
open Go Go.Th.Pure

theorem glob_upd {D : List Nat} {S S' : St} (u : Upd D S S') (hD : ∀ i ∈ D, (∃ cs, S.get i = some (.cells cs true)) ∨ S.next ≤ i) {g : Nat} {vs : List V} (h : S.get g = some (.glob g vs)) : S'.get g = some (.glob g vs) := by
  refine u.get h fun hi => ?_
  rcases hD g hi with ⟨cs, h1⟩ | h1
  · rw [h] at h1; cases h1
  · have := u.wf0.lt h; omega
def zs (l : Bs) : List Int := l.map fun b => ((b.toNat : Nat) : Int)
theorem glob_get {m : LM} {S : St} {base : Nat} {w0 w : World} (hS : Sim m S base w0 w) {g : Nat} {vs : List V} (h : S.get g = some (.glob g vs)) : ∃ cs t fz, w.heap[g]? = some (.cells cs t fz) ∧ VRs m vs cs.toList := by
  obtain ⟨L, _, hb, _⟩ := hS.blk g _ h
  exact hb.2.2
end Go.Th
end
