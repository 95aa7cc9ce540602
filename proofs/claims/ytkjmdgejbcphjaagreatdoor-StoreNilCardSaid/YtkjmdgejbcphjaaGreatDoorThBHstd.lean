/- What the row of one statement stands on: a store, abstract code, functions of the program and their laws (ThHstd). -/
import Derived.Test.YtkjmdgejbcphjaaGreatDoorThBQ12
import Derived.Test.YtkjmdgejbcphjaaGreatDoorThBR4
import Derived.Test.YtkjmdgejbcphjaaGreatDoorThBPdisk3
import Derived.Test.YtkjmdgejbcphjaaGreatDoorThBHmapI
import Derived.Lib.TrimByte
import Derived.Lib.Case
import Derived.Lib.SlicesS
import Derived.Lib.Bytes

section
/- What the library's functions answer (texts, bytes), as calls over the store; package variables that they read. -/
set_option linter.unusedSimpArgs false
set_option linter.unusedVariables false
namespace Go.Th
open Go Go.Th.Pure

theorem glob_upd {D : List Nat} {S S' : St} (u : Upd D S S') (hD : ∀ i ∈ D, (∃ cs, S.get i = some (.cells cs true)) ∨ S.next ≤ i) {g : Nat} {vs : List V} (h : S.get g = some (.glob g vs)) : S'.get g = some (.glob g vs) := by
  refine u.get h fun hi => ?_
  rcases hD g hi with ⟨cs, h1⟩ | h1
  · rw [h] at h1; cases h1
  · have := u.wf0.lt h; omega
def strsV (l : List Bs) : List V := l.map V.str

def zs (l : Bs) : List Int := l.map fun b => ((b.toNat : Nat) : Int)
theorem args1 {m : LM} {v : V} {args : Array Value} (h : VRs m [v] args.toList) : ∃ u, args = #[u] ∧ VR m v u := by
  simp only [VRs] at h
  obtain ⟨u, us, h1, h2, rfl⟩ := h
  obtain ⟨l⟩ := args
  simp only at h1
  subst h1
  exact ⟨u, rfl, h2⟩
theorem args2 {m : LM} {v v' : V} {args : Array Value} (h : VRs m [v, v'] args.toList) : ∃ u u', args = #[u, u'] ∧ VR m v u ∧ VR m v' u' := by
  simp only [VRs] at h
  obtain ⟨u, us, h1, h2, u', us', rfl, h3, rfl⟩ := h
  obtain ⟨l⟩ := args
  simp only at h1
  subst h1
  exact ⟨u, u', rfl, h2, h3⟩

theorem glob_get {m : LM} {S : St} {base : Nat} {w0 w : World} (hS : Sim m S base w0 w) {g : Nat} {vs : List V} (h : S.get g = some (.glob g vs)) : ∃ cs t fz, w.heap[g]? = some (.cells cs t fz) ∧ VRs m vs cs.toList := by
  obtain ⟨L, _, hb, _⟩ := hS.blk g _ h
  exact hb.2.2
end Go.Th
end
