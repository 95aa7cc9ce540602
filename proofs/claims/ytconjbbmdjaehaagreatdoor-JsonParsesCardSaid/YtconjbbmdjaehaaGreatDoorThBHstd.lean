/- What the row of one statement stands on: a store, abstract code, functions of the program and their laws (ThHstd). -/
import Derived.Test.YtconjbbmdjaehaaGreatDoorThBQ12
import Derived.Test.YtconjbbmdjaehaaGreatDoorThBR4
import Derived.Test.YtconjbbmdjaehaaGreatDoorThBPjson7
import Derived.Test.YtconjbbmdjaehaaGreatDoorThBHread
import Derived.Lib.TrimByte
import Derived.Lib.Case
import Derived.Lib.SlicesS
import Derived.Lib.Bytes

section
/- What the library's functions answer (texts, bytes), as calls over the store; package variables that they read. -/
set_option linter.unusedSimpArgs false
set_option linter.unusedVariables false
namespace Go.Th
open Go Go.Th.Pure

structure HG (S : St) : Prop where
  len : ∃ m, S.get 0 = some (.glob 0 [.int .i64 m])
  e1 : ∃ t, S.get 1 = some (.glob 1 [.iface t .junk])
  e2 : ∃ t, S.get 2 = some (.glob 2 [.iface t .junk])
  tab : S.get 3 = some (.glob 3 (Lib.pow10Tab.map (V.int .u64)))
theorem glob_upd {D : List Nat} {S S' : St} (u : Upd D S S') (hD : ∀ i ∈ D, (∃ cs, S.get i = some (.cells cs true)) ∨ S.next ≤ i) {g : Nat} {vs : List V} (h : S.get g = some (.glob g vs)) : S'.get g = some (.glob g vs) := by
  refine u.get h fun hi => ?_
  rcases hD g hi with ⟨cs, h1⟩ | h1
  · rw [h] at h1; cases h1
  · have := u.wf0.lt h; omega
def CutS (P : Program) (f : Nat) : Prop := ∀ (s t : Bs) (S : St) (Q : Post), HG S → s.length < 4294967281 → Q (.ret (.tuple [.str (cutL s t).1, .str (cutL s t).2.1, .bool (cutL s t).2.2])) S → CallA P f [.str s, .str t] S Q
def zs (l : Bs) : List Int := l.map fun b => ((b.toNat : Nat) : Int)
theorem glob_get {m : LM} {S : St} {base : Nat} {w0 w : World} (hS : Sim m S base w0 w) {g : Nat} {vs : List V} (h : S.get g = some (.glob g vs)) : ∃ cs t fz, w.heap[g]? = some (.cells cs t fz) ∧ VRs m vs cs.toList := by
  obtain ⟨L, _, hb, _⟩ := hS.blk g _ h
  exact hb.2.2
end Go.Th
end
