/- What the row of one statement stands on: a store, abstract code, functions of the program and their laws (ThHstd). -/
import Derived.Test.YtilkmjbbdnnphaaGreatDoorThBQ11
import Derived.Test.YtilkmjbbdnnphaaGreatDoorThBR4
import Derived.Test.YtilkmjbbdnnphaaGreatDoorThBPfind
import Derived.Test.YtilkmjbbdnnphaaGreatDoorThBPfact
import Derived.Lib.TrimByte
import Derived.Lib.Case
import Derived.Lib.SlicesS
import Derived.Lib.Bytes

section
/- What the library's functions answer (texts, bytes), as calls over the store; package variables that they read. -/
set_option linter.unusedSimpArgs false
set_option linter.unusedVariables false
namespace Go.Th
open Go Go.Th.Pure

structure HG (S : St) : Prop where
  len : ∃ m, S.get 0 = some (.glob 0 [.int .i64 m])
  e1 : ∃ t, S.get 1 = some (.glob 1 [.iface t .junk])
  e2 : ∃ t, S.get 2 = some (.glob 2 [.iface t .junk])
  tab : S.get 3 = some (.glob 3 (Lib.pow10Tab.map (V.int .u64)))
theorem glob_upd {D : List Nat} {S S' : St} (u : Upd D S S') (hD : ∀ i ∈ D, (∃ cs, S.get i = some (.cells cs true)) ∨ S.next ≤ i) {g : Nat} {vs : List V} (h : S.get g = some (.glob g vs)) : S'.get g = some (.glob g vs) := by
  refine u.get h fun hi => ?_
  rcases hD g hi with ⟨cs, h1⟩ | h1
  · rw [h] at h1; cases h1
  · have := u.wf0.lt h; omega
theorem glob_ro {S : St} {g : Nat} {vs : List V} (h : S.get g = some (.glob g vs)) : S.ro.get g = some (.glob g vs) := by rw [St.get_ro, h]; rfl
theorem HG.upd {D : List Nat} {S S' : St} (h : HG S) (u : Upd D S S') (hD : ∀ i ∈ D, (∃ cs, S.get i = some (.cells cs true)) ∨ S.next ≤ i) : HG S' :=
  ⟨h.len.imp fun _ h => glob_upd u hD h, h.e1.imp fun _ h => glob_upd u hD h, h.e2.imp fun _ h => glob_upd u hD h, glob_upd u hD h.tab⟩
theorem HG.grow {S S' : St} (h : HG S) (g : Grow S S') : HG S' := h.upd g (by simp)
theorem HG.ro {S : St} (h : HG S) : HG S.ro := ⟨h.len.imp fun _ h => glob_ro h, h.e1.imp fun _ h => glob_ro h, h.e2.imp fun _ h => glob_ro h, glob_ro h.tab⟩

def strsV (l : List Bs) : List V := l.map V.str

def zs (l : Bs) : List Int := l.map fun b => ((b.toNat : Nat) : Int)
theorem args1 {m : LM} {v : V} {args : Array Value} (h : VRs m [v] args.toList) : ∃ u, args = #[u] ∧ VR m v u := by
  simp only [VRs] at h
  obtain ⟨u, us, h1, h2, rfl⟩ := h
  obtain ⟨l⟩ := args
  simp only at h1
  subst h1
  exact ⟨u, rfl, h2⟩
theorem args2 {m : LM} {v v' : V} {args : Array Value} (h : VRs m [v, v'] args.toList) : ∃ u u', args = #[u, u'] ∧ VR m v u ∧ VR m v' u' := by
  simp only [VRs] at h
  obtain ⟨u, us, h1, h2, u', us', rfl, h3, rfl⟩ := h
  obtain ⟨l⟩ := args
  simp only at h1
  subst h1
  exact ⟨u, u', rfl, h2, h3⟩

theorem glob_get {m : LM} {S : St} {base : Nat} {w0 w : World} (hS : Sim m S base w0 w) {g : Nat} {vs : List V} (h : S.get g = some (.glob g vs)) : ∃ cs t fz, w.heap[g]? = some (.cells cs t fz) ∧ VRs m vs cs.toList := by
  obtain ⟨L, _, hb, _⟩ := hS.blk g _ h
  exact hb.2.2
theorem glob_cell {m : LM} {S : St} {base : Nat} {w0 w : World} (hS : Sim m S base w0 w) {g : Nat} {vs : List V} (h : S.get g = some (.glob g vs)) {j : Nat} {v : V} (hj : vs[j]? = some v) : ∃ u, w.cell? ⟨g, j, none⟩ = some u ∧ VR m v u := by
  obtain ⟨L, _, hb, _⟩ := hS.blk g _ h
  exact hb.glob_cell hj
end Go.Th
end
