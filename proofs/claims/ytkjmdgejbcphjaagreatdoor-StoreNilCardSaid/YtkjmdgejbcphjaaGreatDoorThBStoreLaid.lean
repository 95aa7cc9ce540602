/- What the row of one statement stands on: a store, abstract code, functions of the program and their laws (ThStoreLaid). -/
import Derived.Test.YtkjmdgejbcphjaaGreatDoorRows
import Derived.Test.YtkjmdgejbcphjaaGreatDoorThBO4
import Derived.LaidMore
import Derived.Lay
import Derived.MakeChecks
import Derived.ChangeVars
import Derived.Laws.Sem
import Derived.LaidLaws
import Derived.ProofKit
import Derived.OpenShut
import Derived.RowKit
import Derived.Lib.LaidTab
import Derived.Shelf.Vars

section
/- What the rows say of the package variables at the store seat. -/
namespace Go.Th.Store
open Go Go.Proofs Go.Proofs.YtkjmdgejbcphjaaGreatDoor Go.RowKit Go.ChangeShapes Go.WideShapes Go.Th
set_option maxRecDepth 100000

theorem gPow : Tryz.prog.globalNamed "internal/strconv.uint64pow10" = some 2 := by kernel_rfl
theorem tPow : ∃ t, (Tryz.prog.globals[2]?).map (·.type) = some t := ⟨_, rfl⟩
theorem var_heap {W : World} {name : String} {g : Nat} {cs : Array Value} (hg : Tryz.prog.globalNamed name = some g) (h : W.var? Tryz.prog name = some cs) : ∃ t fz, W.heap[g]? = some (.cells cs t fz) := by
  unfold World.var? at h
  rw [hg] at h
  simp only [Option.bind_some] at h
  split at h
  · rename_i cs' t fz he
    cases h
    exact ⟨t, fz, he⟩
  · cases h

theorem tab_of_laid {W : World} (h : laidMetH Tryz.prog Rows.storeNilRow.laid W) : ∃ t fz, W.heap[2]? = some (.cells (Lib.pow10Tab.map (Value.int .u64)).toArray t fz) := by
  rw [MakeChecks.laidMetH_plain _ _ _ (by kernel_rfl)] at h
  obtain ⟨ps, ⟨_, _, cs0, _, p0, q0, _, _, _, _, ⟨_, _, cs1, _, p1, q1, _, _, _, _, ⟨g2, t2, cs2, f2, p2, q2, hg2, ht2, hv2, hd2, _, e2⟩, e1⟩, e0⟩, hnd, hrows⟩ := h
  obtain rfl := Option.some.inj (gPow.symm.trans hg2)
  obtain ⟨tt, htt⟩ := tPow
  obtain rfl := Option.some.inj (htt.symm.trans ht2)
  obtain ⟨t, fz, h1⟩ := var_heap hg2 hv2
  refine ⟨t, fz, ?_⟩
  rw [h1]
  obtain rfl := Option.some.inj ((show (Tryz.prog.globals[2]?).map (·.type) = some 253 by kernel_rfl).symm.trans htt)
  have := Lib.cells_of_tab (k := .u64) (zs := Lib.pow10Tab) (n := 20) (e := 190) (by kernel_rfl) (by kernel_rfl) (by kernel_rfl) (by kernel_rfl) hd2
  obtain ⟨l2⟩ := cs2
  simp only at this
  rw [this]
end Go.Th.Store
end
