/- What the row of one statement stands on: a store, abstract code, functions of the program and their laws (ThJsonzLaid). -/
import Derived.Test.YtconjbbmdjaehaaGreatDoorRows
import Derived.Test.YtconjbbmdjaehaaGreatDoorThBO7
import Derived.LaidMore
import Derived.Lay
import Derived.MakeChecks
import Derived.ChangeVars
import Derived.Laws.Sem
import Derived.LaidLaws
import Derived.ProofKit
import Derived.OpenShut
import Derived.RowKit
import Derived.Lib.LaidTab
import Derived.Shelf.Vars

section
/- What the rows say of the package variables at json's great door. -/
namespace Go.Th.Jsonz
open Go Go.Proofs Go.Proofs.YtconjbbmdjaehaaGreatDoor Go.RowKit Go.ChangeShapes Go.WideShapes Go.Th
set_option maxRecDepth 100000

theorem gSyntax : Tryz.prog.globalNamed "strconv.ErrSyntax" = some 2 := by kernel_rfl
theorem gRange : Tryz.prog.globalNamed "strconv.ErrRange" = some 3 := by kernel_rfl
theorem gPow : Tryz.prog.globalNamed "internal/strconv.uint64pow10" = some 4 := by kernel_rfl
theorem tSyntax : (Tryz.prog.globals[2]?).map (·.type) = some 71 := by kernel_rfl
theorem tRange : (Tryz.prog.globals[3]?).map (·.type) = some 71 := by kernel_rfl
theorem star : "*" ++ "errors.errorString" = "*errors.errorString" := by decide
theorem rowErr (u : TypeId) (h : Tryz.prog.typeName? 3 u = some "*errors.errorString") : u = 134 :=
  typeName_ptr_named (nm := "errors.errorString") (by rw [star]; kernel_rfl) (by kernel_rfl) (by decide) u (by rw [star]; exact h)

theorem err_cell {H : Type} {enc : TypeId × Value → H} {W : World} {fuel : Nat} {l : List Value} {d : DataW H} {p : List MemPlace}
    (h : DataW.trod enc Tryz.prog W 0 (fun _ => true) false fuel 71 l = some (.iface "*errors.errorString" (.ptr d), p)) (hok : ∀ u v, l = [.iface u v] → Value.okWide Tryz.prog W .any 0 u v) : ∃ t v, l = [.iface t v] ∧ v.oneCell' = true := by
  obtain ⟨f1, u, v, rfl, hn, h1⟩ := iface_of_trod Tryz.underlying71 h
  obtain rfl := rowErr u hn
  obtain ⟨f2, a, cs', q, hv, _, _, _⟩ := ptr_of_trod Tryz.underlying134 h1
  have ok := hok _ _ rfl
  refine ⟨_, v, rfl, ?_⟩
  unfold Value.okWide at ok
  simp only [Tryz.underlying134] at ok
  unfold Cell.okWide at ok
  cases v <;> simp [Value.cells, Cell.ok, Tryz.underlying134] at ok hv <;> rfl

theorem var_heap {W : World} {name : String} {g : Nat} {cs : Array Value} (hg : Tryz.prog.globalNamed name = some g) (h : W.var? Tryz.prog name = some cs) : ∃ t fz, W.heap[g]? = some (.cells cs t fz) := by
  unfold World.var? at h
  rw [hg] at h
  simp only [Option.bind_some] at h
  split at h
  · rename_i cs' t fz he
    cases h
    exact ⟨t, fz, he⟩
  · cases h

theorem of_laid {W : World} (h : laidMetH Tryz.prog Rows.jsonParsesRow.laid W) : (∀ g ∈ [2, 3], ∃ te v t fz, W.heap[g]? = some (.cells #[.iface te v] t fz) ∧ v.oneCell' = true) ∧ ∃ t fz, W.heap[4]? = some (.cells (Lib.pow10Tab.map (Value.int .u64)).toArray t fz) := by
  rw [MakeChecks.laidMetH_plain _ _ _ (by kernel_rfl)] at h
  obtain ⟨ps, ⟨_, _, cs0, _, p0, q0, _, _, _, _, ⟨_, _, cs1, _, p1, q1, _, _, _, _, ⟨g2, t2, cs2, f2, p2, q2, hg2, ht2, hv2, hd2, ⟨_, _, cs3, _, p3, q3, _, _, _, _, ⟨g4, t4, cs4, f4, p4, q4, hg4, ht4, hv4, hd4, ⟨g5, t5, cs5, f5, p5, q5, hg5, ht5, hv5, hd5, ⟨_, _, cs6, _, p6, q6, _, _, _, _, hq6, e6⟩, e5⟩, e4⟩, e3⟩, e2⟩, e1⟩, e0⟩, hnd, hrows⟩ := h
  obtain rfl := Option.some.inj (gPow.symm.trans hg2)
  obtain rfl := Option.some.inj (gRange.symm.trans hg4)
  obtain rfl := Option.some.inj (gSyntax.symm.trans hg5)
  obtain rfl := Option.some.inj (tRange.symm.trans ht4)
  obtain rfl := Option.some.inj (tSyntax.symm.trans ht5)
  obtain rfl := Option.some.inj ((show (Tryz.prog.globals[4]?).map (·.type) = some 129 by kernel_rfl).symm.trans ht2)
  obtain ⟨l4⟩ := cs4
  obtain ⟨l5⟩ := cs5
  subst e6 e5 e4 e3 e2 e1 e0
  have ok4 : ∀ u v, l4 = [.iface u v] → Value.okWide Tryz.prog W .any 0 u v := fun u v e => by
    subst e
    exact (hrows 3 0 (by simp [MemPlace.row])).2 u v (by simpa using World.var?_cell hg4 hv4 0)
  have ok5 : ∀ u v, l5 = [.iface u v] → Value.okWide Tryz.prog W .any 0 u v := fun u v e => by
    subst e
    exact (hrows 2 0 (by simp [MemPlace.row])).2 u v (by simpa using World.var?_cell hg5 hv5 0)
  obtain ⟨a4, v4, rfl, o4⟩ := err_cell hd4 ok4
  obtain ⟨a5, v5, rfl, o5⟩ := err_cell hd5 ok5
  refine ⟨fun g hg => ?_, ?_⟩
  · simp only [List.mem_cons, List.not_mem_nil, or_false] at hg
    rcases hg with rfl | rfl
    · obtain ⟨t, fz, h1⟩ := var_heap hg5 hv5
      exact ⟨a5, v5, t, fz, h1, o5⟩
    · obtain ⟨t, fz, h1⟩ := var_heap hg4 hv4
      exact ⟨a4, v4, t, fz, h1, o4⟩
  · obtain ⟨t, fz, h1⟩ := var_heap hg2 hv2
    refine ⟨t, fz, ?_⟩
    rw [h1]
    have := Lib.cells_of_tab (k := .u64) (zs := Lib.pow10Tab) (n := 20) (e := 89) (by kernel_rfl) (by kernel_rfl) (by kernel_rfl) (by kernel_rfl) hd2
    obtain ⟨l2⟩ := cs2
    simp only at this
    rw [this]
theorem start {W : World} (h : laidMetH Tryz.prog Rows.jsonParsesRow.laid W) : ∃ m S, RoS m S W ∧ ErrTab [2, 3] 4 S := ErrTab.start (by decide) (of_laid h).1 (of_laid h).2
end Go.Th.Jsonz
end
