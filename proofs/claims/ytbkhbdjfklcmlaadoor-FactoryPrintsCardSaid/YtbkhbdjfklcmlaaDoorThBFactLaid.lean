/- What the row of one statement stands on: a store, abstract code, functions of the program and their laws (ThFactLaid). -/
import Derived.Test.YtbkhbdjfklcmlaaDoorRows
import Derived.LaidMore
import Derived.Lay
import Derived.MakeChecks
import Derived.ChangeVars
import Derived.Laws.Sem
import Derived.LaidLaws
import Derived.ProofKit
import Derived.OpenShut
import Derived.RowKit

section
/- What the rows say of the package variables: the two errors lie where they lie. -/
namespace Go.Th.Fact
open Go Go.Proofs Go.Proofs.YtbkhbdjfklcmlaaDoor Go.RowKit Go.ChangeShapes Go.WideShapes
set_option maxRecDepth 100000

theorem gRange : Tryd.prog.globalNamed "strconv.ErrRange" = some 1 := by kernel_rfl
theorem gSyntax : Tryd.prog.globalNamed "strconv.ErrSyntax" = some 0 := by kernel_rfl
theorem tRange : (Tryd.prog.globals[1]?).map (·.type) = some 38 := by kernel_rfl
theorem tSyntax : (Tryd.prog.globals[0]?).map (·.type) = some 38 := by kernel_rfl
theorem star : "*" ++ "errors.errorString" = "*errors.errorString" := by decide
theorem row76 (u : TypeId) (h : Tryd.prog.typeName? 3 u = some "*errors.errorString") : u = 76 :=
  typeName_ptr_named (nm := "errors.errorString") (by rw [star]; kernel_rfl) (by kernel_rfl) (by decide) u (by rw [star]; exact h)

theorem err_cell {H : Type} {enc : TypeId × Value → H} {W : World} {fuel : Nat} {l : List Value} {d : DataW H} {p : List MemPlace}
    (h : DataW.trod enc Tryd.prog W 0 (fun _ => true) false fuel 38 l = some (.iface "*errors.errorString" (.ptr d), p)) (hok : ∀ u v, l = [.iface u v] → Value.okWide Tryd.prog W .any 0 u v) : ∃ t v, l = [.iface t v] ∧ v.oneCell' = true := by
  obtain ⟨f1, u, v, rfl, hn, h1⟩ := iface_of_trod Tryd.underlying38 h
  obtain rfl := row76 u hn
  obtain ⟨f2, a, cs', q, hv, _, _, _⟩ := ptr_of_trod Tryd.underlying76 h1
  have ok := hok _ _ rfl
  refine ⟨_, v, rfl, ?_⟩
  unfold Value.okWide at ok
  simp only [Tryd.underlying76] at ok
  unfold Cell.okWide at ok
  cases v <;> simp [Value.cells, Cell.ok, Tryd.underlying76] at ok hv <;> rfl

theorem errs_of_laid {W : World} (h : laidMetH Tryd.prog Rows.factoryParsesRow.laid W) : ∀ g ∈ [0, 1], ∃ t v, W.cell? ⟨g, 0, none⟩ = some (.iface t v) ∧ v.oneCell' = true := by
  rw [MakeChecks.laidMetH_plain _ _ _ (by kernel_rfl)] at h
  obtain ⟨ps, ⟨_, _, cs0, _, p0, q0, _, _, _, _, ⟨_, _, cs1, _, p1, q1, _, _, _, _, ⟨_, _, cs2, _, p2, q2, _, _, _, _, ⟨g3, t3, cs3, f3, p3, q3, hg3, ht3, hv3, hd3, ⟨g4, t4, cs4, f4, p4, q4, hg4, ht4, hv4, hd4, hq4, e4⟩, e3⟩, e2⟩, e1⟩, e0⟩, hnd, hrows⟩ := h
  obtain rfl := Option.some.inj (gRange.symm.trans hg3)
  obtain rfl := Option.some.inj (gSyntax.symm.trans hg4)
  obtain rfl := Option.some.inj (tRange.symm.trans ht3)
  obtain rfl := Option.some.inj (tSyntax.symm.trans ht4)
  obtain ⟨l3⟩ := cs3
  obtain ⟨l4⟩ := cs4
  subst e4 e3 e2 e1 e0
  have ok3 : ∀ u v, l3 = [.iface u v] → Value.okWide Tryd.prog W .any 0 u v := fun u v e => by
    subst e
    exact (hrows 1 0 (by simp [MemPlace.row])).2 u v (by simpa using World.var?_cell hg3 hv3 0)
  have ok4 : ∀ u v, l4 = [.iface u v] → Value.okWide Tryd.prog W .any 0 u v := fun u v e => by
    subst e
    exact (hrows 0 0 (by simp [MemPlace.row])).2 u v (by simpa using World.var?_cell hg4 hv4 0)
  obtain ⟨a3, v3, rfl, o3⟩ := err_cell hd3 ok3
  obtain ⟨a4, v4, rfl, o4⟩ := err_cell hd4 ok4
  intro g hg
  rcases List.mem_cons.mp hg with rfl | hg
  · exact ⟨a4, v4, by simpa using World.var?_cell hg4 hv4 0, o4⟩
  · rw [List.mem_singleton.mp hg]
    exact ⟨a3, v3, by simpa using World.var?_cell hg3 hv3 0, o3⟩

end Go.Th.Fact
end
