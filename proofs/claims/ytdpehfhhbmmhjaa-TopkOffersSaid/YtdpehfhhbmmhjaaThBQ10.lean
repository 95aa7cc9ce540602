/- What the row of one statement stands on: a store, abstract code, functions of the program and their laws (ThQ10). -/
import Derived.Test.YtdpehfhhbmmhjaaThBQ9

section
/- What stays; what is lent: more. -/
set_option linter.unusedSimpArgs false
set_option linter.unusedVariables false
namespace Go.Th
open Go

theorem same_upd {R D : List Nat} {S S' : St} (g : Upd D S S') (h : ∀ i ∈ R, i < S.next ∧ i ∉ D) : Same R S S' := fun i hi => g.keep i (h i hi).1 (h i hi).2
theorem sameK_mk {R : List Nat} {S S' : St} {k : Prop} (h : Same R S S') (hk : k) : sameK R S S' k := by
  cases R with
  | nil => exact hk
  | cons i R => exact ⟨h, hk⟩
theorem eltV_block {k m off : Nat} {v : V} : ∀ i ∈ (eltV k v m off).block, i ∈ v.block := by
  cases v <;> simp [eltV, V.block]

theorem SlE.block_lt {S : St} (hw : S.Wf) {k : Nat} {v : V} {es : List (List V)} (h : SlE S k v es) {j : Nat} (hj : j < es.length) (hk : 0 < k) : ∀ i ∈ v.block, i < S.next :=
  SlAt.block_lt hw h.1 (Nat.mul_pos (by omega) hk)

theorem Lent.lt {S : St} (hw : S.Wf) {B k : Nat} {x : V} {n q : Nat} {cs ms : List V} (h : Lent S B k x n q cs ms) : ∀ i ∈ x.block, i < S.next := by
  obtain ⟨j, rfl, _, ha⟩ := h
  intro i hi
  obtain ⟨_, vs, hg⟩ := ha.own i hi
  exact hw.lt hg

end Go.Th
end
