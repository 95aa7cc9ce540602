/- What the row of one statement stands on: a store, abstract code, functions of the program and their laws (ThO5). -/
import Derived.Test.YtconjbbmdjaehaaGreatDoorThBO4
import Derived.Test.YtconjbbmdjaehaaGreatDoorThBHvar

section
/- A store that begins with some errors' variables and the table of powers of ten. -/
set_option linter.unusedSimpArgs false
set_option linter.unusedVariables false
namespace Go.Th
open Go Go.RowKit Go.ChangeShapes Go.WideShapes Go.ChangeAt Go.Th.L

def ErrTab (gs : List Nat) (n : Nat) (S : St) : Prop := GV gs S ∧ TabG n S
theorem ErrTab.keep {gs : List Nat} {n : Nat} (S S' : St) (k : ∀ i b, S.get i = some b → S'.get i = some b) (h : ErrTab gs n S) : ErrTab gs n S' :=
  ⟨fun g hg => by obtain ⟨t, ht⟩ := h.1 g hg; exact ⟨t, k _ _ ht⟩, k _ _ h.2⟩
theorem RoS.errs {gs : List Nat} {W : World} (hg : ∀ g ∈ gs, ∃ te v t fz, W.heap[g]? = some (.cells #[.iface te v] t fz) ∧ v.oneCell' = true) : ∀ n, ∃ m S, RoS m S W ∧ S.next = n ∧ ∀ g ∈ gs, g < n → ∃ t, S.get g = some (.glob g [.iface t .junk])
  | 0 => ⟨_, _, RoS.empty W, rfl, fun g _ h => by omega⟩
  | n + 1 => by
    obtain ⟨m, S, h1, h2, h3⟩ := RoS.errs hg n
    by_cases hn : n ∈ gs
    · obtain ⟨te, v, t, fz, hc, hv⟩ := hg n hn
      subst h2
      refine ⟨_, _, RoS.globE h1 (vs := [.iface te .junk]) rfl ⟨_, t, fz, hc, by simp only [VRs, VR]; exact ⟨_, _, rfl, ⟨_, rfl, hv⟩, rfl⟩⟩, rfl, fun g hg' hlt' => ?_⟩
      rw [St.get_new]
      by_cases e : g = S.next
      · rw [if_pos e]; exact ⟨te, by rw [e]⟩
      · rw [if_neg e]; exact h3 g hg' (by omega)
    · exact ⟨_, _, RoS.place h1 ⟨0, 0, 0, false⟩, by simp [h2], fun g hg' hlt' => by
        obtain ⟨t, ht⟩ := h3 g hg' (by have : g ≠ n := fun e => hn (e ▸ hg'); omega)
        exact ⟨t, ht⟩⟩
theorem ErrTab.start {gs : List Nat} {n : Nat} {W : World} (hlt : ∀ g ∈ gs, g < n) (hg : ∀ g ∈ gs, ∃ te v t fz, W.heap[g]? = some (.cells #[.iface te v] t fz) ∧ v.oneCell' = true) (h : ∃ t fz, W.heap[n]? = some (.cells (Lib.pow10Tab.map (Value.int .u64)).toArray t fz)) : ∃ m S, RoS m S W ∧ ErrTab gs n S := by
  obtain ⟨t, fz, h⟩ := h
  obtain ⟨m, S, h1, rfl, h3⟩ := RoS.errs hg n
  refine ⟨_, _, RoS.globE h1 (vs := Lib.pow10Tab.map (V.int .u64)) (tab_plain _) ⟨_, t, fz, h, tab_vrs _ _⟩, fun g hgs => ?_, by rw [TabG, St.get_new, if_pos rfl]⟩
  obtain ⟨u, hu⟩ := h3 g hgs (hlt g hgs)
  exact ⟨u, by rw [St.get_new, if_neg (by have := hlt g hgs; omega)]; exact hu⟩

end Go.Th
end
