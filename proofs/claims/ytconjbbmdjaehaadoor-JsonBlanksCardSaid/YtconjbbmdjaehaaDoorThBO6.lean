/- What the row of one statement stands on: a store, abstract code, functions of the program and their laws (ThO5, ThO6). -/
import Derived.Test.YtconjbbmdjaehaaDoorThBO4
import Derived.Test.YtconjbbmdjaehaaDoorThBHvar

section
/- A store that begins with some errors' variables and the table of powers of ten. -/
set_option linter.unusedSimpArgs false
set_option linter.unusedVariables false
namespace Go.Th
open Go Go.RowKit Go.ChangeShapes Go.WideShapes Go.ChangeAt Go.Th.L

def ErrTab (gs : List Nat) (n : Nat) (S : St) : Prop := GV gs S ∧ TabG n S
theorem ErrTab.keep {gs : List Nat} {n : Nat} (S S' : St) (k : ∀ i b, S.get i = some b → S'.get i = some b) (h : ErrTab gs n S) : ErrTab gs n S' :=
  ⟨fun g hg => by obtain ⟨t, ht⟩ := h.1 g hg; exact ⟨t, k _ _ ht⟩, k _ _ h.2⟩
end Go.Th
end

section
/- A store that begins with some errors' variables and the table, wherever it lies. -/
set_option linter.unusedSimpArgs false
set_option linter.unusedVariables false
namespace Go.Th
open Go Go.RowKit Go.ChangeShapes Go.WideShapes Go.ChangeAt Go.Th.L

theorem RoS.vars {gs : List Nat} {tb : Nat} {W : World} (hn : tb ∉ gs) (hg : ∀ g ∈ gs, ∃ te v t fz, W.heap[g]? = some (.cells #[.iface te v] t fz) ∧ v.oneCell' = true) (h : ∃ t fz, W.heap[tb]? = some (.cells (Lib.pow10Tab.map (Value.int .u64)).toArray t fz)) :
    ∀ n, ∃ m S, RoS m S W ∧ S.next = n ∧ (∀ g ∈ gs, g < n → ∃ t, S.get g = some (.glob g [.iface t .junk])) ∧ (tb < n → TabG tb S)
  | 0 => ⟨_, _, RoS.empty W, rfl, fun g _ h => by omega, fun h => by omega⟩
  | n + 1 => by
    obtain ⟨m, S, h1, rfl, h3, h4⟩ := RoS.vars hn hg h n
    by_cases hn1 : S.next ∈ gs
    · obtain ⟨te, v, t, fz, hc, hv⟩ := hg _ hn1
      refine ⟨_, _, RoS.globE h1 (vs := [.iface te .junk]) rfl ⟨_, t, fz, hc, by simp only [VRs, VR]; exact ⟨_, _, rfl, ⟨_, rfl, hv⟩, rfl⟩⟩, rfl, fun g hg' hlt' => ?_, fun hlt' => ?_⟩
      · rw [St.get_new]
        by_cases e : g = S.next
        · rw [if_pos e]; exact ⟨te, by rw [e]⟩
        · rw [if_neg e]; exact h3 g hg' (by omega)
      · have e : tb ≠ S.next := fun e => hn (e ▸ hn1)
        unfold TabG
        rw [St.get_new, if_neg e]
        exact h4 (by omega)
    · by_cases ht : tb = S.next
      · obtain ⟨t, fz, h⟩ := h
        rw [ht] at h
        refine ⟨_, _, RoS.globE h1 (vs := Lib.pow10Tab.map (V.int .u64)) (tab_plain _) ⟨_, t, fz, h, tab_vrs _ _⟩, rfl, fun g hg' hlt' => ?_, fun _ => ?_⟩
        · have e : g ≠ S.next := fun e => hn1 (e ▸ hg')
          obtain ⟨u, hu⟩ := h3 g hg' (by omega)
          exact ⟨u, by rw [St.get_new, if_neg e]; exact hu⟩
        · unfold TabG
          rw [St.get_new, if_pos ht, ht]
      · refine ⟨_, _, RoS.place h1 ⟨0, 0, 0, false⟩, by simp, fun g hg' hlt' => ?_, fun hlt' => ?_⟩
        · obtain ⟨t, ht'⟩ := h3 g hg' (by have : g ≠ S.next := fun e => hn1 (e ▸ hg'); omega)
          exact ⟨t, ht'⟩
        · exact h4 (by omega)
theorem ErrTab.start2 {gs : List Nat} {tb n : Nat} {W : World} (hn : tb ∉ gs) (hlt : tb < n ∧ ∀ g ∈ gs, g < n) (hg : ∀ g ∈ gs, ∃ te v t fz, W.heap[g]? = some (.cells #[.iface te v] t fz) ∧ v.oneCell' = true) (h : ∃ t fz, W.heap[tb]? = some (.cells (Lib.pow10Tab.map (Value.int .u64)).toArray t fz)) : ∃ m S, RoS m S W ∧ ErrTab gs tb S := by
  obtain ⟨m, S, h1, _, h3, h4⟩ := RoS.vars hn hg h n
  exact ⟨m, S, h1, fun g hgs => h3 g hgs (hlt.2 g hgs), h4 hlt.1⟩

end Go.Th
end
