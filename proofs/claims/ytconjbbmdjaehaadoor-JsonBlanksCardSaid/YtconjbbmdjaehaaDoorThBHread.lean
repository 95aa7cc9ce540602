/- What the row of one statement stands on: a store, abstract code, functions of the program and their laws (ThPfact, ThHread). -/
import Derived.Test.YtconjbbmdjaehaaDoorThBHvar
import Derived.Lib.AtoiAllCases
import Derived.Lib.ItoaNum
import Derived.Test.YtconjbbmdjaehaaDoorThBQ12

section
/- Plain: specs as texts, parsed and printed. -/
set_option linter.unusedSimpArgs false
set_option linter.unusedVariables false
namespace Go.Th.Pure
open Go Go.Th

abbrev Bs := List UInt8
def within (n m : Int) : Bool := decide (1 ≤ n ∧ n ≤ m)
end Go.Th.Pure
end

section
/- Readings of rows' arguments: texts, numbers, numbers in a row. -/
set_option linter.unusedVariables false
set_option linter.unusedSimpArgs false
namespace Go.Th.L
open Go Go.Th

theorem rj_ints {S : St} {cs : List V} (h : Has S (Sh.slice 1 8 (Sh.int IntKind.i64)) cs) : ∃ (v : V) (l : List Int), cs = [v] ∧ IntsAt S v l ∧ ∀ x ∈ l, -9223372036854775808 ≤ x ∧ x ≤ 9223372036854775807 := by
  simp only [Has] at h
  obtain ⟨v, n, es, rfl, hs, hr, he⟩ := h
  obtain ⟨l, hl, rfl, hx⟩ := has_i64s (S := S) hs.2.1 (fun m hm => by simpa only [Has] using he m hm)
  exact ⟨v, l, rfl, hs.ints, hx⟩
theorem rj_str {S : St} {cs : List V} (h : Has S Sh.str cs) : ∃ s : List UInt8, cs = [.str s] := by
  simp only [Has] at h
  obtain ⟨s, h, _⟩ := h
  exact ⟨s, h⟩

end Go.Th.L
end
