/- What the row of one statement stands on: a store, abstract code, functions of the program and their laws (ThHcertR). -/
import Derived.Test.YtdjocmcbibedhaaThBHcert9
import Derived.Test.YtdjocmcbibedhaaThBQ10

section
/- Readings: answers, rows, vectors. -/
set_option linter.unusedVariables false
set_option linter.unusedSimpArgs false
namespace Go.Th.L
open Go Go.Th Go.Th.Pure

abbrev intsS : Sh := Sh.slice 1 8 (Sh.int IntKind.i64)
abbrev rowsS : Sh := Sh.slice 2 32 shRow

theorem reach_eq : reachBytes = 140737488351232 := rfl

theorem rd_ints {S : St} {cs : List V} (h : Has S intsS cs) : ∃ (v : V) (l : List Int), cs = [v] ∧ IntsAt S v l ∧ l.length ≤ 17592186044416 ∧ ∀ x ∈ l, -9223372036854775808 ≤ x ∧ x ≤ 9223372036854775807 := by
  simp only [intsS, Has] at h
  obtain ⟨v, n, es, rfl, hs, hr, he⟩ := h
  obtain ⟨l, hl, rfl, hx⟩ := has_i64s (S := S) hs.2.1 (fun m hm => by simpa only [Has] using he m hm)
  refine ⟨v, l, rfl, hs.ints, ?_, hx⟩
  have := reach_eq
  omega

theorem rd_rows {S : St} {x : V} (h : HasA S rowsS x) : ∃ rs : List Row, RowsAt S x rs ∧ rs.length ≤ 17592186044416 ∧ (∀ r ∈ rs, r.2.length ≤ 17592186044416) := by
  simp only [rowsS, HasA, Has] at h
  obtain ⟨v, n, es, hv, hs, hr, he⟩ := h
  cases hv
  obtain ⟨rs, h1, h2, h3, _⟩ := has_rows hs hr he
  exact ⟨rs, h1, h2, h3⟩
theorem rd_vec {S : St} {x : V} (h : HasA S intsS x) : ∃ l : List Int, IntsAt S x l ∧ l.length ≤ 17592186044416 := by
  obtain ⟨v, l, e, h1, h2, _⟩ := rd_ints (S := S) (cs := [x]) (by simpa only [intsS, HasA] using h)
  cases e
  exact ⟨l, h1, h2⟩
theorem rd_int {S : St} {x : V} (h : HasA S (Sh.int .i64) x) : ∃ n : Int, x = .int .i64 n ∧ -9223372036854775808 ≤ n ∧ n ≤ 9223372036854775807 := by
  simp only [HasA, Has] at h
  obtain ⟨n, e, hw⟩ := h
  cases e
  exact ⟨n, rfl, lit_i64 hw⟩

end Go.Th.L
end
