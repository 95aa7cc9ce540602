/- What the row of one statement stands on: a store, abstract code, functions of the program and their laws (ThHdiskR). -/
import Derived.Test.YtilkmjbbdnnphaaGreatDoorThBHdisk14
import Derived.Test.YtilkmjbbdnnphaaGreatDoorThBQ11

section
/- Readings of the disk rows' arguments. -/
set_option linter.unusedVariables false
set_option linter.unusedSimpArgs false
namespace Go.Th.L
open Go Go.Th Go.Th.Pure

theorem rdd_str {S : St} {cs : List V} (h : Has S Sh.str cs) : ∃ s : List UInt8, cs = [.str s] := by
  simp only [Has] at h
  first
    | exact h
    | exact ⟨_, h.choose_spec⟩
    | (obtain ⟨s, h, _⟩ := h; exact ⟨s, h⟩)
theorem rdd_int {S : St} {cs : List V} (h : Has S (Sh.int .i64) cs) : ∃ n : Int, cs = [.int .i64 n] ∧ -9223372036854775808 ≤ n ∧ n ≤ 9223372036854775807 := by
  simp only [Has] at h
  obtain ⟨n, h1, h2⟩ := h
  exact ⟨n, h1, lit_i64 h2⟩

end Go.Th.L
end
