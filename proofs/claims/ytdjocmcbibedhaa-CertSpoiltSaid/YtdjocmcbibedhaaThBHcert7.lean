/- What the row of one statement stands on: a store, abstract code, functions of the program and their laws (ThHcert6, ThHcert7). -/
import Derived.Test.YtdjocmcbibedhaaThBHcert5
import Derived.Test.YtdjocmcbibedhaaThBGref13

section
/- The reference's sound and certain answers. -/
set_option linter.unusedSimpArgs false
set_option linter.unusedVariables false
set_option maxHeartbeats 1000000
namespace Go.Th.L
open Go Go.Th Go.Th.Pure Go.Sort
variable {P : Program} {N : Nat → Nat}

theorem RegsAt'.ro {S : St} {v : V} {gs : List Reg} {ps : List RP} (h : RegsAt' S v gs ps) : RegsAt' S.ro v gs ps :=
  ⟨h.len, ⟨SlAt.ro h.sl.1, h.sl.2⟩, fun j hr hw => (h.at_ j hr hw).ro⟩
theorem AnsAt.ro {S : St} {a b c : V} {x : Ans} (h : AnsAt S a b c x) : AnsAt S.ro a b c x := ⟨h.hits.ro, h.seen.ro, let ⟨ps, h⟩ := h.rest; ⟨ps, h.ro⟩⟩

end Go.Th.L
end

section
/- The reference's sound answers, whole; chapter 13's. -/
set_option linter.unusedSimpArgs false
set_option linter.unusedVariables false
set_option maxHeartbeats 1000000
namespace Go.Th.L
open Go Go.Th Go.Th.Pure Go.Sort
variable {P : Program} {N : Nat → Nat}

/-- So much is bounded. -/
def SmallA (x : Ans) : Prop := x.seen.length + (restIds x.rest).length ≤ 100000

end Go.Th.L
end
