/- What the row of one statement stands on: a store, abstract code, functions of the program and their laws (ThPcodec, ThPcodec2). -/
import Derived.Test.YtdjocmcbibedhaaGreatThBQ10

section
/- Codec, plainly: checks, changes and rows as texts, texts read again. -/
set_option linter.unusedSimpArgs false
set_option linter.unusedVariables false
namespace Go.Th.Pure
open Go Go.Th

def inC (x : Int) : Bool := decide (-2147483647 ≤ x) && decide (x ≤ 2147483647)
def checkV (l : List Int) (d : Int) : Int := if d < 1 ∨ 64 < d ∨ (l.length : Int) ≠ d then 30 else if l.all inC then 0 else 31
def idOk (n : Int) : Bool := decide (1 ≤ n) && decide (n ≤ 1000000000)
theorem idOk_iff {n : Int} : idOk n = true ↔ 1 ≤ n ∧ n ≤ 1000000000 := by simp [idOk]

def rowsErr (seen : List Int) : List Row → Int → Int
  | [], _ => 0
  | r :: rs, d => if idOk r.1 = false ∨ r.1 ∈ seen then 50 else if checkV r.2 d ≠ 0 then checkV r.2 d else rowsErr (r.1 :: seen) rs d
def checkR (rs : List Row) (d : Int) : Int := if d < 1 ∨ 64 < d then 30 else if 512 < rs.length then 2 else rowsErr [] rs d

theorem rowsErr_zero : ∀ {rs : List Row} {seen : List Int} {d : Int}, rowsErr seen rs d = 0 → ∀ r ∈ rs, idOk r.1 = true ∧ checkV r.2 d = 0
  | [], _, _, _, r, hr => by simp at hr
  | q :: rs, seen, d, h, r, hr => by
    simp only [rowsErr] at h
    split at h
    · omega
    · rename_i h1
      split at h
      · rename_i h2; exact absurd h h2
      · rename_i h2
        rcases List.mem_cons.mp hr with rfl | hr
        · exact ⟨by simpa using (not_or.mp h1).1, by simpa using h2⟩
        · exact rowsErr_zero h r hr
theorem checkR_zero {rs : List Row} {d : Int} (h : checkR rs d = 0) : 1 ≤ d ∧ d ≤ 64 ∧ rs.length ≤ 512 ∧ ∀ r ∈ rs, idOk r.1 = true ∧ checkV r.2 d = 0 := by
  unfold checkR at h
  split at h
  · omega
  · split at h
    · omega
    · exact ⟨by omega, by omega, by omega, rowsErr_zero h⟩

end Go.Th.Pure
end

section
/- Codec, plainly: rows as texts; texts that are one byte longer or shorter. -/
set_option linter.unusedSimpArgs false
set_option linter.unusedVariables false
namespace Go.Th.Pure
open Go Go.Th

end Go.Th.Pure
end
