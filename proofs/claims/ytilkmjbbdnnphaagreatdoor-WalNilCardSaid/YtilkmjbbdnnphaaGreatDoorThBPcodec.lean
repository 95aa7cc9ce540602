/- What the row of one statement stands on: a store, abstract code, functions of the program and their laws (ThPcodec). -/
import Derived.Test.YtilkmjbbdnnphaaGreatDoorThBQ10

section
/- Codec, plainly: checks, changes and rows as texts, texts read again. -/
set_option linter.unusedSimpArgs false
set_option linter.unusedVariables false
namespace Go.Th.Pure
open Go Go.Th

theorem num_inj {a b : List UInt8} (hl : a.length = b.length) (h : num a = num b) : a = b := by
  rw [← le_num a, ← le_num b, hl, h]

theorem le_congr {n : Nat} {v w : Int} (h : v % 256 ^ n = w % 256 ^ n) : le n v = le n w := by
  refine num_inj (by rw [le_length, le_length]) ?_
  have h1 := num_le n v
  have h2 := num_le n w
  omega

end Go.Th.Pure
end
