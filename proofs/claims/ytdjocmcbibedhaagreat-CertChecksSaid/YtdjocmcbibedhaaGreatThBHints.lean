/- What the row of one statement stands on: a store, abstract code, functions of the program and their laws (ThHints). -/
import Derived.Test.YtdjocmcbibedhaaGreatThBPbox
import Derived.Test.YtdjocmcbibedhaaGreatThBHsortI4
import Derived.Test.YtdjocmcbibedhaaGreatThBHcmp

section
/- Numbers: cloned, sorted, appended to, parts. -/
set_option linter.unusedSimpArgs false
set_option linter.unusedVariables false
set_option linter.unusedSectionVars false
namespace Go.Th.L
open Go Go.Th Go.Th.Pure Go.Sort
variable {P : Program} {N : Nat → Nat}

theorem ints_app {S0 S : St} {v y : V} {l m : List Int} (h : BuiltI S0 S v l) (hy : IntsAt S y m) (hl : l.length + m.length < 1000000) {K : V → St → Prop}
    (hk : ∀ v' S', BuiltI S0 S' v' (l ++ m) → Upd v.block S S' → (∀ i ∈ v'.block, i ∈ v.block ∨ S.next ≤ i) → K v' S') : ifP (appV S 1 8 v y) K := by
  refine Built.app h (ds := intE m) (by rw [intE_flat, intE_len]; exact hy.src) (by simp [intE]) (by rw [intE_flat]; exact intsV_ones _ _) (by simp only [intE_len]; omega) (by simp only [intE_len]; omega) fun v' S' b => hk v' S' ?_
  simpa [BuiltI, intE] using b
theorem BuiltI.nil {S0 S : St} (g : Grow S0 S) : BuiltI S0 S .nilSlice [] := Built.nil g 1

theorem IntsAt.sub {S : St} {v : V} {l : List Int} (h : IntsAt S v l) {lo hi : Option V} {a b : Nat} (hb : ∀ cap, l.length ≤ cap → bnds l.length cap lo hi none = some (a, b, cap)) (h0 : a ≤ b) (h1 : b ≤ l.length) :
    ∃ v', sliceSlV 1 v lo hi none = some v' ∧ IntsAt S v' ((l.drop a).take (b - a)) ∧ (∀ i ∈ v'.block, i ∈ v.block) := by
  obtain ⟨v', e1, e2, e3⟩ := SlAt.sub (c := 0) h hb h0 h1
  refine ⟨v', e1, ?_, e3⟩
  rw [Nat.mul_one, Nat.mul_one, ← intsV_drop, ← intsV_take] at e2
  have hl : ((l.drop a).take (b - a)).length = b - a := by rw [List.length_take, List.length_drop]; omega
  rw [← hl] at e2; rw [hl] at e2
  unfold IntsAt; rw [hl]; exact e2

end Go.Th.L
end
