/- What the row of one statement stands on: a store, abstract code, functions of the program and their laws (ThHvec4, ThHvec5, ThHvec6, ThHvec7, ThHlaw03c). -/
import Derived.Test.YtdjocmcbibedhaaThBHints
import Derived.Test.YtdjocmcbibedhaaThBHlaw03b

section
/- vec, the document: ids of rows; the least box, the ball. -/
set_option linter.unusedSimpArgs false
set_option linter.unusedVariables false
namespace Go.Th.L
open Go Go.Th Go.Th.Pure
variable {P : Program} {N : Nat → Nat}

end Go.Th.L
end

section
/- vec: the least box, the ball. -/
set_option linter.unusedSimpArgs false
set_option linter.unusedVariables false
namespace Go.Th.L
open Go Go.Th Go.Th.Pure
variable {P : Program} {N : Nat → Nat}

theorem BuiltI.set {S0 S : St} {v : V} {l : List Int} (h : BuiltI S0 S v l) {j : Nat} (hj : j < l.length) (x : Int) {K : St → Prop} (hK : ∀ S', BuiltI S0 S' v (l.set j x) → Upd v.block S S' → K S') : ifS (storeV S 1 (eltV 1 v j 0) (.int .i64 x)) K := by
  refine Built.set h (by rw [intE_len]; exact hj) (by omega) (x := .int .i64 x) rfl rfl fun S' b u => hK S' ?_ u
  have : (intE l).set j (V.int .i64 x).cells = intE (l.set j x) := by simp [intE, List.map_set, V.cells]
  rw [this] at b; exact b
/-- Columns: the first i of them have seen one row more. -/
structure ColAt (f : List Row → Nat → Int → Int) (rs : List Row) (d q i : Nat) (L : List Int) : Prop where
  len : L.length = d
  val : ∀ j, j < d → L.getD j 0 = f (rs.take (if j < i then q + 1 else q)) j (firstC rs j)
theorem ColAt.done {f : List Row → Nat → Int → Int} {rs : List Row} {d q : Nat} {L : List Int} (h : ColAt f rs d q d L) : ColAt f rs d (q + 1) 0 L :=
  ⟨h.len, fun j hj => by have := h.val j hj; rw [if_pos hj] at this; rw [if_neg (by omega)]; exact this⟩
theorem ColAt.step {f : List Row → Nat → Int → Int} {rs : List Row} {d q i : Nat} {L : List Int} (h : ColAt f rs d q i L) (hi : i < d) {x : Int} (hx : x = f (rs.take (q + 1)) i (firstC rs i)) : ColAt f rs d q (i + 1) (L.set i x) :=
  ⟨by rw [List.length_set]; exact h.len, fun j hj => by
    have hl := h.len
    by_cases e : j = i
    · subst e; rw [if_pos (by omega), ← hx]; simp [hl, hj]
    · have := h.val j hj
      have e1 : (L.set i x).getD j 0 = L.getD j 0 := by
        simp only [List.getD_eq_getElem?_getD, List.getElem?_set]
        rw [if_neg (fun e' => e e'.symm)]
      rw [e1, this]
      by_cases e2 : j < i
      · rw [if_pos e2, if_pos (by omega)]
      · rw [if_neg e2, if_neg (by omega)]⟩
theorem ColAt.lo {rs : List Row} {d : Nat} {L : List Int} (h : ColAt colMin rs d rs.length 0 L) : L = boxLo rs d := by
  apply List.ext_getElem
  · rw [h.len, boxLo_len]
  · intro j h1 h2
    have := h.val j (by have := h.len; omega)
    rw [if_neg (by omega), List.take_length] at this
    have e1 : L.getD j 0 = L[j] := by simp [h1]
    have e2 : (boxLo rs d).getD j 0 = (boxLo rs d)[j] := by simp [h2]
    rw [← e1, ← e2, this, boxLo_get (by have := h.len; omega)]
theorem ColAt.hi {rs : List Row} {d : Nat} {L : List Int} (h : ColAt colMax rs d rs.length 0 L) : L = boxHi rs d := by
  apply List.ext_getElem
  · rw [h.len, boxHi_len]
  · intro j h1 h2
    have := h.val j (by have := h.len; omega)
    rw [if_neg (by omega), List.take_length] at this
    have e1 : L.getD j 0 = L[j] := by simp [h1]
    have e2 : (boxHi rs d).getD j 0 = (boxHi rs d)[j] := by simp [h2]
    rw [← e1, ← e2, this, boxHi_get (by have := h.len; omega)]

end Go.Th.L
end

section
/- vec, the reference: ids of rows, numbers compared, the least box, the ball. -/
set_option linter.unusedSimpArgs false
set_option linter.unusedVariables false
namespace Go.Th.L
open Go Go.Th Go.Th.Pure
variable {P : Program} {N : Nat → Nat}

end Go.Th.L
end

section
/- vec, the reference: the ball. -/
set_option linter.unusedSimpArgs false
set_option linter.unusedVariables false
namespace Go.Th.L
open Go Go.Th Go.Th.Pure
variable {P : Program} {N : Nat → Nat}

end Go.Th.L
end

section
/- The laws of layer 3: awake. -/
set_option linter.unusedSimpArgs false
set_option linter.unusedVariables false
namespace Go.Th.L
open Go Go.Th Go.Th.Pure
variable {P : Program} {N : Nat → Nat}

theorem lit_ints {S : St} {i : Nat} (l : List Int) (h : S.get i = some (.cells (intsV .i64 l) true)) (hl : l.length ≤ 4611686018427387904) : IntsAt S (.slice i 0 l.length l.length 1 true) l :=
  ⟨hl, by simp [intsV_length], .inr ⟨i, 0, l.length, true, rfl, Nat.le_refl _, by rw [St.loads_of h (by simp [intsV_length]), List.drop_zero, List.take_of_length_le (by simp [intsV_length])]⟩⟩

end Go.Th.L
end
