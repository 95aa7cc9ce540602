/- What the row of one statement stands on: a store, abstract code, functions of the program and their laws (ThPdig). -/
import Derived.Test.YtmaocfcjbabelaaThBPnum

section
/- Plain: eight digits to the base of 65536. -/
set_option linter.unusedSimpArgs false
set_option linter.unusedVariables false
namespace Go.Th.Pure
open Go Go.Th

def val : List Int → Int
  | [] => 0
  | x :: l => x + 65536 * val l
structure WD (l : List Int) : Prop where
  len : l.length = 8
  dig : ∀ x ∈ l, 0 ≤ x ∧ x < 65536
theorem val_nonneg : ∀ {l : List Int}, (∀ x ∈ l, 0 ≤ x ∧ x < 65536) → 0 ≤ val l
  | [], _ => by simp [val]
  | x :: l, h => by
    have := val_nonneg (l := l) fun y hy => h y (by simp [hy])
    have := h x (by simp)
    simp only [val]; omega
theorem val_lt : ∀ {l : List Int}, (∀ x ∈ l, 0 ≤ x ∧ x < 65536) → val l < 65536 ^ l.length
  | [], _ => by simp [val]
  | x :: l, h => by
    have := val_lt (l := l) fun y hy => h y (by simp [hy])
    have := h x (by simp)
    simp only [val, List.length_cons, Int.pow_succ]; omega
theorem val_set : ∀ {l : List Int} {j : Nat} (h : j < l.length) (x : Int), val (l.set j x) = val l + (x - l[j]) * 65536 ^ j
  | [], j, h, _ => by simp at h
  | a :: l, 0, _, x => by simp [val]; omega
  | a :: l, j + 1, h, x => by
    have := val_set (l := l) (j := j) (by simpa using h) x
    simp only [List.set_cons_succ, val, this, List.getElem_cons_succ, Int.pow_succ]
    generalize (65536 : Int) ^ j = p
    grind
theorem WD.set {l : List Int} (h : WD l) (j : Nat) {x : Int} (h0 : 0 ≤ x) (h1 : x < 65536) : WD (l.set j x) :=
  ⟨by rw [List.length_set]; exact h.len, fun y hy => by
    rcases List.mem_or_eq_of_mem_set hy with hy | rfl
    · exact h.dig y hy
    · exact ⟨h0, h1⟩⟩
theorem WD.get {l : List Int} (h : WD l) {j : Nat} (hj : j < l.length) : 0 ≤ l[j] ∧ l[j] < 65536 := h.dig _ (List.getElem_mem hj)
theorem WD.lt {l : List Int} (h : WD l) : val l < 340282366920938463463374607431768211456 := by
  have := val_lt h.dig
  rw [h.len] at this
  exact this
theorem WD.nonneg {l : List Int} (h : WD l) : 0 ≤ val l := val_nonneg h.dig
theorem len8 {l : List Int} (h : l.length = 8) : ∃ a b c d e f g k, l = [a, b, c, d, e, f, g, k] := by
  match l, h with
  | [a, b, c, d, e, f, g, k], _ => exact ⟨a, b, c, d, e, f, g, k, rfl⟩
theorem val_part {l : List Int} {j : Nat} (h : j < l.length) : val l = val (l.take j) + l[j] * 65536 ^ j + val (l.drop (j + 1)) * 65536 ^ (j + 1) := by
  induction l generalizing j with
  | nil => simp at h
  | cons a l ih =>
    cases j with
    | zero => simp [val]; omega
    | succ j =>
      have := ih (j := j) (by simpa using h)
      simp only [List.take_succ_cons, List.drop_succ_cons, List.getElem_cons_succ, val, this, Int.pow_succ]
      generalize (65536 : Int) ^ j = p
      grind
theorem val_take_lt {l : List Int} (h : ∀ x ∈ l, 0 ≤ x ∧ x < 65536) {j : Nat} (hj : j ≤ l.length) : 0 ≤ val (l.take j) ∧ val (l.take j) < 65536 ^ j := by
  have h' : ∀ x ∈ l.take j, 0 ≤ x ∧ x < 65536 := fun x hx => h x (List.mem_of_mem_take hx)
  refine ⟨val_nonneg h', ?_⟩
  have := val_lt h'
  rwa [List.length_take, Nat.min_eq_left hj] at this

/-- The highest digit that differs decides. -/
theorem val_cmp {l m : List Int} (hl : WD l) (hm : WD m) {j : Nat} (h1 : j < l.length) (h2 : j < m.length) (he : l.drop (j + 1) = m.drop (j + 1)) (hlt : l[j] < m[j]) : val l < val m := by
  rw [val_part h1, val_part h2, he]
  have a1 := val_take_lt hl.dig (Nat.le_of_lt h1)
  have a2 := val_take_lt hm.dig (Nat.le_of_lt h2)
  have : (l[j] + 1) * 65536 ^ j ≤ m[j] * 65536 ^ j := Int.mul_le_mul_of_nonneg_right (by omega) (by have := Int.pow_pos (n := 65536) (m := j) (by omega); omega)
  rw [Int.add_mul] at this
  omega

theorem dm (x : Int) : x = 65536 * (x / 65536) + x % 65536 := by omega
theorem carry {v d p : Int} : ((v + d) % 65536 - d) * p + (v + d) / 65536 * (p * 65536) = v * p := by
  have h : (v + d) % 65536 = v + d - 65536 * ((v + d) / 65536) := by omega
  rw [h]
  generalize (v + d) / 65536 = q
  grind

end Go.Th.Pure
end
