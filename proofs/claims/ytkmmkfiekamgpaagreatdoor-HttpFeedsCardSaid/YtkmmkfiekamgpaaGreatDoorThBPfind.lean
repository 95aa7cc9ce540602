/- What the row of one statement stands on: a store, abstract code, functions of the program and their laws (ThPfind). -/
import Derived.Lib.IndexMore
import Derived.Lib.Split

section
/- The library's index and cut, by one walk. -/
set_option linter.unusedVariables false
namespace Go.Th.Pure
open Go

/-- What stands ahead of the first sep, and behind it. -/
def findL (sep : List UInt8) : List UInt8 → Option (List UInt8 × List UInt8)
  | [] => if sep.isEmpty then some ([], []) else none
  | b :: l => if sep.isPrefixOf (b :: l) then some ([], (b :: l).drop sep.length) else
    match findL sep l with
    | some (a, r) => some (b :: a, r)
    | none => none

theorem findL_index (sep : List UInt8) : ∀ s : List UInt8, Lib.index s sep = match findL sep s with | some (a, _) => (a.length : Int) | none => -1
  | [] => by
    simp only [Lib.index, findL]
    split <;> rfl
  | b :: l => by
    have ih := findL_index sep l
    simp only [Lib.index, findL]
    split
    · rfl
    · cases h : findL sep l with
      | none => rw [h] at ih; simp only [ih]; rfl
      | some p =>
        obtain ⟨a, r⟩ := p
        rw [h] at ih
        simp only at ih
        simp only [ih]
        have : ¬ ((a.length : Int) == -1) = true := by simp
        rw [if_neg this]
        simp
theorem findL_eq (sep : List UInt8) : ∀ (s a r : List UInt8), findL sep s = some (a, r) → s = a ++ sep ++ r
  | [], a, r, h => by
    simp only [findL] at h
    split at h
    · rename_i he
      cases h
      have : sep = [] := by simpa using he
      simp [this]
    · cases h
  | b :: l, a, r, h => by
    simp only [findL] at h
    split at h
    · rename_i hp
      cases h
      obtain ⟨t, ht⟩ := List.isPrefixOf_iff_prefix.mp hp
      rw [← ht]; simp
    · split at h
      · rename_i a' r' h'
        cases h
        have := findL_eq sep l _ _ h'
        rw [this]; simp
      · cases h
/-- Cut, by one walk. -/
def cutL (s sep : List UInt8) : List UInt8 × List UInt8 × Bool := match findL sep s with
  | some (a, r) => (a, r, true)
  | none => (s, [], false)
theorem cutL_eq (s sep : List UInt8) : Lib.cut s sep = cutL s sep := by
  unfold Lib.cut cutL
  rw [findL_index]
  cases h : findL sep s with
  | none => rfl
  | some p =>
    obtain ⟨a, r⟩ := p
    have := findL_eq sep s a r h
    simp only
    rw [if_pos (by omega)]
    subst this
    simp [List.drop_append]
/-- Split, by fuel. -/
def splitF (sep : List UInt8) : Nat → List UInt8 → List (List UInt8)
  | 0, s => [s]
  | k + 1, s => match findL sep s with
    | some (a, r) => a :: splitF sep k r
    | none => [s]
def splitL (s sep : List UInt8) : List (List UInt8) := splitF sep s.length s
theorem splitF_eq {sep : List UInt8} (h : sep ≠ []) : ∀ (k : Nat) (s : List UInt8), s.length ≤ k → Lib.split s sep = splitF sep k s
  | 0, s, hs => by
    have : s = [] := List.length_eq_zero_iff.mp (by omega)
    subst this
    have hi : Lib.index [] sep = -1 := by cases sep with | nil => exact absurd rfl h | cons => rfl
    simp [Lib.split, Lib.count_miss hi, Lib.splitK, splitF]
  | k + 1, s, hs => by
    have hi := findL_index sep s
    simp only [splitF]
    cases hf : findL sep s with
    | none =>
      rw [hf] at hi
      simp [Lib.split, Lib.count_miss hi, Lib.splitK]
    | some p =>
      obtain ⟨a, r⟩ := p
      rw [hf] at hi
      simp only at hi
      have e := findL_eq sep s a r hf
      have hd : s.drop (a.length + sep.length) = r := by rw [e]; simp [List.drop_append]
      have hl : 1 ≤ sep.length := by cases sep with | nil => exact absurd rfl h | cons => simp
      have hr : r.length ≤ k := by have := congrArg List.length e; simp at this; omega
      have ih := splitF_eq h k r hr
      unfold Lib.split at ih ⊢
      rw [Lib.count_hit h hi, hd, Nat.add_comm 1, Lib.splitK]
      have hn : ¬ (Lib.index s sep == -1) = true := by rw [hi]; simp
      rw [if_neg hn, hi]
      simp only [Int.toNat_natCast, Nat.add_zero, hd, ih]
      congr 1
      rw [e]; simp
theorem splitL_eq {sep : List UInt8} (h : sep ≠ []) (s : List UInt8) : Lib.split s sep = splitL s sep := splitF_eq h _ s (Nat.le_refl _)
end Go.Th.Pure
end
