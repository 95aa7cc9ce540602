/- What the row of one statement stands on: a store, abstract code, functions of the program and their laws (ThPhttp1). -/
import Derived.Test.YtkmmkfiekamgpaaGreatDoorThBPfind
import Derived.Test.YtkmmkfiekamgpaaGreatDoorThBPfact

section
/- Plain: bytes found, texts split, a query's fields. -/
set_option linter.unusedSimpArgs false
set_option linter.unusedVariables false
namespace Go.Th.Pure
open Go

/-- Where a byte first stands. -/
def fndB (b : UInt8) : Bs → Option Nat
  | [] => none
  | c :: l => if c = b then some 0 else (fndB b l).map (· + 1)
theorem fndB_hit {b : UInt8} : ∀ {s : Bs} {i : Nat} (hi : i < s.length), (∀ j (hj : j < s.length), j < i → s[j] ≠ b) → s[i] = b → fndB b s = some i
  | [], i, hi, _, _ => by simp at hi
  | c :: l, 0, hi, _, h => by simp at h; simp [fndB, h]
  | c :: l, i + 1, hi, hn, h => by
    have h0 := hn 0 (by simp) (by omega)
    simp only [List.getElem_cons_zero] at h0
    have := fndB_hit (b := b) (s := l) (i := i) (by simpa using hi) (fun j hj hji => by have := hn (j + 1) (by simp; omega) (by omega); simpa using this) (by simpa using h)
    simp [fndB, h0, this]
theorem fndB_none {b : UInt8} : ∀ {s : Bs}, (∀ j (hj : j < s.length), s[j] ≠ b) → fndB b s = none
  | [], _ => rfl
  | c :: l, hn => by
    have h0 := hn 0 (by simp)
    simp only [List.getElem_cons_zero] at h0
    have := fndB_none (b := b) (s := l) (fun j hj => by have := hn (j + 1) (by simp; omega); simpa using this)
    simp [fndB, h0, this]
theorem fndB_lt {b : UInt8} : ∀ {s : Bs} {i : Nat}, fndB b s = some i → i < s.length
  | [], i, h => by cases h
  | c :: l, i, h => by
    simp only [fndB] at h
    split at h
    · cases h; simp
    · cases hf : fndB b l with
      | none => rw [hf] at h; cases h
      | some k =>
        rw [hf] at h
        cases h
        have := fndB_lt hf
        simp; omega
theorem fndB_at {b : UInt8} : ∀ {s : Bs} {i : Nat} (h : fndB b s = some i), s[i]'(fndB_lt h) = b
  | [], i, h => by cases h
  | c :: l, i, h => by
    simp only [fndB] at h
    split at h
    · rename_i e
      cases h; simpa using e
    · cases hf : fndB b l with
      | none => rw [hf] at h; cases h
      | some k =>
        rw [hf] at h
        cases h
        simpa using fndB_at hf
def fndI (b : UInt8) (s : Bs) : Int := match fndB b s with | some k => (k : Int) | none => -1
theorem findL_one (b : UInt8) : ∀ s : Bs, findL [b] s = (fndB b s).map fun k => (s.take k, s.drop (k + 1))
  | [] => rfl
  | c :: l => by
    have ih := findL_one b l
    simp only [findL, fndB, List.isPrefixOf, Bool.and_true, beq_iff_eq]
    by_cases h : c = b
    · subst h; simp
    · rw [if_neg (fun e => h e.symm), if_neg h, ih]
      cases fndB b l <;> simp
theorem cutL_one (b : UInt8) (s : Bs) : cutL s [b] = match fndB b s with | some k => (s.take k, s.drop (k + 1), true) | none => (s, [], false) := by
  unfold cutL
  rw [findL_one]
  cases fndB b s <;> rfl
theorem splitL_one (b : UInt8) (s : Bs) : splitL s [b] = match fndB b s with | some k => s.take k :: splitL (s.drop (k + 1)) [b] | none => [s] := by
  rw [← splitL_eq (by simp), splitF_eq (by simp) (s.length + 1) s (by omega), splitF, findL_one]
  cases h : fndB b s with
  | none => rfl
  | some k =>
    have := fndB_lt h
    simp only [Option.map_some]
    rw [← splitF_eq (by simp) s.length _ (by rw [List.length_drop]; omega), splitL_eq (by simp)]
theorem splitL_len (b : UInt8) : ∀ (n : Nat) (s : Bs), s.length ≤ n → (splitL s [b]).length ≤ s.length + 1
  | 0, s, h => by
    have : s = [] := List.length_eq_zero_iff.mp (by omega)
    subst this; simp [splitL, splitF]
  | n + 1, s, h => by
    rw [splitL_one]
    cases hf : fndB b s with
    | none => simp
    | some k =>
      have := fndB_lt hf
      have := splitL_len b n (s.drop (k + 1)) (by rw [List.length_drop]; omega)
      simp only [List.length_cons]
      rw [List.length_drop] at this
      omega

theorem splitL_mem (b : UInt8) : ∀ (n : Nat) (s : Bs), s.length ≤ n → ∀ p ∈ splitL s [b], p.length ≤ s.length
  | 0, s, h, p, hp => by
    have : s = [] := List.length_eq_zero_iff.mp (by omega)
    subst this
    simp [splitL, splitF] at hp
    simp [hp]
  | n + 1, s, h, p, hp => by
    rw [splitL_one] at hp
    cases hf : fndB b s with
    | none => rw [hf] at hp; simp at hp; simp [hp]
    | some k =>
      rw [hf] at hp
      have hk := fndB_lt hf
      rcases List.mem_cons.mp hp with rfl | hp
      · rw [List.length_take]; omega
      · have := splitL_mem b n (s.drop (k + 1)) (by rw [List.length_drop]; omega) p hp
        rw [List.length_drop] at this
        omega

/-- A query's fields: names, values. -/
def fieldsF : List Bs → List Bs → List Bs → Option (List Bs × List Bs)
  | ns, vs, [] => some (ns, vs)
  | ns, vs, p :: r => match fndB 61 p with
    | none => none
    | some k => if k = 0 ∨ p.take k ∈ ns then none else fieldsF (ns ++ [p.take k]) (vs ++ [p.drop (k + 1)]) r
def fieldsOf (q : Bs) : List Bs × List Bs × Int :=
  if q = [] then ([], [], 0) else if 32 < (splitL q [38]).length then ([], [], 223) else
    match fieldsF [] [] (splitL q [38]) with
    | some (a, b) => (a, b, 0)
    | none => ([], [], 220)
end Go.Th.Pure
end
