/- What the row of one statement stands on: a store, abstract code, functions of the program and their laws (ThPhttp4). -/
import Derived.Test.YtkmmkfiekamgpaaGreatDoorThBPhttp3
import Derived.Test.YtkmmkfiekamgpaaGreatDoorThBPhttp2

section
/- Plain: what the reference looks for, in the machine's words. -/
set_option linter.unusedSimpArgs false
set_option linter.unusedVariables false
namespace Go.Th.Pure
open Go

abbrev crlfAt (t : Bs) (k : Nat) : Prop := t[k]? = some 13 ∧ t[k + 1]? = some 10
theorem pre2 (b : UInt8) (l : Bs) : ([13, 10] : Bs).isPrefixOf (b :: l) = true ↔ crlfAt (b :: l) 0 := by
  cases l with
  | nil => simp [List.isPrefixOf, crlfAt]
  | cons c l =>
    simp only [List.isPrefixOf, crlfAt, Bool.and_true, Bool.and_eq_true, beq_iff_eq, List.getElem?_cons_zero, List.getElem?_cons_succ, Option.some.injEq]
    constructor
    · rintro ⟨h1, h2⟩; exact ⟨h1.symm, h2.symm⟩
    · rintro ⟨h1, h2⟩; exact ⟨h1.symm, h2.symm⟩
theorem findL_at : ∀ (t : Bs) (j : Nat), (∀ k, k < j → ¬ crlfAt t k) → crlfAt t j → findL [13, 10] t = some (t.take j, t.drop (j + 2))
  | [], j, _, h => by simp [crlfAt] at h
  | b :: l, 0, _, h => by
    rw [findL, if_pos ((pre2 b l).mpr h)]; rfl
  | b :: l, j + 1, hn, h => by
    have h0 : ¬ ([13, 10] : Bs).isPrefixOf (b :: l) = true := fun e => hn 0 (by omega) ((pre2 b l).mp e)
    have ih := findL_at l j (fun k hk e => hn (k + 1) (by omega) (by simpa [crlfAt] using e)) (by simpa [crlfAt] using h)
    rw [findL, if_neg h0, ih]; rfl
theorem findL_no : ∀ (t : Bs), (∀ k, ¬ crlfAt t k) → findL [13, 10] t = none
  | [], _ => rfl
  | b :: l, hn => by
    have h0 : ¬ ([13, 10] : Bs).isPrefixOf (b :: l) = true := fun e => hn 0 ((pre2 b l).mp e)
    have ih := findL_no l (fun k e => hn (k + 1) (by simpa [crlfAt] using e))
    rw [findL, if_neg h0, ih]
theorem crlf_take {t : Bs} {m k : Nat} (h : crlfAt (t.take m) k) : crlfAt t k ∧ k + 1 < m := by
  obtain ⟨h1, h2⟩ := h
  rw [List.getElem?_take] at h1 h2
  split at h2
  · rename_i hm
    rw [if_pos (by omega)] at h1
    exact ⟨⟨h1, h2⟩, hm⟩
  · cases h2
theorem crlf_to {t : Bs} {m k : Nat} (h : crlfAt t k) (hm : k + 1 < m) : crlfAt (t.take m) k := by
  obtain ⟨h1, h2⟩ := h
  exact ⟨by rw [List.getElem?_take, if_pos (by omega)]; exact h1, by rw [List.getElem?_take, if_pos hm]; exact h2⟩
theorem lineR_at {t : Bs} {j : Nat} (hn : ∀ k, k < j → ¬ crlfAt t k) (h : crlfAt t j) (hj : j ≤ 1024) : lineR t = .got (t.take j) (t.drop (j + 2)) := by
  have hl : j + 1 < t.length := by
    rcases Nat.lt_or_ge (j + 1) t.length with h' | h'
    · exact h'
    · have := h.2; rw [List.getElem?_eq_none h'] at this; cases this
  unfold lineR
  rw [findL_at _ j (fun k hk e => hn k hk (crlf_take e).1) (crlf_to h (by omega))]
  simp only
  rw [List.take_take, Nat.min_eq_left (by omega), List.length_take, Nat.min_eq_left (by omega)]
theorem lineR_no {t : Bs} (hn : ∀ k, k ≤ 1024 → ¬ crlfAt t k) : lineR t = if 1026 ≤ t.length then .large else .wait := by
  unfold lineR
  rw [findL_no _ (fun k e => hn k (by have := (crlf_take e).2; omega) (crlf_take e).1)]

/-! ## trimming -/
theorem trimR_cons (c x : UInt8) (l : Bs) : Lib.trimRightB (x :: l) c = if Lib.trimRightB l c = [] ∧ x = c then [] else x :: Lib.trimRightB l c := by
  unfold Lib.trimRightB
  rw [List.reverse_cons, List.dropWhile_append]
  by_cases h : (List.dropWhile (· == c) l.reverse).isEmpty = true
  · rw [if_pos h]
    have h2 : List.dropWhile (· == c) l.reverse = [] := by simpa using h
    rw [h2]
    by_cases hx : x = c
    · subst hx; simp
    · have hb : (x == c) = false := by simp [hx]
      simp [List.dropWhile, hx, hb]
  · rw [if_neg h]
    have h2 : List.dropWhile (· == c) l.reverse ≠ [] := fun e => h (by rw [e]; rfl)
    have h3 : ¬ ((List.dropWhile (· == c) l.reverse).reverse = [] ∧ x = c) := fun e => h2 (by simpa using e.1)
    rw [if_neg h3]; simp
theorem trimL_cons (c x : UInt8) (l : Bs) : Lib.trimLeftB (x :: l) c = if x = c then Lib.trimLeftB l c else x :: l := by
  unfold Lib.trimLeftB
  by_cases h : x = c
  · subst h; simp [List.dropWhile]
  · have hb : (x == c) = false := by simp [h]
    simp [List.dropWhile, h, hb]
theorem trim_comm (c : UInt8) : ∀ l : Bs, Lib.trimRightB (Lib.trimLeftB l c) c = Lib.trimB l c
  | [] => rfl
  | x :: l => by
    have ih := trim_comm c l
    unfold Lib.trimB at ih ⊢
    rw [trimL_cons, trimR_cons]
    by_cases h : x = c
    · subst h
      rw [if_pos rfl, ih]
      by_cases h2 : Lib.trimRightB l x = []
      · rw [if_pos ⟨h2, rfl⟩, h2]
      · rw [if_neg (fun e => h2 e.1), trimL_cons, if_pos rfl]
    · rw [if_neg h, if_neg (fun e => h e.2), trimL_cons, if_neg h, trimR_cons, if_neg (fun e => h e.2)]

/-! ## numbers -/
def numF' (x : Bs) : Int := if x.length < 1 ∨ 9 < x.length ∨ x.all isDig = false then -1 else (valD x : Int)
theorem numR_eq (len : Int) (x : Bs) : numR' len x = if 0 ≤ len ∨ numF' x < 0 then .bad 222 else if 16384 < numF' x then .bad 223 else .len (numF' x) := by
  unfold numF'
  by_cases h : x.length < 1 ∨ 9 < x.length ∨ x.all isDig = false
  · rw [if_pos h, if_pos (.inr (by decide))]
    unfold numR'
    split
    · rename_i v hv
      rw [if_pos]
      rcases h with h | h
      · have : x = [] := List.length_eq_zero_iff.mp (by omega)
        subst this
        simp [Lib.atoiAll] at hv
      · exact .inr h
    · rfl
  · rw [if_neg h]
    have h1 : x ≠ [] := fun e => h (.inl (by rw [e]; simp))
    have h2 : x.all isDig = true := by
      cases hh : x.all isDig with
      | true => rfl
      | false => exact absurd (.inr (.inr hh)) h
    have h3 : x.length ≤ 9 := by
      rcases Nat.lt_or_ge 9 x.length with h' | h'
      · exact absurd (.inr (.inl h')) h
      · exact h'
    unfold numR'
    rw [atoi_digs h1 (fun b hb => List.all_eq_true.mp h2 b hb) h3]
    simp only
    by_cases hl : 0 ≤ len
    · rw [if_pos (.inl hl), if_pos (.inl hl)]
    · have n1 : ¬ (0 ≤ len ∨ 9 < x.length ∨ x.all isDig = false) := fun e => by
        rcases e with e | e
        · exact hl e
        · exact h (.inr e)
      have n2 : ¬ (0 ≤ len ∨ (valD x : Int) < 0) := fun e => by
        rcases e with e | e
        · exact hl e
        · omega
      rw [if_neg n1, if_neg n2]

/-! ## the first line -/
theorem pre47 (t : Bs) : Lib.hasPrefix t [47] = decide (t[0]? = some 47) := by
  unfold Lib.hasPrefix
  cases t with
  | nil => simp [List.isPrefixOf]
  | cons b l =>
    simp only [List.isPrefixOf, Bool.and_true, List.getElem?_cons_zero, Option.some.injEq]
    rw [Bool.eq_iff_iff, beq_iff_eq, decide_eq_true_eq]
    exact eq_comm
theorem firstOk_none {l : Bs} (h : fndB 32 l = none) : firstOk l = false := by
  unfold firstOk
  rw [cutL_one, h]
  simp [cutL_one, fndB, wVer]
theorem firstOk_some {l : Bs} {a : Nat} (h : fndB 32 l = some a) : firstOk l = (decide (1 ≤ a) && decide (a ≤ 16) && (l.take a).all isUp && (match fndB 32 (l.drop (a + 1)) with
    | none => false
    | some b => decide (((l.drop (a + 1)).drop (b + 1)) = wVer) && decide (((l.drop (a + 1)).take b)[0]? = some 47) && ((l.drop (a + 1)).take b).all isVis)) := by
  have hl := fndB_lt h
  unfold firstOk
  rw [cutL_one, h]
  simp only
  rw [cutL_one, List.length_take, Nat.min_eq_left (by omega)]
  cases hb : fndB 32 (l.drop (a + 1)) with
  | none => simp [wVer]
  | some b => simp only [pre47, Bool.and_assoc]
theorem firstQ_some {l : Bs} {a b : Nat} (h : fndB 32 l = some a) (hb : fndB 32 (l.drop (a + 1)) = some b) : firstQ l = ⟨l.take a, match fndB 63 ((l.drop (a + 1)).take b) with | some c => ((l.drop (a + 1)).take b).take c | none => (l.drop (a + 1)).take b, match fndB 63 ((l.drop (a + 1)).take b) with | some c => ((l.drop (a + 1)).take b).drop (c + 1) | none => [], [], false⟩ := by
  unfold firstQ
  have c1 : cutL l [32] = (l.take a, l.drop (a + 1), true) := by rw [cutL_one, h]
  have c2 : cutL (l.drop (a + 1)) [32] = ((l.drop (a + 1)).take b, (l.drop (a + 1)).drop (b + 1), true) := by rw [cutL_one, hb]
  rw [c1]
  simp only
  rw [c2]
  simp only
  rw [cutL_one]
  cases fndB 63 ((l.drop (a + 1)).take b) <;> rfl
end Go.Th.Pure
end
