/- What the row of one statement stands on: a store, abstract code, functions of the program and their laws (ThPfind, ThPjson1, ThPjson2, ThPjson3, ThPjson4, ThPjson5, ThSb1, ThPjson6, ThPjson7). -/
import Derived.Lib.IndexMore
import Derived.Lib.Split
import Derived.Test.YtconjbbmdjaehaaGreatDoorThBQ12
import Derived.Shelf.Strings.Builder1
import Derived.Lib.ItoaNum
import Derived.Lib.AtoiAllCases
import Derived.Lib.SlTrimSet

section
/- The library's index and cut, by one walk. -/
set_option linter.unusedVariables false
namespace Go.Th.Pure
open Go

end Go.Th.Pure
end

section
/- json, plainly: values, and the one grammar of texts. -/
namespace Go.Th.Pure
open Go

abbrev Bs8 := List UInt8
inductive JV where
  | mk (sort num : Int) (text : Bs8) (list : List JV) (names : List Bs8)
def JV.sort : JV → Int | .mk s .. => s
def JV.num : JV → Int | .mk _ n .. => n
def JV.text : JV → Bs8 | .mk _ _ t .. => t
def JV.list : JV → List JV | .mk _ _ _ l _ => l
def JV.names : JV → List Bs8 | .mk _ _ _ _ ns => ns
def jnil : JV := .mk 0 0 [] [] []

def blankB (b : UInt8) : Bool := b == 32 || b == 9 || b == 10 || b == 13
def blanksJ (s : Bs8) : Bs8 := s.dropWhile blankB
def comesJ : Bs8 → Bs8 → Option Bs8
  | [], s => some s
  | _ :: _, [] => none
  | w :: ws, b :: s => if w = b then comesJ ws s else none
def digJ (b : UInt8) : Bool := decide (48 ≤ b.toNat) && decide (b.toNat ≤ 57)
def hexJ (b : UInt8) : Option Nat :=
  if 48 ≤ b.toNat ∧ b.toNat ≤ 57 then some (b.toNat - 48) else if 97 ≤ b.toNat ∧ b.toNat ≤ 102 then some (b.toNat - 87) else if 65 ≤ b.toNat ∧ b.toNat ≤ 70 then some (b.toNat - 55) else none
def valJ (ds : Bs8) : Nat := ds.foldl (fun n d => 10 * n + (d.toNat - 48)) 0
def maxNum : Nat := 999999999999999
def textJ : Nat → Bs8 → Bs8 → Option (Bs8 × Bs8)
  | 0, _, _ => none
  | n + 1, acc, s => match s with
    | [] => none
    | c :: s => if c = 34 then some (acc, s)
      else if c = 92 then match s with
        | [] => none
        | c :: s => if c = 34 ∨ c = 92 ∨ c = 47 then textJ n (acc ++ [c]) s
          else if c = 110 then textJ n (acc ++ [10]) s
          else if c = 116 then textJ n (acc ++ [9]) s
          else if c = 117 then match s with
            | z :: y :: a :: b :: s => if z = 48 ∧ y = 48 then match hexJ a, hexJ b with
                | some h, some l => textJ n (acc ++ [UInt8.ofNat (16 * h + l)]) s
                | _, _ => none
              else none
            | _ => none
          else none
      else if 32 ≤ c.toNat ∧ c.toNat ≤ 126 then textJ n (acc ++ [c]) s else none

def signJ (s : Bs8) : Bool × Bs8 := if s.head? = some 45 then (true, s.tail) else (false, s)
def badNum (m : Bool) (ds : Bs8) : Bool := ds.isEmpty || (ds.head? == some 48 && (decide (1 < ds.length) || m))
def valN (m : Bool) (ds : Bs8) : Int := if m = true then -(min (valJ ds) (maxNum + 1) : Nat) else (min (valJ ds) (maxNum + 1) : Nat)
def numJ (s : Bs8) : Option (Int × Bs8) :=
  if badNum (signJ s).1 ((signJ s).2.takeWhile digJ) = true then none else some (valN (signJ s).1 ((signJ s).2.takeWhile digJ), (signJ s).2.dropWhile digJ)

mutual
def valueJ : Nat → Bs8 → Option (JV × Bs8)
  | 0, _ => none
  | n + 1, s => match comesJ [110, 117, 108, 108] s with
    | some r => some (.mk 1 0 [] [] [], r)
    | none => match comesJ [102, 97, 108, 115, 101] s with
      | some r => some (.mk 2 0 [] [] [], r)
      | none => match comesJ [116, 114, 117, 101] s with
        | some r => some (.mk 3 0 [] [] [], r)
        | none => match comesJ [34] s with
          | some r => (textJ (r.length + 1) [] r).map fun p => (.mk 5 0 p.1 [] [], p.2)
          | none => match comesJ [91] s with
            | some r => match comesJ [93] (blanksJ r) with
              | some r2 => some (.mk 6 0 [] [] [], r2)
              | none => (itemsJ n 93 false [] [] (blanksJ r)).map fun p => (.mk 6 0 [] p.1 [], p.2.2)
            | none => match comesJ [123] s with
              | some r => match comesJ [125] (blanksJ r) with
                | some r2 => some (.mk 7 0 [] [] [], r2)
                | none => (itemsJ n 125 true [] [] (blanksJ r)).map fun p => (.mk 7 0 [] p.1 p.2.1, p.2.2)
              | none => (numJ s).map fun p => (.mk 4 p.1 [] [] [], p.2)
def itemsJ : Nat → UInt8 → Bool → List JV → List Bs8 → Bs8 → Option (List JV × List Bs8 × Bs8)
  | 0, _, _, _, _, _ => none
  | n + 1, e, named, l, ns, s =>
    match (if named then match comesJ [34] s with
        | some r => match textJ (r.length + 1) [] r with
          | some (t, r) => (comesJ [58] (blanksJ r)).map fun r => (ns ++ [t], blanksJ r)
          | none => none
        | none => none
      else some (ns, s)) with
    | none => none
    | some (ns2, s2) => match valueJ n s2 with
      | none => none
      | some (v, r) => match comesJ [e] (blanksJ r) with
        | some r2 => some (l ++ [v], ns2, r2)
        | none => match comesJ [44] (blanksJ r) with
          | some r2 => itemsJ n e named (l ++ [v]) ns2 (blanksJ r2)
          | none => none
end

theorem blanks_le (s : Bs8) : (blanksJ s).length ≤ s.length := by
  unfold blanksJ
  exact (List.dropWhile_sublist _).length_le
theorem comes_len : ∀ {w s r : Bs8}, comesJ w s = some r → s = w ++ r
  | [], s, r, h => by simp only [comesJ, Option.some.injEq] at h; exact h
  | _ :: _, [], r, h => by simp [comesJ] at h
  | w :: ws, b :: s, r, h => by
    simp only [comesJ] at h
    split at h
    · rename_i e
      subst e
      rw [List.cons_append, ← comes_len h]
    · cases h

end Go.Th.Pure
end

section
/- json, plainly: what is left is shorter; the fuel does not matter. -/
set_option linter.unusedSimpArgs false
set_option linter.unusedVariables false
namespace Go.Th.Pure
open Go

theorem text_len : ∀ {n : Nat} {acc s t r : Bs8}, textJ n acc s = some (t, r) → r.length < s.length
  | 0, _, _, _, _, h => by simp [textJ] at h
  | n + 1, acc, [], t, r, h => by simp [textJ] at h
  | n + 1, acc, c :: s, t, r, h => by
    simp only [textJ] at h
    split at h
    · simp only [Option.some.injEq, Prod.mk.injEq] at h
      rw [← h.2]; simp
    · split at h
      · match s, h with
        | [], h => simp at h
        | c2 :: s, h =>
          simp only at h
          split at h
          · have := text_len h; simp only [List.length_cons]; omega
          · split at h
            · have := text_len h; simp only [List.length_cons]; omega
            · split at h
              · have := text_len h; simp only [List.length_cons]; omega
              · split at h
                · match s, h with
                  | [], h => simp at h
                  | [_], h => simp at h
                  | [_, _], h => simp at h
                  | [_, _, _], h => simp at h
                  | z :: y :: a :: b :: s, h =>
                    simp only at h
                    split at h
                    · split at h
                      · have := text_len h; simp only [List.length_cons]; omega
                      · cases h
                    · cases h
                · cases h
      · split at h
        · have := text_len h; simp only [List.length_cons]; omega
        · cases h

theorem sign_le (s : Bs8) : (signJ s).2.length ≤ s.length := by
  unfold signJ
  split
  · simp
  · exact Nat.le_refl _
theorem numJ_len {s r : Bs8} {v : Int} (h : numJ s = some (v, r)) : r.length < s.length := by
  unfold numJ at h
  split at h
  · cases h
  · rename_i hc
    simp only [Option.some.injEq, Prod.mk.injEq] at h
    rw [← h.2]
    have hd : (signJ s).2.takeWhile digJ ≠ [] := fun e => hc (by simp [badNum, e])
    have e2 := congrArg List.length (List.takeWhile_append_dropWhile (p := digJ) (l := (signJ s).2))
    rw [List.length_append] at e2
    have := List.length_pos_iff.mpr hd
    have := sign_le s
    omega
theorem comes_le {w s r : Bs8} (h : comesJ w s = some r) : r.length + w.length = s.length := by
  rw [comes_len h, List.length_append]; omega

theorem left_len : ∀ (n : Nat), (∀ {s r : Bs8} {v : JV}, valueJ n s = some (v, r) → r.length < s.length) ∧ (∀ {e : UInt8} {nm : Bool} {l : List JV} {ns : List Bs8} {s r : Bs8} {p : List JV} {q : List Bs8}, itemsJ n e nm l ns s = some (p, q, r) → r.length < s.length)
  | 0 => ⟨fun h => by simp [valueJ] at h, fun h => by simp [itemsJ] at h⟩
  | n + 1 => by
    have ih := left_len n
    refine ⟨fun {s r v} h => ?_, fun {e nm l ns s r p q} h => ?_⟩
    · rw [valueJ] at h
      split at h
      · rename_i r0 h1
        have := comes_le h1
        simp only [Option.some.injEq, Prod.mk.injEq] at h
        obtain ⟨_, rfl⟩ := h
        simp at this; omega
      · split at h
        · rename_i r0 h1
          have := comes_le h1
          simp only [Option.some.injEq, Prod.mk.injEq] at h
          obtain ⟨_, rfl⟩ := h
          simp at this; omega
        · split at h
          · rename_i r0 h1
            have := comes_le h1
            simp only [Option.some.injEq, Prod.mk.injEq] at h
            obtain ⟨_, rfl⟩ := h
            simp at this; omega
          · split at h
            · rename_i r0 h1
              have h2 := comes_le h1
              obtain ⟨⟨t, r'⟩, h3, h4⟩ := Option.map_eq_some_iff.mp h
              simp only [Prod.mk.injEq] at h4
              obtain ⟨_, rfl⟩ := h4
              have := text_len h3
              simp at h2; omega
            · split at h
              · rename_i r0 h1
                have h2 := comes_le h1
                have hb := blanks_le r0
                simp at h2
                split at h
                · rename_i r2 h3
                  have h4 := comes_le h3
                  simp only [Option.some.injEq, Prod.mk.injEq] at h
                  obtain ⟨_, rfl⟩ := h
                  omega
                · obtain ⟨⟨a, b, r'⟩, h3, h4⟩ := Option.map_eq_some_iff.mp h
                  simp only [Prod.mk.injEq] at h4
                  obtain ⟨_, rfl⟩ := h4
                  have := ih.2 h3
                  omega
              · split at h
                · rename_i r0 h1
                  have h2 := comes_le h1
                  have hb := blanks_le r0
                  simp at h2
                  split at h
                  · rename_i r2 h3
                    have h4 := comes_le h3
                    simp only [Option.some.injEq, Prod.mk.injEq] at h
                    obtain ⟨_, rfl⟩ := h
                    omega
                  · obtain ⟨⟨a, b, r'⟩, h3, h4⟩ := Option.map_eq_some_iff.mp h
                    simp only [Prod.mk.injEq] at h4
                    obtain ⟨_, rfl⟩ := h4
                    have := ih.2 h3
                    omega
                · obtain ⟨⟨a, r'⟩, h3, h4⟩ := Option.map_eq_some_iff.mp h
                  simp only [Prod.mk.injEq] at h4
                  obtain ⟨_, rfl⟩ := h4
                  exact numJ_len h3
    · rw [itemsJ] at h
      split at h
      · cases h
      · rename_i ns2 s2 h1
        have hs2 : s2.length ≤ s.length := by
          split at h1
          · split at h1
            · rename_i r0 h2
              have h3 := comes_le h2
              split at h1
              · rename_i t r1 h4
                have h5 := text_len h4
                obtain ⟨r2, h6, h7⟩ := Option.map_eq_some_iff.mp h1
                simp only [Prod.mk.injEq] at h7
                have h8 := comes_le h6
                have b1 := blanks_le r1
                have b2 := blanks_le r2
                rw [← h7.2]
                omega
              · cases h1
            · cases h1
          · simp only [Option.some.injEq, Prod.mk.injEq] at h1
            rw [h1.2]; exact Nat.le_refl _
        split at h
        · cases h
        · rename_i v r1 h2
          have h3 := ih.1 h2
          have b1 := blanks_le r1
          split at h
          · rename_i r2 h4
            have h5 := comes_le h4
            simp only [Option.some.injEq, Prod.mk.injEq] at h
            obtain ⟨_, _, rfl⟩ := h
            omega
          · split at h
            · rename_i r2 h4
              have h5 := comes_le h4
              have b2 := blanks_le r2
              have := ih.2 h
              omega
            · cases h

def headJ (named : Bool) (ns : List Bs8) (s : Bs8) : Option (List Bs8 × Bs8) :=
  if named then match comesJ [34] s with
    | some r => match textJ (r.length + 1) [] r with
      | some (t, r) => (comesJ [58] (blanksJ r)).map fun r => (ns ++ [t], blanksJ r)
      | none => none
    | none => none
  else some (ns, s)
theorem head_le {nm : Bool} {ns ns2 : List Bs8} {s s2 : Bs8} (h1 : headJ nm ns s = some (ns2, s2)) : s2.length ≤ s.length := by
  unfold headJ at h1
  split at h1
  · split at h1
    · rename_i r0 h2
      have h3 := comes_le h2
      split at h1
      · rename_i t r1 h4
        have h5 := text_len h4
        obtain ⟨r2, h6, h7⟩ := Option.map_eq_some_iff.mp h1
        simp only [Prod.mk.injEq] at h7
        have h8 := comes_le h6
        have b1 := blanks_le r1
        have b2 := blanks_le r2
        rw [← h7.2]
        omega
      · cases h1
    · cases h1
  · simp only [Option.some.injEq, Prod.mk.injEq] at h1
    rw [h1.2]; exact Nat.le_refl _
theorem items_eq (n : Nat) (e : UInt8) (nm : Bool) (l : List JV) (ns : List Bs8) (s : Bs8) : itemsJ (n + 1) e nm l ns s = match headJ nm ns s with
    | none => none
    | some (ns2, s2) => match valueJ n s2 with
      | none => none
      | some (v, r) => match comesJ [e] (blanksJ r) with
        | some r2 => some (l ++ [v], ns2, r2)
        | none => match comesJ [44] (blanksJ r) with
          | some r2 => itemsJ n e nm (l ++ [v]) ns2 (blanksJ r2)
          | none => none := by
  rw [itemsJ]; rfl

theorem fuelJ : ∀ (n : Nat), (∀ s : Bs8, 2 * s.length + 2 ≤ n → valueJ (n + 1) s = valueJ n s) ∧ (∀ (e : UInt8) (nm : Bool) (l : List JV) (ns : List Bs8) (s : Bs8), 2 * s.length + 3 ≤ n → itemsJ (n + 1) e nm l ns s = itemsJ n e nm l ns s)
  | 0 => ⟨fun s h => by omega, fun e nm l ns s h => by omega⟩
  | n + 1 => by
    have ih := fuelJ n
    refine ⟨fun s h => ?_, fun e nm l ns s h => ?_⟩
    · rw [valueJ, valueJ]
      cases h1 : comesJ [110, 117, 108, 108] s with
      | some r => rfl
      | none =>
        cases h2 : comesJ [102, 97, 108, 115, 101] s with
        | some r => rfl
        | none =>
          cases h3 : comesJ [116, 114, 117, 101] s with
          | some r => rfl
          | none =>
            cases h4 : comesJ [34] s with
            | some r => rfl
            | none =>
              cases h5 : comesJ [91] s with
              | some r =>
                simp only
                cases h6 : comesJ [93] (blanksJ r) with
                | some r2 => rfl
                | none =>
                  have g1 := comes_le h5
                  have g2 := blanks_le r
                  simp at g1
                  simp only
                  rw [ih.2 _ _ _ _ _ (by omega)]
              | none =>
                cases h6 : comesJ [123] s with
                | some r =>
                  simp only
                  cases h7 : comesJ [125] (blanksJ r) with
                  | some r2 => rfl
                  | none =>
                    have g1 := comes_le h6
                    have g2 := blanks_le r
                    simp at g1
                    simp only
                    rw [ih.2 _ _ _ _ _ (by omega)]
                | none => rfl
    · rw [items_eq, items_eq]
      cases h1 : headJ nm ns s with
      | none => rfl
      | some p =>
        obtain ⟨ns2, s2⟩ := p
        have g1 := head_le h1
        simp only
        rw [ih.1 s2 (by omega)]
        cases h2 : valueJ n s2 with
        | none => rfl
        | some q =>
          obtain ⟨v, r⟩ := q
          have g2 := (left_len n).1 h2
          have g3 := blanks_le r
          simp only
          cases h3 : comesJ [e] (blanksJ r) with
          | some r2 => rfl
          | none =>
            simp only
            cases h4 : comesJ [44] (blanksJ r) with
            | none => rfl
            | some r2 =>
              have g4 := comes_le h4
              have g5 := blanks_le r2
              simp only
              exact ih.2 _ _ _ _ _ (by omega)

theorem fuelV {n m : Nat} {s : Bs8} (h : 2 * s.length + 2 ≤ n) (hm : n ≤ m) : valueJ m s = valueJ n s := by
  obtain ⟨k, rfl⟩ : ∃ k, m = n + k := ⟨m - n, by omega⟩
  clear hm
  induction k with
  | zero => rfl
  | succ k ih => rw [← Nat.add_assoc, (fuelJ (n + k)).1 s (by omega), ih]
theorem fuelI {n m : Nat} {e : UInt8} {nm : Bool} {l : List JV} {ns : List Bs8} {s : Bs8} (h : 2 * s.length + 3 ≤ n) (hm : n ≤ m) : itemsJ m e nm l ns s = itemsJ n e nm l ns s := by
  obtain ⟨k, rfl⟩ : ∃ k, m = n + k := ⟨m - n, by omega⟩
  clear hm
  induction k with
  | zero => rfl
  | succ k ih => rw [← Nat.add_assoc, (fuelJ (n + k)).2 _ _ _ _ s (by omega), ih]

def pvJ (s : Bs8) : Option (JV × Bs8) := valueJ (2 * s.length + 2) s
def pitJ (e : UInt8) (nm : Bool) (l : List JV) (ns : List Bs8) (s : Bs8) : Option (List JV × List Bs8 × Bs8) := itemsJ (2 * s.length + 3) e nm l ns s
theorem pitJ_eq (e : UInt8) (nm : Bool) (l : List JV) (ns : List Bs8) (s : Bs8) : pitJ e nm l ns s = match headJ nm ns s with
    | none => none
    | some (ns2, s2) => match pvJ s2 with
      | none => none
      | some (v, r) => match comesJ [e] (blanksJ r) with
        | some r2 => some (l ++ [v], ns2, r2)
        | none => match comesJ [44] (blanksJ r) with
          | some r2 => pitJ e nm (l ++ [v]) ns2 (blanksJ r2)
          | none => none := by
  rw [pitJ, items_eq]
  cases h1 : headJ nm ns s with
  | none => rfl
  | some p =>
    obtain ⟨ns2, s2⟩ := p
    have g1 := head_le h1
    simp only [pvJ]
    rw [fuelV (n := 2 * s2.length + 2) (Nat.le_refl _) (by omega)]
    cases h2 : valueJ (2 * s2.length + 2) s2 with
    | none => rfl
    | some q =>
      obtain ⟨v, r⟩ := q
      have g2 := (left_len _).1 h2
      have g3 := blanks_le r
      simp only
      cases h3 : comesJ [e] (blanksJ r) with
      | some r2 => rfl
      | none =>
        simp only
        cases h4 : comesJ [44] (blanksJ r) with
        | none => rfl
        | some r2 =>
          have g4 := comes_le h4
          have g5 := blanks_le r2
          simp only [pitJ]
          exact fuelI (Nat.le_refl _) (by omega)

theorem pvJ_eq (s : Bs8) : pvJ s = match comesJ [110, 117, 108, 108] s with
    | some r => some (.mk 1 0 [] [] [], r)
    | none => match comesJ [102, 97, 108, 115, 101] s with
      | some r => some (.mk 2 0 [] [] [], r)
      | none => match comesJ [116, 114, 117, 101] s with
        | some r => some (.mk 3 0 [] [] [], r)
        | none => match comesJ [34] s with
          | some r => (textJ (r.length + 1) [] r).map fun p => (.mk 5 0 p.1 [] [], p.2)
          | none => match comesJ [91] s with
            | some r => match comesJ [93] (blanksJ r) with
              | some r2 => some (.mk 6 0 [] [] [], r2)
              | none => (pitJ 93 false [] [] (blanksJ r)).map fun p => (.mk 6 0 [] p.1 [], p.2.2)
            | none => match comesJ [123] s with
              | some r => match comesJ [125] (blanksJ r) with
                | some r2 => some (.mk 7 0 [] [] [], r2)
                | none => (pitJ 125 true [] [] (blanksJ r)).map fun p => (.mk 7 0 [] p.1 p.2.1, p.2.2)
              | none => (numJ s).map fun p => (.mk 4 p.1 [] [] [], p.2) := by
  rw [pvJ, valueJ]
  cases h1 : comesJ [110, 117, 108, 108] s with
  | some r => rfl
  | none =>
    cases h2 : comesJ [102, 97, 108, 115, 101] s with
    | some r => rfl
    | none =>
      cases h3 : comesJ [116, 114, 117, 101] s with
      | some r => rfl
      | none =>
        cases h4 : comesJ [34] s with
        | some r => rfl
        | none =>
          cases h5 : comesJ [91] s with
          | some r =>
            simp only
            cases h6 : comesJ [93] (blanksJ r) with
            | some r2 => rfl
            | none =>
              have g1 := comes_le h5
              have g2 := blanks_le r
              simp at g1
              simp only [pitJ]
              rw [fuelI (n := 2 * (blanksJ r).length + 3) (Nat.le_refl _) (by omega)]
          | none =>
            cases h6 : comesJ [123] s with
            | some r =>
              simp only
              cases h7 : comesJ [125] (blanksJ r) with
              | some r2 => rfl
              | none =>
                have g1 := comes_le h6
                have g2 := blanks_le r
                simp at g1
                simp only [pitJ]
                rw [fuelI (n := 2 * (blanksJ r).length + 3) (Nat.le_refl _) (by omega)]
            | none => rfl

end Go.Th.Pure
end

section
/- json, plainly: what a value must be. -/
set_option linter.unusedSimpArgs false
set_option linter.unusedVariables false
namespace Go.Th.Pure
open Go

theorem JV.eta : ∀ v : JV, .mk v.sort v.num v.text v.list v.names = v
  | .mk .. => rfl
theorem JV.list_lt : ∀ {v w : JV}, w ∈ v.list → SizeOf.sizeOf w < SizeOf.sizeOf v
  | .mk so n t l ns, w, h => by
    have := List.sizeOf_lt_of_mem (show w ∈ l from h)
    simp; omega
mutual
def allJ (q : JV → Bool) : JV → Bool
  | .mk so n t l ns => q (.mk so n t l ns) && allsJ q l
def allsJ (q : JV → Bool) : List JV → Bool
  | [] => true
  | v :: l => allJ q v && allsJ q l
end
theorem allsJ_eq (q : JV → Bool) : ∀ l, allsJ q l = l.all (allJ q)
  | [] => by rw [allsJ]; rfl
  | v :: l => by rw [allsJ, allsJ_eq q l]; rfl
theorem allJ_eq (q : JV → Bool) : ∀ v, allJ q v = (q v && v.list.all (allJ q))
  | .mk so n t l ns => by rw [allJ, allsJ_eq]; rfl
mutual
def deepJ : JV → Nat
  | .mk so _ _ l _ => if so = 6 ∨ so = 7 then deepsJ l + 1 else 0
def deepsJ : List JV → Nat
  | [] => 0
  | v :: l => max (deepJ v) (deepsJ l)
end
theorem deepJ_eq : ∀ v, deepJ v = if v.sort = 6 ∨ v.sort = 7 then deepsJ v.list + 1 else 0
  | .mk so n t l ns => by rw [deepJ]; rfl
theorem deepsJ_snoc (v : JV) : ∀ l, deepsJ (l ++ [v]) = max (deepsJ l) (deepJ v)
  | [] => by simp only [List.nil_append, deepsJ]; omega
  | w :: l => by simp only [List.cons_append, deepsJ, deepsJ_snoc v l]; omega
theorem deepsJ_le {v : JV} : ∀ {l}, v ∈ l → deepJ v ≤ deepsJ l
  | w :: l, h => by
    rw [deepsJ]
    rcases List.mem_cons.mp h with rfl | h
    · exact Nat.le_max_left _ _
    · exact Nat.le_trans (deepsJ_le h) (Nat.le_max_right _ _)

def form1 (v : JV) : Bool :=
  decide (1 ≤ v.sort) && decide (v.sort ≤ 7) && (decide (v.sort = 4) || decide (v.num = 0)) && (decide (v.sort = 5) || decide (v.text = [])) && (decide (v.sort = 6) || decide (v.sort = 7) || decide (v.list.length = 0)) &&
    (if v.sort = 7 then decide (v.names.length = v.list.length) else decide (v.names.length = 0))
def small1 (v : JV) : Bool := decide (v.num ≤ 999999999999999) && decide (-999999999999999 ≤ v.num)
def few1 (v : JV) : Bool := decide (v.list.length ≤ 1024)
def unlike1 (v : JV) : Bool := decide v.names.Nodup
def checkJ (v : JV) : Int :=
  if allJ form1 v = false then 200 else if 8 < deepJ v then 201 else if allJ small1 v = false then 202 else if allJ few1 v = false then 203 else if allJ unlike1 v = false then 200 else 0

def parseJ (s : Bs8) : JV × Int :=
  if 16384 < s.length then (jnil, 2) else match pvJ (blanksJ s) with
    | none => (jnil, 200)
    | some (v, r) => if blanksJ r = [] then if checkJ v = 0 then (v, 0) else (jnil, checkJ v) else (jnil, 200)

end Go.Th.Pure
end

section
/- json, plainly: how deep what is read may be. -/
set_option linter.unusedSimpArgs false
set_option linter.unusedVariables false
namespace Go.Th.Pure
open Go

theorem deep_fuel : ∀ (n : Nat), (∀ {s r : Bs8} {v : JV}, valueJ n s = some (v, r) → deepJ v ≤ n) ∧ (∀ {e : UInt8} {nm : Bool} {l : List JV} {ns : List Bs8} {s r : Bs8} {p : List JV} {q : List Bs8}, itemsJ n e nm l ns s = some (p, q, r) → deepsJ p ≤ max (deepsJ l) n)
  | 0 => ⟨fun h => by simp [valueJ] at h, fun h => by simp [itemsJ] at h⟩
  | n + 1 => by
    have ih := deep_fuel n
    have z : ∀ (so m : Int) (t : Bs8), so ≠ 6 → so ≠ 7 → deepJ (.mk so m t [] []) ≤ n + 1 := fun so m t h6 h7 => by rw [deepJ, if_neg (by omega)]; omega
    refine ⟨fun {s r v} h => ?_, fun {e nm l ns s r p q} h => ?_⟩
    · rw [valueJ] at h
      split at h
      · simp only [Option.some.injEq, Prod.mk.injEq] at h
        rw [← h.1]; exact z _ _ _ (by decide) (by decide)
      split at h
      · simp only [Option.some.injEq, Prod.mk.injEq] at h
        rw [← h.1]; exact z _ _ _ (by decide) (by decide)
      split at h
      · simp only [Option.some.injEq, Prod.mk.injEq] at h
        rw [← h.1]; exact z _ _ _ (by decide) (by decide)
      split at h
      · obtain ⟨⟨t, r'⟩, h3, h4⟩ := Option.map_eq_some_iff.mp h
        simp only [Prod.mk.injEq] at h4
        rw [← h4.1]; exact z _ _ _ (by decide) (by decide)
      split at h
      · split at h
        · simp only [Option.some.injEq, Prod.mk.injEq] at h
          rw [← h.1]; simp [deepJ, deepsJ]
        · obtain ⟨⟨a, b, r'⟩, h3, h4⟩ := Option.map_eq_some_iff.mp h
          simp only [Prod.mk.injEq] at h4
          have := ih.2 h3
          rw [← h4.1]
          simp only [deepJ, deepsJ] at this ⊢
          simp; omega
      split at h
      · split at h
        · simp only [Option.some.injEq, Prod.mk.injEq] at h
          rw [← h.1]; simp [deepJ, deepsJ]
        · obtain ⟨⟨a, b, r'⟩, h3, h4⟩ := Option.map_eq_some_iff.mp h
          simp only [Prod.mk.injEq] at h4
          have := ih.2 h3
          rw [← h4.1]
          simp only [deepJ, deepsJ] at this ⊢
          simp; omega
      · obtain ⟨⟨a, r'⟩, h3, h4⟩ := Option.map_eq_some_iff.mp h
        simp only [Prod.mk.injEq] at h4
        rw [← h4.1]; exact z _ _ _ (by decide) (by decide)
    · rw [items_eq] at h
      split at h
      · cases h
      · split at h
        · cases h
        · rename_i v r1 h2
          have h3 := ih.1 h2
          split at h
          · simp only [Option.some.injEq, Prod.mk.injEq] at h
            rw [← h.1, deepsJ_snoc]; omega
          · split at h
            · have := ih.2 h
              rw [deepsJ_snoc] at this
              omega
            · cases h
theorem deep_text {s r : Bs8} {v : JV} (h : pvJ s = some (v, r)) : deepJ v ≤ 2 * s.length + 2 := (deep_fuel _).1 h

end Go.Th.Pure
end

section
/- json, plainly: values by their first byte. -/
set_option linter.unusedSimpArgs false
set_option linter.unusedVariables false
namespace Go.Th.Pure
open Go

end Go.Th.Pure
end

section
/- strings.Builder's writing methods, with all that they leave alone: over any program that has them. -/
set_option linter.unusedSimpArgs false
set_option linter.unusedVariables false
namespace Go.Th
open Go Go.Proofs Go.Shelf Go.RowKit

def SbWh (v v' : Value) (n m sz : Nat) : Prop := (∃ g cap, v = .slice (some ⟨g, 0, none⟩) n cap ∧ v' = .slice (some ⟨g, 0, none⟩) (n + m) cap) ∨ ∃ g, v'.ownBlock = some g ∧ sz ≤ g

section
variable {P : Program} (w : World)

theorem app_where (t ty e : TypeId) (i : TypeInfo) (ht : P.underlying t = some (.slice e)) (hi : P.info? e = some i) (hz : i.zero = some (.int .u8 0)) (hs : i.size = 1) (hb : i.bytes = 1)
    (v : Value) (n : Nat) (xs : List Value) (hown : w.ownsRow 0 e 1 v n xs) (a : Addr) (m c : Nat) (news : List Value) (hl : news.length = m * 1) (hnews : ∀ j u, news[j]? = some u → w.cell? (a.add j) = some u) (h1 : ∀ u ∈ news, u.oneCell' = true)
    (hm : 0 < m) (hbytes : n + m ≤ 140737488355328) {v' : Value} {w' : World} (hr : (Builtin.append_ #[t, t] ty #[v, .slice (some a) m c]).run P w = .ok v' w') : SbWh v v' n m w.heap.size := by
  rcases hown.2 with ⟨rfl, rfl⟩ | ⟨g, cap, cur, rfl, hbg, hg, hnc, hcm, hcs, htake⟩
  · have hr2 := run_append_nil (P := P) w t ty e i _ ht hi hz a m c news (by rw [hs]; exact hl) hnews hm (by omega) (by rw [hb]; omega)
    rw [hr2] at hr
    cases hr
    exact .inr ⟨_, rfl, Nat.le_refl _⟩
  · by_cases hroom : n + m ≤ cap
    · have hr2 := run_append_room (P := P) w t ty e i ht hi g n cap cur hg a m c news (by rw [hs]; exact hl) hnews h1 hroom (by rw [hs, hl, hcs]; omega)
      rw [hr2] at hr
      cases hr
      exact .inl ⟨g, cap, rfl, rfl⟩
    · have hr2 := run_append_grow (P := P) w t ty e i _ ht hi hz ⟨g, 0, none⟩ n cap xs (by rw [hs]; exact hown.1) (hown.cells (g := g) rfl) a m c news (by rw [hs]; exact hl) hnews (by omega) (by omega) (growslice_fits (by omega) (by rw [hb]; omega))
      rw [hr2] at hr
      cases hr
      exact .inr ⟨_, rfl, Nat.le_refl _⟩
theorem app_where_string (t u ty e : TypeId) (i : TypeInfo) (ht : P.underlying t = some (.slice e)) (hu : P.underlying u = some .string) (hi : P.info? e = some i) (hz : i.zero = some (.int .u8 0)) (hs : i.size = 1) (hb : i.bytes = 1)
    (v : Value) (n : Nat) (xs : List Value) (hown : w.ownsRow 0 e 1 v n xs) (s : ByteArray) (hm : 0 < s.size) (hbytes : n + s.size ≤ 140737488355328) {v' : Value} {w' : World} (hr : (Builtin.append_ #[t, u] ty #[v, .string s]).run P w = .ok v' w') : SbWh v v' n s.size w.heap.size := by
  rcases hown.2 with ⟨rfl, rfl⟩ | ⟨g, cap, cur, rfl, hbg, hg, hnc, hcm, hcs, htake⟩
  · have hr2 := run_append_nil_string (P := P) w t u ty e i _ ht hu hi hz s hm (by omega) (by rw [hb]; omega)
    rw [hr2] at hr
    cases hr
    exact .inr ⟨_, rfl, Nat.le_refl _⟩
  · by_cases hroom : n + s.size ≤ cap
    · have hr2 := Lib.run_append_room_string (P := P) w t u ty e i ht hu hi hs g n cap cur hg s hroom (by rw [hcs]; omega)
      rw [hr2] at hr
      cases hr
      exact .inl ⟨g, cap, rfl, rfl⟩
    · have hr2 := Lib.run_append_grow_string (P := P) w t u ty e i _ ht hu hi hz ⟨g, 0, none⟩ n cap xs (by rw [hs]; exact hown.1) (hown.cells (g := g) rfl) s (by omega) (by omega) (growslice_fits (by omega) (by rw [hb]; omega))
      rw [hr2] at hr
      cases hr
      exact .inr ⟨_, rfl, Nat.le_refl _⟩

theorem wpList_app {ops : Array Oper} {rest : List Oper} {o : Oper} {a : Act} {Q : Exit → Act → World → Prop} (hgd : o.guard = none) (s x : Operand) (t : TypeId)
    (ho : o.op = .call { callee := .builtin .append, args := #[s, x], argTypes := #[t, t] }) (e : TypeId) (i : TypeInfo) (ht : P.underlying t = some (.slice e)) (hi : P.info? e = some i) (hz : i.zero = some (.int .u8 0)) (hs1 : i.size = 1) (hb1 : i.bytes = 1)
    (v : Value) (n : Nat) (xs : List Value) (hs : a.eval s = v) (hown : w.ownsRow 0 e 1 v n xs)
    (ad : Addr) (m c : Nat) (news : List Value) (hx : a.eval x = .slice (some ad) m c) (hl : news.length = m * 1) (hnews : ∀ j u, news[j]? = some u → w.cell? (ad.add j) = some u) (h1 : ∀ u ∈ news, u.oneCell' = true)
    (hm : 0 < m) (hbytes : n + m ≤ 140737488355328)
    (h : ∀ v' w', w'.ownsRow 0 e 1 v' (n + m) (xs ++ news) → w.grownBy w' v.ownBlock → SbWh v v' n m w.heap.size → wpList P ops Q rest (a.put o.dst v') w') : wpList P ops Q (o :: rest) a w :=
  wpList_plain hgd fun K hK => by
    obtain ⟨v', w', hr, h2, h3, _⟩ := run_append_own (P := P) w 0 t o.type e i _ 1 1 ht hi hz hs1 hb1 rfl (by decide) v n xs hown ad m c news hl hnews h1 (by unfold maxLen; omega) (by omega) (Nat.zero_le _)
    have h4 := app_where (P := P) w t o.type e i ht hi hz hs1 hb1 v n xs hown ad m c news hl hnews h1 hm hbytes hr
    unfold Oper.wp execOp
    simp only [ho, resolve, invoke, builtin, Sem.run_bind, Sem.run_pure, Result.andThen_ok, List.map_toArray, List.map_cons, List.map_nil, hs, hx, hr]
    exact hK _ _ (h v' w' h2 h3 h4)
theorem wpList_app_string {ops : Array Oper} {rest : List Oper} {o : Oper} {a : Act} {Q : Exit → Act → World → Prop} (hgd : o.guard = none) (sl x : Operand) (t u : TypeId)
    (ho : o.op = .call { callee := .builtin .append, args := #[sl, x], argTypes := #[t, u] }) (e : TypeId) (i : TypeInfo) (ht : P.underlying t = some (.slice e)) (hu : P.underlying u = some .string) (hi : P.info? e = some i) (hz : i.zero = some (.int .u8 0)) (hs1 : i.size = 1) (hb1 : i.bytes = 1)
    (v : Value) (n : Nat) (xs : List Value) (hs : a.eval sl = v) (hown : w.ownsRow 0 e 1 v n xs) (s : ByteArray) (hx : a.eval x = .string s) (hm : 0 < s.size) (hbytes : n + s.size ≤ 140737488355328)
    (h : ∀ v' w', w'.ownsRow 0 e 1 v' (n + s.size) (xs ++ Lib.strCells s) → w.grownBy w' v.ownBlock → SbWh v v' n s.size w.heap.size → wpList P ops Q rest (a.put o.dst v') w') : wpList P ops Q (o :: rest) a w :=
  wpList_plain hgd fun K hK => by
    obtain ⟨v', w', hr, h2, h3, _⟩ := Lib.run_append_own_string (P := P) w 0 t u o.type e i ht hu hi hz hs1 hb1 v n xs hown s (by unfold maxLen; omega) hbytes (Nat.zero_le _)
    have h4 := app_where_string (P := P) w t u o.type e i ht hu hi hz hs1 hb1 v n xs hown s hm hbytes hr
    unfold Oper.wp execOp
    simp only [ho, resolve, invoke, builtin, Sem.run_bind, Sem.run_pure, Result.andThen_ok, List.map_toArray, List.map_cons, List.map_nil, hs, hx, hr]
    exact hK _ _ (h v' w' h2 h3 h4)
end

end Go.Th
end

section
/- json, plainly: a value printed. -/
set_option linter.unusedSimpArgs false
set_option linter.unusedVariables false
namespace Go.Th.Pure
open Go

def hexD : Bs8 := [48, 49, 50, 51, 52, 53, 54, 55, 56, 57, 97, 98, 99, 100, 101, 102]
def quoteB (c : UInt8) : Bs8 := if c = 34 ∨ c = 92 then [92, c] else if 32 ≤ c.toNat ∧ c.toNat ≤ 126 then [c] else [92, 117, 48, 48, hexD.getD (c.toNat / 16) 0, hexD.getD (c.toNat % 16) 0]
def quoteJ (s : Bs8) : Bs8 := 34 :: (s.flatMap quoteB ++ [34])
mutual
def layJ : JV → Bs8
  | .mk so n t l ns => if so = 1 then [110, 117, 108, 108] else if so = 2 then [102, 97, 108, 115, 101] else if so = 3 then [116, 114, 117, 101] else if so = 4 then Lib.itoa n else if so = 5 then quoteJ t else
    (if so = 7 then 123 else 91) :: (laysJ (decide (so = 7)) true l ns ++ [if so = 7 then 125 else 93])
def laysJ (named : Bool) (first : Bool) : List JV → List Bs8 → Bs8
  | [], _ => []
  | v :: l, ns => (if first then [] else [44]) ++ ((if named then quoteJ (ns.headD []) ++ [58] else []) ++ (layJ v ++ laysJ named false l ns.tail))
end
def pieceJ (named : Bool) (j : Nat) (v : JV) (ns : List Bs8) : Bs8 := (if j = 0 then [] else [44]) ++ ((if named then quoteJ (ns.getD j []) ++ [58] else []) ++ layJ v)
theorem lays_snoc (named : Bool) (v : JV) : ∀ (first : Bool) (l : List JV) (ns : List Bs8), laysJ named first (l ++ [v]) ns = laysJ named first l ns ++ ((if first && l.isEmpty then [] else [44]) ++ ((if named then quoteJ (ns.getD l.length []) ++ [58] else []) ++ layJ v))
  | first, [], ns => by
    simp only [List.nil_append, laysJ, List.append_nil, List.isEmpty_nil, Bool.and_true, List.length_nil]
    cases ns <;> simp
  | first, w :: l, ns => by
    simp only [List.cons_append, laysJ, lays_snoc named v false l ns.tail, List.isEmpty_cons, Bool.and_false, Bool.false_and, List.length_cons]
    cases ns <;> simp
theorem lays_take {named : Bool} {l : List JV} {ns : List Bs8} {j : Nat} (hj : j < l.length) : laysJ named true (l.take (j + 1)) ns = laysJ named true (l.take j) ns ++ pieceJ named j l[j] ns := by
  rw [← List.take_append_getElem hj, lays_snoc]
  unfold pieceJ
  have e : (List.take j l).isEmpty = decide (j = 0) := by
    cases j with
    | zero => simp
    | succ j => cases l with
      | nil => simp at hj
      | cons => simp
  have e2 : (List.take j l).length = j := by rw [List.length_take]; omega
  rw [e, e2]
  by_cases h : j = 0 <;> simp [h]
theorem layJ_eq (v : JV) : layJ v = if v.sort = 1 then [110, 117, 108, 108] else if v.sort = 2 then [102, 97, 108, 115, 101] else if v.sort = 3 then [116, 114, 117, 101] else if v.sort = 4 then Lib.itoa v.num else if v.sort = 5 then quoteJ v.text else
    (if v.sort = 7 then 123 else 91) :: (laysJ (decide (v.sort = 7)) true v.list v.names ++ [if v.sort = 7 then 125 else 93]) := by
  cases v; rw [layJ]; rfl
def printJ (v : JV) : Bs8 × Int := if checkJ v = 0 then if 16384 < (layJ v).length then ([], 2) else (layJ v, 0) else ([], checkJ v)

theorem quoteB_len (c : UInt8) : 1 ≤ (quoteB c).length ∧ (quoteB c).length ≤ 6 := by
  unfold quoteB
  split
  · simp
  split
  · simp
  · simp
theorem quote_len : ∀ s : Bs8, (s.flatMap quoteB).length ≤ 6 * s.length
  | [] => by simp
  | c :: s => by
    have := quote_len s
    have := quoteB_len c
    have e : ((c :: s).flatMap quoteB).length = (quoteB c).length + (s.flatMap quoteB).length := by rw [List.flatMap_cons, List.length_append]
    rw [e, List.length_cons]
    omega
theorem quoteJ_len (s : Bs8) : (quoteJ s).length ≤ 6 * s.length + 2 := by
  have := quote_len s
  unfold quoteJ
  rw [List.length_cons, List.length_append, List.length_singleton]
  omega
theorem small_pow {n k : Nat} (h : n < 10 ^ k) (hk : 0 < k) : Lib.nDigits n ≤ k := by
  induction k generalizing n with
  | zero => omega
  | succ k ih =>
    by_cases h10 : n < 10
    · rw [Lib.nDigits_small h10]; omega
    · rw [Lib.nDigits_big h10]
      have : n / 10 < 10 ^ k := by rw [Nat.pow_succ] at h; omega
      have hk0 : 0 < k := by
        rcases Nat.eq_zero_or_pos k with rfl | h'
        · simp at h; omega
        · exact h'
      have := ih this hk0
      omega
theorem dec_len (n : Nat) : (Lib.decDigits n).length = Lib.nDigits n := by
  rw [Lib.decDigits_eq]; simp
theorem itoa_len {n : Int} (h1 : n ≤ 999999999999999) (h2 : -999999999999999 ≤ n) : (Lib.itoa n).length ≤ 16 := by
  unfold Lib.itoa
  split
  · rw [List.length_cons, dec_len]
    have := small_pow (n := n.natAbs) (k := 15) (by omega) (by omega)
    omega
  · rw [dec_len]
    have := small_pow (n := n.toNat) (k := 15) (by omega) (by omega)
    omega
def sumL : List Bs8 → Nat
  | [] => 0
  | t :: ns => t.length + sumL ns
mutual
def partsJ : JV → Nat
  | .mk _ _ t l ns => 1 + t.length + ns.length + sumL ns + partssJ l
def partssJ : List JV → Nat
  | [] => 0
  | v :: l => partsJ v + partssJ l
end
theorem partsJ_eq (v : JV) : partsJ v = 1 + v.text.length + v.names.length + sumL v.names + partssJ v.list := by
  cases v; rw [partsJ]; rfl
mutual
theorem lay_len : ∀ v : JV, allJ small1 v = true → (layJ v).length + 10 ≤ 40 * partsJ v
  | .mk so n t l ns, h => by
    rw [layJ, partsJ]
    rw [allJ, Bool.and_eq_true] at h
    have h1 := h.1
    unfold small1 at h1
    rw [Bool.and_eq_true] at h1
    have h1 : n ≤ 999999999999999 ∧ -999999999999999 ≤ n := ⟨of_decide_eq_true h1.1, of_decide_eq_true h1.2⟩
    have hl := lays_len (decide (so = 7)) true l ns h.2
    have hq := quoteJ_len t
    have hi := itoa_len h1.1 h1.2
    split
    · simp; omega
    split
    · simp; omega
    split
    · simp; omega
    split
    · omega
    split
    · omega
    · simp only [List.length_cons, List.length_append, List.length_nil]; omega
theorem lays_len (named first : Bool) : ∀ (l : List JV) (ns : List Bs8), allsJ small1 l = true → (laysJ named first l ns).length ≤ 40 * partssJ l + 6 * sumL ns
  | [], ns, _ => by simp [laysJ]
  | v :: l, ns, h => by
    rw [laysJ, partssJ]
    rw [allsJ, Bool.and_eq_true] at h
    have h1 := lay_len v h.1
    have h2 := lays_len named false l ns.tail h.2
    have h3 : (quoteJ (ns.headD [])).length + 6 * sumL ns.tail ≤ 6 * sumL ns + 2 := by
      cases ns with
      | nil => simp [quoteJ, sumL]
      | cons t ns => have := quoteJ_len t; simp [sumL]; omega
    have h4 : sumL ns.tail ≤ sumL ns := by
      cases ns with
      | nil => simp [sumL]
      | cons t ns => simp [sumL]
    simp only [List.length_append, List.length_cons]
    have e1 : ((if first = true then [] else [44] : Bs8)).length ≤ 1 := by split <;> simp
    have e2 : ((if named = true then quoteJ (ns.headD []) ++ [58] else [] : Bs8)).length + 6 * sumL ns.tail ≤ 6 * sumL ns + 3 := by
      split
      · simp only [List.length_append, List.length_cons, List.length_nil]; omega
      · simp; omega
    omega
end

end Go.Th.Pure
end

section
/- json, plainly: what the library's functions answer. -/
set_option linter.unusedSimpArgs false
set_option linter.unusedVariables false
namespace Go.Th.Pure
open Go

def valF (acc : Nat) (ds : Bs8) : Nat := ds.foldl (fun n d => 10 * n + (d.toNat - 48)) acc
theorem valF_le : ∀ (ds : Bs8) (acc : Nat), acc ≤ valF acc ds
  | [], acc => Nat.le_refl _
  | d :: ds, acc => Nat.le_trans (by omega) (valF_le ds (10 * acc + (d.toNat - 48)))
theorem uint_digs : ∀ (ds : Bs8) (acc : Nat), (∀ b ∈ ds, digJ b = true) → acc < 18446744073709551616 → (Lib.parseUint10 acc ds = .ok (valF acc ds) ∧ valF acc ds < 18446744073709551616) ∨ (Lib.parseUint10 acc ds = .range ∧ 18446744073709551616 ≤ valF acc ds)
  | [], acc, _, ha => .inl ⟨rfl, ha⟩
  | d :: ds, acc, hd, ha => by
    have h1 := hd d (by simp)
    simp only [digJ, Bool.and_eq_true, decide_eq_true_eq] at h1
    have hle := valF_le ds (10 * acc + (d.toNat - 48))
    have e : valF acc (d :: ds) = valF (10 * acc + (d.toNat - 48)) ds := rfl
    rw [Lib.parseUint10, if_pos h1, e]
    split
    · exact .inr ⟨rfl, by omega⟩
    split
    · exact .inr ⟨rfl, by omega⟩
    · rw [Nat.mul_comm acc 10]
      exact uint_digs ds _ (fun b hb => hd b (by simp [hb])) (by omega)
theorem atoi_digs' {ds : Bs8} (h0 : ds ≠ []) (hd : ∀ b ∈ ds, digJ b = true) : Lib.atoiAll ds = .ok ((valJ ds : Nat) : Int) ∨ (Lib.atoiAll ds = .range ∧ maxNum < valJ ds) := by
  cases ds with
  | nil => exact absurd rfl h0
  | cons c r =>
    have h1 := hd c (by simp)
    simp only [digJ, Bool.and_eq_true, decide_eq_true_eq] at h1
    have hv : valJ (c :: r) = valF 0 (c :: r) := rfl
    unfold Lib.atoiAll
    simp only
    rw [if_neg (by omega)]
    have hm : Lib.parseMag (c :: r) = Lib.parseUint10 0 (c :: r) := by unfold Lib.parseMag; rw [if_neg (by simp)]
    rw [hm]
    rcases uint_digs (c :: r) 0 hd (by omega) with ⟨e, hlt⟩ | ⟨e, hge⟩
    · rw [e]
      simp only
      by_cases hb : 9223372036854775808 ≤ valF 0 (c :: r)
      · rw [if_pos ⟨by omega, hb⟩]
        exact .inr ⟨rfl, by rw [hv]; unfold maxNum; omega⟩
      · rw [if_neg (by omega), if_neg (by omega), if_neg (by omega), hv]
        exact .inl rfl
    · rw [e]
      exact .inr ⟨rfl, by rw [hv]; unfold maxNum; omega⟩
theorem comes_take (s w : Bs8) : comesJ w s = if s.take w.length = w then some (s.drop w.length) else none := by
  by_cases h : s.take w.length = w
  · rw [if_pos h]
    have : ∀ (w t : Bs8), comesJ w (w ++ t) = some t := by
      intro w t
      induction w with
      | nil => rfl
      | cons b w ih => simp [comesJ, ih]
    have h2 := this w (s.drop w.length)
    have h3 : w ++ s.drop w.length = s := by
      conv => lhs; lhs; rw [← h]
      exact List.take_append_drop _ _
    rwa [h3] at h2
  · rw [if_neg h]
    cases e : comesJ w s with
    | none => rfl
    | some r =>
      have := comes_len e
      rw [this] at h
      exact absurd (by simp) h
theorem trim_blanks (s : Bs8) : Lib.trimLeftS s [32, 9, 10, 13] = blanksJ s := by
  unfold Lib.trimLeftS blanksJ
  congr 1
  funext b
  rw [Bool.eq_iff_iff]
  simp [blankB, or_assoc]

end Go.Th.Pure
end
