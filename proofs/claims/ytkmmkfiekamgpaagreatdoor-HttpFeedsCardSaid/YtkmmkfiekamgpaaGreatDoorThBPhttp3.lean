/- What the row of one statement stands on: a store, abstract code, functions of the program and their laws (ThPhttp3). -/
import Derived.Test.YtkmmkfiekamgpaaGreatDoorThBPhttp1
import Derived.Lib.AtoiAllCases
import Derived.Lib.TrimByte
import Derived.Lib.Case

section
/- Plain: the machine that reads requests, step by step; in whatever parts bytes come it answers the same. -/
set_option linter.unusedSimpArgs false
set_option linter.unusedVariables false
namespace Go.Th.Pure
open Go

structure Rq where
  m : Bs
  p : Bs
  u : Bs
  bd : Bs
  cl : Bool
deriving DecidableEq
inductive LineR where
  | wait
  | large
  | got (l r : Bs)
def lineR (b : Bs) : LineR := match findL [13, 10] (b.take 1026) with
  | some (l, _) => .got l (b.drop (l.length + 2))
  | none => if 1026 ≤ b.length then .large else .wait

theorem findL_len {sep : Bs} {s a r : Bs} (h : findL sep s = some (a, r)) : sep.length ≤ s.length := by
  have := congrArg List.length (findL_eq _ _ _ _ h)
  simp only [List.length_append] at this; omega
theorem findL_app (sep : Bs) : ∀ (s t : Bs) {a r : Bs}, findL sep s = some (a, r) → findL sep (s ++ t) = some (a, r ++ t)
  | [], t, a, r, h => by
    simp only [findL] at h
    split at h
    · rename_i he
      cases h
      have : sep = [] := by simpa using he
      subst this
      cases t <;> simp [findL, List.isPrefixOf]
    · cases h
  | b :: l, t, a, r, h => by
    simp only [findL] at h
    simp only [List.cons_append, findL]
    by_cases hp : sep.isPrefixOf (b :: l) = true
    · rw [if_pos hp] at h
      cases h
      obtain ⟨z, hz⟩ := List.isPrefixOf_iff_prefix.mp hp
      have hp2 : sep.isPrefixOf (b :: (l ++ t)) = true := List.isPrefixOf_iff_prefix.mpr ⟨z ++ t, by rw [← List.append_assoc, hz]; rfl⟩
      rw [if_pos hp2]
      congr 2
      rw [← hz, List.drop_left' rfl, ← List.cons_append, ← hz, List.append_assoc, List.drop_left' rfl]
    · rw [if_neg hp] at h
      cases hf : findL sep l with
      | none => rw [hf] at h; cases h
      | some p =>
        obtain ⟨a', r'⟩ := p
        rw [hf] at h
        cases h
        have hl := findL_len hf
        have hp2 : ¬ sep.isPrefixOf (b :: (l ++ t)) = true := fun h2 => hp (by
          obtain ⟨z, hz⟩ := List.isPrefixOf_iff_prefix.mp h2
          refine List.isPrefixOf_iff_prefix.mpr (List.prefix_of_prefix_length_le (l₃ := b :: (l ++ t)) ⟨z, hz⟩ ⟨t, by simp⟩ (by simp; omega))
          )
        rw [if_neg hp2, findL_app sep l t hf]
theorem lineR_got {b l r : Bs} (h : lineR b = .got l r) (y : Bs) : lineR (b ++ y) = .got l (r ++ y) ∧ l.length + 2 + r.length = b.length := by
  unfold lineR at h ⊢
  cases hf : findL [13, 10] (b.take 1026) with
  | none => rw [hf] at h; simp only at h; split at h <;> cases h
  | some p =>
    obtain ⟨a, q⟩ := p
    rw [hf] at h
    cases h
    have e := congrArg List.length (findL_eq _ _ _ _ hf)
    simp only [List.length_append, List.length_take, List.length_cons, List.length_nil] at e
    rw [List.take_append, findL_app _ _ _ hf]
    constructor
    · simp only
      rw [List.drop_append_of_le_length (by omega)]
    · rw [List.length_drop]; omega
theorem lineR_large {b : Bs} (h : lineR b = .large) (y : Bs) : lineR (b ++ y) = .large := by
  unfold lineR at h ⊢
  cases hf : findL [13, 10] (b.take 1026) with
  | some p => rw [hf] at h; cases h
  | none =>
    rw [hf] at h
    simp only at h
    split at h
    · rename_i hl
      rw [List.take_append_of_le_length hl, hf]
      simp only
      rw [if_pos (by rw [List.length_append]; omega)]
    · cases h

def isUp (c : UInt8) : Bool := decide (65 ≤ c.toNat ∧ c.toNat ≤ 90)
def isVis (c : UInt8) : Bool := decide (33 ≤ c.toNat ∧ c.toNat ≤ 126)
def isPr (c : UInt8) : Bool := decide (32 ≤ c.toNat ∧ c.toNat ≤ 126)
def isNm (c : UInt8) : Bool := decide (97 ≤ c.toNat ∧ c.toNat ≤ 122 ∨ 65 ≤ c.toNat ∧ c.toNat ≤ 90 ∨ 48 ≤ c.toNat ∧ c.toNat ≤ 57 ∨ c.toNat = 45)
def wVer : Bs := [72, 84, 84, 80, 47, 49, 46, 49]
def wContent : Bs := [99, 111, 110, 116, 101, 110, 116, 45, 108, 101, 110, 103, 116, 104]
def wConn : Bs := [99, 111, 110, 110, 101, 99, 116, 105, 111, 110]
def wTE : Bs := [116, 114, 97, 110, 115, 102, 101, 114, 45, 101, 110, 99, 111, 100, 105, 110, 103]
def wcl : Bs := [99, 108, 111, 115, 101]
/-- A request's line: method, path, query. -/
def firstOk (l : Bs) : Bool := decide (1 ≤ (cutL l [32]).1.length) && decide ((cutL l [32]).1.length ≤ 16) && (cutL l [32]).1.all isUp && decide ((cutL (cutL l [32]).2.1 [32]).2.1 = wVer) && Lib.hasPrefix (cutL (cutL l [32]).2.1 [32]).1 [47] && (cutL (cutL l [32]).2.1 [32]).1.all isVis
def firstQ (l : Bs) : Rq := ⟨(cutL l [32]).1, (cutL (cutL (cutL l [32]).2.1 [32]).1 [63]).1, (cutL (cutL (cutL l [32]).2.1 [32]).1 [63]).2.1, [], false⟩
inductive HR where
  | bad (e : Int)
  | len (v : Int)
  | close
  | skip
def headOk (n : Nat) (l : Bs) : Bool := decide (n + 1 ≤ 32) && (cutL l [58]).2.2 && (decide (1 ≤ (cutL l [58]).1.length) && decide ((cutL l [58]).1.length ≤ 64) && (cutL l [58]).1.all isNm) && (cutL l [58]).2.1.all isPr
def numR' (len : Int) (x : Bs) : HR := match Lib.atoiAll x with
  | .ok v => if 0 ≤ len ∨ 9 < x.length ∨ x.all isDig = false then .bad 222 else if 16384 < v then .bad 223 else .len v
  | _ => .bad 222
def meansR (len : Int) (nm x : Bs) : HR := if Lib.toLowerA nm = wContent then numR' len x else if Lib.toLowerA nm = wConn then (if x = wcl then .close else .skip) else if Lib.toLowerA nm = wTE then .bad 221 else .skip
def headF (n : Nat) (len : Int) (l : Bs) : HR := if headOk n l = true then meansR len (cutL l [58]).1 (Lib.trimB (cutL l [58]).2.1 32) else .bad 221

inductive Phase where
  | first
  | head (q : Rq) (n : Nat) (len : Int)
  | body (q : Rq) (len : Int)
  | wrong (e : Int)
  | over
def Phase.stop : Phase → Bool
  | .wrong _ | .over => true
  | _ => false
def Phase.err : Phase → Int
  | .wrong e => e
  | _ => 0
def headS (q : Rq) (n : Nat) (len : Int) (r : Bs) : HR → Phase × Bs × List Rq
  | .bad e => (.wrong e, r, [])
  | .len v => (.head q (n + 1) v, r, [])
  | .close => (.head { q with cl := true } (n + 1) len, r, [])
  | .skip => (.head q (n + 1) len, r, [])
def stepM (ph : Phase) (b : Bs) : Option (Phase × Bs × List Rq) := match ph with
  | .first => match lineR b with
    | .wait => none
    | .large => some (.wrong 223, b, [])
    | .got l r => if firstOk l then some (.head (firstQ l) 0 (-1), r, []) else some (.wrong 220, r, [])
  | .head q n len => match lineR b with
    | .wait => none
    | .large => some (.wrong 223, b, [])
    | .got l r => if l = [] then some (.body q len, r, []) else some (headS q n len r (headF n len l))
  | .body q len => if b.length < (max 0 len).toNat then none else some (if q.cl then .over else .first, b.drop (max 0 len).toNat, [{ q with bd := b.take (max 0 len).toNat }])
  | .wrong _ | .over => none

def wt : Phase → Nat
  | .first => 1
  | .head _ _ _ => 1
  | .body _ _ => 2
  | .wrong _ => 0
  | .over => 0
def meas (ph : Phase) (b : Bs) : Nat := 2 * b.length + wt ph
theorem headS_rest (q n len r h) : (headS q n len r h).2.1 = r ∧ wt (headS q n len r h).1 ≤ 1 := by cases h <;> exact ⟨rfl, by simp [headS, wt]⟩
theorem step_meas {ph ph' : Phase} {b b' : Bs} {t : List Rq} (h : stepM ph b = some (ph', b', t)) : meas ph' b' < meas ph b := by
  unfold meas
  cases ph with
  | first =>
    simp only [stepM] at h
    cases hl : lineR b with
    | wait => rw [hl] at h; cases h
    | large => rw [hl] at h; cases h; simp [wt]
    | got l r =>
      have := (lineR_got hl []).2
      rw [hl] at h
      simp only at h
      split at h <;> cases h <;> simp only [wt] <;> omega
  | head q n len =>
    simp only [stepM] at h
    cases hl : lineR b with
    | wait => rw [hl] at h; cases h
    | large => rw [hl] at h; cases h; simp [wt]
    | got l r =>
      have := (lineR_got hl []).2
      rw [hl] at h
      simp only at h
      split at h
      · cases h; simp only [wt]; omega
      · have h2 := headS_rest q n len r (headF n len l)
        simp only [Option.some.injEq] at h
        rw [h] at h2
        simp only [wt] at h2 ⊢
        rw [h2.1]; omega
  | body q len =>
    simp only [stepM] at h
    split at h
    · cases h
    · cases h
      rw [List.length_drop]
      split <;> simp only [wt] <;> omega
  | wrong e => cases h
  | over => cases h
theorem step_app {ph ph' : Phase} {b b' : Bs} {t : List Rq} (h : stepM ph b = some (ph', b', t)) (y : Bs) : stepM ph (b ++ y) = some (ph', b' ++ y, t) := by
  cases ph with
  | first =>
    simp only [stepM] at h ⊢
    cases hl : lineR b with
    | wait => rw [hl] at h; cases h
    | large => rw [hl] at h; cases h; rw [lineR_large hl]
    | got l r =>
      rw [hl] at h
      rw [(lineR_got hl y).1]
      simp only at h ⊢
      split at h
      · rename_i hc; cases h; rw [if_pos hc]
      · rename_i hc; cases h; rw [if_neg hc]
  | head q n len =>
    simp only [stepM] at h ⊢
    cases hl : lineR b with
    | wait => rw [hl] at h; cases h
    | large => rw [hl] at h; cases h; rw [lineR_large hl]
    | got l r =>
      rw [hl] at h
      rw [(lineR_got hl y).1]
      simp only at h ⊢
      split at h
      · rename_i hc; cases h; rw [if_pos hc]
      · rename_i hc
        rw [if_neg hc]
        simp only [Option.some.injEq] at h ⊢
        cases hh : headF n len l <;> rw [hh] at h <;> cases h <;> rfl
  | body q len =>
    simp only [stepM] at h ⊢
    split at h
    · cases h
    · rename_i hb
      cases h
      rw [if_neg (by rw [List.length_append]; omega), List.drop_append_of_le_length (by omega), List.take_append_of_le_length (by omega)]
  | wrong e => cases h
  | over => cases h

def runF : Nat → Phase → Bs → Phase × Bs × List Rq
  | 0, ph, b => (ph, b, [])
  | k + 1, ph, b => match stepM ph b with
    | none => (ph, b, [])
    | some (ph', b', t) => ((runF k ph' b').1, (runF k ph' b').2.1, t ++ (runF k ph' b').2.2)
theorem runF_same : ∀ (k k' : Nat) (ph : Phase) (b : Bs), meas ph b < k → meas ph b < k' → runF k ph b = runF k' ph b
  | 0, _, _, _, h, _ => by omega
  | _ + 1, 0, _, _, _, h => by omega
  | k + 1, k' + 1, ph, b, h, h' => by
    simp only [runF]
    cases hs : stepM ph b with
    | none => rfl
    | some p =>
      obtain ⟨ph', b', t⟩ := p
      have := step_meas hs
      simp only
      rw [runF_same k k' ph' b' (by omega) (by omega)]
def runAll (ph : Phase) (b : Bs) : Phase × Bs × List Rq := runF (meas ph b + 1) ph b
theorem run_none {ph : Phase} {b : Bs} (h : stepM ph b = none) : runAll ph b = (ph, b, []) := by
  unfold runAll; simp only [runF, h]
theorem run_some {ph ph' : Phase} {b b' : Bs} {t : List Rq} (h : stepM ph b = some (ph', b', t)) : runAll ph b = ((runAll ph' b').1, (runAll ph' b').2.1, t ++ (runAll ph' b').2.2) := by
  have hm := step_meas h
  unfold runAll
  rw [runF, h]
  simp only
  rw [runF_same (meas ph b) (meas ph' b' + 1) ph' b' (by omega) (by omega)]
/-- More bytes behind: on from where it stood. -/
theorem run_app : ∀ (k : Nat) (ph : Phase) (b y : Bs), meas ph b < k → runAll ph (b ++ y) = ((runAll (runAll ph b).1 ((runAll ph b).2.1 ++ y)).1, (runAll (runAll ph b).1 ((runAll ph b).2.1 ++ y)).2.1, (runAll ph b).2.2 ++ (runAll (runAll ph b).1 ((runAll ph b).2.1 ++ y)).2.2)
  | 0, _, _, _, h => by omega
  | k + 1, ph, b, y, h => by
    cases hs : stepM ph b with
    | none => rw [run_none hs]; rfl
    | some p =>
      obtain ⟨ph', b', t⟩ := p
      have hm := step_meas hs
      have ih := run_app k ph' b' y (by omega)
      rw [run_some (step_app hs y), run_some hs, ih]
      simp only [List.append_assoc]
theorem run_stop {ph : Phase} (h : ph.stop = true) (b : Bs) : runAll ph b = (ph, b, []) := by
  refine run_none ?_
  cases ph <;> first | rfl | cases h
/-- The run ends where no step is. -/
theorem run_end : ∀ (k : Nat) (ph : Phase) (b : Bs), meas ph b < k → stepM (runAll ph b).1 (runAll ph b).2.1 = none
  | 0, _, _, h => by omega
  | k + 1, ph, b, h => by
    cases hs : stepM ph b with
    | none => rw [run_none hs]; exact hs
    | some p =>
      obtain ⟨ph', b', t⟩ := p
      have hm := step_meas hs
      rw [run_some hs]
      exact run_end k ph' b' (by omega)
/-- What one part does. -/
def feedM (s : Phase × Bs) (x : Bs) : (Phase × Bs) × List Rq := if s.1.stop then (s, []) else (((runAll s.1 (s.2 ++ x)).1, (runAll s.1 (s.2 ++ x)).2.1), (runAll s.1 (s.2 ++ x)).2.2)
def feedsM (s : Phase × Bs) : List Bs → (Phase × Bs) × List Rq
  | [] => (s, [])
  | x :: xs => ((feedsM (feedM s x).1 xs).1, (feedM s x).2 ++ (feedsM (feedM s x).1 xs).2)
theorem feeds_stop {s : Phase × Bs} (h : s.1.stop = true) : ∀ xs, feedsM s xs = (s, [])
  | [] => rfl
  | x :: xs => by
    have e : feedM s x = (s, []) := by unfold feedM; rw [if_pos h]
    simp only [feedsM, e, feeds_stop h xs, List.append_nil]
/-- In whatever parts. -/
theorem feeds_all : ∀ (xs : List Bs) (ph : Phase) (b : Bs), stepM ph b = none → (feedsM (ph, b) xs).2 = (runAll ph (b ++ xs.flatten)).2.2 ∧ (feedsM (ph, b) xs).1.1 = (runAll ph (b ++ xs.flatten)).1
  | [], ph, b, h => by simp only [feedsM, List.flatten_nil, List.append_nil, run_none h, and_self]
  | x :: xs, ph, b, h => by
    by_cases hs : ph.stop = true
    · rw [feeds_stop (s := (ph, b)) hs, run_stop hs]
      exact ⟨rfl, rfl⟩
    · have hn := run_end _ ph (b ++ x) (Nat.lt_succ_self _)
      have ih := feeds_all xs _ _ hn
      have ha := run_app _ ph (b ++ x) xs.flatten (Nat.lt_succ_self _)
      have e : feedM (ph, b) x = (((runAll ph (b ++ x)).1, (runAll ph (b ++ x)).2.1), (runAll ph (b ++ x)).2.2) := by unfold feedM; rw [if_neg hs]
      simp only [feedsM, e, List.flatten_cons]
      rw [← List.append_assoc, ha]
      exact ⟨by rw [ih.1], ih.2⟩
end Go.Th.Pure
end
