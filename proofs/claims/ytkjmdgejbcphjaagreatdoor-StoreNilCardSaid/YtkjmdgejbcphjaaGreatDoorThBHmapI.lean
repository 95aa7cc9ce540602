/- What the row of one statement stands on: a store, abstract code, functions of the program and their laws (ThPfact, ThPcodec, ThPcodec2, ThPwal1, ThHmapI). -/
import Derived.Test.YtkjmdgejbcphjaaGreatDoorThBQ10
import Derived.Lib.AtoiAllCases
import Derived.Lib.ItoaNum
import Derived.Test.YtkjmdgejbcphjaaGreatDoorThBPdisk3

section
/- Plain: specs as texts, parsed and printed. -/
set_option linter.unusedSimpArgs false
set_option linter.unusedVariables false
namespace Go.Th.Pure
open Go Go.Th

abbrev Bs := List UInt8
def isDig (b : UInt8) : Bool := decide (48 ≤ b.toNat ∧ b.toNat ≤ 57)
def nd : Bs → Nat
  | [] => 0
  | b :: r => if isDig b then nd r + 1 else 0
def valA (n : Nat) : Bs → Nat
  | [] => n
  | b :: r => valA (n * 10 + (b.toNat - 48)) r
def valD (s : Bs) : Nat := valA 0 s
theorem dec1 {n : Nat} (h : n < 10) : Lib.decDigits n = [UInt8.ofNat (48 + n)] := by rw [Lib.decDigits, dif_pos h]
theorem dec2 {n : Nat} (h : 10 ≤ n) : Lib.decDigits n = Lib.decDigits (n / 10) ++ [UInt8.ofNat (48 + n % 10)] := by rw [Lib.decDigits, dif_neg (by omega)]
end Go.Th.Pure
end

section
/- Codec, plainly: checks, changes and rows as texts, texts read again. -/
set_option linter.unusedSimpArgs false
set_option linter.unusedVariables false
namespace Go.Th.Pure
open Go Go.Th

theorem num_inj {a b : List UInt8} (hl : a.length = b.length) (h : num a = num b) : a = b := by
  rw [← le_num a, ← le_num b, hl, h]

theorem le_congr {n : Nat} {v w : Int} (h : v % 256 ^ n = w % 256 ^ n) : le n v = le n w := by
  refine num_inj (by rw [le_length, le_length]) ?_
  have h1 := num_le n v
  have h2 := num_le n w
  omega

def sgn32 (n : Nat) : Int := if n < 2147483648 then n else n - 4294967296

theorem le_sgn {bs : List UInt8} (h : bs.length = 4) : le 4 (sgn32 (num bs)) = bs := by
  have hl := num_lt bs
  rw [h] at hl
  have : le 4 (sgn32 (num bs)) = le 4 (num bs : Int) := by
    apply le_congr
    unfold sgn32
    split <;> omega
  rw [this, ← h, le_num]

theorem sgn_le {v : Int} (h1 : -2147483648 ≤ v) (h2 : v < 2147483648) : sgn32 (num (le 4 v)) = v := by
  have := num_le 4 v
  unfold sgn32
  split <;> omega

def coordsOf : Nat → List UInt8 → List Int
  | 0, _ => []
  | n + 1, bs => sgn32 (num (bs.take 4)) :: coordsOf n (bs.drop 4)

theorem coordsOf_length : ∀ (n : Nat) (bs : List UInt8), (coordsOf n bs).length = n
  | 0, _ => rfl
  | n + 1, bs => by simp [coordsOf, coordsOf_length n]

def vecT (l : List Int) : List UInt8 := l.flatMap (le 4)

theorem vecT_length : ∀ (l : List Int), (vecT l).length = 4 * l.length
  | [] => rfl
  | x :: l => by
    have := vecT_length l
    simp only [vecT, List.flatMap_cons, List.length_append, le_length, List.length_cons] at this ⊢
    omega

theorem vecT_coords : ∀ (n : Nat) (bs : List UInt8), bs.length = 4 * n → vecT (coordsOf n bs) = bs
  | 0, bs, h => by
    have : bs = [] := List.length_eq_zero_iff.mp (by omega)
    subst this; rfl
  | n + 1, bs, h => by
    have h1 := vecT_coords n (bs.drop 4) (by rw [List.length_drop]; omega)
    simp only [vecT, coordsOf, List.flatMap_cons] at h1 ⊢
    rw [h1, le_sgn (by rw [List.length_take]; omega), List.take_append_drop]

theorem coords_vecT : ∀ (l : List Int) (t : List UInt8), (∀ x ∈ l, -2147483648 ≤ x ∧ x < 2147483648) → coordsOf l.length (vecT l ++ t) = l
  | [], t, _ => rfl
  | x :: l, t, h => by
    have h1 := coords_vecT l t (fun y hy => h y (by simp [hy]))
    have h0 := h x (by simp)
    simp only [vecT, List.flatMap_cons, List.length_cons, coordsOf, List.append_assoc] at h1 ⊢
    have hl : (le 4 x).length = 4 := le_length 4 x
    rw [List.take_left' hl, List.drop_left' hl, h1, sgn_le h0.1 h0.2]

def inC (x : Int) : Bool := decide (-2147483647 ≤ x) && decide (x ≤ 2147483647)
def checkV (l : List Int) (d : Int) : Int := if d < 1 ∨ 64 < d ∨ (l.length : Int) ≠ d then 30 else if l.all inC then 0 else 31
theorem checkV_zero {l : List Int} {d : Int} (h : checkV l d = 0) : 1 ≤ d ∧ d ≤ 64 ∧ (l.length : Int) = d ∧ ∀ x ∈ l, -2147483647 ≤ x ∧ x ≤ 2147483647 := by
  unfold checkV at h
  split at h
  · omega
  · rename_i h1
    split at h
    · rename_i h2
      refine ⟨by omega, by omega, by omega, fun x hx => ?_⟩
      have := List.all_eq_true.mp h2 x hx
      simpa [inC] using this
    · omega

def idOk (n : Int) : Bool := decide (1 ≤ n) && decide (n ≤ 1000000000)
theorem idOk_iff {n : Int} : idOk n = true ↔ 1 ≤ n ∧ n ≤ 1000000000 := by simp [idOk]

def rowsErr (seen : List Int) : List Row → Int → Int
  | [], _ => 0
  | r :: rs, d => if idOk r.1 = false ∨ r.1 ∈ seen then 50 else if checkV r.2 d ≠ 0 then checkV r.2 d else rowsErr (r.1 :: seen) rs d
theorem rowsErr_zero : ∀ {rs : List Row} {seen : List Int} {d : Int}, rowsErr seen rs d = 0 → ∀ r ∈ rs, idOk r.1 = true ∧ checkV r.2 d = 0
  | [], _, _, _, r, hr => by simp at hr
  | q :: rs, seen, d, h, r, hr => by
    simp only [rowsErr] at h
    split at h
    · omega
    · rename_i h1
      split at h
      · rename_i h2; exact absurd h h2
      · rename_i h2
        rcases List.mem_cons.mp hr with rfl | hr
        · exact ⟨by simpa using (not_or.mp h1).1, by simpa using h2⟩
        · exact rowsErr_zero h r hr
abbrev Chg := Int × Int × List Int
def mayC (c : Chg) : Int :=
  if c.1 ≠ 1 ∧ c.1 ≠ 2 then 160 else if idOk c.2.1 = false then 50 else if c.1 = 1 then checkV c.2.2 c.2.2.length else if 0 < c.2.2.length then 1 else 0
def textC (c : Chg) : List UInt8 := le 1 c.1 ++ (le 4 c.2.1 ++ (if c.1 = 1 then le 1 c.2.2.length ++ vecT c.2.2 else []))
def putC (c : Chg) : List UInt8 × Int := if mayC c ≠ 0 then ([], mayC c) else (textC c, 0)

def getC0 (s : List UInt8) : Chg :=
  let k : Int := if 5 ≤ s.length then (num (s.take 1) : Nat) else 0
  (k, if 5 ≤ s.length then (num ((s.drop 1).take 4) : Nat) else 0,
    if k = 1 ∧ 6 ≤ s.length ∧ s.length = 6 + 4 * num ((s.drop 5).take 1) then coordsOf (num ((s.drop 5).take 1)) (s.drop 6) else [])
def getC (s : List UInt8) : Chg × Int := if mayC (getC0 s) ≠ 0 ∨ textC (getC0 s) ≠ s then ((0, 0, []), 161) else (getC0 s, 0)

theorem mayC_kind {c : Chg} (h : mayC c = 0) : c.1 = 1 ∨ c.1 = 2 := by
  unfold mayC at h
  split at h
  · omega
  · omega

theorem mayC_id {c : Chg} (h : mayC c = 0) : 1 ≤ c.2.1 ∧ c.2.1 ≤ 1000000000 := by
  unfold mayC at h
  split at h
  · omega
  · split at h
    · omega
    · rename_i h2
      exact idOk_iff.mp (by simpa using h2)

theorem textC_length {c : Chg} : (textC c).length = if c.1 = 1 then 6 + 4 * c.2.2.length else 5 := by
  unfold textC
  split <;> simp [le_length, vecT_length] <;> omega

theorem getC_ok {s : List UInt8} {k : Nat} (h5 : 5 ≤ s.length) (hk : k = num (s.take 1)) (hl : s.length = if k = 1 then 6 + 4 * num ((s.drop 5).take 1) else 5) :
    getC s = let c : Chg := ((k : Int), ((num ((s.drop 1).take 4) : Nat) : Int), if k = 1 then coordsOf (num ((s.drop 5).take 1)) (s.drop 6) else [])
      if mayC c ≠ 0 then ((0, 0, []), 161) else (c, 0) := by
  have htext : ∀ v : List Int, v = (if k = 1 then coordsOf (num ((s.drop 5).take 1)) (s.drop 6) else []) → textC ((k : Int), ((num ((s.drop 1).take 4) : Nat) : Int), v) = s := by
    intro v hv
    have e1 : le 1 (k : Int) = s.take 1 := by
      have := le_num (s.take 1)
      rwa [show (s.take 1).length = 1 by rw [List.length_take]; omega, ← hk] at this
    have e2 : le 4 (num ((s.drop 1).take 4) : Int) = (s.drop 1).take 4 := by
      have := le_num ((s.drop 1).take 4)
      rwa [show ((s.drop 1).take 4).length = 4 by rw [List.length_take, List.length_drop]; omega] at this
    have e12 : s.take 1 ++ ((s.drop 1).take 4 ++ s.drop 5) = s := by
      have : s.drop 5 = (s.drop 1).drop 4 := by rw [List.drop_drop]
      rw [this, List.take_append_drop, List.take_append_drop]
    by_cases h1 : k = 1
    · rw [if_pos h1] at hv hl
      subst hv
      have e3 : le 1 (num ((s.drop 5).take 1) : Int) = (s.drop 5).take 1 := by
        have := le_num ((s.drop 5).take 1)
        rwa [show ((s.drop 5).take 1).length = 1 by rw [List.length_take, List.length_drop]; omega] at this
      have e4 : vecT (coordsOf (num ((s.drop 5).take 1)) (s.drop 6)) = s.drop 6 := vecT_coords _ _ (by rw [List.length_drop]; omega)
      have e5 : s.drop 5 = (s.drop 5).take 1 ++ s.drop 6 := by
        have : s.drop 6 = (s.drop 5).drop 1 := by rw [List.drop_drop]
        rw [this, List.take_append_drop]
      unfold textC
      simp only [coordsOf_length]
      rw [if_pos (by omega), e1, e2, e3, e4, ← e5, e12]
    · rw [if_neg h1] at hv hl
      subst hv
      have e5 : s.drop 5 = [] := List.drop_of_length_le (by omega)
      unfold textC
      simp only
      rw [if_neg (by omega), e1, e2, ← e5, e12]
  have hv : (if ((k : Nat) : Int) = 1 ∧ 6 ≤ s.length ∧ s.length = 6 + 4 * num ((s.drop 5).take 1) then coordsOf (num ((s.drop 5).take 1)) (s.drop 6) else []) = (if k = 1 then coordsOf (num ((s.drop 5).take 1)) (s.drop 6) else []) := by
    by_cases h1 : k = 1
    · rw [if_pos h1] at hl
      rw [if_pos h1, if_pos ⟨by omega, by omega, by omega⟩]
    · rw [if_neg h1, if_neg (fun h => h1 (by omega))]
  have e0 : getC0 s = ((k : Int), ((num ((s.drop 1).take 4) : Nat) : Int), if k = 1 then coordsOf (num ((s.drop 5).take 1)) (s.drop 6) else []) := by
    simp only [getC0, if_pos h5, ← hk, hv]
  simp only [getC, e0]
  by_cases hm : mayC ((k : Int), ((num ((s.drop 1).take 4) : Nat) : Int), if k = 1 then coordsOf (num ((s.drop 5).take 1)) (s.drop 6) else []) ≠ 0
  · rw [if_pos (.inl hm), if_pos hm]
  · rw [if_neg hm, if_neg]
    rintro (h | h)
    · exact hm h
    · exact h (htext _ rfl)

theorem getC_bad {s : List UInt8} (h : ¬ (5 ≤ s.length ∧ s.length = if num (s.take 1) = 1 then 6 + 4 * num ((s.drop 5).take 1) else 5)) : getC s = ((0, 0, []), 161) := by
  unfold getC
  rw [if_pos]
  unfold getC0
  by_cases h5 : 5 ≤ s.length
  · simp only [if_pos h5]
    by_cases h1 : num (s.take 1) = 1
    · rw [if_pos h1] at h
      rw [if_neg (fun hh => h ⟨h5, hh.2.2⟩)]
      left
      simp only [h1, mayC, checkV]
      split
      · omega
      · split
        · omega
        · simp
    · rw [if_neg h1] at h
      rw [if_neg (fun hh => h1 (by omega))]
      right
      intro e
      have := congrArg List.length e
      rw [textC_length, if_neg (by simp only; omega)] at this
      exact h ⟨h5, by omega⟩
  · left
    simp only [if_neg h5]
    unfold mayC
    rw [if_pos (by simp)]
    omega

theorem getC_textC {c : Chg} (h : mayC c = 0) : getC (textC c) = (c, 0) := by
  obtain ⟨k, i, v⟩ := c
  have hk := mayC_kind h
  have hi := mayC_id h
  simp only at hk hi
  have hlen := textC_length (c := (k, i, v))
  simp only at hlen
  have hk' : num ((textC (k, i, v)).take 1) = k.toNat := by
    have e : (textC (k, i, v)).take 1 = le 1 k := by unfold textC; rw [List.take_left' (le_length 1 k)]
    rw [e]
    have := num_le 1 k
    omega
  have hi' : num (((textC (k, i, v)).drop 1).take 4) = i.toNat := by
    have e : ((textC (k, i, v)).drop 1).take 4 = le 4 i := by unfold textC; rw [List.drop_left' (le_length 1 k), List.take_left' (le_length 4 i)]
    rw [e]
    have := num_le 4 i
    omega
  rcases hk with rfl | rfl
  · rw [if_pos rfl] at hlen
    have hcv : checkV v v.length = 0 := by
      unfold mayC at h
      simp only at h
      rw [if_neg (by omega), if_neg (by simp [idOk_iff.mpr hi]), if_pos trivial] at h
      exact h
    have hv := checkV_zero hcv
    have hd5 : (textC (1, i, v)).drop 5 = le 1 v.length ++ vecT v := by
      unfold textC
      simp only [if_true]
      rw [show (5 : Nat) = 1 + 4 by rfl, ← List.drop_drop, List.drop_left' (le_length 1 1), List.drop_left' (le_length 4 i)]
    have hn : num (((textC (1, i, v)).drop 5).take 1) = v.length := by
      rw [hd5, List.take_left' (le_length 1 _)]
      have := num_le 1 v.length
      omega
    have hd6 : (textC (1, i, v)).drop 6 = vecT v := by
      rw [show (6 : Nat) = 5 + 1 by rfl, ← List.drop_drop, hd5, List.drop_left' (le_length 1 _)]
    rw [getC_ok (k := 1) (by omega) (by rw [hk']; rfl) (by rw [if_pos rfl, hn]; exact hlen)]
    simp only [if_true, hn, hd6, hi']
    have hco : coordsOf v.length (vecT v) = v := by
      have := coords_vecT v [] (fun x hx => by have := hv.2.2.2 x hx; omega)
      rwa [List.append_nil] at this
    have hii : ((i.toNat : Nat) : Int) = i := by omega
    rw [hco, hii]
    simp only [Int.cast_ofNat_Int, h, ne_eq, not_true_eq_false, if_false]
  · rw [if_neg (by omega)] at hlen
    have hv0 : v = [] := by
      unfold mayC at h
      simp only at h
      rw [if_neg (by omega), if_neg (by simp [idOk_iff.mpr hi]), if_neg (by omega)] at h
      split at h
      · omega
      · rename_i h0; exact List.length_eq_zero_iff.mp (by omega)
    subst hv0
    rw [getC_ok (k := 2) (by omega) (by rw [hk']; rfl) (by rw [if_neg (by omega)]; exact hlen)]
    simp only [hi', show ¬ (2 = 1) by omega, if_false]
    have hii : ((i.toNat : Nat) : Int) = i := by omega
    rw [hii]
    simp only [Int.cast_ofNat_Int, h, ne_eq, not_true_eq_false, if_false]

end Go.Th.Pure
end

section
/- Codec, plainly: rows as texts; texts that are one byte longer or shorter. -/
set_option linter.unusedSimpArgs false
set_option linter.unusedVariables false
namespace Go.Th.Pure
open Go Go.Th

end Go.Th.Pure
end

section
/- The log's bytes: numbers laid, a check behind, records. -/
set_option linter.unusedVariables false
set_option linter.unusedSimpArgs false
namespace Go.Th.Pure
open Go Go.Th

def rnd (x : Int) : Int := intBits .xor .u32 (Int.fdiv x (2 ^ (min (Int.toNat (1 : Int)) (IntKind.bits .u32)))) (intBits .and .u32 (IntKind.u32.wrap (0 - intBits .and .u32 x (1 : Int))) (3988292384 : Int))
def rnds : Nat → Int → Int
  | 0, x => x
  | n + 1, x => rnds n (rnd x)
theorem rnds_succ : ∀ (n : Nat) (x : Int), rnds (n + 1) x = rnd (rnds n x)
  | 0, x => rfl
  | n + 1, x => by rw [rnds, rnds_succ n]; rfl
def addS (x : Int) (b : UInt8) : Int := rnds 8 (intBits .xor .u32 x (IntKind.u32.wrap ((b.toNat : Nat) : Int)))
def sumI (l : List UInt8) : Int := intBits .xor .u32 (if (IntKind.signed .u32) then -1 else (IntKind.max .u32)) (l.foldl addS 4294967295)

def sealB (b : List UInt8) : List UInt8 := b ++ le 4 (sumI b)
def headB (first : Int) : List UInt8 := sealB (le 4 1818326888 ++ (le 4 first ++ le 4 (first / 4294967296)))
def laidB (seq : Int) (s : List UInt8) : List UInt8 := sealB (le 4 (s.length : Nat) ++ (le 4 seq ++ le 4 (seq / 4294967296)) ++ s)

end Go.Th.Pure
end

section
/- Maps with numbers as keys: found, taken out, counted. -/
set_option linter.unusedSimpArgs false
set_option linter.unusedVariables false
namespace Go.Th.L
open Go Go.Th

theorem lookup_int2 {S : St} {i : Nat} {es : List (Int × V)} (h : MapAt S i es) (z : V) (k : Int) : lookupV S 1 z true (.map i) (.int .i64 k) = some (match es.find? fun e => decide (k = e.1) with
    | some e => .tuple [e.2, .bool true]
    | none => .tuple [z, .bool false]) := by
  unfold MapAt at h
  have hf : keyFit 1 (.int .i64 k) = true := by unfold keyFit; rfl
  simp only [lookupV, rLookup, AX.ev, hf, if_true, h, findV_int]
  cases hi : es.findIdx? (fun e => decide (k = e.1)) with
  | none =>
    have : es.find? (fun e => decide (k = e.1)) = none := by
      rw [List.findIdx?_eq_none_iff] at hi
      rw [List.find?_eq_none]
      intro e he; simpa using hi e he
    simp [this, lookOut]
  | some j =>
    have hj := List.findIdx?_eq_some_iff_getElem.mp hi
    obtain ⟨hlt, hp, hbefore⟩ := hj
    have : es.find? (fun e => decide (k = e.1)) = some es[j] := by
      rw [List.find?_eq_some_iff_getElem]
      exact ⟨hp, j, hlt, rfl, fun q hq => by simpa using hbefore q hq⟩
    simp [this, lookOut, hlt]

theorem erase_filter {k : Int} : ∀ {es : List (Int × V)} {j : Nat}, (es.map (·.1)).Nodup → es.findIdx? (fun e => decide (k = e.1)) = some j → es.eraseIdx j = es.filter fun e => !decide (k = e.1)
  | [], j, _, h => by simp at h
  | e :: es, j, hn, h => by
    rw [List.map_cons, List.nodup_cons] at hn
    rw [List.findIdx?_cons] at h
    by_cases hk : k = e.1
    · simp only [hk, decide_true, if_true, Option.some.injEq] at h
      subst h
      have : es.filter (fun e' => !decide (k = e'.1)) = es := by
        rw [List.filter_eq_self]
        intro x hx
        simp only [Bool.not_eq_true', decide_eq_false_iff_not]
        intro e'
        exact hn.1 (List.mem_map.mpr ⟨x, hx, by rw [← e', hk]⟩)
      rw [List.eraseIdx_cons_zero, List.filter_cons_of_neg (by simp [hk]), this]
    · simp only [hk, decide_false, Bool.false_eq_true, if_false] at h
      cases hf : es.findIdx? (fun e => decide (k = e.1)) with
      | none => rw [hf] at h; simp at h
      | some j' =>
        rw [hf] at h
        simp only [Option.map_some, Option.some.injEq] at h
        subst h
        rw [List.eraseIdx_cons_succ, erase_filter hn.2 hf]
        simp [hk]

theorem erase_map {α β : Type} (f : α → β) : ∀ (l : List α) (j : Nat), (l.map f).eraseIdx j = (l.eraseIdx j).map f
  | [], j => by simp
  | a :: l, 0 => by simp
  | a :: l, j + 1 => by simp [erase_map f l j]
theorem delete_int {S : St} (hw : S.Wf) {i : Nat} {es : List (Int × V)} (h : MapAt S i es) (hn : (es.map (·.1)).Nodup) (k : Int) : ∃ S', deleteV S 1 (.map i) (.int .i64 k) = some S' ∧ MapAt S' i (es.filter fun e => !decide (k = e.1)) ∧ Upd [i] S S' ∧ S'.next = S.next := by
  unfold MapAt at h
  have hf : keyFit 1 (.int .i64 k) = true := by unfold keyFit; rfl
  cases hi : es.findIdx? (fun e => decide (k = e.1)) with
  | none =>
    refine ⟨S.put i (some (.map (entI es) true)), ?_, ?_, (Upd.refl hw [i]).put (hw.lt h) (.inr (by simp)) _, rfl⟩
    · simp only [deleteV, rDelete, AX.ev, hf, if_true, h, findV_int, hi, Option.map_none]
    · have : es.filter (fun e => !decide (k = e.1)) = es := by
        rw [List.filter_eq_self]
        rw [List.findIdx?_eq_none_iff] at hi
        intro e he; simpa using hi e he
      rw [this]; unfold MapAt; simp
  | some j =>
    refine ⟨S.put i (some (.map ((entI es).eraseIdx j) true)), ?_, ?_, (Upd.refl hw [i]).put (hw.lt h) (.inr (by simp)) _, rfl⟩
    · simp only [deleteV, rDelete, AX.ev, hf, if_true, h, findV_int, hi, Option.map_some, Nat.zero_add]
    · rw [← erase_filter hn hi]; unfold MapAt; simp [entI, erase_map]

theorem len_map {S : St} {i : Nat} {es : List (Int × V)} (h : MapAt S i es) : lenV S 3 (.map i) = some (.int .i64 es.length) := by
  unfold MapAt at h
  simp only [lenV, h, entI, List.length_map]

end Go.Th.L
end
