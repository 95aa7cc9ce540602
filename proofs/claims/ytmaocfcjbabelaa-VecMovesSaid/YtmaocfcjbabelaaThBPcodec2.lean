/- What the row of one statement stands on: a store, abstract code, functions of the program and their laws (ThPcodec, ThPcodec2). -/
import Derived.Test.YtmaocfcjbabelaaThBQ6

section
/- Codec, plainly: checks, changes and rows as texts, texts read again. -/
set_option linter.unusedSimpArgs false
set_option linter.unusedVariables false
namespace Go.Th.Pure
open Go Go.Th

theorem num_inj {a b : List UInt8} (hl : a.length = b.length) (h : num a = num b) : a = b := by
  rw [← le_num a, ← le_num b, hl, h]

theorem le_congr {n : Nat} {v w : Int} (h : v % 256 ^ n = w % 256 ^ n) : le n v = le n w := by
  refine num_inj (by rw [le_length, le_length]) ?_
  have h1 := num_le n v
  have h2 := num_le n w
  omega

/-- A number of 32 bits with a sign. -/
def sgn32 (n : Nat) : Int := if n < 2147483648 then n else n - 4294967296

theorem le_sgn {bs : List UInt8} (h : bs.length = 4) : le 4 (sgn32 (num bs)) = bs := by
  have hl := num_lt bs
  rw [h] at hl
  have : le 4 (sgn32 (num bs)) = le 4 (num bs : Int) := by
    apply le_congr
    unfold sgn32
    split <;> omega
  rw [this, ← h, le_num]

theorem sgn_le {v : Int} (h1 : -2147483648 ≤ v) (h2 : v < 2147483648) : sgn32 (num (le 4 v)) = v := by
  have := num_le 4 v
  unfold sgn32
  split <;> omega

def coordsOf : Nat → List UInt8 → List Int
  | 0, _ => []
  | n + 1, bs => sgn32 (num (bs.take 4)) :: coordsOf n (bs.drop 4)

theorem coordsOf_length : ∀ (n : Nat) (bs : List UInt8), (coordsOf n bs).length = n
  | 0, _ => rfl
  | n + 1, bs => by simp [coordsOf, coordsOf_length n]

def vecT (l : List Int) : List UInt8 := l.flatMap (le 4)

theorem vecT_length : ∀ (l : List Int), (vecT l).length = 4 * l.length
  | [] => rfl
  | x :: l => by
    have := vecT_length l
    simp only [vecT, List.flatMap_cons, List.length_append, le_length, List.length_cons] at this ⊢
    omega

theorem vecT_coords : ∀ (n : Nat) (bs : List UInt8), bs.length = 4 * n → vecT (coordsOf n bs) = bs
  | 0, bs, h => by
    have : bs = [] := List.length_eq_zero_iff.mp (by omega)
    subst this; rfl
  | n + 1, bs, h => by
    have h1 := vecT_coords n (bs.drop 4) (by rw [List.length_drop]; omega)
    simp only [vecT, coordsOf, List.flatMap_cons] at h1 ⊢
    rw [h1, le_sgn (by rw [List.length_take]; omega), List.take_append_drop]

theorem coords_vecT : ∀ (l : List Int) (t : List UInt8), (∀ x ∈ l, -2147483648 ≤ x ∧ x < 2147483648) → coordsOf l.length (vecT l ++ t) = l
  | [], t, _ => rfl
  | x :: l, t, h => by
    have h1 := coords_vecT l t (fun y hy => h y (by simp [hy]))
    have h0 := h x (by simp)
    simp only [vecT, List.flatMap_cons, List.length_cons, coordsOf, List.append_assoc] at h1 ⊢
    have hl : (le 4 x).length = 4 := le_length 4 x
    rw [List.take_left' hl, List.drop_left' hl, h1, sgn_le h0.1 h0.2]

/-! ## checks -/
def inC (x : Int) : Bool := decide (-2147483647 ≤ x) && decide (x ≤ 2147483647)
def checkV (l : List Int) (d : Int) : Int := if d < 1 ∨ 64 < d ∨ (l.length : Int) ≠ d then 30 else if l.all inC then 0 else 31
theorem checkV_zero {l : List Int} {d : Int} (h : checkV l d = 0) : 1 ≤ d ∧ d ≤ 64 ∧ (l.length : Int) = d ∧ ∀ x ∈ l, -2147483647 ≤ x ∧ x ≤ 2147483647 := by
  unfold checkV at h
  split at h
  · omega
  · rename_i h1
    split at h
    · rename_i h2
      refine ⟨by omega, by omega, by omega, fun x hx => ?_⟩
      have := List.all_eq_true.mp h2 x hx
      simpa [inC] using this
    · omega

def idOk (n : Int) : Bool := decide (1 ≤ n) && decide (n ≤ 1000000000)
theorem idOk_iff {n : Int} : idOk n = true ↔ 1 ≤ n ∧ n ≤ 1000000000 := by simp [idOk]

def rowsErr (seen : List Int) : List Row → Int → Int
  | [], _ => 0
  | r :: rs, d => if idOk r.1 = false ∨ r.1 ∈ seen then 50 else if checkV r.2 d ≠ 0 then checkV r.2 d else rowsErr (r.1 :: seen) rs d
def checkR (rs : List Row) (d : Int) : Int := if d < 1 ∨ 64 < d then 30 else if 512 < rs.length then 2 else rowsErr [] rs d

theorem rowsErr_zero : ∀ {rs : List Row} {seen : List Int} {d : Int}, rowsErr seen rs d = 0 → ∀ r ∈ rs, idOk r.1 = true ∧ checkV r.2 d = 0
  | [], _, _, _, r, hr => by simp at hr
  | q :: rs, seen, d, h, r, hr => by
    simp only [rowsErr] at h
    split at h
    · omega
    · rename_i h1
      split at h
      · rename_i h2; exact absurd h h2
      · rename_i h2
        rcases List.mem_cons.mp hr with rfl | hr
        · exact ⟨by simpa using (not_or.mp h1).1, by simpa using h2⟩
        · exact rowsErr_zero h r hr
theorem checkR_zero {rs : List Row} {d : Int} (h : checkR rs d = 0) : 1 ≤ d ∧ d ≤ 64 ∧ rs.length ≤ 512 ∧ ∀ r ∈ rs, idOk r.1 = true ∧ checkV r.2 d = 0 := by
  unfold checkR at h
  split at h
  · omega
  · split at h
    · omega
    · exact ⟨by omega, by omega, by omega, rowsErr_zero h⟩

/-! ## changes -/
abbrev Chg := Int × Int × List Int
def mayC (c : Chg) : Int :=
  if c.1 ≠ 1 ∧ c.1 ≠ 2 then 160 else if idOk c.2.1 = false then 50 else if c.1 = 1 then checkV c.2.2 c.2.2.length else if 0 < c.2.2.length then 1 else 0
def textC (c : Chg) : List UInt8 := le 1 c.1 ++ (le 4 c.2.1 ++ (if c.1 = 1 then le 1 c.2.2.length ++ vecT c.2.2 else []))
def putC (c : Chg) : List UInt8 × Int := if mayC c ≠ 0 then ([], mayC c) else (textC c, 0)

def getC0 (s : List UInt8) : Chg :=
  let k : Int := if 5 ≤ s.length then (num (s.take 1) : Nat) else 0
  (k, if 5 ≤ s.length then (num ((s.drop 1).take 4) : Nat) else 0,
    if k = 1 ∧ 6 ≤ s.length ∧ s.length = 6 + 4 * num ((s.drop 5).take 1) then coordsOf (num ((s.drop 5).take 1)) (s.drop 6) else [])
def getC (s : List UInt8) : Chg × Int := if mayC (getC0 s) ≠ 0 ∨ textC (getC0 s) ≠ s then ((0, 0, []), 161) else (getC0 s, 0)

theorem mayC_kind {c : Chg} (h : mayC c = 0) : c.1 = 1 ∨ c.1 = 2 := by
  unfold mayC at h
  split at h
  · omega
  · omega

theorem mayC_id {c : Chg} (h : mayC c = 0) : 1 ≤ c.2.1 ∧ c.2.1 ≤ 1000000000 := by
  unfold mayC at h
  split at h
  · omega
  · split at h
    · omega
    · rename_i h2
      exact idOk_iff.mp (by simpa using h2)

theorem textC_length {c : Chg} : (textC c).length = if c.1 = 1 then 6 + 4 * c.2.2.length else 5 := by
  unfold textC
  split <;> simp [le_length, vecT_length] <;> omega

/-- What is read, where all is there. -/
theorem getC_ok {s : List UInt8} {k : Nat} (h5 : 5 ≤ s.length) (hk : k = num (s.take 1)) (hl : s.length = if k = 1 then 6 + 4 * num ((s.drop 5).take 1) else 5) :
    getC s = let c : Chg := ((k : Int), ((num ((s.drop 1).take 4) : Nat) : Int), if k = 1 then coordsOf (num ((s.drop 5).take 1)) (s.drop 6) else [])
      if mayC c ≠ 0 then ((0, 0, []), 161) else (c, 0) := by
  have htext : ∀ v : List Int, v = (if k = 1 then coordsOf (num ((s.drop 5).take 1)) (s.drop 6) else []) → textC ((k : Int), ((num ((s.drop 1).take 4) : Nat) : Int), v) = s := by
    intro v hv
    have e1 : le 1 (k : Int) = s.take 1 := by
      have := le_num (s.take 1)
      rwa [show (s.take 1).length = 1 by rw [List.length_take]; omega, ← hk] at this
    have e2 : le 4 (num ((s.drop 1).take 4) : Int) = (s.drop 1).take 4 := by
      have := le_num ((s.drop 1).take 4)
      rwa [show ((s.drop 1).take 4).length = 4 by rw [List.length_take, List.length_drop]; omega] at this
    have e12 : s.take 1 ++ ((s.drop 1).take 4 ++ s.drop 5) = s := by
      have : s.drop 5 = (s.drop 1).drop 4 := by rw [List.drop_drop]
      rw [this, List.take_append_drop, List.take_append_drop]
    by_cases h1 : k = 1
    · rw [if_pos h1] at hv hl
      subst hv
      have e3 : le 1 (num ((s.drop 5).take 1) : Int) = (s.drop 5).take 1 := by
        have := le_num ((s.drop 5).take 1)
        rwa [show ((s.drop 5).take 1).length = 1 by rw [List.length_take, List.length_drop]; omega] at this
      have e4 : vecT (coordsOf (num ((s.drop 5).take 1)) (s.drop 6)) = s.drop 6 := vecT_coords _ _ (by rw [List.length_drop]; omega)
      have e5 : s.drop 5 = (s.drop 5).take 1 ++ s.drop 6 := by
        have : s.drop 6 = (s.drop 5).drop 1 := by rw [List.drop_drop]
        rw [this, List.take_append_drop]
      unfold textC
      simp only [coordsOf_length]
      rw [if_pos (by omega), e1, e2, e3, e4, ← e5, e12]
    · rw [if_neg h1] at hv hl
      subst hv
      have e5 : s.drop 5 = [] := List.drop_of_length_le (by omega)
      unfold textC
      simp only
      rw [if_neg (by omega), e1, e2, ← e5, e12]
  have hv : (if ((k : Nat) : Int) = 1 ∧ 6 ≤ s.length ∧ s.length = 6 + 4 * num ((s.drop 5).take 1) then coordsOf (num ((s.drop 5).take 1)) (s.drop 6) else []) = (if k = 1 then coordsOf (num ((s.drop 5).take 1)) (s.drop 6) else []) := by
    by_cases h1 : k = 1
    · rw [if_pos h1] at hl
      rw [if_pos h1, if_pos ⟨by omega, by omega, by omega⟩]
    · rw [if_neg h1, if_neg (fun h => h1 (by omega))]
  have e0 : getC0 s = ((k : Int), ((num ((s.drop 1).take 4) : Nat) : Int), if k = 1 then coordsOf (num ((s.drop 5).take 1)) (s.drop 6) else []) := by
    simp only [getC0, if_pos h5, ← hk, hv]
  simp only [getC, e0]
  by_cases hm : mayC ((k : Int), ((num ((s.drop 1).take 4) : Nat) : Int), if k = 1 then coordsOf (num ((s.drop 5).take 1)) (s.drop 6) else []) ≠ 0
  · rw [if_pos (.inl hm), if_pos hm]
  · rw [if_neg hm, if_neg]
    rintro (h | h)
    · exact hm h
    · exact h (htext _ rfl)

theorem getC_bad {s : List UInt8} (h : ¬ (5 ≤ s.length ∧ s.length = if num (s.take 1) = 1 then 6 + 4 * num ((s.drop 5).take 1) else 5)) : getC s = ((0, 0, []), 161) := by
  unfold getC
  rw [if_pos]
  unfold getC0
  by_cases h5 : 5 ≤ s.length
  · simp only [if_pos h5]
    by_cases h1 : num (s.take 1) = 1
    · rw [if_pos h1] at h
      rw [if_neg (fun hh => h ⟨h5, hh.2.2⟩)]
      left
      simp only [h1, mayC, checkV]
      split
      · omega
      · split
        · omega
        · simp
    · rw [if_neg h1] at h
      rw [if_neg (fun hh => h1 (by omega))]
      right
      intro e
      have := congrArg List.length e
      rw [textC_length, if_neg (by simp only; omega)] at this
      exact h ⟨h5, by omega⟩
  · left
    simp only [if_neg h5]
    unfold mayC
    rw [if_pos (by simp)]
    omega

/-- What is put is got again. -/
theorem getC_textC {c : Chg} (h : mayC c = 0) : getC (textC c) = (c, 0) := by
  obtain ⟨k, i, v⟩ := c
  have hk := mayC_kind h
  have hi := mayC_id h
  simp only at hk hi
  have hlen := textC_length (c := (k, i, v))
  simp only at hlen
  have hk' : num ((textC (k, i, v)).take 1) = k.toNat := by
    have e : (textC (k, i, v)).take 1 = le 1 k := by unfold textC; rw [List.take_left' (le_length 1 k)]
    rw [e]
    have := num_le 1 k
    omega
  have hi' : num (((textC (k, i, v)).drop 1).take 4) = i.toNat := by
    have e : ((textC (k, i, v)).drop 1).take 4 = le 4 i := by unfold textC; rw [List.drop_left' (le_length 1 k), List.take_left' (le_length 4 i)]
    rw [e]
    have := num_le 4 i
    omega
  rcases hk with rfl | rfl
  · rw [if_pos rfl] at hlen
    have hcv : checkV v v.length = 0 := by
      unfold mayC at h
      simp only at h
      rw [if_neg (by omega), if_neg (by simp [idOk_iff.mpr hi]), if_pos trivial] at h
      exact h
    have hv := checkV_zero hcv
    have hd5 : (textC (1, i, v)).drop 5 = le 1 v.length ++ vecT v := by
      unfold textC
      simp only [if_true]
      rw [show (5 : Nat) = 1 + 4 by rfl, ← List.drop_drop, List.drop_left' (le_length 1 1), List.drop_left' (le_length 4 i)]
    have hn : num (((textC (1, i, v)).drop 5).take 1) = v.length := by
      rw [hd5, List.take_left' (le_length 1 _)]
      have := num_le 1 v.length
      omega
    have hd6 : (textC (1, i, v)).drop 6 = vecT v := by
      rw [show (6 : Nat) = 5 + 1 by rfl, ← List.drop_drop, hd5, List.drop_left' (le_length 1 _)]
    rw [getC_ok (k := 1) (by omega) (by rw [hk']; rfl) (by rw [if_pos rfl, hn]; exact hlen)]
    simp only [if_true, hn, hd6, hi']
    have hco : coordsOf v.length (vecT v) = v := by
      have := coords_vecT v [] (fun x hx => by have := hv.2.2.2 x hx; omega)
      rwa [List.append_nil] at this
    have hii : ((i.toNat : Nat) : Int) = i := by omega
    rw [hco, hii]
    simp only [Int.cast_ofNat_Int, h, ne_eq, not_true_eq_false, if_false]
  · rw [if_neg (by omega)] at hlen
    have hv0 : v = [] := by
      unfold mayC at h
      simp only at h
      rw [if_neg (by omega), if_neg (by simp [idOk_iff.mpr hi]), if_neg (by omega)] at h
      split at h
      · omega
      · rename_i h0; exact List.length_eq_zero_iff.mp (by omega)
    subst hv0
    rw [getC_ok (k := 2) (by omega) (by rw [hk']; rfl) (by rw [if_neg (by omega)]; exact hlen)]
    simp only [hi', show ¬ (2 = 1) by omega, if_false]
    have hii : ((i.toNat : Nat) : Int) = i := by omega
    rw [hii]
    simp only [Int.cast_ofNat_Int, h, ne_eq, not_true_eq_false, if_false]

theorem getC_length {c : Chg} {s : List UInt8} (h : getC s = (c, 0)) : textC c = s ∧ mayC c = 0 := by
  unfold getC at h
  split at h
  · simp only [Prod.mk.injEq] at h; omega
  · rename_i hn
    simp only [Prod.mk.injEq, and_true] at h
    subst h
    simp only [not_or, ne_eq, Decidable.not_not] at hn
    exact ⟨hn.2, hn.1⟩

theorem getC_err {s : List UInt8} (h : (getC s).2 ≠ 0) : getC s = ((0, 0, []), 161) := by
  unfold getC at h ⊢
  split
  · rfl
  · rename_i hn; rw [if_neg hn] at h; exact absurd rfl h

end Go.Th.Pure
end

section
/- Codec, plainly: rows as texts; texts that are one byte longer or shorter. -/
set_option linter.unusedSimpArgs false
set_option linter.unusedVariables false
namespace Go.Th.Pure
open Go Go.Th

def risingB : List Row → Bool
  | [] => true
  | [_] => true
  | a :: b :: r => decide (a.1 < b.1) && risingB (b :: r)

theorem risingB_iff : ∀ {rs : List Row}, risingB rs = true ↔ ∀ i (h : i + 1 < rs.length), rs[i].1 < rs[i + 1].1
  | [] => by simp [risingB]
  | [_] => by simp [risingB]
  | a :: b :: r => by
    simp only [risingB, Bool.and_eq_true, decide_eq_true_eq, risingB_iff (rs := b :: r)]
    constructor
    · rintro ⟨h1, h2⟩ i hi
      cases i with
      | zero => exact h1
      | succ i => exact h2 i (by simpa using hi)
    · intro h
      exact ⟨h 0 (by simp), fun i hi => h (i + 1) (by simpa using hi)⟩

def rowT (r : Row) : List UInt8 := le 4 r.1 ++ vecT r.2
def textR (d : Int) (rs : List Row) : List UInt8 := le 1 d ++ (le 2 rs.length ++ rs.flatMap rowT)
def dimR : List Row → Int
  | [] => 0
  | r :: _ => r.2.length
def errR (rs : List Row) : Int := if rs ≠ [] ∧ checkR rs (dimR rs) ≠ 0 then checkR rs (dimR rs) else if risingB rs = false then 50 else 0
def putR (rs : List Row) : List UInt8 × Int := if errR rs ≠ 0 then ([], errR rs) else (textR (dimR rs) rs, 0)

def rowsOf : Nat → Nat → List UInt8 → List Row
  | 0, _, _ => []
  | n + 1, d, bs => (((num (bs.take 4) : Nat) : Int), coordsOf d (bs.drop 4)) :: rowsOf n d (bs.drop (4 + 4 * d))

theorem rowsOf_length : ∀ (n d : Nat) (bs : List UInt8), (rowsOf n d bs).length = n
  | 0, _, _ => rfl
  | n + 1, d, bs => by simp [rowsOf, rowsOf_length n]
theorem rowsOf_dim : ∀ (n d : Nat) (bs : List UInt8), ∀ r ∈ rowsOf n d bs, r.2.length = d
  | 0, _, _, r, h => by simp [rowsOf] at h
  | n + 1, d, bs, r, h => by
    simp only [rowsOf, List.mem_cons] at h
    rcases h with rfl | h
    · exact coordsOf_length _ _
    · exact rowsOf_dim n d _ r h

theorem coordsOf_take : ∀ (n : Nat) (bs : List UInt8), coordsOf n bs = coordsOf n (bs.take (4 * n))
  | 0, _ => rfl
  | n + 1, bs => by
    simp only [coordsOf]
    rw [List.take_take, Nat.min_eq_left (by omega), coordsOf_take n (bs.drop 4), List.drop_take]
    congr 3

theorem rowsT : ∀ (n d : Nat) (bs : List UInt8), bs.length = n * (4 + 4 * d) → (rowsOf n d bs).flatMap rowT = bs
  | 0, d, bs, h => by
    have : bs = [] := List.length_eq_zero_iff.mp (by omega)
    subst this; rfl
  | n + 1, d, bs, h => by
    have h0 : 4 + 4 * d ≤ bs.length := by rw [h, Nat.add_mul]; omega
    have h1 := rowsT n d (bs.drop (4 + 4 * d)) (by rw [List.length_drop, h, Nat.add_mul]; omega)
    simp only [rowsOf, List.flatMap_cons, h1, rowT]
    have e1 : le 4 (num (bs.take 4) : Int) = bs.take 4 := by
      have := le_num (bs.take 4)
      rwa [show (bs.take 4).length = 4 by rw [List.length_take]; omega] at this
    have e2 : vecT (coordsOf d (bs.drop 4)) = (bs.drop 4).take (4 * d) := by
      rw [coordsOf_take]
      exact vecT_coords _ _ (by rw [List.length_take, List.length_drop]; omega)
    rw [e1, e2, ← List.drop_drop, List.append_assoc, List.take_append_drop, List.take_append_drop]

theorem rowsOf_text : ∀ (rs : List Row) (d : Nat), (∀ r ∈ rs, idOk r.1 = true ∧ r.2.length = d ∧ ∀ x ∈ r.2, -2147483648 ≤ x ∧ x < 2147483648) → rowsOf rs.length d (rs.flatMap rowT) = rs
  | [], _, _ => rfl
  | r :: rs, d, h => by
    obtain ⟨h1, h2, h3⟩ := h r (by simp)
    have hi := idOk_iff.mp h1
    have ih := rowsOf_text rs d (fun q hq => h q (by simp [hq]))
    have hl : (rowT r).length = 4 + 4 * d := by simp only [rowT, List.length_append, le_length, vecT_length, h2]
    simp only [List.length_cons, rowsOf, List.flatMap_cons]
    rw [List.drop_left' hl, ih]
    have e1 : (rowT r ++ rs.flatMap rowT).take 4 = le 4 r.1 := by
      rw [rowT, List.append_assoc, List.take_left' (le_length 4 _)]
    have e2 : (rowT r ++ rs.flatMap rowT).drop 4 = vecT r.2 ++ rs.flatMap rowT := by
      rw [rowT, List.append_assoc, List.drop_left' (le_length 4 _)]
    have e3 : ((num (le 4 r.1) : Nat) : Int) = r.1 := by
      have := num_le 4 r.1
      omega
    rw [e1, e2, e3, ← h2, coords_vecT _ _ h3]

def dimS (s : List UInt8) : Nat := num (s.take 1)
def manyS (s : List UInt8) : Nat := num ((s.drop 1).take 2)
def getR (s : List UInt8) : List Row × Int :=
  if s.length < 3 ∨ s.length ≠ 3 + manyS s * (4 + 4 * dimS s) ∨ 512 < manyS s ∨ (manyS s = 0 ∧ 0 < dimS s) then ([], 161)
  else if errR (rowsOf (manyS s) (dimS s) (s.drop 3)) ≠ 0 then ([], 161) else (rowsOf (manyS s) (dimS s) (s.drop 3), 0)

theorem textR_rows {s : List UInt8} (h3 : 3 ≤ s.length) (hl : s.length = 3 + manyS s * (4 + 4 * dimS s)) : textR (dimS s) (rowsOf (manyS s) (dimS s) (s.drop 3)) = s := by
  unfold textR
  rw [rowsOf_length, rowsT _ _ _ (by rw [List.length_drop]; omega)]
  have e1 : le 1 (dimS s : Int) = s.take 1 := by
    have := le_num (s.take 1)
    rwa [show (s.take 1).length = 1 by rw [List.length_take]; omega] at this
  have e2 : le 2 (manyS s : Int) = (s.drop 1).take 2 := by
    have := le_num ((s.drop 1).take 2)
    rwa [show ((s.drop 1).take 2).length = 2 by rw [List.length_take, List.length_drop]; omega] at this
  have e3 : s.drop 3 = (s.drop 1).drop 2 := by rw [List.drop_drop]
  rw [e1, e2, e3, List.take_append_drop, List.take_append_drop]

theorem dimR_rowsOf {m d : Nat} {bs : List UInt8} (h : 0 < m) : dimR (rowsOf m d bs) = d := by
  obtain ⟨n, rfl⟩ : ∃ n, m = n + 1 := ⟨m - 1, by omega⟩
  simp [rowsOf, dimR, coordsOf_length]

/-- The document's way to the same. -/
theorem getR_ref {s : List UInt8} (h3 : 3 ≤ s.length) (hl : s.length = 3 + manyS s * (4 + 4 * dimS s)) (hm : manyS s ≤ 512) :
    getR s = if errR (rowsOf (manyS s) (dimS s) (s.drop 3)) ≠ 0 ∨ textR (dimR (rowsOf (manyS s) (dimS s) (s.drop 3))) (rowsOf (manyS s) (dimS s) (s.drop 3)) ≠ s then ([], 161) else (rowsOf (manyS s) (dimS s) (s.drop 3), 0) := by
  have ht := textR_rows h3 hl
  unfold getR
  by_cases h0 : manyS s = 0 ∧ 0 < dimS s
  · rw [if_pos (.inr (.inr (.inr h0))), if_pos]
    right
    intro e
    rw [h0.1] at e
    have e1 := congrArg (fun l => num (l.take 1)) e
    simp only [textR, rowsOf, dimR, List.take_left' (le_length 1 0)] at e1
    have := num_le 1 0
    have : num (s.take 1) = 0 := by omega
    have := h0.2
    unfold dimS at this
    omega
  · rw [if_neg (by rintro (h | h | h | h); omega; exact h hl; omega; exact h0 h)]
    have e : textR (dimR (rowsOf (manyS s) (dimS s) (s.drop 3))) (rowsOf (manyS s) (dimS s) (s.drop 3)) = s := by
      by_cases hm0 : manyS s = 0
      · have hd : dimS s = 0 := by omega
        rw [hd] at ht
        rw [hm0] at ht ⊢
        rw [hd]
        exact ht
      · rw [dimR_rowsOf (by omega)]
        exact ht
    by_cases he : errR (rowsOf (manyS s) (dimS s) (s.drop 3)) ≠ 0
    · rw [if_pos he, if_pos (.inl he)]
    · rw [if_neg he, if_neg (by rintro (h | h); exact he h; exact h e)]

theorem getR_bad {s : List UInt8} (h : ¬ (3 ≤ s.length ∧ s.length = 3 + manyS s * (4 + 4 * dimS s))) : getR s = ([], 161) := by
  unfold getR
  rw [if_pos]
  by_cases h3 : s.length < 3
  · exact .inl h3
  · exact .inr (.inl fun e => h ⟨by omega, e⟩)

theorem errR_zero {rs : List Row} (h : errR rs = 0) : risingB rs = true ∧ ∀ r ∈ rs, idOk r.1 = true ∧ (r.2.length : Int) = dimR rs ∧ (1 ≤ dimR rs ∧ dimR rs ≤ 64 ∧ rs.length ≤ 512) ∧ ∀ x ∈ r.2, -2147483647 ≤ x ∧ x ≤ 2147483647 := by
  unfold errR at h
  split at h
  · rename_i h1; exact absurd h h1.2
  · rename_i h1
    split at h
    · omega
    · rename_i h2
      refine ⟨by simpa using h2, fun r hr => ?_⟩
      have hne : rs ≠ [] := fun e => by rw [e] at hr; simp at hr
      have hc : checkR rs (dimR rs) = 0 := by
        by_cases hc : checkR rs (dimR rs) = 0
        · exact hc
        · exact absurd ⟨hne, hc⟩ h1
      obtain ⟨c1, c2, c3, c4⟩ := checkR_zero hc
      obtain ⟨d1, d2⟩ := c4 r hr
      obtain ⟨e1, e2, e3, e4⟩ := checkV_zero d2
      exact ⟨d1, e3, ⟨c1, c2, c3⟩, e4⟩

theorem textR_head {d : Int} {rs : List Row} {t : List UInt8} (hd : 0 ≤ d ∧ d ≤ 255) (hl : rs.length ≤ 65535) : dimS (textR d rs ++ t) = d.toNat ∧ manyS (textR d rs ++ t) = rs.length := by
  have e1 : (textR d rs ++ t).take 1 = le 1 d := by rw [textR, List.append_assoc, List.take_left' (le_length 1 d)]
  have e2 : ((textR d rs ++ t).drop 1).take 2 = le 2 rs.length := by rw [textR, List.append_assoc, List.drop_left' (le_length 1 d), List.append_assoc, List.take_left' (le_length 2 _)]
  unfold dimS manyS
  rw [e1, e2]
  have := num_le 1 d
  have := num_le 2 rs.length
  omega

theorem flatMap_len {rs : List Row} {d : Nat} (h : ∀ r ∈ rs, r.2.length = d) : (rs.flatMap rowT).length = rs.length * (4 + 4 * d) := by
  induction rs with
  | nil => simp
  | cons r rs ih =>
    rw [List.flatMap_cons, List.length_append, ih (fun q hq => h q (by simp [hq])), List.length_cons, Nat.add_mul, Nat.one_mul]
    have : (rowT r).length = 4 + 4 * d := by simp only [rowT, List.length_append, le_length, vecT_length, h r (by simp)]
    omega

theorem errR_dim {rs : List Row} (h : errR rs = 0) : 0 ≤ dimR rs ∧ dimR rs ≤ 64 ∧ rs.length ≤ 512 ∧ ∀ r ∈ rs, r.2.length = (dimR rs).toNat := by
  have hz := errR_zero h
  cases rs with
  | nil => exact ⟨by simp [dimR], by simp [dimR], by simp, by simp⟩
  | cons r rs =>
    have h0 := hz.2 r (by simp)
    refine ⟨by omega, by omega, by omega, fun q hq => ?_⟩
    have := hz.2 q hq
    omega

theorem textR_length {rs : List Row} (h : errR rs = 0) : (textR (dimR rs) rs).length = 3 + rs.length * (4 + 4 * (dimR rs).toNat) := by
  have := errR_dim h
  rw [textR, List.length_append, List.length_append, le_length, le_length, flatMap_len this.2.2.2]
  omega

/-- What is put is got again. -/
theorem getR_textR {rs : List Row} (h : errR rs = 0) : getR (textR (dimR rs) rs) = (rs, 0) := by
  have hd := errR_dim h
  have hz := errR_zero h
  have hl := textR_length h
  have hh := textR_head (d := dimR rs) (rs := rs) (t := []) ⟨hd.1, by omega⟩ (by omega)
  rw [List.append_nil] at hh
  have e3 : (textR (dimR rs) rs).drop 3 = rs.flatMap rowT := by
    rw [textR, show (3 : Nat) = 1 + 2 by rfl, ← List.drop_drop, List.drop_left' (le_length 1 _), List.drop_left' (le_length 2 _)]
  have hr : rowsOf rs.length (dimR rs).toNat (rs.flatMap rowT) = rs := rowsOf_text rs _ fun r hr => by
    have h1 := hz.2 r hr
    exact ⟨h1.1, hd.2.2.2 r hr, fun x hx => by have := h1.2.2.2 x hx; omega⟩
  unfold getR
  rw [hh.1, hh.2, e3, hr, if_neg, if_neg (by simp [h])]
  rintro (h1 | h1 | h1 | h1)
  · omega
  · exact h1 hl
  · omega
  · have : rs = [] := List.length_eq_zero_iff.mp h1.1
    subst this
    simp [dimR] at h1

theorem getR_back {rs : List Row} {s : List UInt8} (h : getR s = (rs, 0)) : errR rs = 0 ∧ textR (dimR rs) rs = s := by
  by_cases hb : 3 ≤ s.length ∧ s.length = 3 + manyS s * (4 + 4 * dimS s)
  · by_cases hm : manyS s ≤ 512
    · rw [getR_ref hb.1 hb.2 hm] at h
      split at h
      · simp only [Prod.mk.injEq] at h; omega
      · rename_i hn
        simp only [Prod.mk.injEq, and_true] at h
        subst h
        simp only [not_or, ne_eq, Decidable.not_not] at hn
        exact hn
    · unfold getR at h
      rw [if_pos (.inr (.inr (.inl (by omega))))] at h
      simp only [Prod.mk.injEq] at h; omega
  · rw [getR_bad hb] at h
    simp only [Prod.mk.injEq] at h; omega

/-! ## a byte more, a byte less -/
theorem getR_more {rs : List Row} (h : errR rs = 0) (x : UInt8) : getR (textR (dimR rs) rs ++ [x]) = ([], 161) := by
  have hd := errR_dim h
  have hh := textR_head (d := dimR rs) (rs := rs) (t := [x]) ⟨hd.1, by omega⟩ (by omega)
  apply getR_bad
  rw [hh.1, hh.2, List.length_append, textR_length h]
  simp

theorem take_take_ {α : Type} {s : List α} {a b : Nat} (h : a ≤ b) : (s.take b).take a = s.take a := by rw [List.take_take, Nat.min_eq_left h]

theorem getR_less {rs : List Row} (h : errR rs = 0) : getR ((textR (dimR rs) rs).take ((textR (dimR rs) rs).length - 1)) = ([], 161) := by
  have hd := errR_dim h
  have hl := textR_length h
  have hh := textR_head (d := dimR rs) (rs := rs) (t := []) ⟨hd.1, by omega⟩ (by omega)
  rw [List.append_nil] at hh
  apply getR_bad
  rintro ⟨h1, h2⟩
  rw [List.length_take] at h1 h2
  have e1 : dimS ((textR (dimR rs) rs).take ((textR (dimR rs) rs).length - 1)) = dimS (textR (dimR rs) rs) := by
    unfold dimS; rw [take_take_ (by omega)]
  have e2 : manyS ((textR (dimR rs) rs).take ((textR (dimR rs) rs).length - 1)) = manyS (textR (dimR rs) rs) := by
    unfold manyS; rw [List.drop_take, take_take_ (by omega)]
  rw [e1, e2, hh.1, hh.2] at h2
  omega

theorem textC_head {c : Chg} {t : List UInt8} (h : mayC c = 0) : num ((textC c ++ t).take 1) = c.1.toNat ∧ (c.1 = 1 → num (((textC c ++ t).drop 5).take 1) = c.2.2.length) := by
  have hk := mayC_kind h
  constructor
  · have e : (textC c ++ t).take 1 = le 1 c.1 := by unfold textC; rw [List.append_assoc, List.take_left' (le_length 1 _)]
    rw [e]
    have := num_le 1 c.1
    omega
  · intro h1
    have hcv : checkV c.2.2 c.2.2.length = 0 := by
      have hi := mayC_id h
      unfold mayC at h
      rw [if_neg (by omega), if_neg (by simp [idOk_iff.mpr hi]), if_pos h1] at h
      exact h
    have hv := checkV_zero hcv
    have e : ((textC c ++ t).drop 5).take 1 = le 1 c.2.2.length := by
      unfold textC
      rw [if_pos h1, show (5 : Nat) = 1 + 4 by rfl, ← List.drop_drop, List.append_assoc, List.drop_left' (le_length 1 _), List.append_assoc, List.drop_left' (le_length 4 _), List.append_assoc, List.take_left' (le_length 1 _)]
    rw [e]
    have := num_le 1 c.2.2.length
    omega

theorem getC_more {c : Chg} (h : mayC c = 0) (x : UInt8) : getC (textC c ++ [x]) = ((0, 0, []), 161) := by
  have hh := textC_head (t := [x]) h
  have hk := mayC_kind h
  apply getC_bad
  rintro ⟨_, h2⟩
  rw [hh.1, List.length_append, textC_length] at h2
  rcases hk with hk | hk
  · rw [if_pos hk, if_pos (by omega), hh.2 hk] at h2
    simp at h2
  · rw [if_neg (by omega), if_neg (by omega)] at h2
    simp at h2

theorem getC_less {c : Chg} (h : mayC c = 0) : getC ((textC c).take ((textC c).length - 1)) = ((0, 0, []), 161) := by
  have hh := textC_head (t := []) h
  rw [List.append_nil] at hh
  have hk := mayC_kind h
  have hl := textC_length (c := c)
  apply getC_bad
  rintro ⟨h1, h2⟩
  rw [List.length_take] at h1 h2
  rw [take_take_ (by omega), hh.1] at h2
  rcases hk with hk | hk
  · rw [if_pos hk] at hl
    rw [if_pos (by omega), List.drop_take, take_take_ (by omega), hh.2 hk] at h2
    omega
  · rw [if_neg (by omega)] at hl
    omega

end Go.Th.Pure
end
