/- Codec, plainly: rows as texts; texts that are one byte longer or shorter. -/
import Derived.Test.YthimmjgpiadmbaaThPcodec
set_option linter.unusedSimpArgs false
set_option linter.unusedVariables false
namespace Go.Th.Pure
open Go Go.Th

def risingB : List Row → Bool
  | [] => true
  | [_] => true
  | a :: b :: r => decide (a.1 < b.1) && risingB (b :: r)

theorem risingB_iff : ∀ {rs : List Row}, risingB rs = true ↔ ∀ i (h : i + 1 < rs.length), rs[i].1 < rs[i + 1].1
  | [] => by simp [risingB]
  | [_] => by simp [risingB]
  | a :: b :: r => by
    simp only [risingB, Bool.and_eq_true, decide_eq_true_eq, risingB_iff (rs := b :: r)]
    constructor
    · rintro ⟨h1, h2⟩ i hi
      cases i with
      | zero => exact h1
      | succ i => exact h2 i (by simpa using hi)
    · intro h
      exact ⟨h 0 (by simp), fun i hi => h (i + 1) (by simpa using hi)⟩

def rowT (r : Row) : List UInt8 := le 4 r.1 ++ vecT r.2
def textR (d : Int) (rs : List Row) : List UInt8 := le 1 d ++ (le 2 rs.length ++ rs.flatMap rowT)
def dimR : List Row → Int
  | [] => 0
  | r :: _ => r.2.length
def errR (rs : List Row) : Int := if rs ≠ [] ∧ checkR rs (dimR rs) ≠ 0 then checkR rs (dimR rs) else if risingB rs = false then 50 else 0
def putR (rs : List Row) : List UInt8 × Int := if errR rs ≠ 0 then ([], errR rs) else (textR (dimR rs) rs, 0)

def rowsOf : Nat → Nat → List UInt8 → List Row
  | 0, _, _ => []
  | n + 1, d, bs => (((num (bs.take 4) : Nat) : Int), coordsOf d (bs.drop 4)) :: rowsOf n d (bs.drop (4 + 4 * d))

theorem rowsOf_length : ∀ (n d : Nat) (bs : List UInt8), (rowsOf n d bs).length = n
  | 0, _, _ => rfl
  | n + 1, d, bs => by simp [rowsOf, rowsOf_length n]
theorem rowsOf_dim : ∀ (n d : Nat) (bs : List UInt8), ∀ r ∈ rowsOf n d bs, r.2.length = d
  | 0, _, _, r, h => by simp [rowsOf] at h
  | n + 1, d, bs, r, h => by
    simp only [rowsOf, List.mem_cons] at h
    rcases h with rfl | h
    · exact coordsOf_length _ _
    · exact rowsOf_dim n d _ r h

theorem coordsOf_take : ∀ (n : Nat) (bs : List UInt8), coordsOf n bs = coordsOf n (bs.take (4 * n))
  | 0, _ => rfl
  | n + 1, bs => by
    simp only [coordsOf]
    rw [List.take_take, Nat.min_eq_left (by omega), coordsOf_take n (bs.drop 4), List.drop_take]
    congr 3

theorem rowsT : ∀ (n d : Nat) (bs : List UInt8), bs.length = n * (4 + 4 * d) → (rowsOf n d bs).flatMap rowT = bs
  | 0, d, bs, h => by
    have : bs = [] := List.length_eq_zero_iff.mp (by omega)
    subst this; rfl
  | n + 1, d, bs, h => by
    have h0 : 4 + 4 * d ≤ bs.length := by rw [h, Nat.add_mul]; omega
    have h1 := rowsT n d (bs.drop (4 + 4 * d)) (by rw [List.length_drop, h, Nat.add_mul]; omega)
    simp only [rowsOf, List.flatMap_cons, h1, rowT]
    have e1 : le 4 (num (bs.take 4) : Int) = bs.take 4 := by
      have := le_num (bs.take 4)
      rwa [show (bs.take 4).length = 4 by rw [List.length_take]; omega] at this
    have e2 : vecT (coordsOf d (bs.drop 4)) = (bs.drop 4).take (4 * d) := by
      rw [coordsOf_take]
      exact vecT_coords _ _ (by rw [List.length_take, List.length_drop]; omega)
    rw [e1, e2, ← List.drop_drop, List.append_assoc, List.take_append_drop, List.take_append_drop]

theorem rowsOf_text : ∀ (rs : List Row) (d : Nat), (∀ r ∈ rs, idOk r.1 = true ∧ r.2.length = d ∧ ∀ x ∈ r.2, -2147483648 ≤ x ∧ x < 2147483648) → rowsOf rs.length d (rs.flatMap rowT) = rs
  | [], _, _ => rfl
  | r :: rs, d, h => by
    obtain ⟨h1, h2, h3⟩ := h r (by simp)
    have hi := idOk_iff.mp h1
    have ih := rowsOf_text rs d (fun q hq => h q (by simp [hq]))
    have hl : (rowT r).length = 4 + 4 * d := by simp only [rowT, List.length_append, le_length, vecT_length, h2]
    simp only [List.length_cons, rowsOf, List.flatMap_cons]
    rw [List.drop_left' hl, ih]
    have e1 : (rowT r ++ rs.flatMap rowT).take 4 = le 4 r.1 := by
      rw [rowT, List.append_assoc, List.take_left' (le_length 4 _)]
    have e2 : (rowT r ++ rs.flatMap rowT).drop 4 = vecT r.2 ++ rs.flatMap rowT := by
      rw [rowT, List.append_assoc, List.drop_left' (le_length 4 _)]
    have e3 : ((num (le 4 r.1) : Nat) : Int) = r.1 := by
      have := num_le 4 r.1
      omega
    rw [e1, e2, e3, ← h2, coords_vecT _ _ h3]

def dimS (s : List UInt8) : Nat := num (s.take 1)
def manyS (s : List UInt8) : Nat := num ((s.drop 1).take 2)
def getR (s : List UInt8) : List Row × Int :=
  if s.length < 3 ∨ s.length ≠ 3 + manyS s * (4 + 4 * dimS s) ∨ 512 < manyS s ∨ (manyS s = 0 ∧ 0 < dimS s) then ([], 161)
  else if errR (rowsOf (manyS s) (dimS s) (s.drop 3)) ≠ 0 then ([], 161) else (rowsOf (manyS s) (dimS s) (s.drop 3), 0)

theorem textR_rows {s : List UInt8} (h3 : 3 ≤ s.length) (hl : s.length = 3 + manyS s * (4 + 4 * dimS s)) : textR (dimS s) (rowsOf (manyS s) (dimS s) (s.drop 3)) = s := by
  unfold textR
  rw [rowsOf_length, rowsT _ _ _ (by rw [List.length_drop]; omega)]
  have e1 : le 1 (dimS s : Int) = s.take 1 := by
    have := le_num (s.take 1)
    rwa [show (s.take 1).length = 1 by rw [List.length_take]; omega] at this
  have e2 : le 2 (manyS s : Int) = (s.drop 1).take 2 := by
    have := le_num ((s.drop 1).take 2)
    rwa [show ((s.drop 1).take 2).length = 2 by rw [List.length_take, List.length_drop]; omega] at this
  have e3 : s.drop 3 = (s.drop 1).drop 2 := by rw [List.drop_drop]
  rw [e1, e2, e3, List.take_append_drop, List.take_append_drop]

theorem dimR_rowsOf {m d : Nat} {bs : List UInt8} (h : 0 < m) : dimR (rowsOf m d bs) = d := by
  obtain ⟨n, rfl⟩ : ∃ n, m = n + 1 := ⟨m - 1, by omega⟩
  simp [rowsOf, dimR, coordsOf_length]

/-- The document's way to the same. -/
theorem getR_ref {s : List UInt8} (h3 : 3 ≤ s.length) (hl : s.length = 3 + manyS s * (4 + 4 * dimS s)) (hm : manyS s ≤ 512) :
    getR s = if errR (rowsOf (manyS s) (dimS s) (s.drop 3)) ≠ 0 ∨ textR (dimR (rowsOf (manyS s) (dimS s) (s.drop 3))) (rowsOf (manyS s) (dimS s) (s.drop 3)) ≠ s then ([], 161) else (rowsOf (manyS s) (dimS s) (s.drop 3), 0) := by
  have ht := textR_rows h3 hl
  unfold getR
  by_cases h0 : manyS s = 0 ∧ 0 < dimS s
  · rw [if_pos (.inr (.inr (.inr h0))), if_pos]
    right
    intro e
    rw [h0.1] at e
    have e1 := congrArg (fun l => num (l.take 1)) e
    simp only [textR, rowsOf, dimR, List.take_left' (le_length 1 0)] at e1
    have := num_le 1 0
    have : num (s.take 1) = 0 := by omega
    have := h0.2
    unfold dimS at this
    omega
  · rw [if_neg (by rintro (h | h | h | h); omega; exact h hl; omega; exact h0 h)]
    have e : textR (dimR (rowsOf (manyS s) (dimS s) (s.drop 3))) (rowsOf (manyS s) (dimS s) (s.drop 3)) = s := by
      by_cases hm0 : manyS s = 0
      · have hd : dimS s = 0 := by omega
        rw [hd] at ht
        rw [hm0] at ht ⊢
        rw [hd]
        exact ht
      · rw [dimR_rowsOf (by omega)]
        exact ht
    by_cases he : errR (rowsOf (manyS s) (dimS s) (s.drop 3)) ≠ 0
    · rw [if_pos he, if_pos (.inl he)]
    · rw [if_neg he, if_neg (by rintro (h | h); exact he h; exact h e)]

theorem getR_bad {s : List UInt8} (h : ¬ (3 ≤ s.length ∧ s.length = 3 + manyS s * (4 + 4 * dimS s))) : getR s = ([], 161) := by
  unfold getR
  rw [if_pos]
  by_cases h3 : s.length < 3
  · exact .inl h3
  · exact .inr (.inl fun e => h ⟨by omega, e⟩)

theorem errR_zero {rs : List Row} (h : errR rs = 0) : risingB rs = true ∧ ∀ r ∈ rs, idOk r.1 = true ∧ (r.2.length : Int) = dimR rs ∧ (1 ≤ dimR rs ∧ dimR rs ≤ 64 ∧ rs.length ≤ 512) ∧ ∀ x ∈ r.2, -2147483647 ≤ x ∧ x ≤ 2147483647 := by
  unfold errR at h
  split at h
  · rename_i h1; exact absurd h h1.2
  · rename_i h1
    split at h
    · omega
    · rename_i h2
      refine ⟨by simpa using h2, fun r hr => ?_⟩
      have hne : rs ≠ [] := fun e => by rw [e] at hr; simp at hr
      have hc : checkR rs (dimR rs) = 0 := by
        by_cases hc : checkR rs (dimR rs) = 0
        · exact hc
        · exact absurd ⟨hne, hc⟩ h1
      obtain ⟨c1, c2, c3, c4⟩ := checkR_zero hc
      obtain ⟨d1, d2⟩ := c4 r hr
      obtain ⟨e1, e2, e3, e4⟩ := checkV_zero d2
      exact ⟨d1, e3, ⟨c1, c2, c3⟩, e4⟩

theorem textR_head {d : Int} {rs : List Row} {t : List UInt8} (hd : 0 ≤ d ∧ d ≤ 255) (hl : rs.length ≤ 65535) : dimS (textR d rs ++ t) = d.toNat ∧ manyS (textR d rs ++ t) = rs.length := by
  have e1 : (textR d rs ++ t).take 1 = le 1 d := by rw [textR, List.append_assoc, List.take_left' (le_length 1 d)]
  have e2 : ((textR d rs ++ t).drop 1).take 2 = le 2 rs.length := by rw [textR, List.append_assoc, List.drop_left' (le_length 1 d), List.append_assoc, List.take_left' (le_length 2 _)]
  unfold dimS manyS
  rw [e1, e2]
  have := num_le 1 d
  have := num_le 2 rs.length
  omega

theorem flatMap_len {rs : List Row} {d : Nat} (h : ∀ r ∈ rs, r.2.length = d) : (rs.flatMap rowT).length = rs.length * (4 + 4 * d) := by
  induction rs with
  | nil => simp
  | cons r rs ih =>
    rw [List.flatMap_cons, List.length_append, ih (fun q hq => h q (by simp [hq])), List.length_cons, Nat.add_mul, Nat.one_mul]
    have : (rowT r).length = 4 + 4 * d := by simp only [rowT, List.length_append, le_length, vecT_length, h r (by simp)]
    omega

theorem errR_dim {rs : List Row} (h : errR rs = 0) : 0 ≤ dimR rs ∧ dimR rs ≤ 64 ∧ rs.length ≤ 512 ∧ ∀ r ∈ rs, r.2.length = (dimR rs).toNat := by
  have hz := errR_zero h
  cases rs with
  | nil => exact ⟨by simp [dimR], by simp [dimR], by simp, by simp⟩
  | cons r rs =>
    have h0 := hz.2 r (by simp)
    refine ⟨by omega, by omega, by omega, fun q hq => ?_⟩
    have := hz.2 q hq
    omega

theorem textR_length {rs : List Row} (h : errR rs = 0) : (textR (dimR rs) rs).length = 3 + rs.length * (4 + 4 * (dimR rs).toNat) := by
  have := errR_dim h
  rw [textR, List.length_append, List.length_append, le_length, le_length, flatMap_len this.2.2.2]
  omega

/-- What is put is got again. -/
theorem getR_textR {rs : List Row} (h : errR rs = 0) : getR (textR (dimR rs) rs) = (rs, 0) := by
  have hd := errR_dim h
  have hz := errR_zero h
  have hl := textR_length h
  have hh := textR_head (d := dimR rs) (rs := rs) (t := []) ⟨hd.1, by omega⟩ (by omega)
  rw [List.append_nil] at hh
  have e3 : (textR (dimR rs) rs).drop 3 = rs.flatMap rowT := by
    rw [textR, show (3 : Nat) = 1 + 2 by rfl, ← List.drop_drop, List.drop_left' (le_length 1 _), List.drop_left' (le_length 2 _)]
  have hr : rowsOf rs.length (dimR rs).toNat (rs.flatMap rowT) = rs := rowsOf_text rs _ fun r hr => by
    have h1 := hz.2 r hr
    exact ⟨h1.1, hd.2.2.2 r hr, fun x hx => by have := h1.2.2.2 x hx; omega⟩
  unfold getR
  rw [hh.1, hh.2, e3, hr, if_neg, if_neg (by simp [h])]
  rintro (h1 | h1 | h1 | h1)
  · omega
  · exact h1 hl
  · omega
  · have : rs = [] := List.length_eq_zero_iff.mp h1.1
    subst this
    simp [dimR] at h1

theorem getR_back {rs : List Row} {s : List UInt8} (h : getR s = (rs, 0)) : errR rs = 0 ∧ textR (dimR rs) rs = s := by
  by_cases hb : 3 ≤ s.length ∧ s.length = 3 + manyS s * (4 + 4 * dimS s)
  · by_cases hm : manyS s ≤ 512
    · rw [getR_ref hb.1 hb.2 hm] at h
      split at h
      · simp only [Prod.mk.injEq] at h; omega
      · rename_i hn
        simp only [Prod.mk.injEq, and_true] at h
        subst h
        simp only [not_or, ne_eq, Decidable.not_not] at hn
        exact hn
    · unfold getR at h
      rw [if_pos (.inr (.inr (.inl (by omega))))] at h
      simp only [Prod.mk.injEq] at h; omega
  · rw [getR_bad hb] at h
    simp only [Prod.mk.injEq] at h; omega

/-! ## a byte more, a byte less -/
theorem getR_more {rs : List Row} (h : errR rs = 0) (x : UInt8) : getR (textR (dimR rs) rs ++ [x]) = ([], 161) := by
  have hd := errR_dim h
  have hh := textR_head (d := dimR rs) (rs := rs) (t := [x]) ⟨hd.1, by omega⟩ (by omega)
  apply getR_bad
  rw [hh.1, hh.2, List.length_append, textR_length h]
  simp

theorem take_take_ {α : Type} {s : List α} {a b : Nat} (h : a ≤ b) : (s.take b).take a = s.take a := by rw [List.take_take, Nat.min_eq_left h]

theorem getR_less {rs : List Row} (h : errR rs = 0) : getR ((textR (dimR rs) rs).take ((textR (dimR rs) rs).length - 1)) = ([], 161) := by
  have hd := errR_dim h
  have hl := textR_length h
  have hh := textR_head (d := dimR rs) (rs := rs) (t := []) ⟨hd.1, by omega⟩ (by omega)
  rw [List.append_nil] at hh
  apply getR_bad
  rintro ⟨h1, h2⟩
  rw [List.length_take] at h1 h2
  have e1 : dimS ((textR (dimR rs) rs).take ((textR (dimR rs) rs).length - 1)) = dimS (textR (dimR rs) rs) := by
    unfold dimS; rw [take_take_ (by omega)]
  have e2 : manyS ((textR (dimR rs) rs).take ((textR (dimR rs) rs).length - 1)) = manyS (textR (dimR rs) rs) := by
    unfold manyS; rw [List.drop_take, take_take_ (by omega)]
  rw [e1, e2, hh.1, hh.2] at h2
  omega

theorem textC_head {c : Chg} {t : List UInt8} (h : mayC c = 0) : num ((textC c ++ t).take 1) = c.1.toNat ∧ (c.1 = 1 → num (((textC c ++ t).drop 5).take 1) = c.2.2.length) := by
  have hk := mayC_kind h
  constructor
  · have e : (textC c ++ t).take 1 = le 1 c.1 := by unfold textC; rw [List.append_assoc, List.take_left' (le_length 1 _)]
    rw [e]
    have := num_le 1 c.1
    omega
  · intro h1
    have hcv : checkV c.2.2 c.2.2.length = 0 := by
      have hi := mayC_id h
      unfold mayC at h
      rw [if_neg (by omega), if_neg (by simp [idOk_iff.mpr hi]), if_pos h1] at h
      exact h
    have hv := checkV_zero hcv
    have e : ((textC c ++ t).drop 5).take 1 = le 1 c.2.2.length := by
      unfold textC
      rw [if_pos h1, show (5 : Nat) = 1 + 4 by rfl, ← List.drop_drop, List.append_assoc, List.drop_left' (le_length 1 _), List.append_assoc, List.drop_left' (le_length 4 _), List.append_assoc, List.take_left' (le_length 1 _)]
    rw [e]
    have := num_le 1 c.2.2.length
    omega

theorem getC_more {c : Chg} (h : mayC c = 0) (x : UInt8) : getC (textC c ++ [x]) = ((0, 0, []), 161) := by
  have hh := textC_head (t := [x]) h
  have hk := mayC_kind h
  apply getC_bad
  rintro ⟨_, h2⟩
  rw [hh.1, List.length_append, textC_length] at h2
  rcases hk with hk | hk
  · rw [if_pos hk, if_pos (by omega), hh.2 hk] at h2
    simp at h2
  · rw [if_neg (by omega), if_neg (by omega)] at h2
    simp at h2

theorem getC_less {c : Chg} (h : mayC c = 0) : getC ((textC c).take ((textC c).length - 1)) = ((0, 0, []), 161) := by
  have hh := textC_head (t := []) h
  rw [List.append_nil] at hh
  have hk := mayC_kind h
  have hl := textC_length (c := c)
  apply getC_bad
  rintro ⟨h1, h2⟩
  rw [List.length_take] at h1 h2
  rw [take_take_ (by omega), hh.1] at h2
  rcases hk with hk | hk
  · rw [if_pos hk] at hl
    rw [if_pos (by omega), List.drop_take, take_take_ (by omega), hh.2 hk] at h2
    omega
  · rw [if_neg (by omega)] at hl
    omega

end Go.Th.Pure
