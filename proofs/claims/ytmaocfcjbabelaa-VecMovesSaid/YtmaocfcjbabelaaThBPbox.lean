/- What the row of one statement stands on: a store, abstract code, functions of the program and their laws (ThHlaw03, ThPreg, ThPbox). -/
import Derived.Test.YtmaocfcjbabelaaThBHref01b
import Derived.Test.YtmaocfcjbabelaaThBHcmp
import Derived.Test.YtmaocfcjbabelaaThBGref01

section
/- The laws of layer 3: distances. -/
set_option linter.unusedSimpArgs false
set_option linter.unusedVariables false
namespace Go.Th.Pure
open Go

theorem distL_comm : ∀ (a b : List Int), distL a b = distL b a
  | [], b => by rw [distL_nil]; cases b <;> rfl
  | x :: a, [] => rfl
  | x :: a, y :: b => by
    simp only [distL, distL_comm a b]
    have : x - y = -(y - x) := by omega
    rw [this, Int.neg_mul_neg]
theorem distL_zero : ∀ {a b : List Int}, a.length = b.length → (distL a b = 0 ↔ a = b)
  | [], [], _ => by simp [distL]
  | x :: a, y :: b, h => by
    have ih := distL_zero (a := a) (b := b) (by simpa using h)
    have h1 := distL_nonneg a b
    have h2 := sq_nonneg (x - y)
    simp only [distL, List.cons.injEq]
    constructor
    · intro h3
      have h4 : (x - y) * (x - y) = 0 := by omega
      have h5 : x - y = 0 := by
        rcases Int.mul_eq_zero.mp h4 with h | h <;> exact h
      exact ⟨by omega, ih.mp (by omega)⟩
    · rintro ⟨rfl, h3⟩
      have := ih.mpr h3
      simp [this]
  | [], y :: b, h => by simp at h
  | x :: a, [], h => by simp at h
theorem distL_scale : ∀ (a b : List Int), distL (a.map fun x => 2 * x) (b.map fun x => 2 * x) = 4 * distL a b
  | [], b => by simp [distL_nil]
  | x :: a, [] => by simp [distL]
  | x :: a, y :: b => by
    simp only [List.map_cons, distL, distL_scale a b]
    have : 2 * x - 2 * y = 2 * (x - y) := by omega
    rw [this]
    generalize x - y = d
    grind
/-- The i-th move. -/
def moveBy (by_ : List Int) (i : Nat) : Int := match by_[i]? with
  | some n => if -4294967294 < n ∧ n < 4294967294 then n else 0
  | none => 0
def moved (by_ : List Int) : Nat → List Int → List Int
  | _, [] => []
  | i, x :: a => (x + moveBy by_ i) :: moved by_ (i + 1) a
theorem moved_length (by_ : List Int) : ∀ (i : Nat) (a : List Int), (moved by_ i a).length = a.length
  | _, [] => rfl
  | i, x :: a => by simp [moved, moved_length by_ (i + 1) a]
theorem moved_snoc (by_ : List Int) : ∀ (i : Nat) (a : List Int) (x : Int), moved by_ i (a ++ [x]) = moved by_ i a ++ [x + moveBy by_ (i + a.length)]
  | i, [], x => by simp [moved]
  | i, y :: a, x => by
    simp only [List.cons_append, moved, moved_snoc by_ (i + 1) a x, List.length_cons]
    rw [show i + 1 + a.length = i + (a.length + 1) by omega]
theorem distL_moved (by_ : List Int) : ∀ (i : Nat) (a b : List Int), distL (moved by_ i a) (moved by_ i b) = distL a b
  | i, [], b => by simp [moved, distL_nil]
  | i, x :: a, [] => by simp [moved, distL]
  | i, x :: a, y :: b => by
    simp only [moved, distL, distL_moved by_ (i + 1) a b]
    have : x + moveBy by_ i - (y + moveBy by_ i) = x - y := by omega
    rw [this]

/-! ## the way round -/
def dotL : List Int → List Int → List Int → Int
  | x :: a, y :: b, z :: c => (x - y) * (y - z) + dotL a b c
  | _, _, _ => 0
theorem distL_way : ∀ {a b c : List Int}, a.length = b.length → b.length = c.length → distL a c = distL a b + distL b c + 2 * dotL a b c
  | [], [], [], _, _ => by simp [distL, dotL]
  | x :: a, y :: b, z :: c, h1, h2 => by
    have := distL_way (a := a) (b := b) (c := c) (by simpa using h1) (by simpa using h2)
    simp only [distL, dotL, this]
    have e : x - z = (x - y) + (y - z) := by omega
    rw [e]
    generalize x - y = p
    generalize y - z = q
    grind
  | [], [], z :: c, _, h => by simp at h
  | [], y :: b, _, h, _ => by simp at h
  | x :: a, [], _, h, _ => by simp at h
  | x :: a, y :: b, [], _, h => by simp at h
theorem cs_step {A B D p q : Int} (hA : 0 ≤ A) (hB : 0 ≤ B) (h : D * D ≤ A * B) : (p * q + D) * (p * q + D) ≤ (p * p + A) * (q * q + B) := by
  have h1 : 0 ≤ A * (q * q) := Int.mul_nonneg hA (sq_nonneg q)
  have h2 : 0 ≤ B * (p * p) := Int.mul_nonneg hB (sq_nonneg p)
  -- 2 p q D ≤ A q q + B p p
  have h3 : 2 * (p * q) * D ≤ A * (q * q) + B * (p * p) := by
    have k1 : (2 * (p * q) * D) * (2 * (p * q) * D) ≤ (A * (q * q) + B * (p * p)) * (A * (q * q) + B * (p * p)) := by
      have m1 : (p * q) * (p * q) * (D * D) ≤ (p * q) * (p * q) * (A * B) := Int.mul_le_mul_of_nonneg_left h (sq_nonneg _)
      have m2 := sq_nonneg (A * (q * q) - B * (p * p))
      grind
    rcases Int.lt_or_le (A * (q * q) + B * (p * p)) (2 * (p * q) * D) with h4 | h4
    · have h5 : (A * (q * q) + B * (p * p)) * (A * (q * q) + B * (p * p)) < (2 * (p * q) * D) * (2 * (p * q) * D) := by
        have := Int.mul_lt_mul' (a := A * (q * q) + B * (p * p)) (b := A * (q * q) + B * (p * p)) (c := 2 * (p * q) * D) (d := 2 * (p * q) * D) (by omega) h4 (by omega) (by omega)
        exact this
      omega
    · exact h4
  grind
theorem dotL_sq : ∀ (a b c : List Int), dotL a b c * dotL a b c ≤ distL a b * distL b c
  | x :: a, y :: b, z :: c => by
    have := cs_step (p := x - y) (q := y - z) (distL_nonneg a b) (distL_nonneg b c) (dotL_sq a b c)
    simp only [dotL, distL]
    exact this
  | [], b, c => by simp only [dotL, distL_nil]; simp
  | x :: a, [], c => by simp only [dotL, distL]; simp
  | x :: a, y :: b, [] => by simp only [dotL, distL]; simp

/-- Less than the square of a sum: what the product's root is below. -/
theorem way_lt {x y d r s : Int} (hx : 0 ≤ x) (hy : 0 ≤ y) (hr : 0 ≤ r) (hs : 0 ≤ s) (h1 : x < r * r) (h2 : y < s * s) (hd : d * d ≤ x * y) : x + y + 2 * d < (r + s) * (r + s) := by
  have h3 : d < r * s ∨ r * s ≤ d := Int.lt_or_le d (r * s)
  have hrs : 0 ≤ r * s := Int.mul_nonneg hr hs
  rcases h3 with h3 | h3
  · grind
  · exfalso
    have h4 := sq_mono hrs h3
    have h5 : x * y < (r * r) * (s * s) := by
      rcases Int.lt_or_le 0 y with h6 | h6
      · have k1 : x * y < r * r * y := Int.mul_lt_mul_of_pos_right h1 h6
        have k2 : r * r * y ≤ r * r * (s * s) := Int.mul_le_mul_of_nonneg_left (by omega) (by omega)
        omega
      · have : y = 0 := by omega
        subst this
        rw [Int.mul_zero]
        exact Int.mul_pos (by omega) (by omega)
    grind
theorem root_way {x y z d r s t : Int} (hx : IsRoot x r) (hy : IsRoot y s) (hz : IsRoot z t) (h : z = x + y + 2 * d) (hd : d * d ≤ x * y) : t ≤ r + s + 1 := by
  obtain ⟨x0, x1, x2⟩ := hx; obtain ⟨y0, y1, y2⟩ := hy; obtain ⟨z0, z1, z2⟩ := hz
  have hxn : 0 ≤ x := Int.le_trans (sq_nonneg r) x1
  have hyn : 0 ≤ y := Int.le_trans (sq_nonneg s) y1
  have := way_lt hxn hyn (by omega) (by omega) x2 y2 hd
  rw [← h] at this
  have h2 : t < (r + 1) + (s + 1) := lt_of_sq_lt (by omega) (by omega)
  omega

end Go.Th.Pure
end

section
/- Plain: regions of space. -/
set_option linter.unusedSimpArgs false
set_option linter.unusedVariables false
namespace Go.Th.Pure
open Go

structure Reg where
  shape : Int
  lo : List Int
  hi : List Int
  rad : Int
  ids : List Int

def IdsOk (l : List Int) : Prop := ∀ i, i < l.length → (1 ≤ l.getD i 0 ∧ l.getD i 0 ≤ 1000000000) ∧ (0 < i → l.getD (i - 1) 0 < l.getD i 0)
instance (l : List Int) : Decidable (IdsOk l) := by unfold IdsOk; infer_instance
def LeAll (lo hi : List Int) (n : Nat) : Prop := ∀ i, i < n → lo.getD i 0 ≤ hi.getD i 0
instance (lo hi : List Int) (n : Nat) : Decidable (LeAll lo hi n) := by unfold LeAll; infer_instance
def FormOk (r : Reg) : Prop := (r.shape = 1 ∧ r.lo.length = 0 ∧ r.hi.length = 0 ∧ r.rad = 0) ∨ (r.shape = 2 ∧ r.rad = 0) ∨ (r.shape = 3 ∧ r.hi.length = 0)
instance (r : Reg) : Decidable (FormOk r) := by unfold FormOk; infer_instance

def errReg (r : Reg) (d : Int) : Int :=
  if d < 1 ∨ 64 < d then 30 else if ¬ (FormOk r ∧ IdsOk r.ids) then 32 else if r.shape = 1 then 0 else if checkV r.lo d ≠ 0 ∨ r.shape = 3 then checkV r.lo d
  else if checkV r.hi d ≠ 0 then checkV r.hi d else if LeAll r.lo r.hi d.toNat then 0 else 32
def errBoth (r : Reg) (v : List Int) : Int := if errReg r v.length ≠ 0 then errReg r v.length else checkV v v.length

def InReg (r : Reg) (v : List Int) : Prop := if r.shape = 2 then ∀ i, i < v.length → r.lo.getD i 0 ≤ v.getD i 0 ∧ v.getD i 0 ≤ r.hi.getD i 0 else if r.shape = 3 then distL r.lo v ≤ r.rad else True
instance (r : Reg) (v : List Int) : Decidable (InReg r v) := by unfold InReg; infer_instance

def clampSq (l h x : Int) : Int := if x < l then (l - x) * (l - x) else if h < x then (x - h) * (x - h) else 0
def nearL : List Int → List Int → List Int → Int
  | l :: lo, h :: hi, x :: q => clampSq l h x + nearL lo hi q
  | _, _, _ => 0
def nearB (s t R : Int) : Int := if (if t * t = R then t else t + 1) < s then (s - (if t * t = R then t else t + 1)) * (s - (if t * t = R then t else t + 1)) else 0
def IsNear (r : Reg) (q : List Int) (n : Int) : Prop := (r.shape = 2 ∧ n = nearL r.lo r.hi q) ∨ (r.shape = 3 ∧ ∃ s t, IsRoot (distL r.lo q) s ∧ IsRoot r.rad t ∧ n = nearB s t r.rad) ∨ (r.shape ≠ 2 ∧ r.shape ≠ 3 ∧ n = 0)
theorem IsNear.unique {r : Reg} {q : List Int} {n m : Int} (h : IsNear r q n) (h' : IsNear r q m) : n = m := by
  rcases h with ⟨a, rfl⟩ | ⟨a, s, t, b1, b2, rfl⟩ | ⟨a, b, rfl⟩ <;> rcases h' with ⟨a', rfl⟩ | ⟨a', s', t', b1', b2', rfl⟩ | ⟨a', b', rfl⟩ <;> first | rfl | omega | skip
  rw [b1.unique b1', b2.unique b2']

theorem nearL_snoc : ∀ {lo hi q : List Int} {j : Nat} (h1 : j < lo.length) (h2 : j < hi.length) (h3 : j < q.length), nearL (lo.take (j + 1)) (hi.take (j + 1)) (q.take (j + 1)) = nearL (lo.take j) (hi.take j) (q.take j) + clampSq lo[j] hi[j] q[j]
  | l :: lo, h :: hi, x :: q, 0, _, _, _ => by simp [nearL]
  | l :: lo, h :: hi, x :: q, j + 1, h1, h2, h3 => by
    have := nearL_snoc (lo := lo) (hi := hi) (q := q) (j := j) (by simpa using h1) (by simpa using h2) (by simpa using h3)
    simp only [List.take_succ_cons, nearL, this, List.getElem_cons_succ]; omega
  | [], _, _, _, h, _, _ => by simp at h
  | _ :: _, [], _, _, _, h, _ => by simp at h
  | _ :: _, _ :: _, [], _, _, _, h => by simp at h
theorem nearL_nil (hi q : List Int) : nearL [] hi q = 0 := rfl
theorem clampSq_nonneg (l h x : Int) : 0 ≤ clampSq l h x := by
  unfold clampSq; split
  · exact sq_nonneg _
  · split
    · exact sq_nonneg _
    · omega
theorem nearL_nonneg : ∀ (lo hi q : List Int), 0 ≤ nearL lo hi q
  | l :: lo, h :: hi, x :: q => by
    have := nearL_nonneg lo hi q
    have := clampSq_nonneg l h x
    simp only [nearL]; omega
  | [], _, _ => by simp [nearL]
  | _ :: _, [], _ => by simp [nearL]
  | _ :: _, _ :: _, [] => by simp [nearL]
theorem clampSq_le {l h x : Int} (hl : inC l = true) (hh : inC h = true) (hx : inC x = true) : clampSq l h x ≤ 18446744056529682436 := by
  rw [inC_iff] at hl hh hx
  unfold clampSq; split
  · exact sq_le (by omega) (by omega)
  · split
    · exact sq_le (by omega) (by omega)
    · omega
theorem nearL_le : ∀ {lo hi q : List Int}, (∀ x ∈ lo, inC x = true) → (∀ x ∈ hi, inC x = true) → (∀ x ∈ q, inC x = true) → nearL lo hi q ≤ q.length * 18446744056529682436
  | l :: lo, h :: hi, x :: q, h1, h2, h3 => by
    have := nearL_le (lo := lo) (hi := hi) (q := q) (fun x hx => h1 x (by simp [hx])) (fun x hx => h2 x (by simp [hx])) (fun x hx => h3 x (by simp [hx]))
    have := clampSq_le (h1 l (by simp)) (h2 h (by simp)) (h3 x (by simp))
    simp only [nearL, List.length_cons]; omega
  | [], _, _, _, _, _ => by simp only [nearL]; omega
  | _ :: _, [], _, _, _, _ => by simp only [nearL]; omega
  | _ :: _, _ :: _, [], _, _, _ => by simp [nearL]

/-- What the program reckons is what the document says. -/
theorem clampSq_min {l h x : Int} (hlh : l ≤ h) : (x - goMin (goMax x l) h) * (x - goMin (goMax x l) h) = clampSq l h x := by
  unfold clampSq goMin goMax
  by_cases h1 : x < l
  · rw [if_pos h1, if_pos h1]
    rw [if_neg (by omega)]
    have : x - l = -(l - x) := by omega
    rw [this, Int.neg_mul_neg]
  · rw [if_neg h1, if_neg h1]
    by_cases h2 : h < x
    · rw [if_pos h2, if_pos h2]
    · rw [if_neg h2, if_neg h2]; simp

theorem errReg_zero {r : Reg} {d : Int} (h : errReg r d = 0) : 1 ≤ d ∧ d ≤ 64 ∧ FormOk r ∧ IdsOk r.ids ∧
    (r.shape = 3 → (r.lo.length : Int) = d ∧ ∀ x ∈ r.lo, inC x = true) ∧ (r.shape = 2 → (r.lo.length : Int) = d ∧ (r.hi.length : Int) = d ∧ (∀ x ∈ r.lo, inC x = true) ∧ (∀ x ∈ r.hi, inC x = true) ∧ LeAll r.lo r.hi d.toNat) := by
  unfold errReg at h
  split at h
  · omega
  · rename_i h1
    split at h
    · omega
    · rename_i h2
      have h2 : FormOk r ∧ IdsOk r.ids := Decidable.of_not_not h2
      refine ⟨by omega, by omega, h2.1, h2.2, fun h3 => ?_, fun h3 => ?_⟩
      · rw [if_neg (by omega), if_pos (.inr h3)] at h
        obtain ⟨_, _, a, b⟩ := checkV_ok h
        exact ⟨a, b⟩
      · rw [if_neg (by omega)] at h
        split at h
        · rename_i h4
          rcases h4 with h4 | h4
          · exact absurd h h4
          · omega
        · rename_i h4
          have h5 : checkV r.lo d = 0 := by omega
          split at h
          · omega
          · rename_i h6
            have h6 : checkV r.hi d = 0 := by omega
            split at h
            · rename_i h7
              obtain ⟨_, _, a, b⟩ := checkV_ok h5
              obtain ⟨_, _, a', b'⟩ := checkV_ok h6
              exact ⟨a, a', b, b', h7⟩
            · omega
theorem errBoth_zero {r : Reg} {v : List Int} (h : errBoth r v = 0) : errReg r v.length = 0 ∧ checkV v v.length = 0 := by
  unfold errBoth at h
  split at h
  · omega
  · exact ⟨by omega, h⟩

/-! ## whatever lies in a region is at least as far away as the bound -/
theorem nearL_dist : ∀ {lo hi v q : List Int}, lo.length = v.length → hi.length = v.length → q.length = v.length → (∀ i, i < v.length → lo.getD i 0 ≤ v.getD i 0 ∧ v.getD i 0 ≤ hi.getD i 0) → nearL lo hi q ≤ distL v q
  | [], [], [], [], _, _, _, _ => by simp [nearL, distL]
  | l :: lo, h :: hi, x :: v, y :: q, h1, h2, h3, hin => by
    have ih := nearL_dist (lo := lo) (hi := hi) (v := v) (q := q) (by simpa using h1) (by simpa using h2) (by simpa using h3) fun i hi' => by
      have := hin (i + 1) (by simp; omega)
      simpa using this
    have h0 := hin 0 (by simp)
    simp at h0
    have : clampSq l h y ≤ (x - y) * (x - y) := by
      unfold clampSq; split
      · have := sq_mono (a := l - y) (b := x - y) (by omega) (by omega); exact this
      · split
        · have := sq_mono (a := y - h) (b := y - x) (by omega) (by omega)
          have e : x - y = -(y - x) := by omega
          rw [e, Int.neg_mul_neg]; exact this
        · exact sq_nonneg _
    simp only [nearL, distL]; omega
  | [], _, _ :: _, _, h, _, _, _ => by simp at h
  | _ :: _, _, [], _, h, _, _, _ => by simp at h
  | _ :: _, [], _ :: _, _, _, h, _, _ => by simp at h
  | [], _ :: _, [], _, _, h, _, _ => by simp at h
  | [], [], [], _ :: _, _, _, h, _ => by simp at h
  | _ :: _, _ :: _, _ :: _, [], _, _, h, _ => by simp at h

theorem way_le {x y d r s : Int} (hx : 0 ≤ x) (hy : 0 ≤ y) (hr : 0 ≤ r) (hs : 0 ≤ s) (h1 : x < r * r) (h2 : y ≤ s * s) (hd : d * d ≤ x * y) : x + y + 2 * d < (r + s) * (r + s) := by
  have hrs : 0 ≤ r * s := Int.mul_nonneg hr hs
  have h3 : d ≤ r * s := by
    rcases Int.lt_or_le (r * s) d with h3 | h3
    · exfalso
      have h4 : (r * s) * (r * s) < d * d := by
        have := Int.mul_lt_mul' (a := r * s) (b := r * s) (c := d) (d := d) (by omega) h3 hrs (by omega)
        exact this
      have h5 : x * y ≤ (r * r) * (s * s) := Int.mul_le_mul (by omega) h2 hy (sq_nonneg r)
      grind
    · exact h3
  grind

theorem near_le {r : Reg} {v q : List Int} {n : Int} (he : errBoth r v = 0) (he' : errBoth r q = 0) (hl : q.length = v.length) (hin : InReg r v) (hn : IsNear r q n) : n ≤ distL v q := by
  obtain ⟨e1, e2⟩ := errBoth_zero he
  obtain ⟨e1', e2'⟩ := errBoth_zero he'
  obtain ⟨d1, d2, hf, _, h3, h2⟩ := errReg_zero e1
  rcases hn with ⟨hs, rfl⟩ | ⟨hs, s, t, hrs, hrt, rfl⟩ | ⟨_, _, rfl⟩
  · obtain ⟨a1, a2, _, _, _⟩ := h2 hs
    rw [InReg, if_pos hs] at hin
    exact nearL_dist (by omega) (by omega) hl hin
  · obtain ⟨a1, _⟩ := h3 hs
    rw [InReg, if_neg (by omega), if_pos hs] at hin
    have hlo : r.lo.length = v.length := by omega
    unfold nearB
    generalize hT : (if t * t = r.rad then t else t + 1) = T
    have hTR : r.rad ≤ T * T ∧ 0 ≤ T := by
      obtain ⟨b0, b1, b2⟩ := hrt
      rw [← hT]; split
      · omega
      · omega
    split
    · rename_i hlt
      rcases Int.lt_or_le (distL v q) ((s - T) * (s - T)) with h5 | h5
      · exfalso
        have hw := way_le (x := distL v q) (y := distL r.lo v) (d := dotL r.lo v q) (r := s - T) (s := T) (distL_nonneg _ _) (distL_nonneg _ _) (by omega) hTR.2 h5 (by omega) (by
          have := dotL_sq r.lo v q
          rw [Int.mul_comm (distL v q)]; exact this)
        have := distL_way (a := r.lo) (b := v) (c := q) hlo hl.symm
        obtain ⟨b0, b1, b2⟩ := hrs
        have e : s - T + T = s := by omega
        rw [e] at hw
        omega
      · exact h5
    · exact distL_nonneg _ _
  · exact distL_nonneg _ _

end Go.Th.Pure
end

section
/- Plain: numbers in order; the least box and the ball of rows. -/
set_option linter.unusedSimpArgs false
set_option linter.unusedVariables false
namespace Go.Th.Pure
open Go Go.Th

def SrtI (l : List Int) : Prop := l.Pairwise (· ≤ ·)
def insI (x : Int) : List Int → List Int
  | [] => [x]
  | y :: l => if y < x then y :: insI x l else x :: y :: l
theorem insI_perm (x : Int) : ∀ l, (insI x l).Perm (x :: l)
  | [] => .refl _
  | y :: l => by
    unfold insI; split
    · exact ((insI_perm x l).cons y).trans (.swap x y l)
    · exact .refl _
theorem insI_length (x : Int) (l : List Int) : (insI x l).length = l.length + 1 := by rw [(insI_perm x l).length_eq]; rfl
theorem insI_srt (x : Int) : ∀ l, SrtI l → SrtI (insI x l)
  | [], _ => by simp [insI, SrtI]
  | y :: l, h => by
    have h' := List.pairwise_cons.mp h
    unfold insI; split
    · refine List.pairwise_cons.mpr ⟨fun a ha => ?_, insI_srt x l h'.2⟩
      rcases List.mem_cons.mp ((insI_perm x l).mem_iff.mp ha) with rfl | ha
      · omega
      · exact h'.1 a ha
    · refine List.pairwise_cons.mpr ⟨fun a ha => ?_, h⟩
      rcases List.mem_cons.mp ha with rfl | ha
      · omega
      · have := h'.1 a ha; omega
theorem srtI_unique : ∀ {l m : List Int}, l.Perm m → SrtI l → SrtI m → l = m
  | [], m, h, _, _ => (List.nil_perm.mp h).symm
  | a :: l, [], h, _, _ => by simp at h
  | a :: l, b :: m, h, h1, h2 => by
    have h1' := List.pairwise_cons.mp h1
    have h2' := List.pairwise_cons.mp h2
    have hab : a = b := by
      rcases List.mem_cons.mp (h.mem_iff.mp (List.mem_cons_self)) with e | ha
      · exact e
      · rcases List.mem_cons.mp (h.mem_iff.mpr (List.mem_cons_self (a := b) (l := m))) with e | hb
        · exact e.symm
        · have := h2'.1 a ha; have := h1'.1 b hb; omega
    subst hab
    rw [srtI_unique (h.cons_inv) h1'.2 h2'.2]
def sortI (l : List Int) : List Int := l.foldl (fun a x => insI x a) []
theorem foldI_perm : ∀ (l a : List Int), (l.foldl (fun a x => insI x a) a).Perm (a ++ l)
  | [], a => by simp
  | x :: l, a => by
    refine (foldI_perm l _).trans ?_
    refine (((insI_perm x a)).append_right l).trans ?_
    simpa using (List.perm_middle (a := x) (l₁ := a) (l₂ := l)).symm
theorem foldI_srt : ∀ (l a : List Int), SrtI a → SrtI (l.foldl (fun a x => insI x a) a)
  | [], a, h => h
  | x :: l, a, h => foldI_srt l _ (insI_srt x a h)
theorem sortI_perm (l : List Int) : (sortI l).Perm l := by simpa [sortI] using foldI_perm l []
theorem sortI_srt (l : List Int) : SrtI (sortI l) := foldI_srt l [] List.Pairwise.nil
theorem sortI_length (l : List Int) : (sortI l).length = l.length := (sortI_perm l).length_eq
theorem sortI_snoc (l : List Int) (x : Int) : sortI (l ++ [x]) = insI x (sortI l) := by simp [sortI]
theorem insI_split (x : Int) (l : List Int) {p : Nat} (hp : p ≤ l.length) (h1 : ∀ j (h : j < l.length), j < p → l[j] < x) (h2 : ∀ h : p < l.length, ¬ l[p] < x) : l.take p ++ [x] ++ l.drop p = insI x l := by
  induction l generalizing p with
  | nil => simp [insI]
  | cons y l ih =>
    cases p with
    | zero =>
      have := h2 (by simp)
      simp only [List.getElem_cons_zero] at this
      simp [insI, this]
    | succ p =>
      have h3 := h1 0 (by simp) (by omega)
      simp only [List.getElem_cons_zero] at h3
      have := ih (p := p) (by simpa using hp) (fun j h hj => by have := h1 (j + 1) (by simpa using h) (by omega); rwa [List.getElem_cons_succ] at this) (fun h => by have := h2 (by simpa using h); rwa [List.getElem_cons_succ] at this)
      simp only [List.take_succ_cons, List.drop_succ_cons, List.cons_append]
      rw [this]; simp [insI, h3]

/-! ## the least box -/
def colMin (rs : List Row) (j : Nat) (x : Int) : Int := rs.foldl (fun m r => goMin m (r.2.getD j 0)) x
def colMax (rs : List Row) (j : Nat) (x : Int) : Int := rs.foldl (fun m r => goMax m (r.2.getD j 0)) x
def firstC (rs : List Row) (j : Nat) : Int := match rs with
  | [] => 0
  | r :: _ => r.2.getD j 0
def boxLo (rs : List Row) (d : Nat) : List Int := (List.range d).map fun j => colMin rs j (firstC rs j)
def boxHi (rs : List Row) (d : Nat) : List Int := (List.range d).map fun j => colMax rs j (firstC rs j)
def idsR (rs : List Row) : List Int := sortI (rs.map (·.1))
def boxReg (rs : List Row) (d : Nat) : Reg := ⟨2, boxLo rs d, boxHi rs d, 0, idsR rs⟩
def zeroReg : Reg := ⟨0, [], [], 0, []⟩
def rowsE (rs : List Row) (d : Int) : Int := if 512 < rs.length then 2 else rowsErr [] rs d
def errBox (rs : List Row) (d : Int) : Int := if d < 1 ∨ 64 < d then 30 else if rs = [] then 1 else rowsE rs d
def boxOf (rs : List Row) (d : Int) : Reg := if errBox rs d = 0 then boxReg rs d.toNat else zeroReg
def radOf (c : List Int) (rs : List Row) : Int := rs.foldl (fun m r => if m < distL c r.2 then distL c r.2 else m) 0
def ballReg (c : List Int) (rs : List Row) : Reg := ⟨3, c, [], radOf c rs, idsR rs⟩
def errBall (c : List Int) (rs : List Row) : Int := if checkV c c.length ≠ 0 then checkV c c.length else rowsE rs c.length
def ballOf (c : List Int) (rs : List Row) : Reg := if errBall c rs = 0 then ballReg c rs else zeroReg

theorem boxLo_len (rs : List Row) (d : Nat) : (boxLo rs d).length = d := by simp [boxLo]
theorem boxHi_len (rs : List Row) (d : Nat) : (boxHi rs d).length = d := by simp [boxHi]
theorem boxLo_get {rs : List Row} {d j : Nat} (h : j < d) : (boxLo rs d).getD j 0 = colMin rs j (firstC rs j) := by simp [boxLo, h]
theorem boxHi_get {rs : List Row} {d j : Nat} (h : j < d) : (boxHi rs d).getD j 0 = colMax rs j (firstC rs j) := by simp [boxHi, h]
theorem colMin_snoc (rs : List Row) (r : Row) (j : Nat) (x : Int) : colMin (rs ++ [r]) j x = goMin (colMin rs j x) (r.2.getD j 0) := by simp [colMin]
theorem colMax_snoc (rs : List Row) (r : Row) (j : Nat) (x : Int) : colMax (rs ++ [r]) j x = goMax (colMax rs j x) (r.2.getD j 0) := by simp [colMax]
theorem radOf_snoc (c : List Int) (rs : List Row) (r : Row) : radOf c (rs ++ [r]) = if radOf c rs < distL c r.2 then distL c r.2 else radOf c rs := by
  unfold radOf; rw [List.foldl_append]; rfl

theorem colMin_le : ∀ (rs : List Row) (j : Nat) (x : Int), colMin rs j x ≤ x ∧ ∀ r ∈ rs, colMin rs j x ≤ r.2.getD j 0
  | [], _, _ => ⟨by simp [colMin], by simp⟩
  | r :: rs, j, x => by
    have h := colMin_le rs j (goMin x (r.2.getD j 0))
    have e : colMin (r :: rs) j x = colMin rs j (goMin x (r.2.getD j 0)) := rfl
    have g : goMin x (r.2.getD j 0) ≤ x ∧ goMin x (r.2.getD j 0) ≤ r.2.getD j 0 := by unfold goMin; split <;> omega
    rw [e]
    refine ⟨by omega, fun q hq => ?_⟩
    rcases List.mem_cons.mp hq with rfl | hq
    · omega
    · exact h.2 q hq
theorem colMax_ge : ∀ (rs : List Row) (j : Nat) (x : Int), x ≤ colMax rs j x ∧ ∀ r ∈ rs, r.2.getD j 0 ≤ colMax rs j x
  | [], _, _ => ⟨by simp [colMax], by simp⟩
  | r :: rs, j, x => by
    have h := colMax_ge rs j (goMax x (r.2.getD j 0))
    have e : colMax (r :: rs) j x = colMax rs j (goMax x (r.2.getD j 0)) := rfl
    have g : x ≤ goMax x (r.2.getD j 0) ∧ r.2.getD j 0 ≤ goMax x (r.2.getD j 0) := by unfold goMax; split <;> omega
    rw [e]
    refine ⟨by omega, fun q hq => ?_⟩
    rcases List.mem_cons.mp hq with rfl | hq
    · omega
    · exact h.2 q hq
theorem colMin_mem : ∀ (rs : List Row) (j : Nat) (x : Int), colMin rs j x = x ∨ ∃ r ∈ rs, colMin rs j x = r.2.getD j 0
  | [], _, _ => .inl rfl
  | r :: rs, j, x => by
    have e : colMin (r :: rs) j x = colMin rs j (goMin x (r.2.getD j 0)) := rfl
    rw [e]
    rcases colMin_mem rs j (goMin x (r.2.getD j 0)) with h | ⟨q, hq, h⟩
    · rw [h]; unfold goMin; split
      · exact .inr ⟨r, by simp, rfl⟩
      · exact .inl rfl
    · exact .inr ⟨q, by simp [hq], h⟩
theorem colMax_mem : ∀ (rs : List Row) (j : Nat) (x : Int), colMax rs j x = x ∨ ∃ r ∈ rs, colMax rs j x = r.2.getD j 0
  | [], _, _ => .inl rfl
  | r :: rs, j, x => by
    have e : colMax (r :: rs) j x = colMax rs j (goMax x (r.2.getD j 0)) := rfl
    rw [e]
    rcases colMax_mem rs j (goMax x (r.2.getD j 0)) with h | ⟨q, hq, h⟩
    · rw [h]; unfold goMax; split
      · exact .inr ⟨r, by simp, rfl⟩
      · exact .inl rfl
    · exact .inr ⟨q, by simp [hq], h⟩
/-- The least coordinate is some row's. -/
theorem boxMin_row {rs : List Row} (h : rs ≠ []) (j : Nat) : ∃ r ∈ rs, colMin rs j (firstC rs j) = r.2.getD j 0 := by
  rcases colMin_mem rs j (firstC rs j) with e | e
  · cases rs with
    | nil => exact absurd rfl h
    | cons r rs => exact ⟨r, by simp, e⟩
  · exact e
theorem boxMax_row {rs : List Row} (h : rs ≠ []) (j : Nat) : ∃ r ∈ rs, colMax rs j (firstC rs j) = r.2.getD j 0 := by
  rcases colMax_mem rs j (firstC rs j) with e | e
  · cases rs with
    | nil => exact absurd rfl h
    | cons r rs => exact ⟨r, by simp, e⟩
  · exact e

theorem radOf_ge : ∀ (rs : List Row) (c : List Int) (x : Int), x ≤ rs.foldl (fun m r => if m < distL c r.2 then distL c r.2 else m) x ∧ ∀ r ∈ rs, distL c r.2 ≤ rs.foldl (fun m r => if m < distL c r.2 then distL c r.2 else m) x
  | [], _, _ => ⟨by simp, by simp⟩
  | r :: rs, c, x => by
    have h := radOf_ge rs c (if x < distL c r.2 then distL c r.2 else x)
    have g : x ≤ (if x < distL c r.2 then distL c r.2 else x) ∧ distL c r.2 ≤ (if x < distL c r.2 then distL c r.2 else x) := by split <;> omega
    simp only [List.foldl_cons]
    refine ⟨by omega, fun q hq => ?_⟩
    rcases List.mem_cons.mp hq with rfl | hq
    · omega
    · exact h.2 q hq

/-! ## what is told of rows that may be -/
theorem rowsE_zero {rs : List Row} {d : Int} (h : rowsE rs d = 0) : rs.length ≤ 512 ∧ rowsErr [] rs d = 0 := by
  unfold rowsE at h
  split at h
  · omega
  · exact ⟨by omega, h⟩
theorem errBox_zero {rs : List Row} {d : Int} (h : errBox rs d = 0) : 1 ≤ d ∧ d ≤ 64 ∧ rs ≠ [] ∧ rs.length ≤ 512 ∧ rowsErr [] rs d = 0 := by
  unfold errBox at h
  split at h
  · omega
  · split at h
    · omega
    · rename_i h1 h2
      have := rowsE_zero h
      exact ⟨by omega, by omega, h2, this.1, this.2⟩
theorem errBall_zero {c : List Int} {rs : List Row} (h : errBall c rs = 0) : checkV c c.length = 0 ∧ rs.length ≤ 512 ∧ rowsErr [] rs c.length = 0 := by
  unfold errBall at h
  split at h
  · omega
  · have := rowsE_zero h
    exact ⟨by omega, this.1, this.2⟩
theorem rowsErr_row {rs : List Row} {d : Int} (h : rowsErr [] rs d = 0) {r : Row} (hr : r ∈ rs) : (1 ≤ r.1 ∧ r.1 ≤ 1000000000) ∧ 1 ≤ d ∧ d ≤ 64 ∧ (r.2.length : Int) = d ∧ ∀ x ∈ r.2, inC x = true := by
  obtain ⟨h1, h2⟩ := rowsErr_zero h r hr
  have := checkV_ok h2
  exact ⟨idOk_iff.mp h1, this.1, this.2.1, this.2.2.1, this.2.2.2⟩
theorem rowsErr_nodup : ∀ {rs : List Row} {seen : List Int} {d : Int}, rowsErr seen rs d = 0 → (∀ r ∈ rs, r.1 ∉ seen) ∧ (rs.map (·.1)).Nodup
  | [], _, _, _ => ⟨by simp, List.nodup_nil⟩
  | r :: rs, seen, d, h => by
    simp only [rowsErr] at h
    split at h
    · omega
    · rename_i h1
      split at h
      · omega
      · obtain ⟨a, b⟩ := rowsErr_nodup h
        have h1' := not_or.mp h1
        refine ⟨fun q hq => ?_, ?_⟩
        · rcases List.mem_cons.mp hq with rfl | hq
          · exact h1'.2
          · exact fun hs => a q hq (List.mem_cons_of_mem _ hs)
        · rw [List.map_cons, List.nodup_cons]
          refine ⟨fun hm => ?_, b⟩
          obtain ⟨q, hq, he⟩ := List.mem_map.mp hm
          exact a q hq (by rw [he]; exact List.mem_cons_self)
/-- The ids of rows that may be, in order. -/
theorem idsR_ok {rs : List Row} {d : Int} (h : rowsErr [] rs d = 0) : IdsOk (idsR rs) := by
  have hp := sortI_perm (rs.map (·.1))
  have hs := sortI_srt (rs.map (·.1))
  have hn : (idsR rs).Nodup := hp.nodup_iff.mpr (rowsErr_nodup h).2
  intro i hi
  have e : ∀ k, k < (idsR rs).length → ∃ r ∈ rs, (idsR rs).getD k 0 = r.1 := fun k hk => by
    have : (idsR rs)[k] ∈ rs.map (·.1) := hp.mem_iff.mp (List.getElem_mem hk)
    obtain ⟨r, hr, he⟩ := List.mem_map.mp this
    exact ⟨r, hr, by simp [hk, he]⟩
  obtain ⟨r, hr, he⟩ := e i hi
  have := rowsErr_row h hr
  refine ⟨by rw [he]; exact this.1, fun h0 => ?_⟩
  have h1 : (idsR rs)[i - 1] ≤ (idsR rs)[i] := List.pairwise_iff_getElem.mp hs (i - 1) i (by have : (idsR rs).length = (sortI (rs.map (·.1))).length := rfl; omega) hi (by omega)
  have h2 : (idsR rs)[i - 1] ≠ (idsR rs)[i] := fun e => by
    have := (List.nodup_iff_pairwise_ne.mp hn)
    exact List.pairwise_iff_getElem.mp this (i - 1) i (by omega) hi (by omega) e
  have g1 : (idsR rs).getD (i - 1) 0 = (idsR rs)[i - 1] := by simp [show i - 1 < (idsR rs).length by omega]
  have g2 : (idsR rs).getD i 0 = (idsR rs)[i] := by simp [hi]
  rw [g1, g2]; omega

theorem getD_in {l : List Int} {j : Nat} (h : ∀ x ∈ l, inC x = true) (hj : j < l.length) : inC (l.getD j 0) = true := by
  have : l.getD j 0 = l[j] := by simp [hj]
  rw [this]; exact h _ (List.getElem_mem hj)

/-- The least box may be, and so may the ball. -/
theorem box_ok {rs : List Row} {d : Int} (h : errBox rs d = 0) : errReg (boxReg rs d.toNat) d = 0 := by
  obtain ⟨h1, h2, h3, h4, h5⟩ := errBox_zero h
  have hlo : ∀ x ∈ boxLo rs d.toNat, inC x = true := fun x hx => by
    obtain ⟨j, hj, rfl⟩ := List.mem_map.mp hx
    obtain ⟨r, hr, e⟩ := boxMin_row h3 j
    rw [e]
    have hr' := rowsErr_row h5 hr
    exact getD_in hr'.2.2.2.2 (by have := List.mem_range.mp hj; omega)
  have hhi : ∀ x ∈ boxHi rs d.toNat, inC x = true := fun x hx => by
    obtain ⟨j, hj, rfl⟩ := List.mem_map.mp hx
    obtain ⟨r, hr, e⟩ := boxMax_row h3 j
    rw [e]
    have hr' := rowsErr_row h5 hr
    exact getD_in hr'.2.2.2.2 (by have := List.mem_range.mp hj; omega)
  have k : ∀ l : List Int, l.length = d.toNat → (∀ x ∈ l, inC x = true) → checkV l d = 0 := fun l e1 e2 => by
    unfold checkV
    rw [if_neg (by omega), if_pos (List.all_eq_true.mpr e2)]
  have k1 := k _ (boxLo_len rs d.toNat) hlo
  have k2 := k _ (boxHi_len rs d.toNat) hhi
  unfold errReg
  rw [if_neg (by omega), if_neg (fun hh => hh ⟨.inr (.inl ⟨rfl, rfl⟩), idsR_ok h5⟩), if_neg (by simp [boxReg])]
  rw [if_neg (by
    simp only [boxReg]
    rintro (h | h)
    · exact h k1
    · omega), if_neg (fun hh => hh k2), if_pos]
  intro i hi
  simp only [boxReg]
  rw [boxLo_get hi, boxHi_get hi]
  have := (colMin_le rs i (firstC rs i)).1
  have := (colMax_ge rs i (firstC rs i)).1
  omega
theorem ball_ok {c : List Int} {rs : List Row} (h : errBall c rs = 0) : errReg (ballReg c rs) c.length = 0 := by
  obtain ⟨h1, h4, h5⟩ := errBall_zero h
  obtain ⟨d1, d2, d3, d4⟩ := checkV_ok h1
  unfold errReg
  rw [if_neg (by omega), if_neg (fun hh => hh ⟨.inr (.inr ⟨rfl, rfl⟩), idsR_ok h5⟩), if_neg (by simp [ballReg]), if_pos (.inr rfl)]
  exact h1
theorem row_check {rs : List Row} {d : Int} (h5 : rowsErr [] rs d = 0) {r : Row} (hr : r ∈ rs) : (r.2.length : Int) = d ∧ checkV r.2 r.2.length = 0 := by
  obtain ⟨_, h1, h2, h3, h4⟩ := rowsErr_row h5 hr
  refine ⟨h3, ?_⟩
  unfold checkV
  rw [if_neg (by omega), if_pos (List.all_eq_true.mpr h4)]
theorem box_in {rs : List Row} {d : Int} (h : errBox rs d = 0) {r : Row} (hr : r ∈ rs) : errBoth (boxReg rs d.toNat) r.2 = 0 ∧ InReg (boxReg rs d.toNat) r.2 := by
  obtain ⟨h1, h2, h3, h4, h5⟩ := errBox_zero h
  obtain ⟨e1, e2⟩ := row_check h5 hr
  refine ⟨by rw [errBoth, e1, if_neg (fun hh => hh (box_ok h))]; rw [← e1]; exact e2, ?_⟩
  rw [InReg, if_pos (show (boxReg rs d.toNat).shape = 2 from rfl)]
  intro i hi
  have hid : i < d.toNat := by omega
  simp only [boxReg]
  rw [boxLo_get hid, boxHi_get hid]
  exact ⟨(colMin_le rs i (firstC rs i)).2 r hr, (colMax_ge rs i (firstC rs i)).2 r hr⟩
theorem ball_in {c : List Int} {rs : List Row} (h : errBall c rs = 0) {r : Row} (hr : r ∈ rs) : errBoth (ballReg c rs) r.2 = 0 ∧ InReg (ballReg c rs) r.2 := by
  obtain ⟨h1, h4, h5⟩ := errBall_zero h
  obtain ⟨e1, e2⟩ := row_check h5 hr
  refine ⟨by rw [errBoth, e1, if_neg (fun hh => hh (ball_ok h))]; rw [← e1]; exact e2, ?_⟩
  rw [InReg, if_neg (by simp [ballReg]), if_pos (show (ballReg c rs).shape = 3 from rfl)]
  exact (radOf_ge rs c 0).2 r hr
/-- A box that is smaller in one coordinate does not hold some row. -/
theorem box_less {rs : List Row} {d : Int} (h : errBox rs d = 0) {j : Nat} (hj : j < d.toNat) (hlt : (boxLo rs d.toNat).getD j 0 < (boxHi rs d.toNat).getD j 0) :
    ∃ r ∈ rs, errBoth ⟨2, (boxLo rs d.toNat).set j ((boxLo rs d.toNat).getD j 0 + 1), boxHi rs d.toNat, 0, idsR rs⟩ r.2 = 0 ∧ ¬ InReg ⟨2, (boxLo rs d.toNat).set j ((boxLo rs d.toNat).getD j 0 + 1), boxHi rs d.toNat, 0, idsR rs⟩ r.2 := by
  obtain ⟨h1, h2, h3, h4, h5⟩ := errBox_zero h
  obtain ⟨_, _, _, _, _, hz⟩ := errReg_zero (box_ok h)
  obtain ⟨z1, z2, z3, z4, z5⟩ := hz rfl
  simp only [boxReg] at z1 z2 z3 z4 z5
  obtain ⟨r, hr, e⟩ := boxMin_row h3 j
  obtain ⟨e1, e2⟩ := row_check h5 hr
  refine ⟨r, hr, ?_, ?_⟩
  · have hin : ∀ x ∈ (boxLo rs d.toNat).set j ((boxLo rs d.toNat).getD j 0 + 1), inC x = true := fun x hx => by
      rcases List.mem_or_eq_of_mem_set hx with hx | rfl
      · exact z3 x hx
      · have a1 := inC_iff.mp (getD_in z3 (j := j) (by omega))
        have a2 := inC_iff.mp (getD_in z4 (j := j) (by omega))
        rw [inC_iff]; omega
    have k : ∀ l : List Int, (l.length : Int) = d → (∀ x ∈ l, inC x = true) → checkV l d = 0 := fun l e1 e2 => by
      unfold checkV
      rw [if_neg (by omega), if_pos (List.all_eq_true.mpr e2)]
    have er : errReg ⟨2, (boxLo rs d.toNat).set j ((boxLo rs d.toNat).getD j 0 + 1), boxHi rs d.toNat, 0, idsR rs⟩ d = 0 := by
      unfold errReg
      rw [if_neg (by omega), if_neg (fun hh => hh ⟨.inr (.inl ⟨rfl, rfl⟩), idsR_ok h5⟩), if_neg (by simp)]
      rw [if_neg (by
        rintro (h | h)
        · exact h (k _ (by rw [List.length_set]; exact z1) hin)
        · simp at h), if_neg (fun hh => hh (k _ z2 z4)), if_pos]
      intro i hi
      have hzi := z5 i hi
      simp only
      have hil : i < (boxLo rs d.toNat).length := by omega
      by_cases hij : i = j
      · subst hij
        have : ((boxLo rs d.toNat).set i ((boxLo rs d.toNat).getD i 0 + 1)).getD i 0 = (boxLo rs d.toNat).getD i 0 + 1 := by simp [hil]
        rw [this]; omega
      · have : ((boxLo rs d.toNat).set j ((boxLo rs d.toNat).getD j 0 + 1)).getD i 0 = (boxLo rs d.toNat).getD i 0 := by
          simp only [List.getD_eq_getElem?_getD, List.getElem?_set]
          rw [if_neg (fun e => hij e.symm)]
        rw [this]; exact hzi
    rw [errBoth, e1, if_neg (fun hh => hh er), ← e1]; exact e2
  · rw [InReg, if_pos rfl]
    intro hin
    have hjr : j < r.2.length := by omega
    have := (hin j hjr).1
    have hjl : j < (boxLo rs d.toNat).length := by omega
    have e3 : ((boxLo rs d.toNat).set j ((boxLo rs d.toNat).getD j 0 + 1)).getD j 0 = (boxLo rs d.toNat).getD j 0 + 1 := by simp [hjl]
    simp only at this
    rw [e3, boxLo_get hj, e] at this
    omega

end Go.Th.Pure
end
