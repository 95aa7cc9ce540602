/- What the row of one statement stands on: a store, abstract code, functions of the program and their laws (ThHlaw03, ThPreg, ThPbox). -/
import Derived.Test.YtdjocmcbibedhaaThBHref01b
import Derived.Test.YtdjocmcbibedhaaThBHcmp
import Derived.Test.YtdjocmcbibedhaaThBGref13

section
/- The laws of layer 3: distances. -/
set_option linter.unusedSimpArgs false
set_option linter.unusedVariables false
namespace Go.Th.Pure
open Go

/-- The i-th move. -/
def moveBy (by_ : List Int) (i : Nat) : Int := match by_[i]? with
  | some n => if -4294967294 < n ∧ n < 4294967294 then n else 0
  | none => 0
def moved (by_ : List Int) : Nat → List Int → List Int
  | _, [] => []
  | i, x :: a => (x + moveBy by_ i) :: moved by_ (i + 1) a
/-! ## the way round -/
def dotL : List Int → List Int → List Int → Int
  | x :: a, y :: b, z :: c => (x - y) * (y - z) + dotL a b c
  | _, _, _ => 0
theorem distL_way : ∀ {a b c : List Int}, a.length = b.length → b.length = c.length → distL a c = distL a b + distL b c + 2 * dotL a b c
  | [], [], [], _, _ => by simp [distL, dotL]
  | x :: a, y :: b, z :: c, h1, h2 => by
    have := distL_way (a := a) (b := b) (c := c) (by simpa using h1) (by simpa using h2)
    simp only [distL, dotL, this]
    have e : x - z = (x - y) + (y - z) := by omega
    rw [e]
    generalize x - y = p
    generalize y - z = q
    grind
  | [], [], z :: c, _, h => by simp at h
  | [], y :: b, _, h, _ => by simp at h
  | x :: a, [], _, h, _ => by simp at h
  | x :: a, y :: b, [], _, h => by simp at h
theorem cs_step {A B D p q : Int} (hA : 0 ≤ A) (hB : 0 ≤ B) (h : D * D ≤ A * B) : (p * q + D) * (p * q + D) ≤ (p * p + A) * (q * q + B) := by
  have h1 : 0 ≤ A * (q * q) := Int.mul_nonneg hA (sq_nonneg q)
  have h2 : 0 ≤ B * (p * p) := Int.mul_nonneg hB (sq_nonneg p)
  -- 2 p q D ≤ A q q + B p p
  have h3 : 2 * (p * q) * D ≤ A * (q * q) + B * (p * p) := by
    have k1 : (2 * (p * q) * D) * (2 * (p * q) * D) ≤ (A * (q * q) + B * (p * p)) * (A * (q * q) + B * (p * p)) := by
      have m1 : (p * q) * (p * q) * (D * D) ≤ (p * q) * (p * q) * (A * B) := Int.mul_le_mul_of_nonneg_left h (sq_nonneg _)
      have m2 := sq_nonneg (A * (q * q) - B * (p * p))
      grind
    rcases Int.lt_or_le (A * (q * q) + B * (p * p)) (2 * (p * q) * D) with h4 | h4
    · have h5 : (A * (q * q) + B * (p * p)) * (A * (q * q) + B * (p * p)) < (2 * (p * q) * D) * (2 * (p * q) * D) := by
        have := Int.mul_lt_mul' (a := A * (q * q) + B * (p * p)) (b := A * (q * q) + B * (p * p)) (c := 2 * (p * q) * D) (d := 2 * (p * q) * D) (by omega) h4 (by omega) (by omega)
        exact this
      omega
    · exact h4
  grind
theorem dotL_sq : ∀ (a b c : List Int), dotL a b c * dotL a b c ≤ distL a b * distL b c
  | x :: a, y :: b, z :: c => by
    have := cs_step (p := x - y) (q := y - z) (distL_nonneg a b) (distL_nonneg b c) (dotL_sq a b c)
    simp only [dotL, distL]
    exact this
  | [], b, c => by simp only [dotL, distL_nil]; simp
  | x :: a, [], c => by simp only [dotL, distL]; simp
  | x :: a, y :: b, [] => by simp only [dotL, distL]; simp

end Go.Th.Pure
end

section
/- Plain: regions of space. -/
set_option linter.unusedSimpArgs false
set_option linter.unusedVariables false
namespace Go.Th.Pure
open Go

structure Reg where
  shape : Int
  lo : List Int
  hi : List Int
  rad : Int
  ids : List Int

def IdsOk (l : List Int) : Prop := ∀ i, i < l.length → (1 ≤ l.getD i 0 ∧ l.getD i 0 ≤ 1000000000) ∧ (0 < i → l.getD (i - 1) 0 < l.getD i 0)
instance (l : List Int) : Decidable (IdsOk l) := by unfold IdsOk; infer_instance
def LeAll (lo hi : List Int) (n : Nat) : Prop := ∀ i, i < n → lo.getD i 0 ≤ hi.getD i 0
instance (lo hi : List Int) (n : Nat) : Decidable (LeAll lo hi n) := by unfold LeAll; infer_instance
def FormOk (r : Reg) : Prop := (r.shape = 1 ∧ r.lo.length = 0 ∧ r.hi.length = 0 ∧ r.rad = 0) ∨ (r.shape = 2 ∧ r.rad = 0) ∨ (r.shape = 3 ∧ r.hi.length = 0)
instance (r : Reg) : Decidable (FormOk r) := by unfold FormOk; infer_instance

def errReg (r : Reg) (d : Int) : Int :=
  if d < 1 ∨ 64 < d then 30 else if ¬ (FormOk r ∧ IdsOk r.ids) then 32 else if r.shape = 1 then 0 else if checkV r.lo d ≠ 0 ∨ r.shape = 3 then checkV r.lo d
  else if checkV r.hi d ≠ 0 then checkV r.hi d else if LeAll r.lo r.hi d.toNat then 0 else 32
def errBoth (r : Reg) (v : List Int) : Int := if errReg r v.length ≠ 0 then errReg r v.length else checkV v v.length

def InReg (r : Reg) (v : List Int) : Prop := if r.shape = 2 then ∀ i, i < v.length → r.lo.getD i 0 ≤ v.getD i 0 ∧ v.getD i 0 ≤ r.hi.getD i 0 else if r.shape = 3 then distL r.lo v ≤ r.rad else True
instance (r : Reg) (v : List Int) : Decidable (InReg r v) := by unfold InReg; infer_instance

def clampSq (l h x : Int) : Int := if x < l then (l - x) * (l - x) else if h < x then (x - h) * (x - h) else 0
def nearL : List Int → List Int → List Int → Int
  | l :: lo, h :: hi, x :: q => clampSq l h x + nearL lo hi q
  | _, _, _ => 0
def nearB (s t R : Int) : Int := if (if t * t = R then t else t + 1) < s then (s - (if t * t = R then t else t + 1)) * (s - (if t * t = R then t else t + 1)) else 0
def IsNear (r : Reg) (q : List Int) (n : Int) : Prop := (r.shape = 2 ∧ n = nearL r.lo r.hi q) ∨ (r.shape = 3 ∧ ∃ s t, IsRoot (distL r.lo q) s ∧ IsRoot r.rad t ∧ n = nearB s t r.rad) ∨ (r.shape ≠ 2 ∧ r.shape ≠ 3 ∧ n = 0)
theorem IsNear.unique {r : Reg} {q : List Int} {n m : Int} (h : IsNear r q n) (h' : IsNear r q m) : n = m := by
  rcases h with ⟨a, rfl⟩ | ⟨a, s, t, b1, b2, rfl⟩ | ⟨a, b, rfl⟩ <;> rcases h' with ⟨a', rfl⟩ | ⟨a', s', t', b1', b2', rfl⟩ | ⟨a', b', rfl⟩ <;> first | rfl | omega | skip
  rw [b1.unique b1', b2.unique b2']

theorem nearL_snoc : ∀ {lo hi q : List Int} {j : Nat} (h1 : j < lo.length) (h2 : j < hi.length) (h3 : j < q.length), nearL (lo.take (j + 1)) (hi.take (j + 1)) (q.take (j + 1)) = nearL (lo.take j) (hi.take j) (q.take j) + clampSq lo[j] hi[j] q[j]
  | l :: lo, h :: hi, x :: q, 0, _, _, _ => by simp [nearL]
  | l :: lo, h :: hi, x :: q, j + 1, h1, h2, h3 => by
    have := nearL_snoc (lo := lo) (hi := hi) (q := q) (j := j) (by simpa using h1) (by simpa using h2) (by simpa using h3)
    simp only [List.take_succ_cons, nearL, this, List.getElem_cons_succ]; omega
  | [], _, _, _, h, _, _ => by simp at h
  | _ :: _, [], _, _, _, h, _ => by simp at h
  | _ :: _, _ :: _, [], _, _, _, h => by simp at h
theorem clampSq_le {l h x : Int} (hl : inC l = true) (hh : inC h = true) (hx : inC x = true) : clampSq l h x ≤ 18446744056529682436 := by
  rw [inC_iff] at hl hh hx
  unfold clampSq; split
  · exact sq_le (by omega) (by omega)
  · split
    · exact sq_le (by omega) (by omega)
    · omega
theorem nearL_le : ∀ {lo hi q : List Int}, (∀ x ∈ lo, inC x = true) → (∀ x ∈ hi, inC x = true) → (∀ x ∈ q, inC x = true) → nearL lo hi q ≤ q.length * 18446744056529682436
  | l :: lo, h :: hi, x :: q, h1, h2, h3 => by
    have := nearL_le (lo := lo) (hi := hi) (q := q) (fun x hx => h1 x (by simp [hx])) (fun x hx => h2 x (by simp [hx])) (fun x hx => h3 x (by simp [hx]))
    have := clampSq_le (h1 l (by simp)) (h2 h (by simp)) (h3 x (by simp))
    simp only [nearL, List.length_cons]; omega
  | [], _, _, _, _, _ => by simp only [nearL]; omega
  | _ :: _, [], _, _, _, _ => by simp only [nearL]; omega
  | _ :: _, _ :: _, [], _, _, _ => by simp [nearL]

/-- What the program reckons is what the document says. -/
theorem clampSq_min {l h x : Int} (hlh : l ≤ h) : (x - goMin (goMax x l) h) * (x - goMin (goMax x l) h) = clampSq l h x := by
  unfold clampSq goMin goMax
  by_cases h1 : x < l
  · rw [if_pos h1, if_pos h1]
    rw [if_neg (by omega)]
    have : x - l = -(l - x) := by omega
    rw [this, Int.neg_mul_neg]
  · rw [if_neg h1, if_neg h1]
    by_cases h2 : h < x
    · rw [if_pos h2, if_pos h2]
    · rw [if_neg h2, if_neg h2]; simp

theorem errReg_zero {r : Reg} {d : Int} (h : errReg r d = 0) : 1 ≤ d ∧ d ≤ 64 ∧ FormOk r ∧ IdsOk r.ids ∧
    (r.shape = 3 → (r.lo.length : Int) = d ∧ ∀ x ∈ r.lo, inC x = true) ∧ (r.shape = 2 → (r.lo.length : Int) = d ∧ (r.hi.length : Int) = d ∧ (∀ x ∈ r.lo, inC x = true) ∧ (∀ x ∈ r.hi, inC x = true) ∧ LeAll r.lo r.hi d.toNat) := by
  unfold errReg at h
  split at h
  · omega
  · rename_i h1
    split at h
    · omega
    · rename_i h2
      have h2 : FormOk r ∧ IdsOk r.ids := Decidable.of_not_not h2
      refine ⟨by omega, by omega, h2.1, h2.2, fun h3 => ?_, fun h3 => ?_⟩
      · rw [if_neg (by omega), if_pos (.inr h3)] at h
        obtain ⟨_, _, a, b⟩ := checkV_ok h
        exact ⟨a, b⟩
      · rw [if_neg (by omega)] at h
        split at h
        · rename_i h4
          rcases h4 with h4 | h4
          · exact absurd h h4
          · omega
        · rename_i h4
          have h5 : checkV r.lo d = 0 := by omega
          split at h
          · omega
          · rename_i h6
            have h6 : checkV r.hi d = 0 := by omega
            split at h
            · rename_i h7
              obtain ⟨_, _, a, b⟩ := checkV_ok h5
              obtain ⟨_, _, a', b'⟩ := checkV_ok h6
              exact ⟨a, a', b, b', h7⟩
            · omega
theorem errBoth_zero {r : Reg} {v : List Int} (h : errBoth r v = 0) : errReg r v.length = 0 ∧ checkV v v.length = 0 := by
  unfold errBoth at h
  split at h
  · omega
  · exact ⟨by omega, h⟩

/-! ## whatever lies in a region is at least as far away as the bound -/
theorem nearL_dist : ∀ {lo hi v q : List Int}, lo.length = v.length → hi.length = v.length → q.length = v.length → (∀ i, i < v.length → lo.getD i 0 ≤ v.getD i 0 ∧ v.getD i 0 ≤ hi.getD i 0) → nearL lo hi q ≤ distL v q
  | [], [], [], [], _, _, _, _ => by simp [nearL, distL]
  | l :: lo, h :: hi, x :: v, y :: q, h1, h2, h3, hin => by
    have ih := nearL_dist (lo := lo) (hi := hi) (v := v) (q := q) (by simpa using h1) (by simpa using h2) (by simpa using h3) fun i hi' => by
      have := hin (i + 1) (by simp; omega)
      simpa using this
    have h0 := hin 0 (by simp)
    simp at h0
    have : clampSq l h y ≤ (x - y) * (x - y) := by
      unfold clampSq; split
      · have := sq_mono (a := l - y) (b := x - y) (by omega) (by omega); exact this
      · split
        · have := sq_mono (a := y - h) (b := y - x) (by omega) (by omega)
          have e : x - y = -(y - x) := by omega
          rw [e, Int.neg_mul_neg]; exact this
        · exact sq_nonneg _
    simp only [nearL, distL]; omega
  | [], _, _ :: _, _, h, _, _, _ => by simp at h
  | _ :: _, _, [], _, h, _, _, _ => by simp at h
  | _ :: _, [], _ :: _, _, _, h, _, _ => by simp at h
  | [], _ :: _, [], _, _, h, _, _ => by simp at h
  | [], [], [], _ :: _, _, _, h, _ => by simp at h
  | _ :: _, _ :: _, _ :: _, [], _, _, h, _ => by simp at h

theorem way_le {x y d r s : Int} (hx : 0 ≤ x) (hy : 0 ≤ y) (hr : 0 ≤ r) (hs : 0 ≤ s) (h1 : x < r * r) (h2 : y ≤ s * s) (hd : d * d ≤ x * y) : x + y + 2 * d < (r + s) * (r + s) := by
  have hrs : 0 ≤ r * s := Int.mul_nonneg hr hs
  have h3 : d ≤ r * s := by
    rcases Int.lt_or_le (r * s) d with h3 | h3
    · exfalso
      have h4 : (r * s) * (r * s) < d * d := by
        have := Int.mul_lt_mul' (a := r * s) (b := r * s) (c := d) (d := d) (by omega) h3 hrs (by omega)
        exact this
      have h5 : x * y ≤ (r * r) * (s * s) := Int.mul_le_mul (by omega) h2 hy (sq_nonneg r)
      grind
    · exact h3
  grind

theorem near_le {r : Reg} {v q : List Int} {n : Int} (he : errBoth r v = 0) (he' : errBoth r q = 0) (hl : q.length = v.length) (hin : InReg r v) (hn : IsNear r q n) : n ≤ distL v q := by
  obtain ⟨e1, e2⟩ := errBoth_zero he
  obtain ⟨e1', e2'⟩ := errBoth_zero he'
  obtain ⟨d1, d2, hf, _, h3, h2⟩ := errReg_zero e1
  rcases hn with ⟨hs, rfl⟩ | ⟨hs, s, t, hrs, hrt, rfl⟩ | ⟨_, _, rfl⟩
  · obtain ⟨a1, a2, _, _, _⟩ := h2 hs
    rw [InReg, if_pos hs] at hin
    exact nearL_dist (by omega) (by omega) hl hin
  · obtain ⟨a1, _⟩ := h3 hs
    rw [InReg, if_neg (by omega), if_pos hs] at hin
    have hlo : r.lo.length = v.length := by omega
    unfold nearB
    generalize hT : (if t * t = r.rad then t else t + 1) = T
    have hTR : r.rad ≤ T * T ∧ 0 ≤ T := by
      obtain ⟨b0, b1, b2⟩ := hrt
      rw [← hT]; split
      · omega
      · omega
    split
    · rename_i hlt
      rcases Int.lt_or_le (distL v q) ((s - T) * (s - T)) with h5 | h5
      · exfalso
        have hw := way_le (x := distL v q) (y := distL r.lo v) (d := dotL r.lo v q) (r := s - T) (s := T) (distL_nonneg _ _) (distL_nonneg _ _) (by omega) hTR.2 h5 (by omega) (by
          have := dotL_sq r.lo v q
          rw [Int.mul_comm (distL v q)]; exact this)
        have := distL_way (a := r.lo) (b := v) (c := q) hlo hl.symm
        obtain ⟨b0, b1, b2⟩ := hrs
        have e : s - T + T = s := by omega
        rw [e] at hw
        omega
      · exact h5
    · exact distL_nonneg _ _
  · exact distL_nonneg _ _

end Go.Th.Pure
end

section
/- Plain: numbers in order; the least box and the ball of rows. -/
set_option linter.unusedSimpArgs false
set_option linter.unusedVariables false
namespace Go.Th.Pure
open Go Go.Th

/-! ## the least box -/
def colMin (rs : List Row) (j : Nat) (x : Int) : Int := rs.foldl (fun m r => goMin m (r.2.getD j 0)) x
def colMax (rs : List Row) (j : Nat) (x : Int) : Int := rs.foldl (fun m r => goMax m (r.2.getD j 0)) x
def firstC (rs : List Row) (j : Nat) : Int := match rs with
  | [] => 0
  | r :: _ => r.2.getD j 0
def boxLo (rs : List Row) (d : Nat) : List Int := (List.range d).map fun j => colMin rs j (firstC rs j)
def boxHi (rs : List Row) (d : Nat) : List Int := (List.range d).map fun j => colMax rs j (firstC rs j)
theorem boxLo_len (rs : List Row) (d : Nat) : (boxLo rs d).length = d := by simp [boxLo]
theorem boxHi_len (rs : List Row) (d : Nat) : (boxHi rs d).length = d := by simp [boxHi]
theorem boxLo_get {rs : List Row} {d j : Nat} (h : j < d) : (boxLo rs d).getD j 0 = colMin rs j (firstC rs j) := by simp [boxLo, h]
theorem boxHi_get {rs : List Row} {d j : Nat} (h : j < d) : (boxHi rs d).getD j 0 = colMax rs j (firstC rs j) := by simp [boxHi, h]
theorem rowsErr_nodup : ∀ {rs : List Row} {seen : List Int} {d : Int}, rowsErr seen rs d = 0 → (∀ r ∈ rs, r.1 ∉ seen) ∧ (rs.map (·.1)).Nodup
  | [], _, _, _ => ⟨by simp, List.nodup_nil⟩
  | r :: rs, seen, d, h => by
    simp only [rowsErr] at h
    split at h
    · omega
    · rename_i h1
      split at h
      · omega
      · obtain ⟨a, b⟩ := rowsErr_nodup h
        have h1' := not_or.mp h1
        refine ⟨fun q hq => ?_, ?_⟩
        · rcases List.mem_cons.mp hq with rfl | hq
          · exact h1'.2
          · exact fun hs => a q hq (List.mem_cons_of_mem _ hs)
        · rw [List.map_cons, List.nodup_cons]
          refine ⟨fun hm => ?_, b⟩
          obtain ⟨q, hq, he⟩ := List.mem_map.mp hm
          exact a q hq (by rw [he]; exact List.mem_cons_self)
end Go.Th.Pure
end
