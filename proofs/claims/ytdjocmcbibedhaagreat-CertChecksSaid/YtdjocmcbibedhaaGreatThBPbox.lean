/- What the row of one statement stands on: a store, abstract code, functions of the program and their laws (ThHlaw03, ThPreg, ThPbox). -/
import Derived.Test.YtdjocmcbibedhaaGreatThBHref01b
import Derived.Test.YtdjocmcbibedhaaGreatThBHcmp
import Derived.Test.YtdjocmcbibedhaaGreatThBGslicesInt

section
/- The laws of layer 3: distances. -/
set_option linter.unusedSimpArgs false
set_option linter.unusedVariables false
namespace Go.Th.Pure
open Go

def moveBy (by_ : List Int) (i : Nat) : Int := match by_[i]? with
  | some n => if -4294967294 < n ∧ n < 4294967294 then n else 0
  | none => 0
def moved (by_ : List Int) : Nat → List Int → List Int
  | _, [] => []
  | i, x :: a => (x + moveBy by_ i) :: moved by_ (i + 1) a
end Go.Th.Pure
end

section
/- Plain: regions of space. -/
set_option linter.unusedSimpArgs false
set_option linter.unusedVariables false
namespace Go.Th.Pure
open Go

structure Reg where
  shape : Int
  lo : List Int
  hi : List Int
  rad : Int
  ids : List Int

def IdsOk (l : List Int) : Prop := ∀ i, i < l.length → (1 ≤ l.getD i 0 ∧ l.getD i 0 ≤ 1000000000) ∧ (0 < i → l.getD (i - 1) 0 < l.getD i 0)
instance (l : List Int) : Decidable (IdsOk l) := by unfold IdsOk; infer_instance
def LeAll (lo hi : List Int) (n : Nat) : Prop := ∀ i, i < n → lo.getD i 0 ≤ hi.getD i 0
instance (lo hi : List Int) (n : Nat) : Decidable (LeAll lo hi n) := by unfold LeAll; infer_instance
def FormOk (r : Reg) : Prop := (r.shape = 1 ∧ r.lo.length = 0 ∧ r.hi.length = 0 ∧ r.rad = 0) ∨ (r.shape = 2 ∧ r.rad = 0) ∨ (r.shape = 3 ∧ r.hi.length = 0)
instance (r : Reg) : Decidable (FormOk r) := by unfold FormOk; infer_instance

def errReg (r : Reg) (d : Int) : Int :=
  if d < 1 ∨ 64 < d then 30 else if ¬ (FormOk r ∧ IdsOk r.ids) then 32 else if r.shape = 1 then 0 else if checkV r.lo d ≠ 0 ∨ r.shape = 3 then checkV r.lo d
  else if checkV r.hi d ≠ 0 then checkV r.hi d else if LeAll r.lo r.hi d.toNat then 0 else 32
def errBoth (r : Reg) (v : List Int) : Int := if errReg r v.length ≠ 0 then errReg r v.length else checkV v v.length

def InReg (r : Reg) (v : List Int) : Prop := if r.shape = 2 then ∀ i, i < v.length → r.lo.getD i 0 ≤ v.getD i 0 ∧ v.getD i 0 ≤ r.hi.getD i 0 else if r.shape = 3 then distL r.lo v ≤ r.rad else True
instance (r : Reg) (v : List Int) : Decidable (InReg r v) := by unfold InReg; infer_instance

def clampSq (l h x : Int) : Int := if x < l then (l - x) * (l - x) else if h < x then (x - h) * (x - h) else 0
def nearL : List Int → List Int → List Int → Int
  | l :: lo, h :: hi, x :: q => clampSq l h x + nearL lo hi q
  | _, _, _ => 0
def nearB (s t R : Int) : Int := if (if t * t = R then t else t + 1) < s then (s - (if t * t = R then t else t + 1)) * (s - (if t * t = R then t else t + 1)) else 0
def IsNear (r : Reg) (q : List Int) (n : Int) : Prop := (r.shape = 2 ∧ n = nearL r.lo r.hi q) ∨ (r.shape = 3 ∧ ∃ s t, IsRoot (distL r.lo q) s ∧ IsRoot r.rad t ∧ n = nearB s t r.rad) ∨ (r.shape ≠ 2 ∧ r.shape ≠ 3 ∧ n = 0)
theorem IsNear.unique {r : Reg} {q : List Int} {n m : Int} (h : IsNear r q n) (h' : IsNear r q m) : n = m := by
  rcases h with ⟨a, rfl⟩ | ⟨a, s, t, b1, b2, rfl⟩ | ⟨a, b, rfl⟩ <;> rcases h' with ⟨a', rfl⟩ | ⟨a', s', t', b1', b2', rfl⟩ | ⟨a', b', rfl⟩ <;> first | rfl | omega | skip
  rw [b1.unique b1', b2.unique b2']

theorem nearL_snoc : ∀ {lo hi q : List Int} {j : Nat} (h1 : j < lo.length) (h2 : j < hi.length) (h3 : j < q.length), nearL (lo.take (j + 1)) (hi.take (j + 1)) (q.take (j + 1)) = nearL (lo.take j) (hi.take j) (q.take j) + clampSq lo[j] hi[j] q[j]
  | l :: lo, h :: hi, x :: q, 0, _, _, _ => by simp [nearL]
  | l :: lo, h :: hi, x :: q, j + 1, h1, h2, h3 => by
    have := nearL_snoc (lo := lo) (hi := hi) (q := q) (j := j) (by simpa using h1) (by simpa using h2) (by simpa using h3)
    simp only [List.take_succ_cons, nearL, this, List.getElem_cons_succ]; omega
  | [], _, _, _, h, _, _ => by simp at h
  | _ :: _, [], _, _, _, h, _ => by simp at h
  | _ :: _, _ :: _, [], _, _, _, h => by simp at h
theorem clampSq_nonneg (l h x : Int) : 0 ≤ clampSq l h x := by
  unfold clampSq; split
  · exact sq_nonneg _
  · split
    · exact sq_nonneg _
    · omega
theorem nearL_nonneg : ∀ (lo hi q : List Int), 0 ≤ nearL lo hi q
  | l :: lo, h :: hi, x :: q => by
    have := nearL_nonneg lo hi q
    have := clampSq_nonneg l h x
    simp only [nearL]; omega
  | [], _, _ => by simp [nearL]
  | _ :: _, [], _ => by simp [nearL]
  | _ :: _, _ :: _, [] => by simp [nearL]
theorem clampSq_le {l h x : Int} (hl : inC l = true) (hh : inC h = true) (hx : inC x = true) : clampSq l h x ≤ 18446744056529682436 := by
  rw [inC_iff] at hl hh hx
  unfold clampSq; split
  · exact sq_le (by omega) (by omega)
  · split
    · exact sq_le (by omega) (by omega)
    · omega
theorem nearL_le : ∀ {lo hi q : List Int}, (∀ x ∈ lo, inC x = true) → (∀ x ∈ hi, inC x = true) → (∀ x ∈ q, inC x = true) → nearL lo hi q ≤ q.length * 18446744056529682436
  | l :: lo, h :: hi, x :: q, h1, h2, h3 => by
    have := nearL_le (lo := lo) (hi := hi) (q := q) (fun x hx => h1 x (by simp [hx])) (fun x hx => h2 x (by simp [hx])) (fun x hx => h3 x (by simp [hx]))
    have := clampSq_le (h1 l (by simp)) (h2 h (by simp)) (h3 x (by simp))
    simp only [nearL, List.length_cons]; omega
  | [], _, _, _, _, _ => by simp only [nearL]; omega
  | _ :: _, [], _, _, _, _ => by simp only [nearL]; omega
  | _ :: _, _ :: _, [], _, _, _ => by simp [nearL]

theorem clampSq_min {l h x : Int} (hlh : l ≤ h) : (x - goMin (goMax x l) h) * (x - goMin (goMax x l) h) = clampSq l h x := by
  unfold clampSq goMin goMax
  by_cases h1 : x < l
  · rw [if_pos h1, if_pos h1]
    rw [if_neg (by omega)]
    have : x - l = -(l - x) := by omega
    rw [this, Int.neg_mul_neg]
  · rw [if_neg h1, if_neg h1]
    by_cases h2 : h < x
    · rw [if_pos h2, if_pos h2]
    · rw [if_neg h2, if_neg h2]; simp

theorem errReg_zero {r : Reg} {d : Int} (h : errReg r d = 0) : 1 ≤ d ∧ d ≤ 64 ∧ FormOk r ∧ IdsOk r.ids ∧
    (r.shape = 3 → (r.lo.length : Int) = d ∧ ∀ x ∈ r.lo, inC x = true) ∧ (r.shape = 2 → (r.lo.length : Int) = d ∧ (r.hi.length : Int) = d ∧ (∀ x ∈ r.lo, inC x = true) ∧ (∀ x ∈ r.hi, inC x = true) ∧ LeAll r.lo r.hi d.toNat) := by
  unfold errReg at h
  split at h
  · omega
  · rename_i h1
    split at h
    · omega
    · rename_i h2
      have h2 : FormOk r ∧ IdsOk r.ids := Decidable.of_not_not h2
      refine ⟨by omega, by omega, h2.1, h2.2, fun h3 => ?_, fun h3 => ?_⟩
      · rw [if_neg (by omega), if_pos (.inr h3)] at h
        obtain ⟨_, _, a, b⟩ := checkV_ok h
        exact ⟨a, b⟩
      · rw [if_neg (by omega)] at h
        split at h
        · rename_i h4
          rcases h4 with h4 | h4
          · exact absurd h h4
          · omega
        · rename_i h4
          have h5 : checkV r.lo d = 0 := by omega
          split at h
          · omega
          · rename_i h6
            have h6 : checkV r.hi d = 0 := by omega
            split at h
            · rename_i h7
              obtain ⟨_, _, a, b⟩ := checkV_ok h5
              obtain ⟨_, _, a', b'⟩ := checkV_ok h6
              exact ⟨a, a', b, b', h7⟩
            · omega
theorem errBoth_zero {r : Reg} {v : List Int} (h : errBoth r v = 0) : errReg r v.length = 0 ∧ checkV v v.length = 0 := by
  unfold errBoth at h
  split at h
  · omega
  · exact ⟨by omega, h⟩

end Go.Th.Pure
end

section
/- Plain: numbers in order; the least box and the ball of rows. -/
set_option linter.unusedSimpArgs false
set_option linter.unusedVariables false
namespace Go.Th.Pure
open Go Go.Th

def SrtI (l : List Int) : Prop := l.Pairwise (· ≤ ·)
def insI (x : Int) : List Int → List Int
  | [] => [x]
  | y :: l => if y < x then y :: insI x l else x :: y :: l
theorem insI_perm (x : Int) : ∀ l, (insI x l).Perm (x :: l)
  | [] => .refl _
  | y :: l => by
    unfold insI; split
    · exact ((insI_perm x l).cons y).trans (.swap x y l)
    · exact .refl _
theorem insI_srt (x : Int) : ∀ l, SrtI l → SrtI (insI x l)
  | [], _ => by simp [insI, SrtI]
  | y :: l, h => by
    have h' := List.pairwise_cons.mp h
    unfold insI; split
    · refine List.pairwise_cons.mpr ⟨fun a ha => ?_, insI_srt x l h'.2⟩
      rcases List.mem_cons.mp ((insI_perm x l).mem_iff.mp ha) with rfl | ha
      · omega
      · exact h'.1 a ha
    · refine List.pairwise_cons.mpr ⟨fun a ha => ?_, h⟩
      rcases List.mem_cons.mp ha with rfl | ha
      · omega
      · have := h'.1 a ha; omega
theorem srtI_unique : ∀ {l m : List Int}, l.Perm m → SrtI l → SrtI m → l = m
  | [], m, h, _, _ => (List.nil_perm.mp h).symm
  | a :: l, [], h, _, _ => by simp at h
  | a :: l, b :: m, h, h1, h2 => by
    have h1' := List.pairwise_cons.mp h1
    have h2' := List.pairwise_cons.mp h2
    have hab : a = b := by
      rcases List.mem_cons.mp (h.mem_iff.mp (List.mem_cons_self)) with e | ha
      · exact e
      · rcases List.mem_cons.mp (h.mem_iff.mpr (List.mem_cons_self (a := b) (l := m))) with e | hb
        · exact e.symm
        · have := h2'.1 a ha; have := h1'.1 b hb; omega
    subst hab
    rw [srtI_unique (h.cons_inv) h1'.2 h2'.2]
def sortI (l : List Int) : List Int := l.foldl (fun a x => insI x a) []
theorem foldI_perm : ∀ (l a : List Int), (l.foldl (fun a x => insI x a) a).Perm (a ++ l)
  | [], a => by simp
  | x :: l, a => by
    refine (foldI_perm l _).trans ?_
    refine (((insI_perm x a)).append_right l).trans ?_
    simpa using (List.perm_middle (a := x) (l₁ := a) (l₂ := l)).symm
theorem foldI_srt : ∀ (l a : List Int), SrtI a → SrtI (l.foldl (fun a x => insI x a) a)
  | [], a, h => h
  | x :: l, a, h => foldI_srt l _ (insI_srt x a h)
theorem sortI_perm (l : List Int) : (sortI l).Perm l := by simpa [sortI] using foldI_perm l []
theorem sortI_srt (l : List Int) : SrtI (sortI l) := foldI_srt l [] List.Pairwise.nil
theorem sortI_length (l : List Int) : (sortI l).length = l.length := (sortI_perm l).length_eq
theorem sortI_snoc (l : List Int) (x : Int) : sortI (l ++ [x]) = insI x (sortI l) := by simp [sortI]
theorem insI_split (x : Int) (l : List Int) {p : Nat} (hp : p ≤ l.length) (h1 : ∀ j (h : j < l.length), j < p → l[j] < x) (h2 : ∀ h : p < l.length, ¬ l[p] < x) : l.take p ++ [x] ++ l.drop p = insI x l := by
  induction l generalizing p with
  | nil => simp [insI]
  | cons y l ih =>
    cases p with
    | zero =>
      have := h2 (by simp)
      simp only [List.getElem_cons_zero] at this
      simp [insI, this]
    | succ p =>
      have h3 := h1 0 (by simp) (by omega)
      simp only [List.getElem_cons_zero] at h3
      have := ih (p := p) (by simpa using hp) (fun j h hj => by have := h1 (j + 1) (by simpa using h) (by omega); rwa [List.getElem_cons_succ] at this) (fun h => by have := h2 (by simpa using h); rwa [List.getElem_cons_succ] at this)
      simp only [List.take_succ_cons, List.drop_succ_cons, List.cons_append]
      rw [this]; simp [insI, h3]

def colMin (rs : List Row) (j : Nat) (x : Int) : Int := rs.foldl (fun m r => goMin m (r.2.getD j 0)) x
def colMax (rs : List Row) (j : Nat) (x : Int) : Int := rs.foldl (fun m r => goMax m (r.2.getD j 0)) x
def firstC (rs : List Row) (j : Nat) : Int := match rs with
  | [] => 0
  | r :: _ => r.2.getD j 0
def boxLo (rs : List Row) (d : Nat) : List Int := (List.range d).map fun j => colMin rs j (firstC rs j)
def boxHi (rs : List Row) (d : Nat) : List Int := (List.range d).map fun j => colMax rs j (firstC rs j)
def idsR (rs : List Row) : List Int := sortI (rs.map (·.1))
theorem boxLo_len (rs : List Row) (d : Nat) : (boxLo rs d).length = d := by simp [boxLo]
theorem boxHi_len (rs : List Row) (d : Nat) : (boxHi rs d).length = d := by simp [boxHi]
theorem boxLo_get {rs : List Row} {d j : Nat} (h : j < d) : (boxLo rs d).getD j 0 = colMin rs j (firstC rs j) := by simp [boxLo, h]
theorem boxHi_get {rs : List Row} {d j : Nat} (h : j < d) : (boxHi rs d).getD j 0 = colMax rs j (firstC rs j) := by simp [boxHi, h]
theorem rowsErr_nodup : ∀ {rs : List Row} {seen : List Int} {d : Int}, rowsErr seen rs d = 0 → (∀ r ∈ rs, r.1 ∉ seen) ∧ (rs.map (·.1)).Nodup
  | [], _, _, _ => ⟨by simp, List.nodup_nil⟩
  | r :: rs, seen, d, h => by
    simp only [rowsErr] at h
    split at h
    · omega
    · rename_i h1
      split at h
      · omega
      · obtain ⟨a, b⟩ := rowsErr_nodup h
        have h1' := not_or.mp h1
        refine ⟨fun q hq => ?_, ?_⟩
        · rcases List.mem_cons.mp hq with rfl | hq
          · exact h1'.2
          · exact fun hs => a q hq (List.mem_cons_of_mem _ hs)
        · rw [List.map_cons, List.nodup_cons]
          refine ⟨fun hm => ?_, b⟩
          obtain ⟨q, hq, he⟩ := List.mem_map.mp hm
          exact a q hq (by rw [he]; exact List.mem_cons_self)
end Go.Th.Pure
end
