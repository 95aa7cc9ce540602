/- What the row of one statement stands on: a store, abstract code, functions of the program and their laws (ThPnum, ThPdig). -/
import Derived.Test.YtdjocmcbibedhaaGreatThBGslicesInt

section
/- Plain: words of 64 bits, numbers of 128. -/
set_option linter.unusedSimpArgs false
set_option linter.unusedVariables false
namespace Go.Th.Pure
open Go Go.Th

theorem wrapU (x : Int) : IntKind.u64.wrap x = x % 18446744073709551616 := by simp [IntKind.wrap, IntKind.bits, IntKind.signed]
theorem wrapU_id {x : Int} (h : 0 ≤ x) (h' : x < 18446744073709551616) : IntKind.u64.wrap x = x := by rw [wrapU]; omega
theorem wrapI_id {x : Int} (h : -9223372036854775808 ≤ x) (h' : x < 9223372036854775808) : IntKind.i64.wrap x = x := by rw [IntKind.wrap_i64]; omega
theorem shrU (a : Int) (k : Nat) (hk : k ≤ 64) : Int.fdiv a (2 ^ (min (Int.toNat (k : Int)) (IntKind.bits .u64))) = a / 2 ^ k := by
  have : min (Int.toNat (k : Int)) (IntKind.bits .u64) = k := by
    have : IntKind.bits .u64 = 64 := rfl
    omega
  rw [this, Int.fdiv_eq_ediv_of_nonneg _ (Int.le_of_lt (Int.pow_pos (by omega)))]
theorem shr32 (a : Int) : Int.fdiv a (2 ^ (min (Int.toNat (32 : Int)) (IntKind.bits .u64))) = a / 4294967296 := shrU a 32 (by omega)
theorem shr1 (a : Int) : Int.fdiv a (2 ^ (min (Int.toNat (1 : Int)) (IntKind.bits .u64))) = a / 2 := shrU a 1 (by omega)
theorem and32 {a : Int} (h : 0 ≤ a) (h' : a < 18446744073709551616) : intBits .and .u64 a 4294967295 = a % 4294967296 := by
  obtain ⟨n, rfl⟩ := Int.eq_ofNat_of_zero_le h
  have h2 : n &&& 4294967295 < 18446744073709551616 := Nat.lt_of_le_of_lt Nat.and_le_left (by omega)
  show IntKind.u64.wrap ((BitVec.ofInt 64 (n : Int) &&& BitVec.ofInt 64 ((4294967295 : Nat) : Int)).toNat : Int) = _
  rw [ofInt_nat, ofInt_nat, BitVec.toNat_and, BitVec.toNat_ofNat, BitVec.toNat_ofNat]
  rw [Nat.mod_eq_of_lt (show n < 2 ^ 64 by omega), Nat.mod_eq_of_lt (show 4294967295 < 2 ^ 64 by omega), wrapU]
  rw [show (4294967295 : Nat) = 2 ^ 32 - 1 from rfl, Nat.and_two_pow_sub_one_eq_mod]
  omega
theorem or_bit {r k : Nat} (hk : k < 64) (hr : r % 2 ^ (k + 1) = 0) (h' : r + 2 ^ k < 18446744073709551616) : intBits .or .u64 (r : Int) ((2 ^ k : Nat) : Int) = ((r + 2 ^ k : Nat) : Int) := by
  show IntKind.u64.wrap ((BitVec.ofInt 64 (r : Int) ||| BitVec.ofInt 64 ((2 ^ k : Nat) : Int)).toNat : Int) = _
  rw [ofInt_nat, ofInt_nat, BitVec.toNat_or, BitVec.toNat_ofNat, BitVec.toNat_ofNat]
  rw [Nat.mod_eq_of_lt (show r < 2 ^ 64 by omega), Nat.mod_eq_of_lt (show 2 ^ k < 2 ^ 64 by omega), wrapU]
  have h3 : r ||| 2 ^ k = r + 2 ^ k := by
    obtain ⟨q, hq⟩ := Nat.dvd_of_mod_eq_zero hr
    have h4 : 2 ^ k < 2 ^ (k + 1) := Nat.pow_lt_pow_right (by omega) (by omega)
    have := Nat.two_pow_add_eq_or_of_lt h4 q
    rw [hq, ← this]
  rw [h3]; omega

theorem mul_split {x y : Int} (hx : 0 ≤ x) (hx' : x < 18446744073709551616) (hy : 0 ≤ y) (hy' : y < 18446744073709551616) :
    ∃ p q r s : Int, (x % 4294967296) * (y % 4294967296) = p ∧ (x / 4294967296) * (y % 4294967296) = q ∧ (x % 4294967296) * (y / 4294967296) = r ∧ (x / 4294967296) * (y / 4294967296) = s ∧
      0 ≤ p ∧ 0 ≤ q ∧ 0 ≤ r ∧ 0 ≤ s ∧ p ≤ 18446744065119617025 ∧ q ≤ 18446744065119617025 ∧ r ≤ 18446744065119617025 ∧ s ≤ 18446744065119617025 ∧ x * y = s * 18446744073709551616 + (q + r) * 4294967296 + p := by
  have key : ∀ {a b : Int}, 0 ≤ a → a ≤ 4294967295 → 0 ≤ b → b ≤ 4294967295 → 0 ≤ a * b ∧ a * b ≤ 18446744065119617025 := fun {a b} h1 h2 h3 h4 =>
    ⟨Int.mul_nonneg h1 h3, by
      have := Int.mul_le_mul h2 h4 h3 (show (0 : Int) ≤ 4294967295 by omega)
      omega⟩
  have a1 : 0 ≤ x % 4294967296 ∧ x % 4294967296 ≤ 4294967295 := by omega
  have a2 : 0 ≤ x / 4294967296 ∧ x / 4294967296 ≤ 4294967295 := by omega
  have b1 : 0 ≤ y % 4294967296 ∧ y % 4294967296 ≤ 4294967295 := by omega
  have b2 : 0 ≤ y / 4294967296 ∧ y / 4294967296 ≤ 4294967295 := by omega
  refine ⟨_, _, _, _, rfl, rfl, rfl, rfl, (key a1.1 a1.2 b1.1 b1.2).1, (key a2.1 a2.2 b1.1 b1.2).1, (key a1.1 a1.2 b2.1 b2.2).1, (key a2.1 a2.2 b2.1 b2.2).1, (key a1.1 a1.2 b1.1 b1.2).2, (key a2.1 a2.2 b1.1 b1.2).2, (key a1.1 a1.2 b2.1 b2.2).2, (key a2.1 a2.2 b2.1 b2.2).2, ?_⟩
  have ex : x = 4294967296 * (x / 4294967296) + x % 4294967296 := by omega
  have ey : y = 4294967296 * (y / 4294967296) + y % 4294967296 := by omega
  generalize x / 4294967296 = b at *
  generalize x % 4294967296 = a at *
  generalize y / 4294967296 = d at *
  generalize y % 4294967296 = c at *
  subst ex; subst ey
  simp only [Int.add_mul, Int.mul_add]
  have e1 : 4294967296 * b * (4294967296 * d) = b * d * 18446744073709551616 := by
    rw [Int.mul_assoc, Int.mul_left_comm b, ← Int.mul_assoc 4294967296, Int.mul_comm (4294967296 * 4294967296)]; rfl
  have e2 : 4294967296 * b * c = b * c * 4294967296 := by rw [Int.mul_assoc, Int.mul_comm]
  have e3 : a * (4294967296 * d) = a * d * 4294967296 := by rw [Int.mul_left_comm, Int.mul_comm]
  rw [e1, e2, e3]; omega

def wN (h l : Int) : Int := h * 18446744073709551616 + l
structure Wok (h l : Int) : Prop where
  h0 : 0 ≤ h
  h1 : h < 18446744073709551616
  l0 : 0 ≤ l
  l1 : l < 18446744073709551616
theorem wN_range {h l : Int} (w : Wok h l) : 0 ≤ wN h l ∧ wN h l < 340282366920938463463374607431768211456 := by
  obtain ⟨a, b, c, d⟩ := w; unfold wN; omega
theorem wN_hi {h l : Int} (w : Wok h l) : wN h l / 18446744073709551616 = h := by obtain ⟨a, b, c, d⟩ := w; unfold wN; omega
theorem wN_lo {h l : Int} (w : Wok h l) : wN h l % 18446744073709551616 = l := by obtain ⟨a, b, c, d⟩ := w; unfold wN; omega
theorem wok_of {n : Int} (h : 0 ≤ n) (h' : n < 340282366920938463463374607431768211456) : Wok (n / 18446744073709551616) (n % 18446744073709551616) := by constructor <;> omega
theorem wN_of (n : Int) : wN (n / 18446744073709551616) (n % 18446744073709551616) = n := by unfold wN; omega
theorem wN_inj {h l h' l' : Int} (w : Wok h l) (w' : Wok h' l') : wN h l = wN h' l' ↔ h = h' ∧ l = l' := by
  obtain ⟨a, b, c, d⟩ := w; obtain ⟨a', b', c', d'⟩ := w'
  unfold wN; constructor
  · intro e; omega
  · rintro ⟨rfl, rfl⟩; rfl

def IsRoot (n r : Int) : Prop := 0 ≤ r ∧ r * r ≤ n ∧ n < (r + 1) * (r + 1)
theorem sq_mono {a b : Int} (h : 0 ≤ a) (h' : a ≤ b) : a * a ≤ b * b := Int.mul_le_mul h' h' h (by omega)
theorem lt_of_sq_lt {a b : Int} (hb : 0 ≤ b) (h : a * a < b * b) : a < b := by
  rcases Int.lt_or_le a b with h' | h'
  · exact h'
  · have := sq_mono hb h'; omega
theorem IsRoot.unique {n r s : Int} (h : IsRoot n r) (h' : IsRoot n s) : r = s := by
  obtain ⟨a1, a2, a3⟩ := h; obtain ⟨b1, b2, b3⟩ := h'
  have h1 : r < s + 1 := lt_of_sq_lt (by omega) (by omega)
  have h2 : s < r + 1 := lt_of_sq_lt (by omega) (by omega)
  omega

end Go.Th.Pure
end

section
/- Plain: eight digits to the base of 65536. -/
set_option linter.unusedSimpArgs false
set_option linter.unusedVariables false
namespace Go.Th.Pure
open Go Go.Th

def val : List Int → Int
  | [] => 0
  | x :: l => x + 65536 * val l
structure WD (l : List Int) : Prop where
  len : l.length = 8
  dig : ∀ x ∈ l, 0 ≤ x ∧ x < 65536
theorem val_nonneg : ∀ {l : List Int}, (∀ x ∈ l, 0 ≤ x ∧ x < 65536) → 0 ≤ val l
  | [], _ => by simp [val]
  | x :: l, h => by
    have := val_nonneg (l := l) fun y hy => h y (by simp [hy])
    have := h x (by simp)
    simp only [val]; omega
theorem val_lt : ∀ {l : List Int}, (∀ x ∈ l, 0 ≤ x ∧ x < 65536) → val l < 65536 ^ l.length
  | [], _ => by simp [val]
  | x :: l, h => by
    have := val_lt (l := l) fun y hy => h y (by simp [hy])
    have := h x (by simp)
    simp only [val, List.length_cons, Int.pow_succ]; omega
theorem val_set : ∀ {l : List Int} {j : Nat} (h : j < l.length) (x : Int), val (l.set j x) = val l + (x - l[j]) * 65536 ^ j
  | [], j, h, _ => by simp at h
  | a :: l, 0, _, x => by simp [val]; omega
  | a :: l, j + 1, h, x => by
    have := val_set (l := l) (j := j) (by simpa using h) x
    simp only [List.set_cons_succ, val, this, List.getElem_cons_succ, Int.pow_succ]
    generalize (65536 : Int) ^ j = p
    grind
theorem WD.set {l : List Int} (h : WD l) (j : Nat) {x : Int} (h0 : 0 ≤ x) (h1 : x < 65536) : WD (l.set j x) :=
  ⟨by rw [List.length_set]; exact h.len, fun y hy => by
    rcases List.mem_or_eq_of_mem_set hy with hy | rfl
    · exact h.dig y hy
    · exact ⟨h0, h1⟩⟩
theorem WD.get {l : List Int} (h : WD l) {j : Nat} (hj : j < l.length) : 0 ≤ l[j] ∧ l[j] < 65536 := h.dig _ (List.getElem_mem hj)
theorem WD.lt {l : List Int} (h : WD l) : val l < 340282366920938463463374607431768211456 := by
  have := val_lt h.dig
  rw [h.len] at this
  exact this
theorem WD.nonneg {l : List Int} (h : WD l) : 0 ≤ val l := val_nonneg h.dig
theorem len8 {l : List Int} (h : l.length = 8) : ∃ a b c d e f g k, l = [a, b, c, d, e, f, g, k] := by
  match l, h with
  | [a, b, c, d, e, f, g, k], _ => exact ⟨a, b, c, d, e, f, g, k, rfl⟩
theorem val_part {l : List Int} {j : Nat} (h : j < l.length) : val l = val (l.take j) + l[j] * 65536 ^ j + val (l.drop (j + 1)) * 65536 ^ (j + 1) := by
  induction l generalizing j with
  | nil => simp at h
  | cons a l ih =>
    cases j with
    | zero => simp [val]; omega
    | succ j =>
      have := ih (j := j) (by simpa using h)
      simp only [List.take_succ_cons, List.drop_succ_cons, List.getElem_cons_succ, val, this, Int.pow_succ]
      generalize (65536 : Int) ^ j = p
      grind
theorem val_take_lt {l : List Int} (h : ∀ x ∈ l, 0 ≤ x ∧ x < 65536) {j : Nat} (hj : j ≤ l.length) : 0 ≤ val (l.take j) ∧ val (l.take j) < 65536 ^ j := by
  have h' : ∀ x ∈ l.take j, 0 ≤ x ∧ x < 65536 := fun x hx => h x (List.mem_of_mem_take hx)
  refine ⟨val_nonneg h', ?_⟩
  have := val_lt h'
  rwa [List.length_take, Nat.min_eq_left hj] at this

theorem val_cmp {l m : List Int} (hl : WD l) (hm : WD m) {j : Nat} (h1 : j < l.length) (h2 : j < m.length) (he : l.drop (j + 1) = m.drop (j + 1)) (hlt : l[j] < m[j]) : val l < val m := by
  rw [val_part h1, val_part h2, he]
  have a1 := val_take_lt hl.dig (Nat.le_of_lt h1)
  have a2 := val_take_lt hm.dig (Nat.le_of_lt h2)
  have : (l[j] + 1) * 65536 ^ j ≤ m[j] * 65536 ^ j := Int.mul_le_mul_of_nonneg_right (by omega) (by have := Int.pow_pos (n := 65536) (m := j) (by omega); omega)
  rw [Int.add_mul] at this
  omega

theorem carry {v d p : Int} : ((v + d) % 65536 - d) * p + (v + d) / 65536 * (p * 65536) = v * p := by
  have h : (v + d) % 65536 = v + d - 65536 * ((v + d) / 65536) := by omega
  rw [h]
  generalize (v + d) / 65536 = q
  grind

end Go.Th.Pure
end
