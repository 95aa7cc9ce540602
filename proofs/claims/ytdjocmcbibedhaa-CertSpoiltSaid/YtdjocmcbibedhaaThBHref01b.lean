/- What the row of one statement stands on: a store, abstract code, functions of the program and their laws (ThHref01, ThHref01b). -/
import Derived.Test.YtdjocmcbibedhaaThBHvec1
import Derived.Test.YtdjocmcbibedhaaThBPdig
import Derived.Test.YtdjocmcbibedhaaThBGref13

section
/- The document's numbers of 128 bits: eight digits. -/
set_option linter.unusedSimpArgs false
set_option linter.unusedVariables false
namespace Go.Th.L
open Go Go.Th Go.Th.Pure
variable {P : Program} {N : Nat → Nat}

abbrev numC (l : List Int) (o : Bool) : List V := l.map (V.int .i64) ++ [.bool o]
abbrev numV (l : List Int) (o : Bool) : V := .agg (numC l o)
theorem numC_len {l : List Int} (h : l.length = 8) (o : Bool) : (numC l o).length = 9 := by simp [h]
theorem numC_get {l : List Int} {o : Bool} {j : Nat} (h : j < l.length) : (numC l o)[j]? = some (.int .i64 l[j]) := by
  rw [List.getElem?_append_left (by simpa using h)]; simp [h]
/-- A block that holds a number. -/
def NumAt (S : St) (i : Nat) (l : List Int) (o : Bool) : Prop := S.get i = some (.cells (numC l o) true)
theorem NumAt.ld {S : St} {i : Nat} {l : List Int} {o : Bool} (h : NumAt S i l o) {j : Nat} (hj : j < l.length) : loadV S (.ptr i j) = some (.int .i64 l[j]) := Go.Th.ld h (numC_get hj)
theorem NumAt.ldN {S : St} {i : Nat} {l : List Int} {o : Bool} (h : NumAt S i l o) (hl : l.length = 8) : loadNV S 9 (.ptr i 0) = some (numV l o) :=
  Go.Th.ldN h (by rw [numC_len hl]; omega) (by rw [List.drop_zero, ← numC_len hl o, List.take_length])
theorem NumAt.ldC {S : St} {i : Nat} {l : List Int} {o : Bool} (h : NumAt S i l o) (hl : l.length = 8) : cellNV S 9 (.ptr i 0) = some (numV l o) :=
  Go.Th.ldC h (by rw [numC_len hl]; omega) (by rw [List.drop_zero, ← numC_len hl o, List.take_length])
theorem NumAt.upd {D : List Nat} {S S' : St} {i : Nat} {l : List Int} {o : Bool} (h : NumAt S i l o) (u : Upd D S S') (hD : i ∉ D) : NumAt S' i l o := u.get h hD
theorem NumAt.grow {S S' : St} {i : Nat} {l : List Int} {o : Bool} (h : NumAt S i l o) (u : Grow S S') : NumAt S' i l o := u.get h
end Go.Th.L
end

section
/- The document's numbers of 128 bits: sums, products, comparing, roots; wide's root. -/
set_option linter.unusedSimpArgs false
set_option linter.unusedVariables false
namespace Go.Th.Pure
open Go

end Go.Th.Pure
namespace Go.Th.L
open Go Go.Th Go.Th.Pure
variable {P : Program} {N : Nat → Nat}

theorem mul_lt {x y : Int} (h1 : 0 ≤ x) (h2 : x < 18446744073709551616) (h3 : 0 ≤ y) (h4 : y < 18446744073709551616) : 0 ≤ x * y ∧ x * y ≤ 340282366920938463426481119284349108225 :=
  ⟨Int.mul_nonneg h1 h3, by have := Int.mul_le_mul (a := x) (b := y) (c := 18446744073709551615) (d := 18446744073709551615) (by omega) (by omega) h3 (by omega); omega⟩
/-! ## wide's root -/
theorem start64 {n : Int} (h : n < 340282366920938463463374607431768211456) : n < ((0 + 2 ^ (63 + 1) : Nat) : Int) * ((0 + 2 ^ (63 + 1) : Nat) : Int) := by
  have : (((0 + 2 ^ (63 + 1) : Nat)) : Int) = 18446744073709551616 := by decide
  rw [this]; omega
def wide_Sqrt.Spec (P : Program) (N : Nat → Nat) : Prop := ∀ (a b : Int) (S : St) (K : Int → St → Prop), Wok a b → (∀ r, IsRoot (wN a b) r → r < 18446744073709551616 → K r S) → CallA P (N Fn.wide_Sqrt) [wV a b] S (retT [.one (.int .u64)] K)
theorem wide_Sqrt.spec (hF : wide_Sqrt.Ok P N) (hM : wide_Mul.Spec P N) (hC : wide_Cmp.Spec P N) : wide_Sqrt.Spec P N := by
  intro a b S K h1 hk
  refine CallA.gcT (ds := [.one (.int .u64)]) rfl (CallA.wfT fun hw => ?_)
  have hr := wN_range h1
  refine wide_Sqrt.run hF (newS_mk hw fun S1 g1 m1 n1 => ?_)
  refine Loop2.ind (fun q x y S' => S' = S1 ∧ ∃ (r k : Nat), x = r ∧ y = ((2 ^ k : Nat) : Int) ∧ q = k ∧ k < 64 ∧ r % 2 ^ (k + 1) = 0 ∧ r + 2 ^ (k + 1) ≤ 18446744073709551616 ∧ (r : Int) * r ≤ wN a b ∧ wN a b < ((r + 2 ^ (k + 1) : Nat) : Int) * ((r + 2 ^ (k + 1) : Nat) : Int)) 63 ⟨rfl, 0, 63, rfl, rfl, rfl, by omega, by omega, by omega, by omega, start64 hr.2⟩ ?_
  rintro k _ _ S2 ⟨rfl, r, _, rfl, rfl, rfl, hk64, hrm, hrl, hrn, hnr⟩
  have hp2 : 2 ^ (k + 1) = 2 ^ k + 2 ^ k := by rw [Nat.pow_succ]; omega
  have hp0 : 1 ≤ 2 ^ k := Nat.two_pow_pos k
  refine Join1.mid (fun x S' => S' = S2 ∧ ∃ r' : Nat, x = r' ∧ r' % 2 ^ k = 0 ∧ r' + 2 ^ k ≤ 18446744073709551616 ∧ (r' : Int) * r' ≤ wN a b ∧ wN a b < ((r' + 2 ^ k : Nat) : Int) * ((r' + 2 ^ k : Nat) : Int)) ?_ ?_
  · refine setI_mk (or_bit hk64 hrm (by omega)) ⟨_, _, ldN m1 (by simp) rfl, hM _ _ _ _ (by omega) (by omega) (by omega) (by omega) ⟨Same.refl _ _, hC _ _ _ _ _ _ ?_⟩⟩
    have hml := mul_lt (x := ((r + 2 ^ k : Nat) : Int)) (y := ((r + 2 ^ k : Nat) : Int)) (by omega) (by omega) (by omega) (by omega)
    rw [cmpW_num (wok_of hml.1 (by omega)) h1, wN_of]
    have hmod : r % 2 ^ k = 0 := by
      have : 2 ^ k ∣ 2 ^ (k + 1) := Nat.pow_dvd_pow 2 (by omega)
      exact Nat.mod_eq_zero_of_dvd (Nat.dvd_trans this (Nat.dvd_of_mod_eq_zero hrm))
    refine ifC_dec (fun h3 => ⟨rfl, r + 2 ^ k, rfl, by rw [Nat.add_mod_right]; exact hmod, by omega, ?_, by rw [Nat.add_assoc, ← hp2]; exact hnr⟩) (fun h3 => ⟨rfl, r, rfl, hmod, by omega, hrn, ?_⟩)
    · rcases Int.lt_or_le (wN a b) (((r + 2 ^ k : Nat) : Int) * ((r + 2 ^ k : Nat) : Int)) with h4 | h4
      · rw [if_neg (by omega), if_neg (by omega)] at h3; omega
      · exact h4
    · rcases Int.lt_or_le (wN a b) (((r + 2 ^ k : Nat) : Int) * ((r + 2 ^ k : Nat) : Int)) with h4 | h4
      · exact h4
      · exfalso; apply h3; split
        · omega
        · rw [if_pos (by omega)]; omega
  · rintro _ S3 ⟨rfl, r', rfl, hm', hl', hn', hnr'⟩
    refine ifC_dec (fun h3 => ?_) (fun h3 => ⟨by decide, ?_⟩)
    · have h3 : 2 ^ k = 1 := by omega
      rw [h3] at hnr'
      have e1 : ((r' + 1 : Nat) : Int) = (r' : Int) + 1 := by omega
      rw [e1] at hnr'
      exact hk _ ⟨by omega, hn', hnr'⟩ (by omega)
    · obtain ⟨j, rfl⟩ : ∃ j, k = j + 1 := ⟨k - 1, by
        have : k ≠ 0 := fun h0 => h3 (by rw [h0]; rfl)
        omega⟩
      have hj2 : 2 ^ (j + 1) = 2 ^ j * 2 := Nat.pow_succ _ _
      refine setI_mk (n := ((2 ^ j : Nat) : Int)) (by rw [shr1]; omega) ⟨j, by omega, rfl, r', j, rfl, rfl, rfl, by omega, hm', hl', hn', hnr'⟩

end Go.Th.L
end
