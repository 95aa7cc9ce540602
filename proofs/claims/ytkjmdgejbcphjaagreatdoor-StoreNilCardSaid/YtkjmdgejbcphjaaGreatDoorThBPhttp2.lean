/- What the row of one statement stands on: a store, abstract code, functions of the program and their laws (ThPhttp1, ThPhttp2). -/
import Derived.Test.YtkjmdgejbcphjaaGreatDoorThBPdisk3
import Derived.Test.YtkjmdgejbcphjaaGreatDoorThBHmapI
import Derived.Lib.AtoiAllCases
import Derived.Lib.ItoaNum

section
/- Plain: bytes found, texts split, a query's fields. -/
set_option linter.unusedSimpArgs false
set_option linter.unusedVariables false
namespace Go.Th.Pure
open Go

end Go.Th.Pure
end

section
/- Plain: responses printed and read. -/
set_option linter.unusedSimpArgs false
set_option linter.unusedVariables false
namespace Go.Th.Pure
open Go

theorem dig_iff {b : UInt8} : isDig b = true ↔ 48 ≤ b.toNat ∧ b.toNat ≤ 57 := by unfold isDig; exact decide_eq_true_iff
theorem dig_of {d : Nat} (h : d < 10) : (UInt8.ofNat (48 + d)).toNat = 48 + d := by rw [UInt8.toNat_ofNat']; omega
theorem dec_digs (n : Nat) : ∀ b ∈ Lib.decDigits n, isDig b = true := by
  induction n using Nat.strongRecOn with
  | _ n ih =>
    intro b hb
    by_cases h : n < 10
    · rw [dec1 h] at hb
      simp only [List.mem_singleton] at hb
      subst hb
      rw [dig_iff, dig_of (by omega)]; omega
    · rw [dec2 (by omega)] at hb
      rcases List.mem_append.mp hb with hb | hb
      · exact ih (n / 10) (by omega) b hb
      · simp only [List.mem_singleton] at hb
        subst hb
        rw [dig_iff, dig_of (by omega)]; omega
theorem uint_digs (l : Bs) : ∀ (acc k : Nat), (∀ b ∈ l, isDig b = true) → acc < 10 ^ k → k + l.length ≤ 18 → Lib.parseUint10 acc l = .ok (valA acc l) := by
  induction l with
  | nil => intro acc k _ _ _; rfl
  | cons b l ih =>
    intro acc k hd ha hk
    have hb := dig_iff.mp (hd b List.mem_cons_self)
    have hp : (10 : Nat) ^ k ≤ 10 ^ 17 := Nat.pow_le_pow_right (by omega) (by simp at hk; omega)
    have hp2 : (10 : Nat) ^ (k + 1) = 10 ^ k * 10 := Nat.pow_succ _ _
    rw [Lib.parseUint10, if_pos hb, if_neg (by omega), if_neg (by omega)]
    exact ih _ (k + 1) (fun x hx => hd x (List.mem_cons_of_mem _ hx)) (by omega) (by simp at hk ⊢; omega)
theorem valA_below (d : Bs) : ∀ n : Nat, (∀ b ∈ d, isDig b = true) → valA n d < (n + 1) * 10 ^ d.length := by
  induction d with
  | nil => intro n _; show n < (n + 1) * 1; omega
  | cons b d ih =>
    intro n h
    have hb := dig_iff.mp (h b List.mem_cons_self)
    have := ih (n * 10 + (b.toNat - 48)) (fun x hx => h x (List.mem_cons_of_mem _ hx))
    have e : valA n (b :: d) = valA (n * 10 + (b.toNat - 48)) d := rfl
    rw [e, List.length_cons, Nat.pow_succ]
    have h2 : (n * 10 + (b.toNat - 48) + 1) * 10 ^ d.length ≤ ((n + 1) * 10) * 10 ^ d.length := Nat.mul_le_mul_right _ (by omega)
    have h3 : (n + 1) * (10 ^ d.length * 10) = ((n + 1) * 10) * 10 ^ d.length := by rw [Nat.mul_comm (10 ^ d.length) 10, Nat.mul_assoc]
    omega
theorem atoi_digs {l : Bs} (h0 : l ≠ []) (hd : ∀ b ∈ l, isDig b = true) (hl : l.length ≤ 9) : Lib.atoiAll l = .ok (valD l : Int) := by
  cases l with
  | nil => exact absurd rfl h0
  | cons c r =>
    have hc := dig_iff.mp (hd c List.mem_cons_self)
    have e := uint_digs (c :: r) 0 0 hd (by simp) (by simp at hl ⊢; omega)
    have hv := valA_below (c :: r) 0 hd
    have h2 : (10 : Nat) ^ (c :: r).length ≤ 10 ^ 9 := Nat.pow_le_pow_right (by omega) hl
    have e2 : Lib.parseMag (c :: r) = .ok (valA 0 (c :: r)) := by unfold Lib.parseMag; rw [if_neg (by simp), e]
    unfold Lib.atoiAll
    simp only
    rw [if_neg (by omega), e2]
    simp only
    rw [if_neg (by omega), if_neg (by omega), if_neg (by omega)]
    rfl
end Go.Th.Pure
end
