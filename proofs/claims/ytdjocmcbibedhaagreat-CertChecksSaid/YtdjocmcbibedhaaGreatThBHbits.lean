/- What the row of one statement stands on: a store, abstract code, functions of the program and their laws (ThHbits). -/
import Derived.Test.YtdjocmcbibedhaaGreatThBHsort0
import Derived.Test.YtdjocmcbibedhaaGreatThBGslicesInt
import Derived.KernelRfl

section
/- math/bits.Len; slices.SortFunc's breakPatterns at hits. -/
set_option linter.unusedSimpArgs false
set_option linter.unusedVariables false
set_option linter.unusedSectionVars false
set_option maxRecDepth 100000
namespace Go.Th.L
open Go Go.Th Go.Th.Pure Go.Sort
variable {P : Program} {N : Nat → Nat}

def lenTab : List UInt8 := [0, 1, 2, 2, 3, 3, 3, 3, 4, 4, 4, 4, 4, 4, 4, 4, 5, 5, 5, 5, 5, 5, 5, 5, 5, 5, 5, 5, 5, 5, 5, 5, 6, 6, 6, 6, 6, 6, 6, 6, 6, 6, 6, 6, 6, 6, 6, 6, 6, 6, 6, 6, 6, 6, 6, 6, 6, 6, 6, 6, 6, 6, 6, 6, 7, 7, 7, 7, 7, 7, 7, 7, 7, 7, 7, 7, 7, 7, 7, 7, 7, 7, 7, 7, 7, 7, 7, 7, 7, 7, 7, 7, 7, 7, 7, 7, 7, 7, 7, 7, 7, 7, 7, 7, 7, 7, 7, 7, 7, 7, 7, 7, 7, 7, 7, 7, 7, 7, 7, 7, 7, 7, 7, 7, 7, 7, 7, 7, 8, 8, 8, 8, 8, 8, 8, 8, 8, 8, 8, 8, 8, 8, 8, 8, 8, 8, 8, 8, 8, 8, 8, 8, 8, 8, 8, 8, 8, 8, 8, 8, 8, 8, 8, 8, 8, 8, 8, 8, 8, 8, 8, 8, 8, 8, 8, 8, 8, 8, 8, 8, 8, 8, 8, 8, 8, 8, 8, 8, 8, 8, 8, 8, 8, 8, 8, 8, 8, 8, 8, 8, 8, 8, 8, 8, 8, 8, 8, 8, 8, 8, 8, 8, 8, 8, 8, 8, 8, 8, 8, 8, 8, 8, 8, 8, 8, 8, 8, 8, 8, 8, 8, 8, 8, 8, 8, 8, 8, 8, 8, 8, 8, 8, 8, 8, 8, 8, 8, 8, 8, 8, 8, 8, 8, 8, 8, 8]
theorem lenTab_all : ((List.range 256).all fun n => lenTab[n]? == some (UInt8.ofNat (bitsLen n))) = true := by decide +kernel
theorem bitsLen_le8 {n : Nat} (h : n < 256) : bitsLen n ≤ 8 := (bitsLen_le_iff n 8).2 (by omega)
theorem lenTab_get {n : Nat} (h : n < 256) : idxStrV (.str lenTab) (.int .u8 (n : Int)) = some (.int .u8 (bitsLen n : Nat)) := by
  have h1 := List.all_eq_true.mp lenTab_all n (List.mem_range.mpr h)
  have h2 : lenTab[n]? = some (UInt8.ofNat (bitsLen n)) := by simpa using h1
  have h3 := bitsLen_le8 h
  simp only [idxStrV]
  rw [if_pos (by omega), Int.toNat_natCast, h2]
  simp only [Option.map_some]
  congr 2
  rw [UInt8.toNat_ofNat']
  omega

theorem bitsLen_div {x j : Nat} (h : 2 ^ j ≤ x) : bitsLen x = bitsLen (x / 2 ^ j) + j := by
  have hp : 0 < 2 ^ j := Nat.two_pow_pos j
  apply Nat.le_antisymm
  · rw [bitsLen_le_iff, Nat.pow_add]
    exact (Nat.div_lt_iff_lt_mul hp).1 (lt_two_pow_bitsLen _)
  · have h1 : j < bitsLen x := by
      rcases Nat.lt_or_ge j (bitsLen x) with h' | h'
      · exact h'
      · have := (bitsLen_le_iff x j).1 h'; omega
    have h2 : bitsLen (x / 2 ^ j) ≤ bitsLen x - j := by
      rw [bitsLen_le_iff, Nat.div_lt_iff_lt_mul hp, ← Nat.pow_add]
      have := lt_two_pow_bitsLen x
      rwa [Nat.sub_add_cancel (Nat.le_of_lt h1)]
    omega

def math_bits_Len64.Spec (P : Program) (N : Nat → Nat) : Prop := ∀ (x : Nat) (S : St) (K : Int → St → Prop), x < 18446744073709551616 → K (bitsLen x : Nat) S → CallA P (N Fn.math_bits_Len64) [.int .u64 x] S (retT [.one (.int .i64)] K)
theorem math_bits_Len64.spec (hF : math_bits_Len64.Ok P N) : math_bits_Len64.Spec P N := by
  intro x S K hx h
  have ed : ∀ (y : Nat) (j : Nat), j ≤ 64 → Int.fdiv (y : Int) (2 ^ (min (Int.toNat (j : Int)) (IntKind.bits .u64))) = ((y / 2 ^ j : Nat) : Int) := by
    intro y j hj
    have : min (Int.toNat (j : Int)) (IntKind.bits .u64) = j := by simp [IntKind.bits]; omega
    rw [this, Int.fdiv_eq_ediv_of_nonneg _ (by exact_mod_cast Nat.zero_le _)]
    push_cast; rfl
  refine math_bits_Len64.run hF (Join2.mid (fun y k S' => ∃ (p q : Nat), y = p ∧ k = q ∧ S' = S ∧ p < 4294967296 ∧ q ≤ 32 ∧ bitsLen x = bitsLen p + q) (ifC_dec (fun h1 => ⟨by omega, setI_mk (ed x 32 (by omega)) ⟨x / 2 ^ 32, 32, rfl, rfl, rfl, by omega, by omega, bitsLen_div (by omega)⟩⟩) (fun h1 => ⟨x, 0, rfl, rfl, rfl, by omega, by omega, rfl⟩)) ?_)
  rintro _ _ S1 ⟨p, q, rfl, rfl, rfl, hp, hq, e1⟩
  refine Join2.mid (fun y k S' => ∃ (p' q' : Nat), y = p' ∧ k = q' ∧ S' = S1 ∧ p' < 65536 ∧ q' ≤ 48 ∧ bitsLen x = bitsLen p' + q') (ifC_dec (fun h1 => ⟨by omega, setI_mk (ed p 16 (by omega)) (setI_mk (i64_add (b := 16) (by omega)) ⟨p / 2 ^ 16, q + 16, rfl, rfl, rfl, by omega, by omega, by rw [e1, bitsLen_div (x := p) (j := 16) (by omega)]; omega⟩)⟩) (fun h1 => ⟨p, q, rfl, rfl, rfl, by omega, by omega, e1⟩)) ?_
  rintro _ _ S2 ⟨p2, q2, rfl, rfl, rfl, hp2, hq2, e2⟩
  refine Join2.mid (fun y k S' => ∃ (p' q' : Nat), y = p' ∧ k = q' ∧ S' = S2 ∧ p' < 256 ∧ q' ≤ 56 ∧ bitsLen x = bitsLen p' + q') (ifC_dec (fun h1 => ⟨by omega, setI_mk (ed p2 8 (by omega)) (setI_mk (i64_add (b := 8) (by omega)) ⟨p2 / 2 ^ 8, q2 + 8, rfl, rfl, rfl, by omega, by omega, by rw [e2, bitsLen_div (x := p2) (j := 8) (by omega)]; omega⟩)⟩) (fun h1 => ⟨p2, q2, rfl, rfl, rfl, by omega, by omega, e2⟩)) ?_
  rintro _ _ S3 ⟨p3, q3, rfl, rfl, rfl, hp3, hq3, e3⟩
  have h8 := bitsLen_le8 hp3
  refine setI_mk (n := (p3 : Int)) (by simp [IntKind.wrap, IntKind.bits, IntKind.signed]; omega) ⟨_, lenTab_get hp3, setI_mk (n := ((bitsLen p3 : Nat) : Int)) (by rw [IntKind.wrap_i64]; omega) (setI_mk (i64_add (by omega)) ?_)⟩
  rw [e3, Nat.add_comm] at h
  exact h

end Go.Th.L
end
