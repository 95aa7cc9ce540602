/- What the row of one statement stands on: a store, abstract code, functions of the program and their laws (ThQ4). -/
import Derived.Test.YtdpehfhhbmmhjaaThBTopkOrder18
import Derived.Test.YtdpehfhhbmmhjaaThBTopkOrder22
import Derived.Test.YtdpehfhhbmmhjaaThBTopkOrder25

section
/- Readings of arguments: bytes, numbers. -/
set_option linter.unusedSimpArgs false
set_option linter.unusedVariables false
namespace Go.Th
open Go

theorem kindMin_i64 : IntKind.i64.min = -9223372036854775808 := by decide
theorem kindMax_i64 : IntKind.i64.max = 9223372036854775807 := by decide
theorem kindMin_u8 : IntKind.u8.min = 0 := by decide
theorem kindMax_u8 : IntKind.u8.max = 255 := by decide
theorem kindMin_u64 : IntKind.u64.min = 0 := by decide
theorem kindMax_u64 : IntKind.u64.max = 18446744073709551615 := by decide

theorem lit_i64 {k : Int} (h : (Lit.int .i64 k).wf = true) : -9223372036854775808 ≤ k ∧ k ≤ 9223372036854775807 := by
  simp only [Lit.wf, Bool.and_eq_true, decide_eq_true_eq, kindMin_i64, kindMax_i64] at h
  omega
theorem lit_u8 {k : Int} (h : (Lit.int .u8 k).wf = true) : 0 ≤ k ∧ k ≤ 255 := by
  simp only [Lit.wf, Bool.and_eq_true, decide_eq_true_eq, kindMin_u8, kindMax_u8] at h
  omega
theorem lit_u64 {k : Int} (h : (Lit.int .u64 k).wf = true) : 0 ≤ k ∧ k ≤ 18446744073709551615 := by
  simp only [Lit.wf, Bool.and_eq_true, decide_eq_true_eq, kindMin_u64, kindMax_u64] at h
  omega

/-- A row of bytes that reads as such. -/
theorem has_u8s {S : St} {n : Nat} {es : List V} (hl : es.length = n * 1) (h : ∀ m, m < n → Has S (.int .u8) ((es.drop (m * 1)).take 1)) : ∃ bs : List UInt8, bs.length = n ∧ es = bytesV bs := by
  have hl : es.length = n := by omega
  subst hl
  induction es with
  | nil => exact ⟨[], rfl, rfl⟩
  | cons v es ih =>
    obtain ⟨bs, h1, h2⟩ := ih (by omega) (fun m hm => by
      have := h (m + 1) (by simp; omega)
      simpa using this)
    have h0 := h 0 (by simp)
    simp only [Has, Nat.zero_mul, List.drop_zero, List.take_succ_cons, List.take_zero] at h0
    obtain ⟨z, hz, hw⟩ := h0
    simp only [List.cons.injEq, and_true] at hz
    have hr := lit_u8 hw
    refine ⟨byteZ z :: bs, by simp [h1], ?_⟩
    rw [h2, hz]
    have : z = ((byteZ z).toNat : Int) := by rw [byteZ_toNat]; omega
    simp only [bytesV, List.map_cons]
    rw [← this]

/-- Numbers as cells. -/
def intsV (k : IntKind) (l : List Int) : List V := l.map (V.int k)
theorem intsV_length (k : IntKind) (l : List Int) : (intsV k l).length = l.length := by simp [intsV]
theorem intsV_get {k : IntKind} {l : List Int} {j : Nat} (h : j < l.length) : (intsV k l)[j]? = some (.int k l[j]) := by simp [intsV, h]
theorem intsV_ones (k : IntKind) (l : List Int) : (intsV k l).all V.one = true := by simp [intsV, List.all_map, Function.comp_def, V.one]
theorem intsV_append (k : IntKind) (a b : List Int) : intsV k (a ++ b) = intsV k a ++ intsV k b := by simp [intsV]
theorem intsV_take (k : IntKind) (a : List Int) (n : Nat) : intsV k (a.take n) = (intsV k a).take n := by simp [intsV, List.map_take]
theorem intsV_drop (k : IntKind) (a : List Int) (n : Nat) : intsV k (a.drop n) = (intsV k a).drop n := by simp [intsV, List.map_drop]

/-- A row of ints that reads as such. -/
theorem has_i64s {S : St} {n : Nat} {es : List V} (hl : es.length = n * 1) (h : ∀ m, m < n → Has S (.int .i64) ((es.drop (m * 1)).take 1)) :
    ∃ l : List Int, l.length = n ∧ es = intsV .i64 l ∧ ∀ x ∈ l, -9223372036854775808 ≤ x ∧ x ≤ 9223372036854775807 := by
  have hl : es.length = n := by omega
  subst hl
  induction es with
  | nil => exact ⟨[], rfl, rfl, by simp⟩
  | cons v es ih =>
    obtain ⟨bs, h1, h2, h3⟩ := ih (by omega) (fun m hm => by
      have := h (m + 1) (by simp; omega)
      simpa using this)
    have h0 := h 0 (by simp)
    simp only [Has, Nat.zero_mul, List.drop_zero, List.take_succ_cons, List.take_zero] at h0
    obtain ⟨z, hz, hw⟩ := h0
    simp only [List.cons.injEq, and_true] at hz
    have hr := lit_i64 hw
    refine ⟨z :: bs, by simp [h1], by rw [h2, hz]; rfl, ?_⟩
    intro x hx
    rcases List.mem_cons.mp hx with rfl | hx
    · exact hr
    · exact h3 x hx

end Go.Th
end
