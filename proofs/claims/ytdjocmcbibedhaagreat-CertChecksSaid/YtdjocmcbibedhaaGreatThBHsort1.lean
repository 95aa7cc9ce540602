/- What the row of one statement stands on: a store, abstract code, functions of the program and their laws (ThHsort1). -/
import Derived.Test.YtdjocmcbibedhaaGreatThBHbits
import Derived.Test.YtdjocmcbibedhaaGreatThBGslicesInt

section
/- What sorting needs beside its elements: lengths of numbers, a random cell. -/
set_option linter.unusedSimpArgs false
set_option linter.unusedVariables false
namespace Go.Th.L
open Go Go.Th Go.Th.Pure Go.Sort
variable {P : Program} {N : Nat → Nat}

def math_bits_Len.Spec (P : Program) (N : Nat → Nat) : Prop := ∀ (x : Nat) (S : St) (K : Int → St → Prop), x < 18446744073709551616 → K (bitsLen x : Nat) S → CallA P (N Fn.math_bits_Len) [.int .u64 x] S (retT [.one (.int .i64)] K)
theorem math_bits_Len.spec (hF : math_bits_Len.Ok P N) (h : math_bits_Len64.Spec P N) : math_bits_Len.Spec P N :=
  fun x S K hx hk => math_bits_Len.run hF (h x S _ hx hk)

theorem wrap_u64 (x : Int) : IntKind.u64.wrap x = x % 18446744073709551616 := by simp [IntKind.wrap, IntKind.bits, IntKind.signed]
theorem u64_nat {x : Nat} (h : x < 18446744073709551616) : IntKind.u64.wrap (x : Int) = x := by rw [wrap_u64]; omega

def slices_nextPowerOfTwo.Spec (P : Program) (N : Nat → Nat) : Prop := ∀ (x : Nat) (S : St) (K : Int → St → Prop), x < big → K (2 ^ bitsLen x : Nat) S → CallA P (N Fn.slices_nextPowerOfTwo) [.int .i64 x] S (retT [.one (.int .u64)] K)
theorem slices_nextPowerOfTwo.spec (hF : slices_nextPowerOfTwo.Ok P N) (h : math_bits_Len.Spec P N) : slices_nextPowerOfTwo.Spec P N := by
  intro x S K hx hk
  unfold big at hx
  have hb : bitsLen x ≤ 62 := (bitsLen_le_iff x 62).2 (by omega)
  refine slices_nextPowerOfTwo.run hF (setI_mk (u64_nat (by omega)) (h x S _ (by omega) ⟨by omega, setI_mk (n := ((2 ^ bitsLen x : Nat) : Int)) ?_ hk⟩))
  have hm : min (Int.toNat ((bitsLen x : Nat) : Int)) (IntKind.bits .u64) = bitsLen x := by simp [IntKind.bits]; omega
  have hp : 2 ^ bitsLen x ≤ 2 ^ 62 := Nat.pow_le_pow_right (by omega) hb
  rw [hm, Int.one_mul]
  have : ((2 : Int) ^ bitsLen x) = ((2 ^ bitsLen x : Nat) : Int) := by push_cast; rfl
  rw [this]
  exact u64_nat (by omega)

theorem bits_u64 (op : BinOp) (a b : Int) : 0 ≤ intBits op .u64 a b ∧ intBits op .u64 a b < 18446744073709551616 := by
  unfold intBits
  split <;> (try rw [wrap_u64]) <;> omega

theorem and_u64 (a : Int) {m : Nat} (h : m < 18446744073709551616) : intBits .and .u64 a (m : Int) ≤ m := by
  have h1 : (BitVec.ofInt IntKind.u64.bits a &&& BitVec.ofInt IntKind.u64.bits (m : Int)).toNat ≤ m := by
    rw [BitVec.toNat_and]
    refine Nat.le_trans Nat.and_le_right ?_
    simp [BitVec.toNat_ofInt, IntKind.bits]; omega
  show IntKind.u64.wrap _ ≤ _
  rw [wrap_u64]; omega

def slices_xorshift_Next.Spec (P : Program) (N : Nat → Nat) : Prop := ∀ (q : Nat) (r : Int) (S : St) (K : Int → St → Prop), S.Wf → S.get q = some (.cells [.int .u64 r] true) →
  (∀ S' r', Upd [q] S S' → S'.get q = some (.cells [.int .u64 r'] true) → 0 ≤ r' → r' < 18446744073709551616 → K r' S') → CallA P (N Fn.slices_xorshift_Next) [.ptr q 0] S (retT [.one (.int .u64)] K)
theorem slices_xorshift_Next.spec (hF : slices_xorshift_Next.Ok P N) : slices_xorshift_Next.Spec P N := by
  intro q r S K hw hg hk
  refine slices_xorshift_Next.run hF ⟨rfl, _, ld hg rfl, rfl, _, ld hg rfl, by omega, setI_intro fun a _ => setI_intro fun b _ => ⟨rfl, st_mk hw hg rfl (by simp [V.cells]) rfl fun S1 u1 m1 _ => ?_⟩⟩
  simp only [over, V.cells] at m1
  refine ⟨rfl, _, ld m1 rfl, rfl, _, ld m1 rfl, by omega, setI_intro fun c _ => setI_intro fun e _ => ⟨rfl, st_mk u1.wf m1 rfl (by simp [V.cells]) rfl fun S2 u2 m2 _ => ?_⟩⟩
  simp only [over, V.cells] at m2
  refine ⟨rfl, _, ld m2 rfl, rfl, _, ld m2 rfl, by omega, setI_intro fun f _ => setI_intro fun g hg' => ⟨rfl, st_mk u2.wf m2 rfl (by simp [V.cells]) rfl fun S3 u3 m3 _ => ?_⟩⟩
  simp only [over, V.cells] at m3
  obtain ⟨b1, b2⟩ := bits_u64 .xor e f
  rw [← hg'] at b1 b2
  exact ⟨rfl, _, ld m3 rfl, hk _ _ ((u1.trans u2).trans u3) m3 b1 b2⟩


end Go.Th.L
end
