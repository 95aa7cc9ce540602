/- codec: numbers laid and read; changes, rows. -/
import Derived.Test.YthimmjgpiadmbaaThQ7
import Derived.Test.YthimmjgpiadmbaaThHvec0
import Derived.Test.YthimmjgpiadmbaaThGcodec
import Derived.Test.YthimmjgpiadmbaaThGref16
set_option linter.unusedSimpArgs false
set_option linter.unusedVariables false
namespace Go.Th.L
open Go Go.Th Go.Th.Pure
variable {P : Program} {N : Nat → Nat}

/-- A function that lays n bytes of a number behind others. -/
def LaysB (P : Program) (f : Nat) (ok : Int → Prop) : Prop := ∀ (b : V) (v : Int) (n : Nat) (bs : List UInt8) (S0 S : St) (K : V → St → Prop), BuiltB S0 S b bs → bs.length + n ≤ 1099511627776 → ok v →
  (∀ b' S', BuiltB S0 S' b' (bs ++ le n v) → Upd b.block S S' → (∀ i ∈ b'.block, i ∈ b.block ∨ S.next ≤ i) → K b' S') → CallA P f [b, .int .i64 v, .int .i64 n] S (retT [.one .any] K)

theorem shr8 (a : Int) : Int.fdiv a (2 ^ (min (Int.toNat (8 : Int)) (IntKind.bits .i64))) = a / 256 := by
  show a.fdiv 256 = _
  exact Int.fdiv_eq_ediv_of_nonneg _ (by omega)

theorem codec_lay.spec (hF : codec_lay.Ok P N) : LaysB P (N Fn.codec_lay) (fun _ => True) := by
  intro b v n bs S0 S K hb hl _ h
  refine codec_lay.run hF ?_
  refine Loop3.ind (fun k x y z S' => ∃ (j : Nat) (b' : V), j + k = n ∧ x = b' ∧ y = v / 256 ^ j ∧ z = j ∧ BuiltB S0 S' b' (bs ++ le j v) ∧ Upd b.block S S' ∧ ∀ i ∈ b'.block, i ∈ b.block ∨ S.next ≤ i) n
    ⟨0, b, by omega, rfl, by simp, rfl, by simpa [le] using hb, Upd.refl hb.grow.wf _, fun i hi => .inl hi⟩ ?_
  rintro k _ _ _ S' ⟨j, b', hj, rfl, rfl, rfl, hb', hu, ht⟩
  refine ifC_dec (fun hlt => ?_) (fun hge => ?_)
  · refine setI_mk (wrap_byte _) (hb'.push (byteZ (v / 256 ^ j)) (by simp only [List.length_append, le_length]; omega) fun b2 S2 hb2 u2 t2 => ⟨by omega, setI_mk (shr8 _) (setI_mk (wrap_succ (by omega)) ?_)⟩)
    refine ⟨k - 1, by omega, j + 1, b2, by omega, rfl, ?_, rfl, ?_, hu.after u2 (fun i hi => by rcases ht i hi with h | h; exact .inr h; exact .inl h), fun i hi => ?_⟩
    · rw [Int.ediv_ediv_of_nonneg (by have : (0:Int) < 256 ^ j := Int.pow_pos (by omega); omega), Int.pow_succ]
    · rw [le_succ, ← List.append_assoc]; exact hb2
    · rcases t2 i hi with h | h
      · exact ht i h
      · have := hu.le; exact .inr (by omega)
  · have : j = n := by omega
    subst this
    exact h _ _ hb' hu ht

theorem ref16_number.spec (hF : ref16_number.Ok P N) : LaysB P (N Fn.ref16_number) (fun v => 0 ≤ v ∧ v < 9223372036854775808) := by
  intro b v n bs S0 S K hb hl hv h
  refine ref16_number.run hF ?_
  refine Loop3.ind (fun k x y z S' => ∃ (j : Nat) (b' : V), j + k = n ∧ x = b' ∧ y = v / 256 ^ j ∧ z = j ∧ BuiltB S0 S' b' (bs ++ le j v) ∧ Upd b.block S S' ∧ ∀ i ∈ b'.block, i ∈ b.block ∨ S.next ≤ i) n
    ⟨0, b, by omega, rfl, by simp, rfl, by simpa [le] using hb, Upd.refl hb.grow.wf _, fun i hi => .inl hi⟩ ?_
  rintro k _ _ _ S' ⟨j, b', hj, rfl, rfl, rfl, hb', hu, ht⟩
  have hpos : (0 : Int) < 256 ^ j := Int.pow_pos (by omega)
  have hq0 : 0 ≤ v / 256 ^ j := Int.ediv_nonneg hv.1 (by omega)
  have hq1 : v / 256 ^ j ≤ v := Int.ediv_le_self _ hv.1
  have hrem : Int.tmod (v / 256 ^ j) 256 = v / 256 ^ j % 256 := Int.tmod_eq_emod_of_nonneg hq0
  have hb1 : IntKind.u8.wrap (v / 256 ^ j % 256) = ((byteZ (v / 256 ^ j)).toNat : Int) := by rw [byteZ_toNat, IntKind.wrap_u8]; omega
  have hquo : IntKind.i64.wrap (Int.tdiv (v / 256 ^ j) 256) = v / 256 ^ (j + 1) := by
    rw [Int.tdiv_eq_ediv_of_nonneg hq0, Int.ediv_ediv_of_nonneg (by omega), Int.pow_succ]
    refine i64_int ?_ ?_
    · have : 0 ≤ v / (256 ^ j * 256) := Int.ediv_nonneg hv.1 (by omega)
      omega
    · have : v / (256 ^ j * 256) ≤ v := Int.ediv_le_self _ hv.1
      omega
  refine ifC_dec (fun hlt => ?_) (fun hge => ?_)
  · refine ⟨by omega, setI_mk hrem (setI_mk hb1 (hb'.push (byteZ (v / 256 ^ j)) (by simp only [List.length_append, le_length]; omega) fun b2 S2 hb2 u2 t2 => ⟨by omega, setI_mk hquo (setI_mk (wrap_succ (by omega)) ?_)⟩))⟩
    refine ⟨k - 1, by omega, j + 1, b2, by omega, rfl, rfl, rfl, ?_, hu.after u2 (fun i hi => by rcases ht i hi with h | h; exact .inr h; exact .inl h), fun i hi => ?_⟩
    · rw [le_succ, ← List.append_assoc]; exact hb2
    · rcases t2 i hi with h | h
      · exact ht i h
      · have := hu.le; exact .inr (by omega)
  · have : j = n := by omega
    subst this
    exact h _ _ hb' hu ht

end Go.Th.L
