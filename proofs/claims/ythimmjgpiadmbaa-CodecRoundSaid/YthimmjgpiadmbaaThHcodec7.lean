/- codec: the document's getting of changes. -/
import Derived.Test.YthimmjgpiadmbaaThHcodec6
set_option linter.unusedSimpArgs false
set_option linter.unusedVariables false
namespace Go.Th.L
open Go Go.Th Go.Th.Pure
variable {P : Program} {N : Nat → Nat}

theorem getC0_v (s : List UInt8) : (getC0 s).2.2 = if (getC0 s).1 = 1 ∧ 6 ≤ s.length ∧ s.length = 6 + 4 * num ((s.drop 5).take 1) then coordsOf (num ((s.drop 5).take 1)) (s.drop 6) else [] := rfl

theorem ref16_GetChange.spec (hF : ref16_GetChange.Ok P N) (hG : ref16_get.Spec P N) (hC : ref16_coords.Spec P N) (hP : PutsC P (N Fn.ref16_PutChange)) : GetsC P (N Fn.ref16_GetChange) := by
  intro s S K hw hs h
  refine ref16_GetChange.run hF (newS_mk hw fun S1 g1 m1 n1 => newS_mk g1.wf fun S2 g2 m2 n2 => ?_)
  have z2 : S2.get S.next = some (.cells [V.int .i64 0, V.int .i64 0, V.nilSlice] true) := g2.get m1
  refine Join0.mid (fun S' => Grow S S' ∧ S'.get S.next = some (.cells [V.int .i64 0, V.int .i64 0, V.nilSlice] true) ∧ S'.get S1.next = some (.cells [V.int .i64 (getC0 s).1, V.int .i64 (getC0 s).2.1, V.nilSlice] true)) ?_ ?_
  · refine ifC_dec (fun h5 => ?_) (fun h5 => ⟨g1.trans g2, z2, ?_⟩)
    · have h5' : 5 ≤ s.length := by omega
      have e1 : s.take 1 = [s[0]] := by
        cases s with
        | nil => simp at h5'
        | cons a s => rfl
      have hk : (getC0 s).1 = ((s[0].toNat : Nat) : Int) := by simp only [getC0, if_pos h5']; rw [e1]; simp [num]
      have hi : (getC0 s).2.1 = ((num ((s.drop 1).take 4) : Nat) : Int) := by simp only [getC0, if_pos h5']
      have hb := byte_lt s[0]
      refine ⟨_, idx_str (s := s) (j := 0) (by omega), setI_mk (i64_nat (by omega)) (st_mk g2.wf m2 rfl (by simp [V.cells]) rfl fun S3 u3 m3 n3 => hG s 1 4 S3 _ (by omega) (by omega) (by omega) (st_mk u3.wf m3 rfl (by simp [V.cells, over]) rfl fun S4 u4 m4 n4 => ⟨((g1.trans g2).after u3 (by simp; have := g1.le; omega)).after u4 (by simp; have := g1.le; omega), u4.get (u3.get z2 (by simp; omega)) (by simp; omega), ?_⟩))⟩
      rw [hk, hi]
      simpa [over, V.cells] using m4
    · have hk : (getC0 s).1 = 0 := by simp only [getC0, if_neg (show ¬ 5 ≤ s.length by omega)]
      have hi : (getC0 s).2.1 = 0 := by simp only [getC0, if_neg (show ¬ 5 ≤ s.length by omega)]
      rw [hk, hi]; exact m2
  rintro S3 ⟨g3, z3, m3⟩
  refine Join0.mid (fun S' => ∃ w, Grow S S' ∧ S'.get S.next = some (.cells [V.int .i64 0, V.int .i64 0, V.nilSlice] true) ∧ S'.get S1.next = some (.cells [V.int .i64 (getC0 s).1, V.int .i64 (getC0 s).2.1, w] true) ∧ IntsAt S' w (getC0 s).2.2 ∧ ∀ q ∈ w.block, S1.next < q) ?_ ?_
  · refine Join1.mid (fun b S' => S' = S3 ∧ b = decide ((getC0 s).1 = 1 ∧ 6 ≤ s.length ∧ s.length = 6 + 4 * num ((s.drop 5).take 1))) ?_ ?_
    · refine ⟨_, ld m3 rfl, ifC_dec (fun h1 => ifC_dec (fun h6 => ?_) (fun h6 => ⟨rfl, ?_⟩)) (fun h1 => ⟨rfl, by simp [h1]⟩)⟩
      · have h6' : 5 < s.length := by omega
        have e5 : (s.drop 5).take 1 = [s[5]] := by rw [List.drop_eq_getElem_cons h6']; rfl
        have hb := byte_lt s[5]
        have hn : num ((s.drop 5).take 1) = s[5].toNat := by rw [e5]; simp [num]
        refine ⟨_, idx_str (s := s) (j := 5) h6', setI_mk (i64_nat (by omega)) (setI_mk (n := ((4 * s[5].toNat : Nat) : Int)) (by rw [IntKind.wrap_i64]; omega) (setI_mk (n := ((6 + 4 * s[5].toNat : Nat) : Int)) (by rw [IntKind.wrap_i64]; omega) ⟨rfl, ?_⟩))⟩
        rw [hn]
        congr 1
        simp only [h1, true_and, eq_iff_iff]
        constructor
        · intro e; exact ⟨by omega, by omega⟩
        · rintro ⟨_, e⟩; omega
      · simp; omega
    rintro _ S4 ⟨rfl, rfl⟩
    refine ifC_dec (fun h1 => ?_) (fun h1 => ⟨.nilSlice, g3, z3, m3, ?_, by simp [V.block]⟩)
    · have h6' : 5 < s.length := by omega
      have e5 : (s.drop 5).take 1 = [s[5]] := by rw [List.drop_eq_getElem_cons h6']; rfl
      have hb := byte_lt s[5]
      have hn : num ((s.drop 5).take 1) = s[5].toNat := by rw [e5]; simp [num]
      rw [hn] at h1
      refine ⟨_, idx_str (s := s) (j := 5) h6', setI_mk (i64_nat (by omega)) (hC s 6 s[5].toNat S4 _ g3.wf (by omega) (by omega) fun w S5 b5 => ?_)⟩
      have hw5 := BuiltI.at_ b5
      have m5 := b5.grow.get m3
      have hlt := g3.wf.lt m3
      refine st_mk b5.grow.wf m5 (by simp only [hw5.cells1]; rfl) (by simp only [hw5.cells1]; simp) (by simp only [hw5.cells1, List.all_cons, List.all_nil, hw5.one1]; rfl) fun S6 u6 m6 n6 => ?_
      rw [hw5.cells1] at m6
      simp only [over] at m6
      refine ⟨w, (g3.trans b5.grow).after u6 (by simp; have := g1.le; omega), u6.get (b5.grow.get z3) (by simp; omega), m6, ?_, fun q hq => by have := b5.from q hq; omega⟩
      rw [getC0_v, hn, if_pos h1]
      exact hw5.upd u6 fun q hq hm => by have := b5.from q hq; simp at hm; omega
    · rw [getC0_v, if_neg h1]; exact nil_ints _
  rintro S4 ⟨w, g4, z4, m4, hw4, hwb⟩
  refine ⟨_, _, _, ldN m4 (by simp) rfl, hP (getC0 s).1 (getC0 s).2.1 w (getC0 s).2.2 S4 _ hw4 ?_ ?_⟩
  · rw [getC0_v]
    split
    · rw [coordsOf_length]; omega
    · simp
  have eta : ((getC0 s).1, (getC0 s).2.1, (getC0 s).2.2) = getC0 s := rfl
  rw [eta]
  refine Join1.mid (fun b S' => S' = S4 ∧ b = decide (mayC (getC0 s) ≠ 0 ∨ textC (getC0 s) ≠ s)) ?_ ?_
  · by_cases hm : mayC (getC0 s) = 0
    · have hp : putC (getC0 s) = (textC (getC0 s), 0) := by simp only [putC, hm]; rfl
      rw [hp]
      exact ifC_npos rfl ⟨rfl, by simp [hm]⟩
    · have hp : putC (getC0 s) = ([], mayC (getC0 s)) := by simp only [putC, if_pos hm]
      rw [hp]
      exact ifC_nneg hm ⟨rfl, by simp [hm]⟩
  rintro _ S5 ⟨rfl, rfl⟩
  refine ifC_dec (fun h1 => st_mk g4.wf z4 rfl (by simp [V.cells]) rfl fun S6 u6 m6 n6 => ?_) (fun h1 => ⟨_, _, _, ldN m4 (by simp) rfl, st_mk g4.wf z4 rfl (by simp [V.cells]) (by simp only [V.cells, List.all_cons, List.all_nil, hw4.one1]; rfl) fun S6 u6 m6 n6 => ?_⟩)
  · have he : getC s = ((0, 0, []), 161) := by unfold getC; rw [if_pos h1]
    rw [he] at h
    simp only [V.cells, over] at m6
    exact ⟨_, _, _, ldC m6 (by simp) rfl, h _ _ (g4.after u6 (by simp)) (nil_ints _)⟩
  · have he : getC s = (getC0 s, 0) := by unfold getC; rw [if_neg h1]
    rw [he] at h
    simp only [V.cells, over] at m6
    refine ⟨_, _, _, ldC m6 (by simp) rfl, h _ _ (g4.after u6 (by simp)) (hw4.upd u6 fun q hq hm => ?_)⟩
    have := hwb q hq
    have := g1.le
    simp at hm; omega

end Go.Th.L
