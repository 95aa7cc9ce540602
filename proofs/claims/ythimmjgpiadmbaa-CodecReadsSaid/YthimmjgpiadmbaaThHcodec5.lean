/- codec: changes and rows got. -/
import Derived.Test.YthimmjgpiadmbaaThHcodec4
set_option linter.unusedSimpArgs false
set_option linter.unusedVariables false
namespace Go.Th.L
open Go Go.Th Go.Th.Pure
variable {P : Program} {N : Nat → Nat}

theorem rd_ok {s : List UInt8} {n : Nat} (h : n ≤ s.length) : rd s false n = (s.drop n, false, s.take n) := by rw [rd, if_neg (by rintro (h' | h'); cases h'; omega)]
theorem rd_short {s : List UInt8} {n : Nat} (h : s.length < n) : rd s false n = (s, true, List.replicate n 0) := by rw [rd, if_pos (.inr h)]
theorem rd_bad (s : List UInt8) (n : Nat) : rd s true n = (s, true, List.replicate n 0) := by rw [rd, if_pos (.inl rfl)]

theorem rdC_bad : ∀ (n : Nat) (s : List UInt8), (rdC n s true).2.1 = true
  | 0, _ => rfl
  | n + 1, s => by simp only [rdC, rd_bad]; exact rdC_bad n s
theorem rdC_ok : ∀ (n : Nat) (s : List UInt8), 4 * n ≤ s.length → rdC n s false = (s.drop (4 * n), false, coordsOf n s)
  | 0, s, _ => rfl
  | n + 1, s, h => by
    simp only [rdC, rd_ok (show 4 ≤ s.length by omega), rdC_ok n (s.drop 4) (by rw [List.length_drop]; omega), coordsOf, List.drop_drop]
    congr 2
    omega
theorem rdC_short : ∀ (n : Nat) (s : List UInt8), s.length < 4 * n → (rdC n s false).2.1 = true
  | 0, s, h => by omega
  | n + 1, s, h => by
    by_cases h4 : 4 ≤ s.length
    · simp only [rdC, rd_ok h4]
      exact rdC_short n _ (by rw [List.length_drop]; omega)
    · simp only [rdC, rd_short (show s.length < 4 by omega)]
      exact rdC_bad n s
theorem rdC_length : ∀ (n : Nat) (s : List UInt8) (b : Bool), (rdC n s b).2.2.length = n
  | 0, _, _ => rfl
  | n + 1, s, b => by simp only [rdC, List.length_cons, rdC_length n]

/-- A change got out of a text. -/
def GetsC (P : Program) (f : Nat) : Prop := ∀ (s : List UInt8) (S : St) (K : Int → Int → V → Int → St → Prop), S.Wf → s.length ≤ 1048576 →
  (∀ w S', Grow S S' → IntsAt S' w (getC s).1.2.2 → K (getC s).1.1 (getC s).1.2.1 w (getC s).2 S') → CallA P f [.str s] S (retT [.agg [.int .i64, .int .i64, .any], .one (.int .i64)] K)

theorem nil_ints (S : St) : IntsAt S .nilSlice [] := ⟨by simp, rfl, .inl ⟨rfl, rfl⟩⟩

theorem codec_GetChange.spec (hF : codec_GetChange.Ok P N) (hN : codec_reading_number.Spec P N) (hC : codec_reading_coords.Spec P N) (hM : codec_may.Spec P N) : GetsC P (N Fn.codec_GetChange) := by
  intro s S K hw hs h
  refine codec_GetChange.run hF (newS_mk hw fun S1 g1 m1 n1 => newS_mk g1.wf fun S2 g2 m2 n2 => ?_)
  refine hN _ 1 s false S2 _ g2.wf m2 (by omega) fun S3 u3 r3 => ?_
  refine hN _ 4 _ _ S3 _ u3.wf r3 (by omega) fun S4 u4 r4 => ?_
  refine newS_mk u4.wf fun S5 g5 m5 n5 => st_mk g5.wf m5 rfl (by simp [V.cells]) rfl fun S6 u6 m6 n6 => ?_
  simp only [V.cells, over] at m6
  -- what was there before
  have hS2 : S1.next < S2.next := by omega
  have hS4 : S2.next ≤ S4.next := by have := u3.le; have := u4.le; omega
  have m16 : S6.get S.next = some (.cells [V.int .i64 0, V.int .i64 0, V.nilSlice] true) :=
    u6.get (g5.get (u4.get (u3.get (g2.get m1) (by simp; omega)) (by simp; omega))) (by simp; omega)
  have r6 : RdAt S6 S1.next (rd (rd s false 1).1 (rd s false 1).2.1 4).1 (rd (rd s false 1).1 (rd s false 1).2.1 4).2.1 := u6.get (g5.get r4) (by simp; omega)
  have g6 : Grow S S6 := ((((g1.trans g2).after u3 (by simp; omega)).after u4 (by simp; omega)).trans g5).after u6 (by simp; have := g1.le; omega)
  generalize hk : ((num (rd s false 1).2.2 : Nat) : Int) = k at m6
  generalize hi : ((num (rd (rd s false 1).1 (rd s false 1).2.1 4).2.2 : Nat) : Int) = i at m6
  generalize hs2 : (rd (rd s false 1).1 (rd s false 1).2.1 4).1 = s2 at r6
  generalize hb2 : (rd (rd s false 1).1 (rd s false 1).2.1 4).2.1 = b2 at r6
  -- what is read behind
  have hread : ∃ (s3 : List UInt8) (b3 : Bool) (v : List Int), (if k = 1 then rdC (num (rd s2 b2 1).2.2) (rd s2 b2 1).1 (rd s2 b2 1).2.1 else (s2, b2, [])) = (s3, b3, v) := ⟨_, _, _, rfl⟩
  obtain ⟨s3, b3, v, hr⟩ := hread
  -- that it is what the law says
  have hend : (b3 = true ∨ s3 ≠ [] ∨ mayC (k, i, v) ≠ 0) ∧ getC s = ((0, 0, []), 161) ∨ (b3 = false ∧ s3 = [] ∧ mayC (k, i, v) = 0) ∧ getC s = ((k, i, v), 0) := by
    by_cases h5 : 5 ≤ s.length
    · rw [rd_ok (show 1 ≤ s.length by omega)] at hk hi hs2 hb2
      simp only at hk hi hs2 hb2
      rw [rd_ok (show 4 ≤ (s.drop 1).length by rw [List.length_drop]; omega)] at hi hs2 hb2
      simp only [List.drop_drop] at hi hs2 hb2
      subst hs2 hb2
      by_cases hk1 : k = 1
      · rw [if_pos hk1] at hr
        have hkn : num (s.take 1) = 1 := by omega
        by_cases h6 : 6 ≤ s.length
        · rw [rd_ok (show 1 ≤ (s.drop (1 + 4)).length by rw [List.length_drop]; omega)] at hr
          simp only [List.drop_drop] at hr
          by_cases hq : 4 * num ((s.drop 5).take 1) ≤ (s.drop 6).length
          · rw [rdC_ok _ _ hq] at hr
            simp only [List.drop_drop, Prod.mk.injEq] at hr
            obtain ⟨rfl, rfl, rfl⟩ := hr
            by_cases hl : s.length = 6 + 4 * num ((s.drop 5).take 1)
            · have hg := getC_ok (s := s) (k := 1) h5 hkn.symm (by rw [if_pos rfl]; exact hl)
              simp only [if_true] at hg
              have e3 : s.drop (1 + 4 + 1 + 4 * num ((s.drop (1 + 4)).take 1)) = [] := List.drop_of_length_le (by simp only [Nat.reduceAdd]; omega)
              by_cases hm : mayC (k, i, coordsOf (num ((s.drop 5).take 1)) (s.drop 6)) = 0
              · right
                refine ⟨⟨rfl, e3, hm⟩, ?_⟩
                rw [hg, ← hk, ← hi] at *
                rw [hkn] at hm ⊢
                rw [if_neg (by simpa using hm)]
              · left
                refine ⟨.inr (.inr hm), ?_⟩
                rw [hg, if_pos]
                rw [← hk, ← hi, hkn] at hm
                exact hm
            · left
              refine ⟨.inr (.inl fun e => ?_), getC_bad fun hh => ?_⟩
              · have := congrArg List.length e
                rw [List.length_drop] at this hq
                simp only [Nat.reduceAdd, List.length_nil] at this
                omega
              · have := hh.2; rw [if_pos hkn] at this; exact hl this
          · left
            have hq' : (s.drop 6).length < 4 * num ((s.drop 5).take 1) := by omega
            have := rdC_short _ _ hq'
            simp only [Nat.reduceAdd] at hr
            rw [hr] at this
            refine ⟨.inl this, getC_bad fun hh => ?_⟩
            have h2 := hh.2; rw [if_pos hkn] at h2
            rw [List.length_drop] at hq'
            omega
        · left
          have hl5 : s.length = 5 := by omega
          rw [rd_short (show (s.drop (1 + 4)).length < 1 by rw [List.length_drop]; omega)] at hr
          simp only at hr
          have := rdC_bad (num (List.replicate 1 (0 : UInt8))) (s.drop (1 + 4))
          rw [hr] at this
          refine ⟨.inl this, getC_bad fun hh => ?_⟩
          have h2 := hh.2; rw [if_pos hkn] at h2
          omega
      · rw [if_neg hk1] at hr
        simp only [Prod.mk.injEq] at hr
        obtain ⟨rfl, rfl, rfl⟩ := hr
        have hkn : num (s.take 1) ≠ 1 := by omega
        by_cases hl : s.length = 5
        · have hg := getC_ok (s := s) (k := num (s.take 1)) h5 rfl (by rw [if_neg hkn]; exact hl)
          simp only [if_neg hkn] at hg
          have e3 : s.drop (1 + 4) = [] := List.drop_of_length_le (by omega)
          rw [hk, hi] at hg
          by_cases hm : mayC (k, i, []) = 0
          · right
            refine ⟨⟨rfl, e3, hm⟩, ?_⟩
            rw [hg, if_neg (by simpa using hm)]
          · left
            refine ⟨.inr (.inr hm), ?_⟩
            rw [hg, if_pos hm]
        · left
          refine ⟨.inr (.inl fun e => ?_), getC_bad fun hh => ?_⟩
          · have := congrArg List.length e
            rw [List.length_drop] at this
            simp only [List.length_nil] at this
            omega
          · have := hh.2; rw [if_neg hkn] at this; exact hl this
    · left
      have hbad : b2 = true := by
        by_cases h1 : 1 ≤ s.length
        · rw [rd_ok h1] at hb2
          simp only at hb2
          rw [rd_short (by rw [List.length_drop]; omega)] at hb2
          exact hb2.symm
        · rw [rd_short (by omega)] at hb2
          simp only [rd_bad] at hb2
          exact hb2.symm
      subst hbad
      refine ⟨.inl ?_, getC_bad fun hh => h5 hh.1⟩
      by_cases hk1 : k = 1
      · rw [if_pos hk1] at hr
        simp only [rd_bad] at hr
        have := rdC_bad (num (List.replicate 1 (0 : UInt8))) s2
        rw [hr] at this; exact this
      · rw [if_neg hk1] at hr
        simp only [Prod.mk.injEq] at hr
        exact hr.2.1.symm
  refine Join0.mid (fun S' => ∃ w, Grow S S' ∧ S'.get S.next = some (.cells [V.int .i64 0, V.int .i64 0, V.nilSlice] true) ∧ S'.get S4.next = some (.cells [V.int .i64 k, V.int .i64 i, w] true) ∧ RdAt S' S1.next s3 b3 ∧ IntsAt S' w v ∧ ∀ q ∈ w.block, S4.next < q) ?_ ?_
  · refine ⟨_, ld m6 rfl, ifC_dec (fun h1 => ?_) (fun h1 => ?_)⟩
    · rw [if_pos h1] at hr
      refine hN _ 1 _ _ S6 _ u6.wf r6 (by omega) fun S7 u7 r7 => ?_
      have hn1 : num (rd s2 b2 1).2.2 < 256 := by
        have := num_lt (rd s2 b2 1).2.2
        rwa [rd_length] at this
      refine hC _ _ _ _ S7 _ u7.wf r7 (by omega) fun w S8 u8 r8 hw8 hwb => ?_
      rw [hr] at r8 hw8
      have hn67 := u7.le
      have m8 : S8.get S4.next = some (.cells [V.int .i64 k, V.int .i64 i, V.nilSlice] true) := u8.get (u7.get m6 (by simp; omega)) (by simp; omega)
      refine st_mk u8.wf m8 (by simp only [hw8.cells1]; rfl) (by simp only [hw8.cells1]; simp) (by simp only [hw8.cells1, List.all_cons, List.all_nil, hw8.one1]; rfl) fun S9 u9 m9 n9 => ?_
      rw [hw8.cells1] at m9
      simp only [over] at m9
      have h6 := u6.wf.lt m6
      refine ⟨w, ((g6.after u7 (by simp; omega)).after u8 (by simp; omega)).after u9 (by simp; have := g1.le; omega), u9.get (u8.get (u7.get m16 (by simp; omega)) (by simp; omega)) (by simp; omega), m9, u9.get r8 (by simp; omega), hw8.upd u9 fun q hq hm => ?_, fun q hq => ?_⟩
      · have := (hwb q hq).1
        simp at hm; omega
      · have := (hwb q hq).1
        omega
    · rw [if_neg h1] at hr
      simp only [Prod.mk.injEq] at hr
      obtain ⟨rfl, rfl, rfl⟩ := hr
      exact ⟨_, g6, m16, m6, r6, nil_ints _, by simp [V.block]⟩
  rintro S7 ⟨w, g7, z7, m7, r7, hw7, hwb⟩
  have hend' := hend
  refine Join1.mid (fun b S' => Grow S S' ∧ S'.get S.next = some (.cells [V.int .i64 0, V.int .i64 0, V.nilSlice] true) ∧ S'.get S4.next = some (.cells [V.int .i64 k, V.int .i64 i, w] true) ∧ IntsAt S' w v ∧
    (b = true ∧ getC s = ((0, 0, []), 161) ∨ b = false ∧ getC s = ((k, i, v), 0))) ?_ ?_
  · refine ⟨rfl, _, ld r7 rfl, ifC_tt_ff (fun hb => ?_) (fun hb => ⟨rfl, _, ld r7 rfl, ifC_ndec (fun h3 => ?_) (fun h3 => ?_)⟩)⟩
    · subst hb
      refine ⟨g7, z7, m7, hw7, .inl ⟨rfl, ?_⟩⟩
      rcases hend with ⟨_, he⟩ | ⟨⟨h1, _⟩, _⟩
      · exact he
      · cases h1
    · refine ⟨g7, z7, m7, hw7, .inl ⟨rfl, ?_⟩⟩
      rcases hend with ⟨_, he⟩ | ⟨⟨_, h1, _⟩, _⟩
      · exact he
      · exact absurd h1 h3
    · refine ⟨_, _, _, ldN m7 (by simp) rfl, hM k i w v S7 _ hw7 ⟨g7, z7, m7, hw7, ?_⟩⟩
      by_cases hm : mayC (k, i, v) = 0
      · right
        refine ⟨by simp [hm], ?_⟩
        rcases hend with ⟨h1 | h1 | h1, _⟩ | ⟨_, he⟩
        · rw [hb] at h1; cases h1
        · exact absurd h3 h1
        · exact absurd hm h1
        · exact he
      · left
        refine ⟨by simp [hm], ?_⟩
        rcases hend with ⟨_, he⟩ | ⟨⟨_, _, h1⟩, _⟩
        · exact he
        · exact absurd h1 hm
  rintro b S8 ⟨g8, z8, m8, hw8, ⟨rfl, he⟩ | ⟨rfl, he⟩⟩
  · refine ifC_tt rfl (st_mk g8.wf z8 rfl (by simp [V.cells]) rfl fun S9 u9 m9 n9 => ?_)
    simp only [V.cells, over] at m9
    rw [he] at h
    exact ⟨_, _, _, ldC m9 (by simp) rfl, h _ _ (g8.after u9 (by simp)) (nil_ints _)⟩
  · refine ifC_ff rfl ⟨_, _, _, ldN m8 (by simp) rfl, st_mk g8.wf z8 rfl (by simp [V.cells]) (by simp only [V.cells, List.all_cons, List.all_nil, hw8.one1]; rfl) fun S9 u9 m9 n9 => ?_⟩
    simp only [V.cells, over] at m9
    rw [he] at h
    refine ⟨_, _, _, ldC m9 (by simp) rfl, h _ _ (g8.after u9 (by simp)) (hw8.upd u9 fun q hq hm => ?_)⟩
    have := hwb q hq
    have := g1.le
    simp at hm; omega

end Go.Th.L
