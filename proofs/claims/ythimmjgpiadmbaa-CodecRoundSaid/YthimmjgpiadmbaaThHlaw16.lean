/- codec: its laws. -/
import Derived.Test.YthimmjgpiadmbaaThHcodec7
import Derived.Test.YthimmjgpiadmbaaThGlaw16
set_option linter.unusedSimpArgs false
set_option linter.unusedVariables false
namespace Go.Th.L
open Go Go.Th Go.Th.Pure
variable {P : Program} {N : Nat → Nat}

/-- The document's examples. -/
def Awake (P : Program) (f : Nat) : Prop := ∀ (S : St) (K : Bool → St → Prop), K true S → CallA P f [] S (retT [.one .bool] K)

def law16_big.Spec (P : Program) (N : Nat → Nat) : Prop := ∀ (v : V) (rs : List Row) (S : St) (K : Bool → St → Prop), RowsAt S v rs → rs.length ≤ 17592186044416 → (∀ r ∈ rs, r.2.length ≤ 17592186044416) →
  (∀ b, (b = false → rs.length ≤ 2000 ∧ ∀ r ∈ rs, r.2.length ≤ 524288) → K b S) → CallA P (N Fn.law16_big) [v] S (retT [.one .bool] K)

theorem law16_big.spec (hF : law16_big.Ok P N) (hV : keep_Vectors.Spec P N) : law16_big.Spec P N := by
  rintro v rs S K hv hl hlv h
  obtain ⟨ws, hv'⟩ := id hv
  refine law16_big.run hF ⟨_, hv'.length, ifC_dec (fun h1 => h _ (by simp)) (fun h1 => hV _ _ _ _ _ hv hl hlv (by omega) fun n hn => h _ fun hb => ?_)⟩
  have hn' := hn (by have := of_decide_eq_false hb; omega)
  exact ⟨by omega, fun r hr => by have := hn'.2 r hr; omega⟩

theorem law16_CodecTexts.spec (hF : law16_CodecTexts.Ok P N) (hA : Awake P (N Fn.law16_awake)) (hB : law16_big.Spec P N) (hL : keep_Lend.Spec P N) (hK : keep_Back.Spec P N) (hLR : keep_LendRows.Spec P N) (hKR : keep_BackRows.Spec P N)
    (hPC : PutsC P (N Fn.codec_PutChange)) (hPC2 : PutsC P (N Fn.ref16_PutChange)) (hPR : PutsR P (N Fn.codec_PutRows)) (hPR2 : PutsR P (N Fn.ref16_PutRows)) :
    ∀ (k i : Int) (w : V) (c : List Int) (v : V) (rs : List Row) (S : St) (K : Bool → St → Prop), S.Wf → IntsAt S w c → RowsAt S v rs → rs.length ≤ 17592186044416 → (∀ r ∈ rs, r.2.length ≤ 17592186044416) → (∀ S', K true S') →
      CallA P (N Fn.law16_CodecTexts) [.agg [.int .i64 k, .int .i64 i, w], v] S (retT [.one .bool] K) := by
  intro k i w c v rs S K hw hc hv hl hlv h
  refine law16_CodecTexts.run hF (newS_mk hw fun S1 g1 m1 n1 => Join0.mid (fun S' => S' = S1 ∧ c.length ≤ 524288 ∧ rs.length ≤ 2000 ∧ ∀ r ∈ rs, r.2.length ≤ 524288) ?_ ?_)
  · refine ifS_mk (ld m1 rfl) ⟨_, (hc.grow g1).len, ifC_dec (fun h1 => h _) (fun h1 => hB _ _ _ _ (hv.grow g1) hl hlv fun b hb => ifC_tt_ff (fun _ => h _) (fun h2 => ⟨rfl, by omega, hb h2⟩))⟩
  rintro S2 ⟨rfl, h1, h2, h3⟩
  have hc2 := hc.grow g1
  have hv2 := hv.grow g1
  refine ifS_mk (ld m1 rfl) (hL _ c S2 _ g1.wf hc2 (by omega) fun S3 x g3 hx => ⟨_, ld (g3.get m1) rfl, _, ld (g3.get m1) rfl, hx.sl.cells1, ?_⟩)
  refine hPC k i x c S3 _ hx.sl (by omega) (ifS_mk (ld (g3.get m1) rfl) (hK x _ c S3 _ _ g3.wf hx (hc2.grow g3) (by omega) fun S4 u4 => ?_))
  have g4 : Grow S2 S4 := g3.after u4 (fun q hq => .inl (hx.from q hq))
  refine ⟨_, _, _, ldN (g4.get m1) (by simp) rfl, hPC2 k i _ c S4 _ (hc2.grow g4) (by omega) ?_⟩
  refine hLR v rs S4 _ g4.wf (hv2.grow g4) (by omega) (fun r hr => by have := h3 r hr; omega) fun S5 y ws g5 hy => ?_
  refine hPR y rs S5 _ ⟨ws, hy.rows⟩ (by omega) (fun r hr => by have := h3 r hr; omega) ?_
  refine hKR y v rs ws S4 S5 _ _ g5.wf hy (hv2.grow g4) g5 (Nat.le_refl _) (by omega) (fun r hr => by have := h3 r hr; omega) fun S6 u6 => ?_
  have g6 : Grow S4 S6 := g5.after u6 (fun q hq => .inl (hy.range g5.wf q hq).1)
  refine hPR2 v rs S6 _ ((hv2.grow g4).grow g6) (by omega) (fun r hr => by have := h3 r hr; omega) (hA S6 _ ?_)
  refine ifC_tt rfl (ifC_tt rfl (ifC_tt rfl (ifC_pos rfl (ifC_pos rfl (ifC_pos rfl ?_)))))
  rw [decide_eq_true rfl]
  exact h _

theorem law16_CodecReads.spec (hF : law16_CodecReads.Ok P N) (hA : Awake P (N Fn.law16_awake)) (hGC : GetsC P (N Fn.codec_GetChange)) (hGC2 : GetsC P (N Fn.ref16_GetChange)) (hGR : GetsR P (N Fn.codec_GetRows)) (hGR2 : GetsR P (N Fn.ref16_GetRows))
    (hI : keep_Ints.Spec P N) (hR : keep_Rows.Spec P N) : ∀ (s : List UInt8) (S : St) (K : Bool → St → Prop), S.Wf → (∀ S', K true S') → CallA P (N Fn.law16_CodecReads) [.str s] S (retT [.one .bool] K) := by
  intro s S K hw h
  refine law16_CodecReads.run hF (ifC_dec (fun h1 => h _) (fun h1 => ?_))
  refine hGC s S _ hw (by omega) fun w S1 g1 hw1 => newS_mk g1.wf fun S2 g2 m2 n2 => st_mk g2.wf m2 rfl (by simp [V.cells]) (by simp only [V.cells, List.all_cons, List.all_nil, hw1.one1]; rfl) fun S3 u3 m3 n3 => ?_
  simp only [V.cells, over] at m3
  have g3 : Grow S1 S3 := g2.after u3 (by simp)
  refine hGC2 s S3 _ u3.wf (by omega) fun w2 S4 g4 hw4 => newS_mk g4.wf fun S5 g5 m5 n5 => st_mk g5.wf m5 rfl (by simp [V.cells]) (by simp only [V.cells, List.all_cons, List.all_nil, hw4.one1]; rfl) fun S6 u6 m6 n6 => ?_
  simp only [V.cells, over] at m6
  have g6 : Grow S4 S6 := g5.after u6 (by simp)
  have g36 := g4.trans g6
  refine hGR s S6 _ u6.wf (by omega) fun x S7 g7 hx => hGR2 s S7 _ g7.wf (by omega) fun y S8 g8 hy => hA S8 _ (ifC_tt rfl ?_)
  have g68 := g7.trans g8
  have m38 := Grow.get (g36.trans g68) m3
  have m68 := Grow.get g68 m6
  refine ⟨_, ld m38 rfl, _, ld m68 rfl, ifC_pos rfl ⟨_, ld m38 rfl, _, ld m68 rfl, ifC_pos rfl (ifS_mk (ld m38 rfl) (ifS_mk (ld m68 rfl) (hI _ _ _ _ S8 _ (hw1.grow ((g3.trans g36).trans g68)) (hw4.grow (g6.trans g68)) ?_)))⟩⟩
  rw [decide_eq_true rfl]
  refine ifC_tt rfl (ifC_pos rfl (hR _ _ _ _ S8 _ g8.wf (hx.grow g8) hy ?_))
  rw [decide_eq_true rfl]
  refine ifC_tt rfl ?_
  rw [decide_eq_true rfl]
  exact h _


theorem bytes1 {S : St} {i : Nat} {b : UInt8} (h : S.get i = some (.cells [.int .u8 (b.toNat : Nat)] true)) : convBSV S (.slice i 0 1 1 1 true) = some (.str [b]) := by
  refine bytes_str (bs := [b]) ⟨by simp, rfl, .inr ⟨i, 0, 1, true, rfl, by simp, ?_⟩⟩
  rw [St.loads_of h (by simp)]; rfl

theorem take_all_but {s : List UInt8} (h : 1 ≤ s.length) : IntKind.i64.wrap ((s.length : Int) - 1) = ((s.length - 1 : Nat) : Int) ∨ 4611686018427387904 < s.length := by
  by_cases h2 : s.length ≤ 4611686018427387904
  · left; rw [IntKind.wrap_i64]; omega
  · right; omega

theorem law16_CodecRound.spec (hF : law16_CodecRound.Ok P N) (hA : Awake P (N Fn.law16_awake)) (hB : law16_big.Spec P N) (hPC : PutsC P (N Fn.codec_PutChange)) (hGC : GetsC P (N Fn.codec_GetChange)) (hPR : PutsR P (N Fn.codec_PutRows)) (hGR : GetsR P (N Fn.codec_GetRows))
    (hI : keep_Ints.Spec P N) (hR : keep_Rows.Spec P N) : ∀ (k i : Int) (w : V) (c : List Int) (v : V) (rs : List Row) (text : List UInt8) (more : UInt8) (S : St) (K : Bool → St → Prop), S.Wf → IntsAt S w c → RowsAt S v rs → rs.length ≤ 17592186044416 →
      (∀ r ∈ rs, r.2.length ≤ 17592186044416) → (∀ S', K true S') → CallA P (N Fn.law16_CodecRound) [.agg [.int .i64 k, .int .i64 i, w], v, .str text, .int .u8 (more.toNat : Nat)] S (retT [.one .bool] K) := by
  intro k i w c v rs text more S K hw hc hv hl hlv h
  refine law16_CodecRound.run hF (newS_mk hw fun S1 g1 m1 n1 => Join0.mid (fun S' => S' = S1 ∧ c.length ≤ 524288 ∧ rs.length ≤ 2000 ∧ (∀ r ∈ rs, r.2.length ≤ 524288) ∧ text.length ≤ 524288) ?_ ?_)
  · refine ifS_mk (ld m1 rfl) ⟨_, (hc.grow g1).len, ifC_dec (fun h1 => h _) (fun h1 => hB _ _ _ _ (hv.grow g1) hl hlv fun b hb => ifC_tt_ff (fun _ => h _) (fun h2 => ifC_dec (fun h3 => h _) (fun h3 => ⟨rfl, by omega, (hb h2).1, (hb h2).2, by omega⟩)))⟩
  rintro S2 ⟨rfl, h1, h2, h3, h4⟩
  have hc2 := hc.grow g1
  have hv2 := hv.grow g1
  refine ⟨_, _, _, ldN m1 (by simp) rfl, hPC k i w c S2 _ hc2 (by omega) (Join0.mid (fun S' => Grow S2 S') ?_ ?_)⟩
  · refine ifC_dec (fun he => ?_) (fun he => Upd.refl g1.wf _)
    have hm : mayC (k, i, c) = 0 := by
      unfold putC at he
      by_cases hm : mayC (k, i, c) = 0
      · exact hm
      · rw [if_pos hm] at he; exact absurd he hm
    have hp : putC (k, i, c) = (textC (k, i, c), 0) := by simp only [putC, hm]; rfl
    rw [hp]
    have hlen : (textC (k, i, c)).length ≤ 262 := by
      rw [textC_length]
      simp only
      split
      · rename_i hk1
        have hcv : checkV c c.length = 0 := by
          have hm' := hm
          have hi := mayC_id hm
          unfold mayC at hm'
          simp only at hm' hi
          rw [if_neg (by omega), if_neg (by simp [idOk_iff.mpr hi]), if_pos hk1] at hm'
          exact hm'
        have := checkV_zero hcv
        omega
      · omega
    have hlen1 : 5 ≤ (textC (k, i, c)).length := by
      rw [textC_length]
      split <;> omega
    refine ifC_neg (by simp only; omega) (hGC _ S2 _ g1.wf (by simp only; omega) fun w3 S3 g3 hw3 => newS_mk g3.wf fun S4 g4 m4 n4 => ?_)
    rw [getC_textC hm] at hw3 ⊢
    refine st_mk g4.wf m4 rfl (by simp [V.cells]) (by simp only [V.cells, List.all_cons, List.all_nil, hw3.one1]; rfl) fun S5 u5 m5 n5 => newS_mk u5.wf fun S6 g6 m6 n6 => ⟨_, bytes1 m6, ?_, ?_⟩
    · simp only [List.length_cons, List.length_nil]; omega
    simp only [V.cells, over] at m5
    have g25 : Grow S2 S5 := (g3.trans g4).after u5 (by simp; exact g3.le)
    have g26 := g25.trans g6
    refine hGC _ S6 _ g6.wf (by simp only [List.length_append, List.length_cons, List.length_nil]; omega) fun w7 S7 g7 hw7 => newS_mk g7.wf fun S8 g8 m8 n8 => ?_
    rw [getC_more hm] at hw7 ⊢
    refine st_mk g8.wf m8 rfl (by simp [V.cells]) (by simp only [V.cells, List.all_cons, List.all_nil, hw7.one1]; rfl) fun S9 u9 m9 n9 => ?_
    have g69 : Grow S6 S9 := (g7.trans g8).after u9 (by simp; exact g7.le)
    refine setI_mk (n := (((textC (k, i, c)).length - 1 : Nat) : Int)) (by simp only; rw [IntKind.wrap_i64]; omega) ⟨_, sliceStr_to (by simp only; omega), hGC _ S9 _ u9.wf (by rw [List.length_take]; omega) fun w10 S10 g10 hw10 => newS_mk g10.wf fun S11 g11 m11 n11 => ?_⟩
    rw [getC_less hm] at hw10 ⊢
    refine st_mk g11.wf m11 rfl (by simp [V.cells]) (by simp only [V.cells, List.all_cons, List.all_nil, hw10.one1]; rfl) fun S12 u12 m12 n12 => ?_
    have g912 : Grow S9 S12 := (g10.trans g11).after u12 (by simp; exact g10.le)
    have g512 : Grow S5 S12 := (g6.trans g69).trans g912
    have g212 : Grow S2 S12 := g25.trans g512
    have q5 := Grow.get g512 m5
    have q1 := Grow.get g212 m1
    refine ifC_npos rfl ⟨_, ld q5 rfl, _, ld q1 rfl, ifC_npos rfl ⟨_, ld q5 rfl, _, ld q1 rfl, ifC_npos rfl (ifS_mk (ld q5 rfl) (ifS_mk (ld q1 rfl) (hI _ _ c c S12 _ (hw3.grow ((g4.after u5 (by simp)).trans g512)) (hc2.grow g212) ?_)))⟩⟩
    rw [decide_eq_true rfl]
    exact ifC_ff rfl (ifC_npos rfl (ifC_npos rfl g212))
  intro S3 g3
  refine hPR v rs S3 _ (hv2.grow g3) (by omega) (fun r hr => by have := h3 r hr; omega) (Join0.mid (fun S' => Grow S2 S') ?_ ?_)
  · refine ifC_dec (fun he => ?_) (fun he => g3)
    have hm : errR rs = 0 := by
      unfold putR at he
      by_cases hm : errR rs = 0
      · exact hm
      · rw [if_pos hm] at he; exact absurd he hm
    have hp : putR rs = (textR (dimR rs) rs, 0) := by simp only [putR, hm]; rfl
    rw [hp]
    have hd := errR_dim hm
    have hlen := textR_length hm
    have hlen2 : rs.length * (4 + 4 * (dimR rs).toNat) ≤ 2000 * 260 := Nat.mul_le_mul (by omega) (by omega)
    refine ifC_neg (by simp only; omega) (hGR _ S3 _ g3.wf (by simp only; omega) fun w4 S4 g4 hw4 => newS_mk g4.wf fun S5 g5 m5 n5 => ?_)
    rw [getR_textR hm] at hw4 ⊢
    refine ⟨_, bytes1 m5, ?_, hGR _ S5 _ g5.wf ?_ fun w6 S6 g6 hw6 => ?_⟩
    · simp only [List.length_cons, List.length_nil]; omega
    · simp only [List.length_append, List.length_cons, List.length_nil]; omega
    rw [getR_more hm] at hw6 ⊢
    refine setI_mk (n := (((textR (dimR rs) rs).length - 1 : Nat) : Int)) (by simp only; rw [IntKind.wrap_i64]; omega) ⟨_, sliceStr_to (by simp only; omega), hGR _ S6 _ g6.wf (by rw [List.length_take]; omega) fun w7 S7 g7 hw7 => ?_⟩
    rw [getR_less hm] at hw7 ⊢
    have g47 : Grow S4 S7 := (g5.trans g6).trans g7
    have g37 : Grow S3 S7 := g4.trans g47
    refine ifC_npos rfl (hR _ _ _ _ S7 _ g7.wf (hw4.grow g47) ((hv2.grow g3).grow g37) ?_)
    rw [decide_eq_true rfl]
    exact ifC_ff rfl (ifC_npos rfl (ifC_npos rfl (g3.trans g37)))
  intro S4 g4
  refine hGC text S4 _ g4.wf (by omega) fun w5 S5 g5 hw5 => newS_mk g5.wf fun S6 g6 m6 n6 => st_mk g6.wf m6 rfl (by simp [V.cells]) (by simp only [V.cells, List.all_cons, List.all_nil, hw5.one1]; rfl) fun S7 u7 m7 n7 => ?_
  simp only [V.cells, over] at m7
  have g57 : Grow S5 S7 := g6.after u7 (by simp)
  refine Join0.mid (fun S' => S' = S7) ?_ ?_
  · refine ifC_dec (fun he => ⟨_, _, _, ldN m7 (by simp) rfl, ?_⟩) (fun he => rfl)
    have hb := getC_length (c := (getC text).1) (s := text) (by rw [← he])
    refine hPC _ _ _ _ S7 _ (hw5.grow g57) ?_ ?_
    · have := textC_length (c := (getC text).1)
      rw [hb.1] at this
      have hk := mayC_kind hb.2
      by_cases h1 : (getC text).1.1 = 1
      · rw [if_pos h1] at this; omega
      · have hmm := hb.2
        unfold mayC at hmm
        have hi := mayC_id hb.2
        rw [if_neg (by omega), if_neg (by simp [idOk_iff.mpr hi]), if_neg h1] at hmm
        split at hmm
        · omega
        · omega
    · have hp : putC ((getC text).1.1, (getC text).1.2.1, (getC text).1.2.2) = (text, 0) := by
        show putC (getC text).1 = _
        simp only [putC, hb.2, hb.1]; rfl
      rw [hp]
      exact ifC_npos rfl (ifC_npos rfl rfl)
  rintro S7 rfl
  refine hGR text S7 _ u7.wf (by omega) fun w8 S8 g8 hw8 => ifC_dec (fun he => ?_) (fun he => hA S8 _ (h _))
  have hb := getR_back (rs := (getR text).1) (s := text) (by rw [← he])
  have hd := errR_dim hb.1
  refine hPR _ _ S8 _ hw8 (by omega) (fun r hr => by have := hd.2.2.2 r hr; omega) ?_
  have hp : putR (getR text).1 = (text, 0) := by simp only [putR, hb.1, hb.2]; rfl
  rw [hp]
  exact ifC_npos rfl (ifC_npos rfl (hA S8 _ (h _)))

end Go.Th.L
