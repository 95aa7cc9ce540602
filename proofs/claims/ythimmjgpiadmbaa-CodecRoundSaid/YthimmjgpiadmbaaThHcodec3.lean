/- codec: changes put and got. -/
import Derived.Test.YthimmjgpiadmbaaThQ8
import Derived.Test.YthimmjgpiadmbaaThHcodec2
set_option linter.unusedSimpArgs false
set_option linter.unusedVariables false
namespace Go.Th.L
open Go Go.Th Go.Th.Pure
variable {P : Program} {N : Nat → Nat}

def codec_may.Spec (P : Program) (N : Nat → Nat) : Prop := ∀ (k i : Int) (w : V) (v : List Int) (S : St) (K : Int → St → Prop), IntsAt S w v → K (mayC (k, i, v)) S → CallA P (N Fn.codec_may) [.agg [.int .i64 k, .int .i64 i, w]] S (retT [.one (.int .i64)] K)

theorem codec_may.spec (hF : codec_may.Ok P N) (hC : ChecksV P (N Fn.vec_Check)) : codec_may.Spec P N := by
  intro k i w v S K hv h
  refine CallA.gc1 rfl (mayC (k, i, v)) h fun K' hw h => ?_
  have hv := IntsAt.ro hv
  generalize S.ro = R at hv hw
  unfold mayC at h
  simp only at h
  refine codec_may.run hF (newS_mk hw fun S1 g1 m1 n1 => Join1.mid (fun b S' => S' = S1 ∧ b = decide (k ≠ 1 ∧ k ≠ 2)) ?_ ?_)
  · refine ⟨_, ld m1 rfl, ifC_ndec (fun h1 => ⟨_, ld m1 rfl, rfl, ?_⟩) (fun h1 => ⟨rfl, by simp [h1]⟩)⟩
    simp [h1]
  rintro _ S2 ⟨rfl, rfl⟩
  refine ifC_dec (fun h1 => ?_) (fun h1 => ?_)
  · rw [if_pos h1] at h; exact h _
  rw [if_neg h1] at h
  refine Join1.mid (fun b S' => S' = S2 ∧ b = decide (idOk i = false)) ?_ ?_
  · refine ⟨_, ld m1 rfl, ifC_dec (fun h2 => ⟨rfl, by simp [idOk]; omega⟩) (fun h2 => ⟨_, ld m1 rfl, rfl, ?_⟩)⟩
    have : (decide ((1000000000 : Int) < i)) = decide (idOk i = false) := by
      congr 1; simp [idOk]; omega
    exact this
  rintro _ S3 ⟨rfl, rfl⟩
  refine ifC_dec (fun h2 => ?_) (fun h2 => ⟨_, ld m1 rfl, ifC_dec (fun h3 => ?_) (fun h3 => ?_)⟩)
  · rw [if_pos h2] at h; exact h _
  · rw [if_neg h2, if_pos h3] at h
    refine ifS_mk (ld m1 rfl) (ifS_mk (ld m1 rfl) ⟨_, (hv.grow g1).len, hC _ _ _ _ _ (hv.grow g1) (h _)⟩)
  · rw [if_neg h2, if_neg h3] at h
    refine ifS_mk (ld m1 rfl) ⟨_, (hv.grow g1).len, ifC_dec (fun h4 => ?_) (fun h4 => ?_)⟩
    · rw [if_pos (by omega)] at h; exact h _
    · rw [if_neg (by omega)] at h; exact h _

/-- A change put as a text. -/
def PutsC (P : Program) (f : Nat) : Prop := ∀ (k i : Int) (w : V) (v : List Int) (S : St) (K : List UInt8 → Int → St → Prop), IntsAt S w v → v.length ≤ 1099511627 → K (putC (k, i, v)).1 (putC (k, i, v)).2 S →
  CallA P f [.agg [.int .i64 k, .int .i64 i, w]] S (retT [.one .str, .one (.int .i64)] K)

theorem vecT_snoc (l : List Int) (x : Int) : vecT (l ++ [x]) = vecT l ++ le 4 x := by simp [vecT]

theorem codec_PutChange.spec (hF : codec_PutChange.Ok P N) (hM : codec_may.Spec P N) (hL : LaysB P (N Fn.codec_lay) (fun _ => True)) : PutsC P (N Fn.codec_PutChange) := by
  intro k i w v S K hv hlv h
  refine CallA.gc2 rfl rfl _ _ h fun K' hw h => ?_
  have hv := IntsAt.ro hv
  generalize S.ro = R at hv hw
  refine codec_PutChange.run hF (newS_mk hw fun S1 g1 m1 n1 => ⟨_, _, _, ldN m1 (by simp) rfl, hM k i w v S1 _ (hv.grow g1) (ifC_ndec (fun h1 => ?_) (fun h1 => ?_))⟩)
  · simp only [putC, if_pos h1] at h; exact h _
  simp only [putC, if_neg (show ¬ (mayC (k, i, v) ≠ 0) by omega)] at h
  refine ⟨_, ld m1 rfl, _, ld m1 rfl, ?_⟩
  refine hL _ _ 1 [] S1 S1 _ (Built.nil (Upd.refl g1.wf _) 1) (by simp) trivial fun b2 S2 hb2 u2 t2 => ?_
  have g2 := hb2.grow
  have hR : ∀ q ∈ [R.next, R.next], q < S1.next := by simp; omega
  refine ⟨Same.of_grow g2 hR, hL _ _ 4 _ S1 S2 _ hb2 (by simp [le_length]) trivial fun b3 S3 hb3 u3 t3 => ?_⟩
  have g3 := hb3.grow
  have m3 := g3.get m1
  have hs23 : Same [R.next, R.next] S2 S3 := fun q hq => by
    rw [g3.keep q (hR q hq) (by simp), g2.keep q (hR q hq) (by simp)]
  have hw3 := (hv.grow g1).grow g3
  refine ⟨hs23, Join1.mid (fun b S' => BuiltB S1 S' b (le 1 k ++ (le 4 i ++ (if k = 1 then le 1 v.length else [])))) ?_ ?_⟩
  · refine ⟨_, ld m3 rfl, ifC_dec (fun h2 => ?_) (fun h2 => ?_)⟩
    · refine ifS_mk (ld m3 rfl) ⟨_, hw3.len, hL _ _ 1 _ S1 S3 _ hb3 (by simp [le_length]) trivial fun b4 S4 hb4 u4 t4 => ?_⟩
      rw [if_pos h2]
      simpa using hb4
    · rw [if_neg h2]
      simpa using hb3
  intro b4 S4 hb4
  have g4 := hb4.grow
  have m4 := g4.get m1
  have hw4 := (hv.grow g1).grow g4
  have hle := hv.le
  refine ifS_mk (ld m4 rfl) ⟨_, hw4.len, ?_⟩
  refine Loop2.ind (fun n b x S' => ∃ j : Nat, x = j ∧ j + n = v.length ∧ BuiltB S1 S' b ((le 1 k ++ (le 4 i ++ (if k = 1 then le 1 v.length else []))) ++ vecT (v.take j))) v.length ⟨0, rfl, by omega, by simpa [vecT] using hb4⟩ ?_
  rintro n b _ S5 ⟨j, rfl, hj, hb5⟩
  have hw5 := (hv.grow g1).grow hb5.grow
  refine ifC_dec (fun hlt => ?_) (fun hge => ⟨_, bytes_str hb5.at_, ?_⟩)
  · have hjl : j < v.length := by omega
    refine ifS_mk (hw5.idx hjl) ⟨_, IntsAt.get hw5 hjl, hL _ _ 4 _ S1 S5 _ hb5 ?_ trivial fun b6 S6 hb6 u6 t6 => setI_mk (wrap_succ (by omega)) ⟨n - 1, by omega, j + 1, rfl, by omega, ?_⟩⟩
    · have := vecT_length (v.take j)
      have h4 : (v.take j).length ≤ v.length := by rw [List.length_take]; omega
      simp only [List.length_append, le_length]
      split <;> simp only [le_length, List.length_nil] <;> omega
    · have : v.take (j + 1) = v.take j ++ [v[j]] := by rw [List.take_add_one, List.getElem?_eq_getElem hjl]; rfl
      rw [this, vecT_snoc, ← List.append_assoc]; exact hb6
  · have hjn : v.take j = v := List.take_of_length_le (by omega)
    rw [hjn]
    have he : (le 1 k ++ (le 4 i ++ (if k = 1 then le 1 v.length else []))) ++ vecT v = textC (k, i, v) := by
      unfold textC
      by_cases h2 : k = 1
      · simp [h2]
      · have hm := h1
        unfold mayC at hm
        have hk := mayC_kind (c := (k, i, v)) h1
        simp only at hk
        have hi := mayC_id (c := (k, i, v)) h1
        simp only at hi hm
        rw [if_neg (by omega), if_neg (by simp [idOk_iff.mpr hi]), if_neg h2] at hm
        have : v = [] := by
          split at hm
          · omega
          · exact List.length_eq_zero_iff.mp (by omega)
        subst this
        simp [h2, vecT]
    rw [he]; exact h _

theorem ref16_PutChange.spec (hF : ref16_PutChange.Ok P N) (hI : ref03_Id.Spec P N) (hC : ChecksV P (N Fn.ref03_Check)) (hN : LaysB P (N Fn.ref16_number) (fun v => 0 ≤ v ∧ v < 9223372036854775808))
    (hO : ref16_coord.Spec P N) : PutsC P (N Fn.ref16_PutChange) := by
  intro k i w v S K hv hlv h
  refine CallA.gc2 rfl rfl _ _ h fun K' hw h => ?_
  have hv := IntsAt.ro hv
  generalize S.ro = R at hv hw
  have hmay : mayC (k, i, v) = if k ≠ 1 ∧ k ≠ 2 then 160 else if idOk i = false then 50 else if k = 1 then checkV v v.length else if 0 < v.length then 1 else 0 := rfl
  refine ref16_PutChange.run hF (newS_mk hw fun S1 g1 m1 n1 => Join0.mid (fun S' => S' = S1 ∧ (k = 1 ∨ k = 2)) ?_ ?_)
  · refine ⟨_, ld m1 rfl, ifC_ndec (fun h1 => ⟨_, ld m1 rfl, ifC_ndec (fun h2 => ?_) (fun h2 => ⟨rfl, .inr h2⟩)⟩) (fun h1 => ⟨rfl, .inl h1⟩)⟩
    rw [if_pos ⟨h1, h2⟩] at hmay
    simp only [putC, hmay] at h; exact h _
  rintro S2 ⟨rfl, hk⟩
  rw [if_neg (by omega)] at hmay
  refine ⟨_, ld m1 rfl, hI _ _ _ ?_⟩
  by_cases hid' : idOk i = false
  · rw [if_pos hid'] at hmay
    rw [hid']
    simp only [putC, hmay] at h
    exact ifC_tt rfl (h _)
  have hid : idOk i = true := by simpa using hid'
  rw [if_neg (by simp [hid])] at hmay
  rw [hid]
  have hi := idOk_iff.mp hid
  refine ifC_ff rfl ⟨_, ld m1 rfl, ?_⟩
  refine hN _ _ 1 [] S2 S2 _ (Built.nil (Upd.refl g1.wf _) 1) (by simp) ⟨by omega, by omega⟩ fun b3 S3 hb3 u3 t3 => ?_
  refine ⟨_, ld (hb3.grow.get m1) rfl, hN _ _ 4 _ S2 S3 _ hb3 (by simp [le_length]) ⟨by omega, by omega⟩ fun b4 S4 hb4 u4 t4 => ?_⟩
  have m4 := hb4.grow.get m1
  have hw4 := (hv.grow g1).grow hb4.grow
  refine ⟨_, ld m4 rfl, ifC_dec (fun h2 => ?_) (fun h2 => ?_)⟩
  · rw [if_neg (by omega)] at hmay
    refine ifS_mk (ld m4 rfl) ⟨_, hw4.len, ifC_dec (fun h3 => ?_) (fun h3 => ?_)⟩
    · rw [if_pos (by omega)] at hmay
      simp only [putC, hmay] at h; exact h _
    · rw [if_neg (by omega)] at hmay
      simp only [putC, hmay] at h
      refine ⟨_, bytes_str hb4.at_, ?_⟩
      have he : [] ++ le 1 k ++ le 4 i = textC (k, i, v) := by
        unfold textC; simp; omega
      rw [he]; exact h _
  · have hk1 : k = 1 := by omega
    rw [if_pos hk1] at hmay
    refine ifS_mk (ld m4 rfl) (ifS_mk (ld m4 rfl) ⟨_, hw4.len, hC _ _ _ _ _ hw4 (ifC_ndec (fun h3 => ?_) (fun h3 => ?_))⟩)
    · simp only [putC, hmay, if_pos h3] at h; exact h _
    · simp only [putC, hmay, if_neg (show ¬ (checkV v v.length ≠ 0) by omega)] at h
      obtain ⟨c1, c2, c3, c4⟩ := checkV_zero h3
      refine ifS_mk (ld m4 rfl) ⟨_, hw4.len, hN _ _ 1 _ S2 S4 _ hb4 (by simp [le_length]) ⟨by omega, by omega⟩ fun b5 S5 hb5 u5 t5 => ?_⟩
      refine Loop2.ind (fun n b x S' => ∃ j : Nat, x = j ∧ j + n = v.length ∧ BuiltB S2 S' b (([] ++ le 1 k ++ le 4 i ++ le 1 v.length) ++ vecT (v.take j))) v.length ⟨0, rfl, by omega, by simpa [vecT] using hb5⟩ ?_
      rintro n b _ S6 ⟨j, rfl, hj, hb6⟩
      have m6 := hb6.grow.get m1
      have hw6 := (hv.grow g1).grow hb6.grow
      refine ifS_mk (ld m6 rfl) ⟨_, hw6.len, ifC_dec (fun hlt => ?_) (fun hge => ⟨_, bytes_str hb6.at_, ?_⟩)⟩
      · have hjl : j < v.length := by omega
        have hx := c4 _ (List.getElem_mem hjl)
        refine ifS_mk (ld m6 rfl) (ifS_mk (hw6.idx hjl) ⟨_, IntsAt.get hw6 hjl, hO _ _ _ S2 S6 _ hb6 ?_ (by omega) (by omega) fun b7 S7 hb7 u7 t7 => setI_mk (wrap_succ (by omega)) ⟨n - 1, by omega, j + 1, rfl, by omega, ?_⟩⟩)
        · have := vecT_length (v.take j)
          have h4 : (v.take j).length ≤ v.length := by rw [List.length_take]; omega
          simp only [List.length_append, le_length, List.length_nil]
          omega
        · have : v.take (j + 1) = v.take j ++ [v[j]] := by rw [List.take_add_one, List.getElem?_eq_getElem hjl]; rfl
          rw [this, vecT_snoc, ← List.append_assoc]; exact hb7
      · have hjn : v.take j = v := List.take_of_length_le (by omega)
        rw [hjn]
        have he : ([] ++ le 1 k ++ le 4 i ++ le 1 v.length) ++ vecT v = textC (k, i, v) := by
          unfold textC; simp [hk1]
        rw [he]; exact h _

end Go.Th.L
