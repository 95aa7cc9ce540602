/- codec: rows got; the document's getting. -/
import Derived.Test.YthimmjgpiadmbaaThHcodec5
set_option linter.unusedSimpArgs false
set_option linter.unusedVariables false
namespace Go.Th.L
open Go Go.Th Go.Th.Pure
variable {P : Program} {N : Nat → Nat}

/-- Rows that a call builds. -/
structure BuiltR (S0 S : St) (v : V) (rs : List Row) (ws : List V) : Prop where
  len : ws.length = rs.length
  built : Built S0 S 2 v (rowsC rs ws)
  ints : ∀ j (hr : j < rs.length) (hw : j < ws.length), IntsAt S ws[j] rs[j].2
  apart : ∀ w ∈ ws, ∀ q ∈ w.block, q ∉ v.block ∧ q < S.next

theorem BuiltR.nil {S0 S : St} (g : Grow S0 S) : BuiltR S0 S .nilSlice [] [] := ⟨rfl, Built.nil g 2, fun j h => by simp at h, by simp⟩
theorem BuiltR.rows {S0 S : St} {v : V} {rs : List Row} {ws : List V} (h : BuiltR S0 S v rs ws) : RowsAt S v rs := ⟨ws, h.len, h.built.sl, h.ints⟩
theorem BuiltR.next {S0 S S' : St} {v : V} {rs : List Row} {ws : List V} (h : BuiltR S0 S v rs ws) (g : Grow S S') : BuiltR S0 S' v rs ws :=
  ⟨h.len, h.built.next g, fun j hr hw => (h.ints j hr hw).grow g, fun w hw q hq => ⟨(h.apart w hw q hq).1, Nat.lt_of_lt_of_le (h.apart w hw q hq).2 g.le⟩⟩
theorem BuiltR.upd {D : List Nat} {S0 S S' : St} {v : V} {rs : List Row} {ws : List V} (h : BuiltR S0 S v rs ws) (g : Upd D S S') (hD : ∀ i ∈ D, S0.next ≤ i) (hv : ∀ i ∈ v.block, i ∉ D) (hw : ∀ w ∈ ws, ∀ q ∈ w.block, q ∉ D) : BuiltR S0 S' v rs ws :=
  ⟨h.len, h.built.upd g hD hv, fun j hr hj => (h.ints j hr hj).upd g (hw _ (List.getElem_mem hj)), fun w hw' q hq => ⟨(h.apart w hw' q hq).1, Nat.lt_of_lt_of_le (h.apart w hw' q hq).2 g.le⟩⟩

theorem rowsC_snoc {rs : List Row} {ws : List V} (h : ws.length = rs.length) (r : Row) (w : V) : rowsC (rs ++ [r]) (ws ++ [w]) = rowsC rs ws ++ [rowC r w] := by
  rw [rowsC_append h]; rfl

theorem BuiltR.push {S0 S : St} {v : V} {rs : List Row} {ws : List V} (h : BuiltR S0 S v rs ws) {w : V} {r : Row} (hw : IntsAt S w r.2) (hb : ∀ q ∈ w.block, q ∉ v.block ∧ q < S.next) (hl : rs.length ≤ 1048576) {K : V → St → Prop}
    (hk : ∀ v' S', BuiltR S0 S' v' (rs ++ [r]) (ws ++ [w]) → Upd v.block S S' → (∀ i ∈ v'.block, i ∈ v.block ∨ S.next ≤ i) → K v' S') :
    newS S (.cells [V.int .i64 r.1, w] true) fun S1 => ifP (appV S1 2 32 v (.slice S.next 0 1 1 2 true)) K := by
  have hrl := rowsC_length h.len
  refine h.built.push (e := rowC r w) rfl (by simp only [rowC, List.all_cons, List.all_nil, hw.one1]; rfl) (by rw [hrl]; omega) (by rw [hrl]; omega) fun v' S' b' u' t' => hk v' S' ⟨by simp [h.len], ?_, ?_, ?_⟩ u' t'
  · rw [rowsC_snoc h.len]; exact b'
  · intro j hr hj
    simp only [List.length_append, List.length_cons, List.length_nil] at hr hj
    rcases Nat.lt_or_ge j rs.length with hlt | hge
    · rw [List.getElem_append_left (by rw [h.len]; exact hlt)]
      have e : (rs ++ [r])[j] = rs[j] := List.getElem_append_left hlt
      rw [e]
      exact (h.ints j hlt (by rw [h.len]; exact hlt)).upd u' fun q hq => (h.apart _ (List.getElem_mem _) q hq).1
    · have hj0 : j = rs.length := by omega
      subst hj0
      rw [List.getElem_append_right (by rw [h.len]; omega)]
      have e : (rs ++ [r])[rs.length] = r := by simp
      have e2 : ∀ (hh : rs.length - ws.length < [w].length), [w][rs.length - ws.length] = w := by
        intro hh
        have : rs.length - ws.length = 0 := by rw [h.len]; omega
        simp [this]
      rw [e, e2]
      exact hw.upd u' fun q hq => (hb q hq).1
  · intro x hx q hq
    have hxq : q ∉ v.block ∧ q < S.next := by
      rcases List.mem_append.mp hx with hx | hx
      · exact h.apart x hx q hq
      · simp at hx; subst hx; exact hb q hq
    refine ⟨fun hm => ?_, Nat.lt_of_lt_of_le hxq.2 u'.le⟩
    rcases t' q hm with h1 | h1
    · exact hxq.1 h1
    · omega

/-- Rows got out of a text. -/
def GetsR (P : Program) (f : Nat) : Prop := ∀ (s : List UInt8) (S : St) (K : V → Int → St → Prop), S.Wf → s.length ≤ 1048576 →
  (∀ w S', Grow S S' → RowsAt S' w (getR s).1 → K w (getR s).2 S') → CallA P f [.str s] S (retT [.one .any, .one (.int .i64)] K)

theorem nil_rows (S : St) : RowsAt S .nilSlice [] := ⟨[], rfl, ⟨⟨by simp [rowsC], rfl, .inl ⟨rfl, rfl⟩⟩, by simp [rowsC]⟩, fun j h => by simp at h⟩

theorem drop_more {α : Type} {x : List α} {j c : Nat} : (x.drop (j * c)).drop c = x.drop ((j + 1) * c) := by
  rw [List.drop_drop]; congr 1
  rw [Nat.add_mul, Nat.one_mul]

theorem rowsOf_step {k d : Nat} {bs : List UInt8} : rowsOf (k + 1) d bs = (((num (bs.take 4) : Nat) : Int), coordsOf d (bs.drop 4)) :: rowsOf k d (bs.drop (4 + 4 * d)) := rfl

theorem codec_GetRows.spec (hF : codec_GetRows.Ok P N) (hN : codec_reading_number.Spec P N) (hC : codec_reading_coords.Spec P N) (hR : codec_rising.Spec P N) (hK : ChecksR P (N Fn.flat_Check)) : GetsR P (N Fn.codec_GetRows) := by
  intro s S K hw hs h
  refine codec_GetRows.run hF (newS_mk hw fun S1 g1 m1 n1 => ?_)
  refine hN _ 1 s false S1 _ g1.wf m1 (by omega) fun S2 u2 r2 => ?_
  refine hN _ 2 _ _ S2 _ u2.wf r2 (by omega) fun S3 u3 r3 => ?_
  have g3 : Grow S S3 := (g1.after u2 (by simp)).after u3 (by simp)
  refine Join0.mid (fun S' => S' = S3 ∧ 3 ≤ s.length ∧ s.length = 3 + manyS s * (4 + 4 * dimS s) ∧ manyS s ≤ 512 ∧ ¬ (manyS s = 0 ∧ 0 < dimS s)) ?_ ?_
  · by_cases h3 : 3 ≤ s.length
    · rw [rd_ok (show 1 ≤ s.length by omega)] at r3 ⊢
      simp only at r3 ⊢
      rw [rd_ok (show 2 ≤ (s.drop 1).length by rw [List.length_drop]; omega)] at r3 ⊢
      simp only [List.drop_drop] at r3 ⊢
      have hd : num (s.take 1) < 256 := num_take_lt s 1
      have hm : num ((s.drop 1).take 2) < 65536 := num_take_lt (s.drop 1) 2
      have hmd : num ((s.drop 1).take 2) * (4 + 4 * num (s.take 1)) ≤ 65535 * 1024 := Nat.mul_le_mul (by omega) (by omega)
      have hmd2 : ((num ((s.drop 1).take 2) * (4 + 4 * num (s.take 1)) : Nat) : Int) = ((num ((s.drop 1).take 2) : Nat) : Int) * ((4 + 4 * num (s.take 1) : Nat) : Int) := by simp
      have hlen : (s.drop (1 + 2)).length = s.length - 3 := by rw [List.length_drop]
      refine ⟨rfl, _, ld r3 rfl, ifC_ff rfl ⟨rfl, _, ld r3 rfl, setI_mk (n := ((4 * num (s.take 1) : Nat) : Int)) (by rw [IntKind.wrap_i64]; omega) (setI_mk (n := ((4 + 4 * num (s.take 1) : Nat) : Int)) (by rw [IntKind.wrap_i64]; omega)
        (setI_mk (n := ((num ((s.drop 1).take 2) * (4 + 4 * num (s.take 1)) : Nat) : Int)) (by rw [← hmd2, IntKind.wrap_i64]; omega) (ifC_ndec (fun h4 => ?_) (fun h4 => ifC_dec (fun h5 => ?_) (fun h5 => ?_)))))⟩⟩
      · have : getR s = ([], 161) := getR_bad fun hh => h4 (by unfold manyS dimS at hh; omega)
        rw [this] at h; exact h _ _ g3 (nil_rows _)
      · have : getR s = ([], 161) := by
          unfold getR; rw [if_pos (.inr (.inr (.inl (by unfold manyS; omega))))]
        rw [this] at h; exact h _ _ g3 (nil_rows _)
      · have hl : s.length = 3 + manyS s * (4 + 4 * dimS s) := by unfold manyS dimS; omega
        refine ifC_dec (fun h6 => ifC_dec (fun h7 => ?_) (fun h7 => ⟨trivial, h3, hl, by unfold manyS; omega, by unfold manyS dimS; omega⟩)) (fun h6 => ⟨trivial, h3, hl, by unfold manyS; omega, by unfold manyS dimS; omega⟩)
        have : getR s = ([], 161) := by
          unfold getR; rw [if_pos (.inr (.inr (.inr (by unfold manyS dimS; omega))))]
        rw [this] at h; exact h _ _ g3 (nil_rows _)
    · have hb : (rd (rd s false 1).1 (rd s false 1).2.1 2).2.1 = true := by
        by_cases h1 : 1 ≤ s.length
        · rw [rd_ok h1]
          simp only
          rw [rd_short (by rw [List.length_drop]; omega)]
        · rw [rd_short (by omega)]
          simp only [rd_bad]
      rw [hb] at r3
      have : getR s = ([], 161) := getR_bad fun hh => h3 hh.1
      rw [this] at h
      exact ⟨rfl, _, ld r3 rfl, ifC_tt rfl (h _ _ g3 (nil_rows _))⟩
  rintro S4 ⟨rfl, h3, hl, hm, h0⟩
  rw [rd_ok (show 1 ≤ s.length by omega)] at r3 ⊢
  simp only at r3 ⊢
  rw [rd_ok (show 2 ≤ (s.drop 1).length by rw [List.length_drop]; omega)] at r3 ⊢
  simp only [List.drop_drop] at r3 ⊢
  have hdS : num (s.take 1) = dimS s := rfl
  have hmS : num ((s.drop 1).take 2) = manyS s := rfl
  rw [hdS, hmS]
  have hd : dimS s < 256 := num_take_lt s 1
  have hget : getR s = if errR (rowsOf (manyS s) (dimS s) (s.drop 3)) ≠ 0 then ([], 161) else (rowsOf (manyS s) (dimS s) (s.drop 3), 0) := by
    unfold getR; rw [if_neg (by rintro (h' | h' | h' | h'); omega; exact h' hl; omega; exact h0 h')]
  have hn3 : S.next < S4.next := by have := u2.le; have := u3.le; omega
  refine Loop2.ind (fun n v x S' => ∃ (j : Nat) (rs : List Row) (ws : List V), x = j ∧ j + n = manyS s ∧ rs.length = j ∧ BuiltR S S' v rs ws ∧ (∀ q ∈ v.block, q ≠ S.next) ∧ (∀ w ∈ ws, ∀ q ∈ w.block, q ≠ S.next) ∧ S.next < S'.next ∧
      RdAt S' S.next ((s.drop 3).drop (j * (4 + 4 * dimS s))) false ∧ rowsOf (manyS s) (dimS s) (s.drop 3) = rs ++ rowsOf n (dimS s) ((s.drop 3).drop (j * (4 + 4 * dimS s)))) (manyS s)
    ⟨0, [], [], rfl, by omega, rfl, BuiltR.nil g3, by simp [V.block], by simp, hn3, by simpa using r3, by simp⟩ ?_
  rintro n v _ S5 ⟨j, rs, ws, rfl, hj, hrl, hb, hvb, hwb, hn5, r5, he⟩
  refine ifC_dec (fun hlt => ?_) (fun hge => ?_)
  · obtain ⟨n, rfl⟩ : ∃ q, n = q + 1 := ⟨n - 1, by omega⟩
    have hlen : ((s.drop 3).drop (j * (4 + 4 * dimS s))).length = (n + 1) * (4 + 4 * dimS s) := by
      rw [List.length_drop, List.length_drop, hl]
      have : manyS s * (4 + 4 * dimS s) = j * (4 + 4 * dimS s) + (n + 1) * (4 + 4 * dimS s) := by rw [← Nat.add_mul, hj]
      omega
    have hlen2 : 4 + 4 * dimS s ≤ ((s.drop 3).drop (j * (4 + 4 * dimS s))).length := by rw [hlen, Nat.add_mul]; omega
    refine hN _ 4 _ _ S5 _ hb.built.grow.wf r5 (by omega) fun S6 u6 r6 => ?_
    rw [rd_ok (by omega)] at r6 ⊢
    simp only at r6 ⊢
    refine hC _ _ _ _ S6 _ u6.wf r6 (by omega) fun w S7 u7 r7 hw7 hwb7 => ?_
    rw [rdC_ok _ _ (by rw [List.length_drop]; omega)] at r7 hw7
    simp only at r7 hw7
    have hDn : ∀ i ∈ [S.next], S.next ≤ i := by simp
    have hD : ∀ i ∈ v.block, i ∉ [S.next] := fun i hi hm => hvb i hi (by simpa using hm)
    have hDw : ∀ w ∈ ws, ∀ q ∈ w.block, q ∉ [S.next] := fun w hw q hq hm => hwb w hw q hq (by simpa using hm)
    have hb7 := (hb.upd u6 hDn hD hDw).upd u7 hDn hD hDw
    refine ⟨hw7.cells1, ?_⟩
    have hvlt := hb.built.lt
    have hS56 := u6.le
    have hrlen : rs.length ≤ 1048576 := by omega
    refine hb7.push (r := (((num (((s.drop 3).drop (j * (4 + 4 * dimS s))).take 4) : Nat) : Int), coordsOf (dimS s) (((s.drop 3).drop (j * (4 + 4 * dimS s))).drop 4))) hw7 (fun q hq => ⟨fun hm => by have := hvlt q hm; have := (hwb7 q hq).1; omega, (hwb7 q hq).2⟩) hrlen
      fun v' S' b' u' t' => setI_mk (wrap_succ (by omega)) ⟨n, by omega, j + 1, _, _, rfl, by omega, by simp [hrl], b', ?_, ?_, ?_, ?_, ?_⟩
    · intro q hq
      rcases t' q hq with h1 | h1
      · exact hvb q h1
      · have := u7.le; omega
    · intro x hx q hq
      rcases List.mem_append.mp hx with hx | hx
      · exact hwb x hx q hq
      · simp at hx; subst hx
        have := (hwb7 q hq).1; omega
    · have := u7.le; have := u'.le; omega
    · have e : (s.drop 3).drop ((j + 1) * (4 + 4 * dimS s)) = (((s.drop 3).drop (j * (4 + 4 * dimS s))).drop 4).drop (4 * dimS s) := by
        generalize s.drop 3 = x
        rw [List.drop_drop, List.drop_drop]; congr 1
        rw [Nat.add_mul, Nat.one_mul]
      rw [e]
      exact u'.get r7 (fun hm => hvb _ hm rfl)
    · rw [he, rowsOf_step, drop_more]
      simp only [List.append_assoc, List.singleton_append]
  · have hn0 : n = 0 := by omega
    subst hn0
    simp only [rowsOf, List.append_nil] at he
    rw [he] at hget
    have hjm : j = manyS s := by omega
    have hdim : 0 < manyS s → dimR rs = dimS s := fun hp => by rw [← he]; exact dimR_rowsOf hp
    have herr : errR rs = if rs ≠ [] ∧ checkR rs (dimR rs) ≠ 0 then checkR rs (dimR rs) else if risingB rs = false then 50 else 0 := rfl
    refine hR _ _ _ _ hb.rows (ifC_tt_ff (fun hr => ?_) (fun hr => ?_))
    · have hr' : risingB rs = false := by simpa using hr
      have hne : errR rs ≠ 0 := by
        rw [herr]
        by_cases hh : rs ≠ [] ∧ checkR rs (dimR rs) ≠ 0
        · rw [if_pos hh]; exact hh.2
        · rw [if_neg hh, if_pos hr']; omega
      rw [if_pos hne] at hget
      rw [hget] at h; exact h _ _ hb.built.grow (nil_rows _)
    · have hr' : risingB rs = true := by simpa using hr
      refine ifC_dec (fun h1 => ?_) (fun h1 => ?_)
      · have hne0 : rs ≠ [] := by intro e; rw [e] at hrl; simp at hrl; omega
        have hdm := hdim (by omega)
        refine hK _ _ _ _ _ hb.rows ?_
        rw [← hdm]
        refine ifC_ndec (fun h2 => ?_) (fun h2 => ?_)
        · rw [if_pos ⟨hne0, h2⟩] at herr
          rw [if_pos (by rw [herr]; exact h2)] at hget
          rw [hget] at h; exact h _ _ hb.built.grow (nil_rows _)
        · rw [if_neg (fun hh => hh.2 h2), if_neg (by simp [hr'])] at herr
          rw [if_neg (by simp [herr])] at hget
          rw [hget] at h; exact h _ _ hb.built.grow hb.rows
      · have hnil : rs = [] := List.length_eq_zero_iff.mp (by omega)
        subst hnil
        rw [if_neg (fun hh => hh.1 rfl), if_neg (by simp [hr'])] at herr
        rw [if_neg (by simp [herr])] at hget
        rw [hget] at h; exact h _ _ hb.built.grow hb.rows

theorem ref16_GetRows.spec (hF : ref16_GetRows.Ok P N) (hG : ref16_get.Spec P N) (hC : ref16_coords.Spec P N) (hP : PutsR P (N Fn.ref16_PutRows)) : GetsR P (N Fn.ref16_GetRows) := by
  intro s S K hw hs h
  refine ref16_GetRows.run hF (ifC_dec (fun h3 => ?_) (fun h3 => ?_))
  · have : getR s = ([], 161) := getR_bad fun hh => by omega
    rw [this] at h; exact h _ _ (Upd.refl hw _) (nil_rows _)
  have h3 : 3 ≤ s.length := by omega
  have e0 : s.take 1 = [s[0]] := by
    cases s with
    | nil => simp at h3
    | cons a s => rfl
  have hdS : s[0].toNat = dimS s := by unfold dimS; rw [e0]; simp [num]
  have hmS : num ((s.drop 1).take 2) = manyS s := rfl
  have hd : dimS s < 256 := num_take_lt s 1
  have hmm : manyS s < 65536 := num_take_lt (s.drop 1) 2
  have hmd : manyS s * (4 + 4 * dimS s) ≤ 65535 * 1024 := Nat.mul_le_mul (by omega) (by omega)
  have hmd2 : ((manyS s * (4 + 4 * dimS s) : Nat) : Int) = ((manyS s : Nat) : Int) * ((4 + 4 * dimS s : Nat) : Int) := by simp
  have hi0 := idx_str (s := s) (j := 0) (by omega)
  refine ⟨_, hi0, setI_mk (n := ((dimS s : Nat) : Int)) (by rw [hdS]; exact i64_nat (by omega)) (hG s 1 2 S _ (by omega) (by omega) (by omega) ?_)⟩
  rw [hmS]
  have w4 : IntKind.i64.wrap ((4 : Int) * ((dimS s : Nat) : Int)) = ((4 * dimS s : Nat) : Int) := by rw [IntKind.wrap_i64]; omega
  have w44 : IntKind.i64.wrap ((4 : Int) + ((4 * dimS s : Nat) : Int)) = ((4 + 4 * dimS s : Nat) : Int) := by rw [IntKind.wrap_i64]; omega
  refine Join0.mid (fun S' => S' = S ∧ s.length = 3 + manyS s * (4 + 4 * dimS s) ∧ manyS s ≤ 512) ?_ ?_
  · refine setI_mk w4 (setI_mk w44 (setI_mk (n := ((manyS s * (4 + 4 * dimS s) : Nat) : Int)) (by rw [← hmd2, IntKind.wrap_i64]; omega) (setI_mk (n := ((3 + manyS s * (4 + 4 * dimS s) : Nat) : Int)) (by rw [IntKind.wrap_i64]; omega)
      (ifC_ndec (fun h4 => ?_) (fun h4 => ifC_dec (fun h5 => ?_) (fun h5 => ⟨rfl, by omega, by omega⟩))))))
    · have : getR s = ([], 161) := getR_bad fun hh => h4 (by omega)
      rw [this] at h; exact h _ _ (Upd.refl hw _) (nil_rows _)
    · have : getR s = ([], 161) := by
        unfold getR; rw [if_pos (.inr (.inr (.inl (by omega))))]
      rw [this] at h; exact h _ _ (Upd.refl hw _) (nil_rows _)
  rintro S1 ⟨rfl, hl, hm⟩
  have hget := getR_ref h3 hl hm
  refine Loop2.ind (fun n v x S' => ∃ (j : Nat) (rs : List Row) (ws : List V), x = j ∧ j + n = manyS s ∧ rs.length = j ∧ BuiltR S1 S' v rs ws ∧
      rowsOf (manyS s) (dimS s) (s.drop 3) = rs ++ rowsOf n (dimS s) ((s.drop 3).drop (j * (4 + 4 * dimS s)))) (manyS s)
    ⟨0, [], [], rfl, by omega, rfl, BuiltR.nil (Upd.refl hw _), by simp⟩ ?_
  rintro n v _ S5 ⟨j, rs, ws, rfl, hj, hrl, hb, he⟩
  refine ifC_dec (fun hlt => ?_) (fun hge => ?_)
  · obtain ⟨n, rfl⟩ : ∃ q, n = q + 1 := ⟨n - 1, by omega⟩
    have hjm : j * (4 + 4 * dimS s) + (n + 1) * (4 + 4 * dimS s) = manyS s * (4 + 4 * dimS s) := by rw [← Nat.add_mul, hj]
    have hjm2 : (n + 1) * (4 + 4 * dimS s) = n * (4 + 4 * dimS s) + (4 + 4 * dimS s) := by rw [Nat.add_mul, Nat.one_mul]
    have hj2 : ((j * (4 + 4 * dimS s) : Nat) : Int) = (j : Int) * ((4 + 4 * dimS s : Nat) : Int) := by simp
    refine setI_mk w4 (setI_mk w44 (setI_mk (n := ((j * (4 + 4 * dimS s) : Nat) : Int)) (by rw [← hj2, IntKind.wrap_i64]; omega) (setI_mk (n := ((3 + j * (4 + 4 * dimS s) : Nat) : Int)) (by rw [IntKind.wrap_i64]; omega) ?_)))
    refine hG s _ 4 S5 _ (by omega) (by omega) (by omega) (setI_mk (n := ((3 + j * (4 + 4 * dimS s) + 4 : Nat) : Int)) (by rw [IntKind.wrap_i64]; omega) ?_)
    refine hC s _ _ S5 _ hb.built.grow.wf (by omega) (by omega) fun w S7 b7 => ⟨b7.sl.1.cells1, ?_⟩
    have hb7 := hb.next b7.grow
    have hw7 := BuiltI.at_ b7
    have e4 : (s.drop (3 + j * (4 + 4 * dimS s))) = (s.drop 3).drop (j * (4 + 4 * dimS s)) := by rw [List.drop_drop]
    have e8 : (s.drop (3 + j * (4 + 4 * dimS s) + 4)) = ((s.drop 3).drop (j * (4 + 4 * dimS s))).drop 4 := by
      rw [List.drop_drop, List.drop_drop]; congr 1
    rw [e8] at hw7
    rw [e4]
    have hvlt := hb.built.lt
    refine hb7.push (r := (((num (((s.drop 3).drop (j * (4 + 4 * dimS s))).take 4) : Nat) : Int), coordsOf (dimS s) (((s.drop 3).drop (j * (4 + 4 * dimS s))).drop 4))) hw7 (fun q hq => ⟨fun hm => by have := hvlt q hm; have := b7.from q hq; omega, b7.lt q hq⟩) (by omega)
      fun v' S' b' u' t' => setI_mk (wrap_succ (by omega)) ⟨n, by omega, j + 1, _, _, rfl, by omega, by simp [hrl], b', ?_⟩
    rw [he, rowsOf_step, drop_more]
    simp only [List.append_assoc, List.singleton_append]
  · have hn0 : n = 0 := by omega
    subst hn0
    simp only [rowsOf, List.append_nil] at he
    rw [he] at hget
    refine hP _ _ _ _ hb.rows (by omega) (fun r hr => ?_) ?_
    · rw [← he] at hr
      have := rowsOf_dim _ _ _ r hr; omega
    · by_cases he0 : errR rs = 0
      · have hpt : putR rs = (textR (dimR rs) rs, 0) := by simp only [putR, he0]; rfl
        rw [hpt]
        refine ifC_npos rfl (ifC_ndec (fun h6 => ?_) (fun h6 => ?_))
        · rw [if_pos (.inr h6)] at hget
          rw [hget] at h; exact h _ _ hb.built.grow (nil_rows _)
        · rw [if_neg (by rintro (h' | h'); exact h' he0; exact h' h6)] at hget
          rw [hget] at h; exact h _ _ hb.built.grow hb.rows
      · have hpt : putR rs = ([], errR rs) := by simp only [putR, if_pos he0]
        rw [hpt]
        rw [if_pos (.inl he0)] at hget
        rw [hget] at h
        exact ifC_nneg he0 (h _ _ hb.built.grow (nil_rows _))

end Go.Th.L
