/- What the row of one statement stands on: a store, abstract code, functions of the program and their laws (ThHvec4, ThHvec5, ThHvec6, ThHvec7, ThHlaw03c). -/
import Derived.Test.YtmaocfcjbabelaaThBHints
import Derived.Test.YtmaocfcjbabelaaThBHlaw03b

section
/- vec, the document: ids of rows; the least box, the ball. -/
set_option linter.unusedSimpArgs false
set_option linter.unusedVariables false
namespace Go.Th.L
open Go Go.Th Go.Th.Pure
variable {P : Program} {N : Nat → Nat}

theorem rowsBlk {S : St} (hw : S.Wf) {v : V} {rs : List Row} {ws : List V} (h : RowsAt' S v rs ws) {j : Nat} (hj : j < rs.length) : ∀ i ∈ v.block, i < S.next := SlE.block_lt hw h.sl (h.lt hj) (by omega)

def vec_ids.Spec (P : Program) (N : Nat → Nat) : Prop := ∀ (v : V) (rs : List Row) (d : Int) (S : St) (K : V → Int → St → Prop), S.Wf → RowsAt S v rs → (∀ S', Grow S S' → rowsE rs d ≠ 0 → K .nilSlice (rowsE rs d) S') →
  (rowsE rs d = 0 → ∀ x S', BuiltI S S' x (idsR rs) → K x 0 S') → CallA P (N Fn.vec_ids) [v, .int .i64 d] S (retT [.one .any, .one (.int .i64)] K)
theorem vec_ids.spec (hF : vec_ids.Ok P N) (hC : ChecksV P (N Fn.vec_Check)) (hS : SortIOk P N) : vec_ids.Spec P N := by
  rintro v rs d S K hw ⟨ws, hv⟩ hk1 hk2
  refine vec_ids.run hF ⟨_, hv.length, ifC_dec (fun h2 => ?_) (fun h2 => ?_)⟩
  · have e : rowsE rs d = 2 := by rw [rowsE, if_pos (by omega)]
    have := hk1 S (Upd.refl hw _)
    rw [e] at this; exact this (by omega)
  have eR : rowsE rs d = rowsErr [] rs d := by rw [rowsE, if_neg (by omega)]
  rw [eR] at hk1 hk2
  refine newS_mk hw fun S2 g2 m2 n2 => ⟨_, (hv.grow g2).length, ?_⟩
  refine Loop2.ind (fun n y x S' => ∃ (j : Nat) (es : List (Int × V)) (seen : List Int), x = j ∧ j + n = rs.length ∧ BuiltI S S' y ((rs.take j).map (·.1)) ∧ (S.next ∉ y.block ∧ S2.next ≤ S'.next) ∧ MapAt S' S.next es ∧ (∀ k, k ∈ seen ↔ ∃ e ∈ es, e.1 = k) ∧ (∀ e ∈ es, e.2 = .bool true) ∧ rowsErr seen (rs.drop j) d = rowsErr [] rs d) rs.length
    ⟨0, [], [], rfl, by omega, BuiltI.nil g2, ⟨by simp [V.block], Nat.le_refl _⟩, m2, by simp, by simp, by simp⟩ ?_
  rintro n y _ S3 ⟨j, es, seen, rfl, hj, b3, ⟨hyb, hle3⟩, m3, hseen, htrue, he⟩
  have g3 : Grow S S3 := b3.grow
  refine ifC_dec (fun hlt => ?_) (fun hge => ?_)
  · have hjl : j < rs.length := by omega
    rw [drop_cons hjl] at he
    simp only [rowsErr] at he
    have hv3 := hv.grow g3
    refine ifS_mk (hv3.idx hjl) ⟨_, _, hv3.both hjl, newS_mk g3.wf fun S4 g4 m4 n4 => st_mk g4.wf m4 rfl (by simp [V.cells]) (by simp only [V.cells, List.all_cons, List.all_nil, (hv3.at_ hjl).one1]; rfl) fun S5 u5 m5 n5 => ?_⟩
    simp only [V.cells, over] at m5
    have g35 : Grow S3 S5 := g4.after u5 (fun i hi => by simp at hi; subst hi; exact .inl (Nat.le_refl _))
    have g5 : Grow S S5 := g3.trans g35
    have mm5 : MapAt S5 S.next es := m3.upd g35 (by simp)
    refine Join0.mid (fun S' => S' = S5 ∧ idOk rs[j].1 = true ∧ rs[j].1 ∉ seen) ?_ ?_
    · refine ⟨_, ld m5 rfl, ifC_dec (fun h3 => ?_) (fun h3 => ⟨_, ld m5 rfl, ifC_dec (fun h4 => ?_) (fun h4 => ⟨_, ld m5 rfl, ?_⟩)⟩)⟩
      · rw [if_pos (.inl (by simp [idOk]; omega))] at he
        rw [← he] at hk1; exact hk1 _ g5 (by omega)
      · rw [if_pos (.inl (by simp [idOk]; omega))] at he
        rw [← he] at hk1; exact hk1 _ g5 (by omega)
      · have hlk := lookup_int mm5 (.bool false) rs[j].1
        by_cases hin : rs[j].1 ∈ seen
        · obtain ⟨e, hem, hek⟩ := (hseen _).mp hin
          refine ⟨true, ?_, ifC_tt rfl ?_⟩
          · rw [hlk]
            cases hf : es.find? (fun e => decide (rs[j].1 = e.1)) with
            | none => rw [List.find?_eq_none] at hf; have := hf e hem; simp [hek] at this
            | some e' => simp only; rw [htrue e' (List.mem_of_find?_eq_some hf)]
          · rw [if_pos (.inr hin)] at he
            rw [← he] at hk1; exact hk1 _ g5 (by omega)
        · refine ⟨false, ?_, ifC_ff rfl ⟨rfl, by simp [idOk]; omega, hin⟩⟩
          rw [hlk]
          cases hf : es.find? (fun e => decide (rs[j].1 = e.1)) with
          | none => rfl
          | some e' =>
            have h1 := List.mem_of_find?_eq_some hf
            have h2 := List.find?_some hf
            exact absurd ((hseen _).mpr ⟨e', h1, (of_decide_eq_true h2).symm⟩) hin
    rintro S6 ⟨rfl, hid, hnin⟩
    rw [if_neg (by rintro (h' | h'); rw [hid] at h'; cases h'; exact hnin h')] at he
    refine ifS_mk (ld m5 rfl) (hC _ _ _ _ _ ((hv3.at_ hjl).grow g35) (ifC_ndec (fun hc => ?_) (fun hc => ⟨_, ld m5 rfl, ?_⟩)))
    · rw [if_pos hc] at he
      rw [← he] at hk1; exact hk1 _ g5 hc
    · rw [if_neg (by simpa using hc)] at he
      obtain ⟨S7, e7, m7, u7, n7⟩ := mapUpd_new g5.wf mm5 (k := rs[j].1) (.bool true) (fun e hem hek => hnin ((hseen _).mpr ⟨e, hem, hek⟩))
      have hne : S3.next ∉ [S.next] := by simp only [List.mem_singleton]; omega
      have b7 : BuiltI S S7 y ((rs.take j).map (·.1)) := (b3.next g35).upd u7 (fun i hi => by simp only [List.mem_singleton] at hi; omega) (fun i hi hi' => by simp only [List.mem_singleton] at hi'; subst hi'; exact hyb hi)
      · refine ifS_mk e7 ⟨_, ld (u7.get m5 hne) rfl, b7.push rs[j].1 (by simp; omega) fun y' S9 b9 u9 t9 => setI_mk (wrap_succ (by omega)) ⟨n - 1, by omega, j + 1, es ++ [(rs[j].1, .bool true)], rs[j].1 :: seen, rfl, by omega, ?_, ⟨fun hh => ?_, by have := u9.le; have := g35.le; omega⟩, m7.upd u9 hyb, fun k => ?_, fun e hem => ?_, he⟩⟩
        · rw [List.take_add_one, List.getElem?_eq_getElem hjl, Option.toList_some, List.map_append]; exact b9
        · rcases t9 _ hh with h' | h'
          · exact hyb h'
          · have := g35.le; omega
        · constructor
          · intro hk'
            rcases List.mem_cons.mp hk' with rfl | hk'
            · exact ⟨(rs[j].1, .bool true), by simp, rfl⟩
            · obtain ⟨e, hem, hek⟩ := (hseen _).mp hk'
              exact ⟨e, by simp [hem], hek⟩
          · rintro ⟨e, hem, hek⟩
            rcases List.mem_append.mp hem with hem | hem
            · exact List.mem_cons_of_mem _ ((hseen _).mpr ⟨e, hem, hek⟩)
            · simp at hem; subst hem; rw [← hek]; exact List.mem_cons_self
        · rcases List.mem_append.mp hem with hem | hem
          · exact htrue e hem
          · simp at hem; subst hem; rfl
  · have hd0 : rs.drop j = [] := List.drop_of_length_le (by omega)
    rw [hd0] at he
    simp only [rowsErr] at he
    have hjj : j = rs.length := by omega
    subst hjj
    rw [List.take_length] at b3
    exact ints_sort hS b3 (by simp; omega) fun S10 b10 u10 => hk2 he.symm _ _ b10

end Go.Th.L
end

section
/- vec: the least box, the ball. -/
set_option linter.unusedSimpArgs false
set_option linter.unusedVariables false
namespace Go.Th.L
open Go Go.Th Go.Th.Pure
variable {P : Program} {N : Nat → Nat}

theorem BuiltI.set {S0 S : St} {v : V} {l : List Int} (h : BuiltI S0 S v l) {j : Nat} (hj : j < l.length) (x : Int) {K : St → Prop} (hK : ∀ S', BuiltI S0 S' v (l.set j x) → Upd v.block S S' → K S') : ifS (storeV S 1 (eltV 1 v j 0) (.int .i64 x)) K := by
  refine Built.set h (by rw [intE_len]; exact hj) (by omega) (x := .int .i64 x) rfl rfl fun S' b u => hK S' ?_ u
  have : (intE l).set j (V.int .i64 x).cells = intE (l.set j x) := by simp [intE, List.map_set, V.cells]
  rw [this] at b; exact b
theorem ints_at {S0 S : St} {v : V} {l : List Int} (h : BuiltI S0 S v l) : IntsAt S v l := h.at_
theorem zreg_at (S : St) : RegAt S .nilSlice .nilSlice .nilSlice 0 0 zeroReg :=
  ⟨⟨by simp [zeroReg], by simp [zeroReg, intsV], .inl ⟨rfl, rfl⟩⟩, ⟨by simp [zeroReg], by simp [zeroReg, intsV], .inl ⟨rfl, rfl⟩⟩, ⟨by simp [zeroReg], by simp [zeroReg, intsV], .inl ⟨rfl, rfl⟩⟩, ⟨by omega, by omega, by omega, by omega⟩, rfl⟩

/-- A region's block is told. -/
theorem tellReg {S : St} (hw : S.Wf) {i : Nat} {cs : List V} (hg : S.get i = some (.cells cs true)) (hl : cs.length = 6) {s h l : Int} {a b c : V} (ha : a.one = true) (hb : b.one = true) (hc : c.one = true) {K : Int → V → V → Int → Int → V → St → Prop}
    (hk : ∀ S', Upd [i] S S' → K s a b h l c S') : ifS (storeV S 6 (.ptr i 0) (regV s a b h l c)) fun S3 =>
      ∃ xr_a : Int, ∃ xr_b xr_c : V, ∃ xr_d xr_e : Int, ∃ xr_f : V, cellNV S3 6 (.ptr i 0) = some (regV xr_a xr_b xr_c xr_d xr_e xr_f) ∧ K xr_a xr_b xr_c xr_d xr_e xr_f S3 := by
  have h6 : ∃ a1 a2 a3 a4 a5 a6, cs = [a1, a2, a3, a4, a5, a6] := by
    match cs, hl with
    | [a1, a2, a3, a4, a5, a6], _ => exact ⟨_, _, _, _, _, _, rfl⟩
  obtain ⟨a1, a2, a3, a4, a5, a6, rfl⟩ := h6
  exact st_mk hw hg (by simp [V.cells]) (by simp [V.cells]) (by simp only [V.cells, List.all_cons, List.all_nil, ha, hb, hc]; rfl) fun S3 u3 m3 n3 => ⟨_, _, _, _, _, _, ldC m3 (by simp [over, V.cells]) rfl, hk S3 u3⟩

/-- Columns: the first i of them have seen one row more. -/
structure ColAt (f : List Row → Nat → Int → Int) (rs : List Row) (d q i : Nat) (L : List Int) : Prop where
  len : L.length = d
  val : ∀ j, j < d → L.getD j 0 = f (rs.take (if j < i then q + 1 else q)) j (firstC rs j)
theorem ColAt.done {f : List Row → Nat → Int → Int} {rs : List Row} {d q : Nat} {L : List Int} (h : ColAt f rs d q d L) : ColAt f rs d (q + 1) 0 L :=
  ⟨h.len, fun j hj => by have := h.val j hj; rw [if_pos hj] at this; rw [if_neg (by omega)]; exact this⟩
theorem ColAt.step {f : List Row → Nat → Int → Int} {rs : List Row} {d q i : Nat} {L : List Int} (h : ColAt f rs d q i L) (hi : i < d) {x : Int} (hx : x = f (rs.take (q + 1)) i (firstC rs i)) : ColAt f rs d q (i + 1) (L.set i x) :=
  ⟨by rw [List.length_set]; exact h.len, fun j hj => by
    have hl := h.len
    by_cases e : j = i
    · subst e; rw [if_pos (by omega), ← hx]; simp [hl, hj]
    · have := h.val j hj
      have e1 : (L.set i x).getD j 0 = L.getD j 0 := by
        simp only [List.getD_eq_getElem?_getD, List.getElem?_set]
        rw [if_neg (fun e' => e e'.symm)]
      rw [e1, this]
      by_cases e2 : j < i
      · rw [if_pos e2, if_pos (by omega)]
      · rw [if_neg e2, if_neg (by omega)]⟩
theorem ColAt.lo {rs : List Row} {d : Nat} {L : List Int} (h : ColAt colMin rs d rs.length 0 L) : L = boxLo rs d := by
  apply List.ext_getElem
  · rw [h.len, boxLo_len]
  · intro j h1 h2
    have := h.val j (by have := h.len; omega)
    rw [if_neg (by omega), List.take_length] at this
    have e1 : L.getD j 0 = L[j] := by simp [h1]
    have e2 : (boxLo rs d).getD j 0 = (boxLo rs d)[j] := by simp [h2]
    rw [← e1, ← e2, this, boxLo_get (by have := h.len; omega)]
theorem ColAt.hi {rs : List Row} {d : Nat} {L : List Int} (h : ColAt colMax rs d rs.length 0 L) : L = boxHi rs d := by
  apply List.ext_getElem
  · rw [h.len, boxHi_len]
  · intro j h1 h2
    have := h.val j (by have := h.len; omega)
    rw [if_neg (by omega), List.take_length] at this
    have e1 : L.getD j 0 = L[j] := by simp [h1]
    have e2 : (boxHi rs d).getD j 0 = (boxHi rs d)[j] := by simp [h2]
    rw [← e1, ← e2, this, boxHi_get (by have := h.len; omega)]

def vec_Box.Spec (P : Program) (N : Nat → Nat) : Prop := ∀ (v : V) (rs : List Row) (d : Int) (S : St) (K : Int → V → V → Int → Int → V → Int → St → Prop), S.Wf → RowsAt S v rs → (errBox rs d ≠ 0 → ∀ S', Grow S S' → K 0 .nilSlice .nilSlice 0 0 .nilSlice (errBox rs d) S') →
  (errBox rs d = 0 → ∀ a b c S', BuiltI S S' a (boxLo rs d.toNat) → BuiltI S S' b (boxHi rs d.toNat) → BuiltI S S' c (idsR rs) → (∀ i ∈ a.block, i ∉ b.block ∧ i ∉ c.block) → K 2 a b 0 0 c 0 S') →
  CallA P (N Fn.vec_Box) [v, .int .i64 d] S (retT [.agg [.int .i64, .any, .any, .int .u64, .int .u64, .any], .one (.int .i64)] K)
theorem vec_Box.spec (hF : vec_Box.Ok P N) (hd : vec_dim.Spec P N) (hI : vec_ids.Spec P N) (hC : slices_Clone_Lint.Ok P N) : vec_Box.Spec P N := by
  rintro v rs d S K hw ⟨ws, hv⟩ hk1 hk2
  refine vec_Box.run hF (newS_mk hw fun S1 g1 m1 n1 => hd d _ _ (ifC_ndec (fun h1 => ?_) (fun h1 => ?_)))
  · have e : errBox rs d = 30 := by rw [errBox, if_pos (by omega)]
    rw [e] at hk1
    exact tellReg g1.wf m1 rfl rfl rfl rfl (K := fun s a b h l c S' => K s a b h l c 30 S') fun S' u => hk1 (by omega) S' (g1.after u (by simp))
  refine ⟨_, (hv.grow g1).length, ifC_dec (fun h2 => ?_) (fun h2 => ?_)⟩
  · have e : errBox rs d = 1 := by rw [errBox, if_neg (by omega), if_pos (List.length_eq_zero_iff.mp (by omega))]
    rw [e] at hk1
    exact tellReg g1.wf m1 rfl rfl rfl rfl (K := fun s a b h l c S' => K s a b h l c 1 S') fun S' u => hk1 (by omega) S' (g1.after u (by simp))
  have hne : rs ≠ [] := fun e => by rw [e] at h2; simp at h2
  have e : errBox rs d = rowsE rs d := by rw [errBox, if_neg (by omega), if_neg hne]
  refine hI v rs d S1 _ g1.wf ⟨ws, hv.grow g1⟩ (fun S' g' h3 => ?_) (fun h3 c S5 bc => ?_)
  · refine ifC_nneg h3 ?_
    rw [e] at hk1
    exact tellReg g'.wf (g'.get m1) rfl rfl rfl rfl (K := fun s a b h l c S' => K s a b h l c (rowsE rs d) S') fun S'' u => hk1 h3 S'' ((g1.trans g').after u (by simp))
  rw [e] at hk2
  have hk2 := hk2 h3
  refine ifC_npos rfl ?_
  have hz := rowsE_zero h3
  have h0 : 0 < rs.length := by omega
  have g5 : Grow S S5 := g1.trans bc.grow
  have hv5 := hv.grow g5
  have row : ∀ {q : Nat} (hq : q < rs.length), (rs[q].2.length : Int) = d := fun hq => (rowsErr_row hz.2 (List.getElem_mem hq)).2.2.2.1
  have r0 := row h0
  have blk := rowsBlk hw hv h0
  have sm : ∀ {A B : St} (f : Nat), Grow A B → Grow S A → sameK ((eltV 2 v 0 f).block ++ []) A B = sameK ((eltV 2 v 0 f).block ++ []) A B := fun _ _ _ => rfl
  refine ifS_mk (hv5.idx h0) (ifS_mk (hv5.fld h0 1) (ifS_mk (hv5.vec h0) (ifS_mk (hv5.idx h0) (ifS_mk (hv5.fld h0 1) (ifS_mk (hv5.vec h0) ?_)))))
  have same : ∀ {A B : St}, Grow A B → Grow S A → Same ((eltV 2 v 0 1).block ++ []) A B := fun g hA => same_upd g fun i hi => by
    rw [List.append_nil] at hi
    exact ⟨by have := blk i (eltV_block i hi); have := hA.le; omega, by simp⟩
  refine slices_Clone_Lint.spec hC g5.wf (hv5.at_ h0) (by omega) fun a S7 ba => sameK_mk (same ba.grow g5) (slices_Clone_Lint.spec hC ba.grow.wf ((hv5.grow ba.grow).at_ h0) (by omega) fun b S8 bb => sameK_mk (same bb.grow (g5.trans ba.grow)) ?_)
  have g8 : Grow S S8 := (g5.trans ba.grow).trans bb.grow
  have hclt := bc.lt
  have halt := ba.lt
  have haf := ba.from
  have hbf := bb.from
  have hab : ∀ i ∈ a.block, i ∉ b.block ∧ i ∉ c.block := fun i hi => ⟨fun hi' => by have := halt i hi; have := hbf i hi'; omega, fun hi' => by have := haf i hi; have := hclt i hi'; omega⟩
  have hbc : ∀ i ∈ b.block, i ∉ c.block := fun i hi hi' => by have := hbf i hi; have := hclt i hi'; have := ba.grow.le; omega
  have hS1n : ∀ i, i ∈ a.block ∨ i ∈ b.block ∨ i ∈ c.block → S1.next ≤ i := fun i hi => by
    have := bc.grow.le; have := ba.grow.le
    rcases hi with hi | hi | hi
    · have := haf i hi; omega
    · have := hbf i hi; omega
    · exact bc.from i hi
  have col0 : ∀ f : List Row → Nat → Int → Int, (∀ j x, f [] j x = x) → ColAt f rs d.toNat 0 0 rs[0].2 := fun f hf => ⟨by omega, fun j hj => by
    rw [if_neg (by omega), List.take_zero, hf]
    cases rs with
    | nil => simp at h0
    | cons r rs => rfl⟩
  refine ⟨_, (hv.grow g8).length, Loop1.ind (fun m x S' => ∃ (q : Nat) (L H : List Int), x = q ∧ m = rs.length - q ∧ q ≤ rs.length ∧ BuiltI S1 S' a L ∧ BuiltI S1 S' b H ∧ BuiltI S1 S' c (idsR rs) ∧ ColAt colMin rs d.toNat q 0 L ∧ ColAt colMax rs d.toNat q 0 H) rs.length
    ⟨0, rs[0].2, rs[0].2, rfl, rfl, Nat.zero_le _, ⟨(bc.grow.trans ba.grow).trans bb.grow, (ba.acc.below bc.grow.le).grow bb.grow, ba.each⟩, ⟨(bc.grow.trans ba.grow).trans bb.grow, bb.acc.below (by have := bc.grow.le; have := ba.grow.le; omega), bb.each⟩, bc.next (ba.grow.trans bb.grow), col0 _ fun _ _ => rfl, col0 _ fun _ _ => rfl⟩ ?_⟩
  rintro m _ S9 ⟨q, L, H, rfl, rfl, hq, bL, bH, bI, cL, cH⟩
  have g9 : Grow S S9 := g1.trans bL.grow
  have hv9 := hv.grow g9
  refine ifC_dec (fun h4 => ?_) (fun h4 => ?_)
  · have h4 : q < rs.length := by omega
    have rq := row h4
    refine ifS_mk (hv9.idx h4) ⟨_, _, hv9.both h4, newS_mk g9.wf fun S10 g10 m10 n10 => st_mk g10.wf m10 rfl (by simp [V.cells]) (by simp only [V.cells, List.all_cons, List.all_nil, (hv9.at_ h4).one1]; rfl) fun S11 u11 m11 n11 => ?_⟩
    simp only [V.cells, over] at m11
    have g911 : Grow S9 S11 := g10.after u11 (fun i hi => by simp at hi; subst hi; exact .inl (Nat.le_refl _))
    refine ifS_mk (ld m11 rfl) ⟨_, ((hv9.at_ h4).grow g911).len, Loop1.ind (fun m x S' => ∃ (i : Nat) (L H : List Int), x = i ∧ m = d.toNat - i ∧ i ≤ d.toNat ∧ BuiltI S1 S' a L ∧ BuiltI S1 S' b H ∧ BuiltI S1 S' c (idsR rs) ∧ ColAt colMin rs d.toNat q i L ∧ ColAt colMax rs d.toNat q i H) d.toNat
      ⟨0, L, H, rfl, rfl, Nat.zero_le _, bL.next g911, bH.next g911, bI.next g911, cL, cH⟩ ?_⟩
    rintro m _ S12 ⟨i, L, H, rfl, rfl, hi, bL, bH, bI, cL, cH⟩
    have hx12 := (hv.grow (g1.trans bL.grow)).at_ h4
    refine ifC_dec (fun h5 => ?_) (fun h5 => ?_)
    · have h5 : i < rs[q].2.length := by omega
      have hiL : i < L.length := by have := cL.len; omega
      have hiH : i < H.length := by have := cH.len; omega
      have vL := cL.val i (by omega)
      have vH := cH.val i (by omega)
      rw [if_neg (by omega), getD_get hiL] at vL
      rw [if_neg (by omega), getD_get hiH] at vH
      have et : rs.take (q + 1) = rs.take q ++ [rs[q]] := by rw [List.take_add_one, List.getElem?_eq_getElem h4]; rfl
      refine ifS_mk (IntsAt.idx hx12 h5) ⟨_, IntsAt.get hx12 h5, ifS_mk (IntsAt.idx bL.at_ hiL) ⟨_, IntsAt.get bL.at_ hiL, ifS_mk (IntsAt.idx bH.at_ hiH) ⟨_, IntsAt.get bH.at_ hiH, ifS_mk (IntsAt.idx bL.at_ hiL) (BuiltI.set bL hiL (goMin L[i] rs[q].2[i]) fun S13 bL' u13 => ?_)⟩⟩⟩
      have fa : ∀ k ∈ a.block, S1.next ≤ k := fun k hk => hS1n k (.inl hk)
      have bH' := bH.upd u13 fa (fun k hk hk' => (hab k hk').1 hk)
      have bI' := bI.upd u13 fa (fun k hk hk' => (hab k hk').2 hk)
      refine ifS_mk (IntsAt.idx (BuiltI.at_ bH') hiH) (BuiltI.set bH' hiH (goMax H[i] rs[q].2[i]) fun S14 bH'' u14 => setI_mk (wrap_nat (by omega)) ⟨d.toNat - (i + 1), by omega, i + 1, L.set i (goMin L[i] rs[q].2[i]), H.set i (goMax H[i] rs[q].2[i]), rfl, rfl, by omega, ?_, bH'', ?_, cL.step (by omega) ?_, cH.step (by omega) ?_⟩)
      · exact Built.upd bL' u14 (fun k hk => hS1n k (.inr (.inl hk))) (fun k hk hk' => (hab k hk).1 hk')
      · exact Built.upd bI' u14 (fun k hk => hS1n k (.inr (.inl hk))) (fun k hk hk' => hbc k hk' hk)
      · rw [et, colMin_snoc, vL, getD_get h5]
      · rw [et, colMax_snoc, vH, getD_get h5]
    · have hid : i = d.toNat := by omega
      subst hid
      exact setI_mk (wrap_nat (by omega)) ⟨rs.length - (q + 1), by omega, q + 1, L, H, rfl, rfl, h4, bL, bH, bI, cL.done, cH.done⟩
  · have hqq : q = rs.length := by omega
    subst hqq
    rw [cL.lo] at bL
    rw [cH.hi] at bH
    have hSn : ∀ {x : V}, (∀ i ∈ x.block, S1.next ≤ i) → ∀ i ∈ x.block, i ∉ [S.next] := fun hx i hi hi' => by simp only [List.mem_singleton] at hi'; have := hx i hi; omega
    refine ⟨bL.at_.cells1, bH.at_.cells1, bI.at_.cells1, tellReg bL.grow.wf (bL.grow.get m1) rfl bL.one bH.one bI.one (K := fun s a b h l c S' => K s a b h l c 0 S') fun S15 u15 => ?_⟩
    have fin : ∀ {x : V} {l : List Int}, BuiltI S1 S9 x l → (∀ i ∈ x.block, S1.next ≤ i) → BuiltI S S15 x l := fun bx hx => ⟨(g1.trans bx.grow).after u15 (by simp), (bx.acc.below g1.le).upd u15 (hSn hx), bx.each⟩
    exact hk2 a b c S15 (fin bL fun i hi => hS1n i (.inl hi)) (fin bH fun i hi => hS1n i (.inr (.inl hi))) (fin bI fun i hi => hS1n i (.inr (.inr hi))) hab

def vec_Ball.Spec (P : Program) (N : Nat → Nat) : Prop := ∀ (u v : V) (ce : List Int) (rs : List Row) (S : St) (K : Int → V → V → Int → Int → V → Int → St → Prop), S.Wf → IntsAt S u ce → RowsAt S v rs → ce.length ≤ 65536 → (errBall ce rs ≠ 0 → ∀ S', Grow S S' → K 0 .nilSlice .nilSlice 0 0 .nilSlice (errBall ce rs) S') →
  (errBall ce rs = 0 → ∀ a c h l S', BuiltI S S' a ce → BuiltI S S' c (idsR rs) → Wok h l → wN h l = radOf ce rs → K 3 a .nilSlice h l c 0 S') →
  CallA P (N Fn.vec_Ball) [u, v] S (retT [.agg [.int .i64, .any, .any, .int .u64, .int .u64, .any], .one (.int .i64)] K)
theorem vec_Ball.spec (hF : vec_Ball.Ok P N) (hCh : ChecksV P (N Fn.vec_Check)) (hI : vec_ids.Spec P N) (hf : FarOk P (N Fn.vec_far)) (hCm : wide_Cmp.Spec P N) (hC : slices_Clone_Lint.Ok P N) : vec_Ball.Spec P N := by
  rintro u v ce rs S K hw hu ⟨ws, hv⟩ hcl hk1 hk2
  refine vec_Ball.run hF (newS_mk hw fun S1 g1 m1 n1 => ⟨_, (hu.grow g1).len, hCh u ce _ _ _ (hu.grow g1) (ifC_ndec (fun h1 => ?_) (fun h1 => ?_))⟩)
  · have e : errBall ce rs = checkV ce ce.length := by rw [errBall, if_pos h1]
    rw [e] at hk1
    exact tellReg g1.wf m1 rfl rfl rfl rfl (K := fun s a b h l c S' => K s a b h l c (checkV ce ce.length) S') fun S' u => hk1 h1 S' (g1.after u (by simp))
  have e : errBall ce rs = rowsE rs ce.length := by rw [errBall, if_neg (by omega)]
  refine ⟨_, (hu.grow g1).len, hI v rs ce.length S1 _ g1.wf ⟨ws, hv.grow g1⟩ (fun S' g' h3 => ?_) (fun h3 c S4 bc => ?_)⟩
  · refine ifC_nneg h3 ?_
    rw [e] at hk1
    exact tellReg g'.wf (g'.get m1) rfl rfl rfl rfl (K := fun s a b h l c S' => K s a b h l c (rowsE rs ce.length) S') fun S'' u => hk1 h3 S'' ((g1.trans g').after u (by simp))
  rw [e] at hk2
  have hk2 := hk2 h3
  have hz := rowsE_zero h3
  obtain ⟨c1, c2, _, c4⟩ := checkV_ok h1
  have g4 : Grow S S4 := g1.trans bc.grow
  refine ifC_npos rfl (newS_mk g4.wf fun S6 g6 m6 n6 => ⟨_, (hv.grow (g4.trans g6)).length, ?_⟩)
  have c4b : ∀ i ∈ c.block, S1.next ≤ i ∧ i < S4.next := fun i hi => ⟨bc.from i hi, bc.lt i hi⟩
  refine Loop1.ind (fun m x S' => ∃ (q : Nat) (h l : Int), x = q ∧ m = rs.length - q ∧ q ≤ rs.length ∧ Upd [S4.next] S6 S' ∧ S'.get S4.next = some (.cells [.int .u64 h, .int .u64 l] true) ∧ Wok h l ∧ wN h l = radOf ce (rs.take q)) rs.length
    ⟨0, 0, 0, rfl, rfl, Nat.zero_le _, Upd.refl g6.wf _, m6, ⟨by omega, by omega, by omega, by omega⟩, rfl⟩ ?_
  rintro m _ S7 ⟨q, h, l, rfl, rfl, hq, u7, m7, w7, n7⟩
  have g67 : Grow S4 S7 := g6.after u7 fun i hi => by simp only [List.mem_singleton] at hi; subst hi; exact .inl (Nat.le_refl _)
  have g7 : Grow S S7 := g4.trans g67
  have hv7 := hv.grow g7
  have hu7 := hu.grow g7
  refine ifC_dec (fun h4 => ?_) (fun h4 => ?_)
  · have h4 : q < rs.length := by omega
    have rq := rowsErr_row hz.2 (List.getElem_mem h4)
    refine ifS_mk (hv7.idx h4) ⟨_, _, hv7.both h4, newS_mk g7.wf fun S8 g8 m8 n8 => st_mk g8.wf m8 rfl (by simp [V.cells]) (by simp only [V.cells, List.all_cons, List.all_nil, (hv7.at_ h4).one1]; rfl) fun S9 u9 m9 n9 => ?_⟩
    simp only [V.cells, over] at m9
    have g79 : Grow S7 S9 := g8.after u9 (fun i hi => by simp at hi; subst hi; exact .inl (Nat.le_refl _))
    refine ifS_mk (ld m9 rfl) (hf u _ ce rs[q].2 _ _ (hu7.grow g79) ((hv7.at_ h4).grow g79) (by omega) (by omega) c4 rq.2.2.2.2 fun h' l' w' n' => keepW g79.wf fun S12 g12 m12 n12 => ⟨_, _, ldN m12 (by simp) rfl, _, _, ldN (g12.get (g79.get m7)) (by simp) rfl, hCm _ _ _ _ _ _ ?_⟩)
    have et : rs.take (q + 1) = rs.take q ++ [rs[q]] := by rw [List.take_add_one, List.getElem?_eq_getElem h4]; rfl
    rw [List.take_of_length_le (by omega)] at n'
    rw [cmpW_num w' w7, n', n7]
    have g712 : Grow S7 S12 := g79.trans g12
    have u12 : Upd [S4.next] S6 S12 := u7.after g712 (by simp)
    refine ifC_dec (fun h5 => ⟨_, _, ldN m12 (by simp) rfl, st_mk g12.wf (g712.get m7) rfl (by simp [V.cells]) rfl fun S14 u14 m14 n14 => setI_mk (wrap_nat (by omega)) ⟨rs.length - (q + 1), by omega, q + 1, h', l', rfl, rfl, h4, u12.trans u14, by simpa [over, V.cells] using m14, w', ?_⟩⟩) (fun h5 => setI_mk (wrap_nat (by omega)) ⟨rs.length - (q + 1), by omega, q + 1, h, l, rfl, rfl, h4, u12, g712.get m7, w7, ?_⟩)
    · rw [et, radOf_snoc, if_pos, n']
      split at h5
      · omega
      · split at h5 <;> omega
    · rw [et, radOf_snoc, if_neg, n7]
      intro h6; apply h5
      rw [if_neg (by omega), if_neg (by omega)]; omega
  · have hqq : q = rs.length := by omega
    subst hqq
    rw [List.take_length] at n7
    have hS4 : S4.next < S7.next := g7.wf.lt m7
    refine ⟨_, _, ldN m7 (by simp) rfl, slices_Clone_Lint.spec hC g7.wf hu7 (by omega) fun a S15 ba => ⟨Same.of_grow ba.grow (by simp; omega), ba.at_.cells1, bc.at_.cells1, tellReg ba.grow.wf (ba.grow.get (g67.get (bc.grow.get m1))) rfl ba.one rfl bc.one (K := fun s a b h l c S' => K s a b h l c 0 S') fun S16 u16 => ?_⟩⟩
    have gg : Grow S S16 := (g7.trans ba.grow).after u16 (by simp)
    refine hk2 a c h l S16 ⟨gg, (ba.acc.below g7.le).upd u16 (fun i hi hi' => by simp only [List.mem_singleton] at hi'; subst hi'; have := ba.from _ hi; have := g4.le; omega), ba.each⟩ ⟨gg, (((bc.acc.below g1.le).grow g67).grow ba.grow).upd u16 (fun i hi hi' => by simp only [List.mem_singleton] at hi'; subst hi'; have := (c4b _ hi).1; omega), bc.each⟩ w7 n7

end Go.Th.L
end

section
/- vec, the reference: ids of rows, numbers compared, the least box, the ball. -/
set_option linter.unusedSimpArgs false
set_option linter.unusedVariables false
namespace Go.Th.L
open Go Go.Th Go.Th.Pure
variable {P : Program} {N : Nat → Nat}

theorem BuiltI.rebase {S0 S1 S : St} {v : V} {l : List Int} (h : BuiltI S1 S v l) (g : Grow S0 S1) : BuiltI S0 S v l := ⟨g.trans h.grow, h.acc.below g.le, h.each⟩

def ref03_With.Spec (P : Program) (N : Nat → Nat) : Prop := ∀ (u : V) (l : List Int) (n : Int) (S : St) (K : V → St → Prop), S.Wf → IntsAt S u l → l.length < 900000 → (∀ v S', BuiltI S S' v (insI n l) → K v S') → CallA P (N Fn.ref03_With) [u, .int .i64 n] S (retT [.one .any] K)
theorem ref03_With.spec (hF : ref03_With.Ok P N) : ref03_With.Spec P N := by
  intro u l n S K hw hu hl hk
  refine ref03_With.run hF (Join1.mid (fun x S' => S' = S ∧ ∃ p : Nat, x = p ∧ p ≤ l.length ∧ (∀ j (h : j < l.length), j < p → l[j] < n) ∧ ∀ h : p < l.length, ¬ l[p] < n) ?_ ?_)
  · refine Loop1.ind (fun m x S' => S' = S ∧ ∃ p : Nat, x = p ∧ p + m = l.length ∧ ∀ j (h : j < l.length), j < p → l[j] < n) l.length ⟨rfl, 0, rfl, by omega, fun j _ h => by omega⟩ ?_
    rintro m _ S' ⟨rfl, p, rfl, hp, h1⟩
    refine ⟨_, hu.len, ifC_dec (fun h2 => ?_) (fun h2 => ⟨rfl, p, rfl, by omega, h1, fun h => by omega⟩)⟩
    have hpl : p < l.length := by omega
    refine ifS_mk (IntsAt.idx hu hpl) ⟨_, IntsAt.get hu hpl, ifC_dec (fun h3 => setI_mk (wrap_succ (by omega)) ⟨m - 1, by omega, rfl, p + 1, rfl, by omega, fun j hj hjp => ?_⟩) (fun h3 => ⟨rfl, p, rfl, by omega, h1, fun _ => h3⟩)⟩
    by_cases e : j = p
    · subst e; exact h3
    · exact h1 j hj (by omega)
  · rintro _ S1 ⟨rfl, p, rfl, hp, h1, h2⟩
    obtain ⟨va, ea, ha, hab⟩ := IntsAt.sub hu (lo := none) (hi := some (.int .i64 (p : Int))) (a := 0) (b := p) (fun cap hc => bnds_h (by omega)) (Nat.zero_le _) hp
    obtain ⟨vb, eb, hb, hbb⟩ := IntsAt.sub hu (lo := some (.int .i64 (p : Int))) (hi := none) (a := p) (b := l.length) (fun cap hc => bnds_l hp) hp (Nat.le_refl _)
    rw [List.drop_zero, Nat.sub_zero] at ha
    rw [List.take_of_length_le (by rw [List.length_drop]; omega)] at hb
    have hla : (l.take p).length = p := by rw [List.length_take]; omega
    refine ifS_mk ea (ints_app (BuiltI.nil (Upd.refl hw _)) ha (by simp; omega) fun v1 S3 b1 _ _ => ?_)
    refine BuiltI.push b1 n (by simp; omega) fun v2 S5 b2 _ _ => ifS_mk eb (ints_app b2 (hb.grow b2.grow) (by simp; omega) fun v3 S6 b3 _ _ => hk _ _ ?_)
    rw [List.nil_append, insI_split n l hp h1 h2] at b3
    exact b3

def ref03_Ids.Spec (P : Program) (N : Nat → Nat) : Prop := ∀ (v : V) (rs : List Row) (S : St) (K : V → St → Prop), S.Wf → RowsAt S v rs → rs.length ≤ 512 → (∀ x S', BuiltI S S' x (idsR rs) → K x S') → CallA P (N Fn.ref03_Ids) [v] S (retT [.one .any] K)
theorem ref03_Ids.spec (hF : ref03_Ids.Ok P N) (hW : ref03_With.Spec P N) : ref03_Ids.Spec P N := by
  rintro v rs S K hw ⟨ws, hv⟩ hl hk
  refine ref03_Ids.run hF (Loop2.ind (fun m y x S' => ∃ j : Nat, x = j ∧ j + m = rs.length ∧ BuiltI S S' y (sortI ((rs.take j).map (·.1)))) rs.length ⟨0, rfl, by omega, BuiltI.nil (Upd.refl hw _)⟩ ?_)
  rintro m y _ S1 ⟨j, rfl, hj, b⟩
  have hv1 := hv.grow b.grow
  refine ⟨_, hv1.length, ifC_dec (fun h => ?_) (fun h => ?_)⟩
  · have hjl : j < rs.length := by omega
    refine ifS_mk (hv1.idx hjl) (ifS_mk (hv1.fld hjl 0) ⟨_, hv1.id hjl, hW _ _ _ _ _ b.grow.wf (BuiltI.at_ b) (by rw [sortI_length]; simp; omega) fun y' S2 b2 => setI_mk (wrap_succ (by omega)) ⟨m - 1, by omega, j + 1, rfl, by omega, ?_⟩⟩)
    rw [List.take_add_one, List.getElem?_eq_getElem hjl, Option.toList_some, List.map_append, List.map_cons, List.map_nil, sortI_snoc]
    exact BuiltI.rebase b2 b.grow
  · rw [List.take_of_length_le (by omega)] at b
    exact hk _ _ b

def ref03_Ints.Spec (P : Program) (N : Nat → Nat) : Prop := ∀ (x y : V) (a b : List Int) (S : St) (K : Bool → St → Prop), IntsAt S x a → IntsAt S y b → K (decide (a = b)) S → CallA P (N Fn.ref03_Ints) [x, y] S (retT [.one .bool] K)
theorem ref03_Ints.spec (hF : ref03_Ints.Ok P N) : ref03_Ints.Spec P N := by
  intro x y a b S K hx hy h
  have hle := hx.le
  refine ref03_Ints.run hF ⟨_, hx.len, _, hy.len, ifC_ndec (fun hne => ?_) (fun heq => ?_)⟩
  · have e : a ≠ b := fun e => hne (by rw [e])
    rwa [decide_eq_false e] at h
  · refine Loop1.ind (fun n x S' => S' = S ∧ ∃ j : Nat, x = j ∧ j + n = a.length ∧ a.take j = b.take j) a.length ⟨rfl, 0, rfl, by omega, by simp⟩ ?_
    rintro n _ _ ⟨rfl, j, rfl, hj, hab⟩
    refine ⟨_, hx.len, ifC_dec (fun hlt => ?_) (fun hge => ?_)⟩
    · have hja : j < a.length := by omega
      have hjb : j < b.length := by omega
      refine ifS_mk (hx.idx hja) ⟨_, IntsAt.get hx hja, ifS_mk (hy.idx hjb) ⟨_, IntsAt.get hy hjb, ifC_ndec (fun hne => ?_) (fun heq => ?_)⟩⟩
      · rwa [decide_eq_false (ne_of_get hja hjb hne)] at h
      · exact setI_mk (wrap_succ (by omega)) ⟨n - 1, by omega, rfl, j + 1, rfl, by omega, take_succ_eq hab hja hjb heq⟩
    · have : a = b := by
        rw [List.take_of_length_le (by omega), List.take_of_length_le (by omega)] at hab
        exact hab
      rwa [decide_eq_true this] at h

deriving instance DecidableEq for Reg
def ref03_Same.Spec (P : Program) (N : Nat → Nat) : Prop := ∀ (r q : Reg) (a b c a' b' c' : V) (h l h' l' : Int) (S : St) (K : Bool → St → Prop), RegAt S a b c h l r → RegAt S a' b' c' h' l' q → K (decide (r = q)) S → CallA P (N Fn.ref03_Same) [regV r.shape a b h l c, regV q.shape a' b' h' l' c'] S (retT [.one .bool] K)
theorem ref03_Same.spec (hF : ref03_Same.Ok P N) (hI : ref03_Ints.Spec P N) : ref03_Same.Spec P N := by
  intro r q a b c a' b' c' h l h' l' S K hr hq hk
  refine CallA.gcT (ds := [.one .bool]) rfl (CallA.wfT fun hw => ?_)
  refine ref03_Same.run hF (newS_mk hw fun S1 g1 m1 n1 => newS_mk g1.wf fun S2 g2 m2 n2 => ?_)
  have hr := (hr.ro.grow g1).grow g2
  have hq := (hq.ro.grow g1).grow g2
  have m1 := g2.get m1
  have no : r ≠ q → K false S := fun e => by rw [decide_eq_false e] at hk; exact hk
  refine ⟨_, ld m1 rfl, _, ld m2 rfl, ifC_dec (fun h1 => ?_) (fun h1 => no fun e => h1 (by rw [e]))⟩
  refine ⟨_, _, ldN m1 (by simp) rfl, _, _, ldN m2 (by simp) rfl, _, eqW hr.rad hq.rad, ifC_tt_ff (fun h2 => ?_) (fun h2 => no fun e => ?_)⟩
  · replace h2 := of_decide_eq_true h2
    refine ifS_mk (ld m1 rfl) (ifS_mk (ld m2 rfl) (hI _ _ _ _ _ _ hr.lo hq.lo (ifC_tt_ff (fun h3 => ?_) (fun h3 => no fun e => ?_))))
    · replace h3 := of_decide_eq_true h3
      refine ifS_mk (ld m1 rfl) (ifS_mk (ld m2 rfl) (hI _ _ _ _ _ _ hr.hi hq.hi (ifC_tt_ff (fun h4 => ?_) (fun h4 => no fun e => ?_))))
      · replace h4 := of_decide_eq_true h4
        refine ifS_mk (ld m1 rfl) (ifS_mk (ld m2 rfl) (hI _ _ _ _ _ _ hr.ids hq.ids ?_))
        have : decide (r = q) = decide (r.ids = q.ids) := decide_eq_decide.mpr ⟨fun e => by rw [e], fun e => by
          obtain ⟨s, lo, hi, rad, ids⟩ := r
          obtain ⟨s', lo', hi', rad', ids'⟩ := q
          have e5 : rad = rad' := by have := hr.radN; have := hq.radN; simp only at *; omega
          simp only at h1 h3 h4 e e5
          subst h1 h3 h4 e e5; rfl⟩
        rw [this] at hk; exact hk
      · exact of_decide_eq_false h4 (by rw [e])
    · exact of_decide_eq_false h3 (by rw [e])
  · exact of_decide_eq_false h2 (by rw [hr.radN, hq.radN, e])

def ref03_Box.Spec (P : Program) (N : Nat → Nat) : Prop := ∀ (v : V) (rs : List Row) (d : Int) (S : St) (K : Int → V → V → Int → Int → V → Int → St → Prop), S.Wf → RowsAt S v rs →
  (∀ a b c h l S', Grow S S' → RegAt S' a b c h l (boxOf rs d) → a.one = true → b.one = true → c.one = true → K (boxOf rs d).shape a b h l c (errBox rs d) S') →
  CallA P (N Fn.ref03_Box) [v, .int .i64 d] S (retT [.agg [.int .i64, .any, .any, .int .u64, .int .u64, .any], .one (.int .i64)] K)

/-- Both ends of a column are told at once. -/
structure ColsAt (S0 S : St) (i : Nat) (c : V) (rs : List Row) (k : Nat) : Prop where
  grow : Grow S0 S
  ge : S0.next ≤ i
  blk : ∃ a b, S.get i = some (.cells (regC 2 a b 0 0 c) true) ∧ BuiltI S0 S a (boxLo rs k) ∧ BuiltI S0 S b (boxHi rs k) ∧ i ∉ a.block ∧ i ∉ b.block ∧ ∀ x ∈ a.block, x ∉ b.block
theorem boxLo_succ (rs : List Row) (k : Nat) : boxLo rs (k + 1) = boxLo rs k ++ [colMin rs k (firstC rs k)] := by simp [boxLo, List.range_succ]
theorem boxHi_succ (rs : List Row) (k : Nat) : boxHi rs (k + 1) = boxHi rs k ++ [colMax rs k (firstC rs k)] := by simp [boxHi, List.range_succ]

theorem ref03_Box.spec (hF : ref03_Box.Ok P N) (hR : ref03_Rows.Spec P N) (hI : ref03_Ids.Spec P N) : ref03_Box.Spec P N := by
  rintro v rs d S K hw ⟨ws, hv⟩ hk
  have bad : ∀ (e : Int) {S1 : St} (g : Grow S S1) (m : S1.get S.next = some (.cells (regC 0 .nilSlice .nilSlice 0 0 .nilSlice) true)), e ≠ 0 → errBox rs d = e → ifS (storeV S1 6 (.ptr S.next 0) (regV 0 .nilSlice .nilSlice 0 0 .nilSlice)) fun S3 =>
      ∃ xr_a : Int, ∃ xr_b xr_c : V, ∃ xr_d xr_e : Int, ∃ xr_f : V, cellNV S3 6 (V.ptr S.next 0) = some (regV xr_a xr_b xr_c xr_d xr_e xr_f) ∧ K xr_a xr_b xr_c xr_d xr_e xr_f e S3 := fun e S1 g m h0 h1 => by
    have hz : boxOf rs d = zeroReg := by rw [boxOf, if_neg (by omega)]
    rw [hz, h1] at hk
    exact tellReg g.wf m rfl rfl rfl rfl (K := fun s a b h l c S' => K s a b h l c e S') fun S' u => hk _ _ _ _ _ S' (g.after u (by simp)) (zreg_at S') rfl rfl rfl
  refine ref03_Box.run hF (newS_mk hw fun S1 g1 m1 n1 => Join1.mid (fun x S' => S' = S1 ∧ x = decide (d < 1 ∨ 64 < d)) (ifC_dec (fun h => ⟨rfl, (decide_eq_true (by omega)).symm⟩) (fun h => ⟨rfl, decide_eq_decide.mpr (by omega)⟩)) ?_)
  rintro _ S2 ⟨rfl, rfl⟩
  refine ifC_dec (fun h1 => bad 30 g1 m1 (by omega) (by rw [errBox, if_pos h1])) (fun h1 => ⟨_, (hv.grow g1).length, ifC_dec (fun h2 => bad 1 g1 m1 (by omega) ?_) (fun h2 => ?_)⟩)
  · rw [errBox, if_neg h1, if_pos (List.length_eq_zero_iff.mp (by omega))]
  have hne : rs ≠ [] := fun e => by rw [e] at h2; simp at h2
  have e : errBox rs d = rowsE rs d := by rw [errBox, if_neg h1, if_neg hne]
  refine hR v rs d _ _ ⟨ws, hv.grow g1⟩ (ifC_ndec (fun h3 => bad _ g1 m1 h3 e) (fun h3 => ?_))
  have h3 : rowsE rs d = 0 := h3
  rw [boxOf, e, h3, if_pos rfl] at hk
  have hz := rowsE_zero h3
  have h0 : 0 < rs.length := by omega
  have row : ∀ {q : Nat} (hq : q < rs.length), (rs[q].2.length : Int) = d := fun hq => (rowsErr_row hz.2 (List.getElem_mem hq)).2.2.2.1
  have r0 := row h0
  refine hI v rs S2 _ g1.wf ⟨ws, hv.grow g1⟩ hz.1 fun c S7 bc => ⟨bc.at_.cells1, newS_mk bc.grow.wf fun S8 g8 m8 n8 => st_mk g8.wf m8 rfl (by simp [V.cells]) (by simp only [V.cells, List.all_cons, List.all_nil, bc.one]; rfl) fun S9 u9 m9 n9 => ?_⟩
  simp only [V.cells, over] at m9
  have g7 : Grow S S7 := g1.trans bc.grow
  have g79 : Grow S7 S9 := g8.after u9 (fun i hi => by simp at hi; subst hi; exact .inl (Nat.le_refl _))
  have hcl := bc.lt
  refine Loop1.ind (fun m x S' => ∃ k : Nat, x = k ∧ m = d.toNat - k ∧ k ≤ d.toNat ∧ ColsAt S7 S' S7.next c rs k) d.toNat ⟨0, rfl, rfl, Nat.zero_le _, ⟨g79, Nat.le_refl _, .nilSlice, .nilSlice, by simpa using m9, BuiltI.nil g79, BuiltI.nil g79, by simp [V.block], by simp [V.block], by simp [V.block]⟩⟩ ?_
  rintro m _ S10 ⟨k, rfl, rfl, hkd, ⟨g10, _, a, b, mA, bA, bB, iA, iB, hab⟩⟩
  have hv10 := (hv.grow g7).grow g10
  refine ifC_dec (fun h5 => ?_) (fun h5 => ?_)
  · have hk0 : k < rs[0].2.length := by omega
    refine ifS_mk (hv10.idx h0) (ifS_mk (hv10.fld h0 1) (ifS_mk (hv10.vec h0) (ifS_mk (IntsAt.idx (hv10.at_ h0) hk0) ⟨_, IntsAt.get (hv10.at_ h0) hk0, ?_⟩)))
    have hfirst : rs[0].2[k] = firstC rs k := by
      cases rs with
      | nil => simp at h0
      | cons r rs => simp only [firstC, List.getElem_cons_zero]; exact (getD_get _).symm
    refine Loop3.ind (fun m x y z S' => ∃ q : Nat, z = q ∧ m = rs.length - q ∧ q ≤ rs.length ∧ S10 = S' ∧ x = colMin (rs.take q) k (firstC rs k) ∧ y = colMax (rs.take q) k (firstC rs k)) rs.length ⟨0, rfl, rfl, Nat.zero_le _, rfl, hfirst, hfirst⟩ ?_
    rintro m _ _ _ _ ⟨q, rfl, rfl, hq, rfl, rfl, rfl⟩
    refine ⟨_, hv10.length, ifC_dec (fun h6 => ?_) (fun h6 => ?_)⟩
    · have h6 : q < rs.length := by omega
      have rq := row h6
      have hkq : k < rs[q].2.length := by omega
      have et : rs.take (q + 1) = rs.take q ++ [rs[q]] := by rw [List.take_add_one, List.getElem?_eq_getElem h6]; rfl
      refine ifS_mk (hv10.idx h6) (ifS_mk (hv10.fld h6 1) (ifS_mk (hv10.vec h6) (ifS_mk (IntsAt.idx (hv10.at_ h6) hkq) ⟨_, IntsAt.get (hv10.at_ h6) hkq, ifS_mk (hv10.idx h6) (ifS_mk (hv10.fld h6 1) (ifS_mk (hv10.vec h6) (ifS_mk (IntsAt.idx (hv10.at_ h6) hkq) ⟨_, IntsAt.get (hv10.at_ h6) hkq, setI_mk (wrap_succ (by omega)) ⟨rs.length - (q + 1), by omega, q + 1, rfl, rfl, h6, rfl, ?_, ?_⟩⟩)))⟩)))
      · rw [et, colMin_snoc, getD_get hkq]
      · rw [et, colMax_snoc, getD_get hkq]
    · have hqq : q = rs.length := by omega
      subst hqq
      rw [List.take_length]
      have al := bA.lt; have bl := bB.lt; have af := bA.from; have bf := bB.from
      refine ifS_mk (ld mA rfl) (BuiltI.push bA _ (by rw [boxLo_len]; omega) fun a' S13 bA' uA tA => ?_)
      rw [← boxLo_succ] at bA'
      have mA13 := uA.get mA iA
      have i10 := g10.wf.lt mA
      have iA' : S7.next ∉ a'.block := fun hx => by rcases tA _ hx with h | h; exact iA h; omega
      refine st_mk uA.wf mA13 (by rw [(BuiltI.at_ bA').cells1]; rfl) (by rw [(BuiltI.at_ bA').cells1]; simp) (by rw [(BuiltI.at_ bA').cells1]; simp [bA'.one]) fun S14 u14 m14 n14 => ?_
      simp only [(BuiltI.at_ bA').cells1, over] at m14
      have bB14 : BuiltI S7 S14 b (boxHi rs k) := (bB.upd uA af (fun x hx hx' => hab x hx' hx)).upd u14 (by simp) (fun x hx hx' => by simp only [List.mem_singleton] at hx'; subst hx'; exact iB hx)
      have bA14 : BuiltI S7 S14 a' (boxLo rs (k + 1)) := bA'.upd u14 (by simp) (fun x hx hx' => by simp only [List.mem_singleton] at hx'; subst hx'; exact iA' hx)
      have hab14 : ∀ x ∈ b.block, x ∉ a'.block := fun x hx hx' => by rcases tA _ hx' with h | h; exact hab x h hx; have := bl _ hx; omega
      refine ifS_mk (ld m14 rfl) (BuiltI.push bB14 _ (by rw [boxHi_len]; omega) fun b' S16 bB' uB tB => ?_)
      rw [← boxHi_succ] at bB'
      have m16 := uB.get m14 iB
      have hle14 : S10.next ≤ S14.next := by have := uA.le; have := u14.le; omega
      have iB' : S7.next ∉ b'.block := fun hx => by rcases tB _ hx with h | h; exact iB h; omega
      refine st_mk uB.wf m16 (by rw [(BuiltI.at_ bB').cells1]; rfl) (by rw [(BuiltI.at_ bB').cells1]; simp) (by rw [(BuiltI.at_ bB').cells1]; simp [bB'.one]) fun S17 u17 m17 n17 => ?_
      simp only [(BuiltI.at_ bB').cells1, over] at m17
      have bA16 : BuiltI S7 S16 a' (boxLo rs (k + 1)) := bA14.upd uB (fun x hx => bf x hx) (fun x hx hx' => hab14 x hx' hx)
      have bA17 : BuiltI S7 S17 a' (boxLo rs (k + 1)) := bA16.upd u17 (by simp) (fun x hx hx' => by simp only [List.mem_singleton] at hx'; subst hx'; exact iA' hx)
      have bB17 : BuiltI S7 S17 b' (boxHi rs (k + 1)) := bB'.upd u17 (by simp) (fun x hx hx' => by simp only [List.mem_singleton] at hx'; subst hx'; exact iB' hx)
      refine setI_mk (wrap_succ (by omega)) ⟨d.toNat - (k + 1), by omega, k + 1, rfl, rfl, by omega, ⟨bA17.grow, Nat.le_refl _, a', b', by simpa using m17, bA17, bB17, iA', iB', fun x hx hx' => ?_⟩⟩
      rcases tB _ hx' with h | h
      · exact hab14 x h hx
      · have := bA14.lt x hx; omega
  · have hkk : k = d.toNat := by omega
    subst hkk
    refine ⟨_, _, _, _, _, _, ldN mA (by simp) rfl, tellReg g10.wf (g10.get (bc.grow.get m1)) rfl bA.one bB.one bc.one (K := fun s a b h l c S' => K s a b h l c 0 S') fun S18 u18 => ?_⟩
    have fin : ∀ {x : V} {l : List Int}, IntsAt S10 x l → (∀ i ∈ x.block, S2.next ≤ i) → IntsAt S18 x l := fun hx hb => SlAt.upd hx u18 fun i hi hi' => by simp only [List.mem_singleton] at hi'; subst hi'; have := hb _ hi; omega
    have gg : Grow S S18 := (g7.trans g10).after u18 (by simp)
    refine hk a b c 0 0 S18 gg ⟨fin (BuiltI.at_ bA) (fun i hi => Nat.le_trans bc.grow.le (bA.from i hi)), fin (BuiltI.at_ bB) (fun i hi => Nat.le_trans bc.grow.le (bB.from i hi)), fin ((BuiltI.at_ bc).grow g10) bc.from, ⟨by omega, by omega, by omega, by omega⟩, rfl⟩ bA.one bB.one bc.one

end Go.Th.L
end

section
/- vec, the reference: the ball. -/
set_option linter.unusedSimpArgs false
set_option linter.unusedVariables false
namespace Go.Th.L
open Go Go.Th Go.Th.Pure
variable {P : Program} {N : Nat → Nat}

def ref03_Ball.Spec (P : Program) (N : Nat → Nat) : Prop := ∀ (u v : V) (ce : List Int) (rs : List Row) (S : St) (K : Int → V → V → Int → Int → V → Int → St → Prop), S.Wf → IntsAt S u ce → RowsAt S v rs → ce.length ≤ 65536 →
  (∀ a b c h l S', Grow S S' → RegAt S' a b c h l (ballOf ce rs) → a.one = true → b.one = true → c.one = true → K (ballOf ce rs).shape a b h l c (errBall ce rs) S') →
  CallA P (N Fn.ref03_Ball) [u, v] S (retT [.agg [.int .i64, .any, .any, .int .u64, .int .u64, .any], .one (.int .i64)] K)
theorem ref03_Ball.spec (hF : ref03_Ball.Ok P N) (hCh : ChecksV P (N Fn.ref03_Check)) (hR : ref03_Rows.Spec P N) (hI : ref03_Ids.Spec P N) (hf : FarOk P (N Fn.ref03_Far)) (hL : ref01_Less.Spec P N) : ref03_Ball.Spec P N := by
  rintro u v ce rs S K hw hu ⟨ws, hv⟩ hcl hk
  have bad : ∀ (e : Int) {S1 : St} (g : Grow S S1) (m : S1.get S.next = some (.cells (regC 0 .nilSlice .nilSlice 0 0 .nilSlice) true)), e ≠ 0 → errBall ce rs = e → ifS (storeV S1 6 (.ptr S.next 0) (regV 0 .nilSlice .nilSlice 0 0 .nilSlice)) fun S3 =>
      ∃ xr_a : Int, ∃ xr_b xr_c : V, ∃ xr_d xr_e : Int, ∃ xr_f : V, cellNV S3 6 (V.ptr S.next 0) = some (regV xr_a xr_b xr_c xr_d xr_e xr_f) ∧ K xr_a xr_b xr_c xr_d xr_e xr_f e S3 := fun e S1 g m h0 h1 => by
    have hz : ballOf ce rs = zeroReg := by rw [ballOf, if_neg (by omega)]
    rw [hz, h1] at hk
    exact tellReg g.wf m rfl rfl rfl rfl (K := fun s a b h l c S' => K s a b h l c e S') fun S' u => hk _ _ _ _ _ S' (g.after u (by simp)) (zreg_at S') rfl rfl rfl
  refine ref03_Ball.run hF (newS_mk hw fun S1 g1 m1 n1 => ⟨_, (hu.grow g1).len, hCh u ce _ _ _ (hu.grow g1) (ifC_ndec (fun h1 => bad _ g1 m1 h1 (by rw [errBall, if_pos h1])) (fun h1 => ?_))⟩)
  have e : errBall ce rs = rowsE rs ce.length := by rw [errBall, if_neg (by omega)]
  refine ⟨_, (hu.grow g1).len, hR v rs _ _ _ ⟨ws, hv.grow g1⟩ (ifC_ndec (fun h3 => bad _ g1 m1 h3 e) (fun h3 => ?_))⟩
  replace h3 : rowsE rs ce.length = 0 := h3
  rw [ballOf, e, h3, if_pos rfl] at hk
  have hz := rowsE_zero h3
  obtain ⟨c1, c2, _, c4⟩ := checkV_ok (by omega : checkV ce ce.length = 0)
  have hu1 := hu.grow g1
  refine hI v rs S1 _ g1.wf ⟨ws, hv.grow g1⟩ hz.1 fun c S4 bc => ⟨hu1.cells1, bc.at_.cells1, newS_mk bc.grow.wf fun S5 g5 m5 n5 => st_mk g5.wf m5 rfl (by simp [V.cells]) (by simp only [V.cells, List.all_cons, List.all_nil, bc.one, hu1.one1]; rfl) fun S6 u6 m6 n6 => ?_⟩
  simp only [V.cells, over] at m6
  have g4 : Grow S S4 := g1.trans bc.grow
  have g46 : Grow S4 S6 := g5.after u6 (fun i hi => by simp at hi; subst hi; exact .inl (Nat.le_refl _))
  have w6 := u6.wf
  refine Loop1.ind (fun m x S' => ∃ (q : Nat) (h l : Int), x = q ∧ m = rs.length - q ∧ q ≤ rs.length ∧ Grow S4 S' ∧ S'.get S4.next = some (.cells (regC 3 u .nilSlice h l c) true) ∧ Wok h l ∧ wN h l = radOf ce (rs.take q)) rs.length
    ⟨0, 0, 0, rfl, rfl, Nat.zero_le _, g46, by simpa using m6, ⟨by omega, by omega, by omega, by omega⟩, rfl⟩ ?_
  rintro m _ S7 ⟨q, h, l, rfl, rfl, hq, g7', m7, w7, n7⟩
  have g7 : Grow S S7 := g4.trans g7'
  have hv7 := hv.grow g7
  have hu7 := hu.grow g7
  refine ⟨_, hv7.length, ifC_dec (fun h4 => ?_) (fun h4 => ?_)⟩
  · have h4 : q < rs.length := by omega
    have rq := rowsErr_row hz.2 (List.getElem_mem h4)
    refine ifS_mk (hv7.idx h4) (ifS_mk (hv7.fld h4 1) (ifS_mk (hv7.vec h4) (hf u _ ce rs[q].2 _ _ hu7 (hv7.at_ h4) (by omega) (by omega) c4 rq.2.2.2.2 fun h' l' w' n' => keepW g7.wf fun S12 g12 m12 n12 => ⟨_, _, ldN (g12.get m7) (by simp) rfl, _, _, ldN m12 (by simp) rfl, hL _ _ _ _ _ _ w7 w' ?_⟩)))
    have et : rs.take (q + 1) = rs.take q ++ [rs[q]] := by rw [List.take_add_one, List.getElem?_eq_getElem h4]; rfl
    rw [List.take_of_length_le (by omega)] at n'
    rw [n', n7]
    refine ifC_dec (fun h5 => ⟨_, _, ldN m12 (by simp) rfl, st_mk g12.wf (g12.get m7) rfl (by simp [V.cells]) rfl fun S14 u14 m14 n14 => setI_mk (wrap_nat (by omega)) ⟨rs.length - (q + 1), by omega, q + 1, h', l', rfl, rfl, h4, (g7'.trans g12).after u14 (by simp), by simpa [over, V.cells] using m14, w', ?_⟩⟩) (fun h5 => setI_mk (wrap_nat (by omega)) ⟨rs.length - (q + 1), by omega, q + 1, h, l, rfl, rfl, h4, g7'.trans g12, g12.get m7, w7, ?_⟩)
    · rw [et, radOf_snoc, if_pos h5, n']
    · rw [et, radOf_snoc, if_neg h5, n7]
  · have hqq : q = rs.length := by omega
    subst hqq
    rw [List.take_length] at n7
    refine ⟨_, _, _, _, _, _, ldN m7 (by simp) rfl, tellReg g7.wf (g7'.get (bc.grow.get m1)) rfl hu7.one1 rfl bc.one (K := fun s a b h l c S' => K s a b h l c 0 S') fun S18 u18 => ?_⟩
    have gg : Grow S S18 := g7.after u18 (by simp)
    have hc18 : IntsAt S18 c (idsR rs) := SlAt.upd ((BuiltI.at_ bc).grow g7') u18 fun i hi hi' => by simp only [List.mem_singleton] at hi'; subst hi'; have := bc.from _ hi; omega
    exact hk u .nilSlice c h l S18 gg ⟨hu.grow gg, (zreg_at S18).lo, hc18, w7, n7⟩ hu7.one1 rfl bc.one

end Go.Th.L
end

section
/- The laws of layer 3: awake. -/
set_option linter.unusedSimpArgs false
set_option linter.unusedVariables false
namespace Go.Th.L
open Go Go.Th Go.Th.Pure
variable {P : Program} {N : Nat → Nat}

theorem lit_ints {S : St} {i : Nat} (l : List Int) (h : S.get i = some (.cells (intsV .i64 l) true)) (hl : l.length ≤ 4611686018427387904) : IntsAt S (.slice i 0 l.length l.length 1 true) l :=
  ⟨hl, by simp [intsV_length], .inr ⟨i, 0, l.length, true, rfl, Nat.le_refl _, by rw [St.loads_of h (by simp [intsV_length]), List.drop_zero, List.take_of_length_le (by simp [intsV_length])]⟩⟩

theorem law03_lo.spec (hF : law03_lo.Ok P N) {x : Int} {S : St} {K : Int → Int → St → Prop} (hk : K 0 x S) : CallA P (N Fn.law03_lo) [.int .u64 x] S (retT [.agg [.int .u64, .int .u64]] K) := by
  refine CallA.gcT (ds := [.agg [.int .u64, .int .u64]]) rfl (CallA.wfT fun hw => ?_)
  exact law03_lo.run hF (newS_mk hw fun S1 g1 m1 n1 => st_mk g1.wf m1 rfl (by simp [V.cells]) rfl fun S2 u2 m2 n2 => ⟨_, _, ldC m2 (by simp [over, V.cells]) rfl, hk⟩)

theorem law03_box.spec (hF : law03_box.Ok P N) {u w : V} {a b : List Int} {S : St} {K : Int → V → V → Int → Int → V → St → Prop} (hw : S.Wf) (hu : IntsAt S u a) (hv : IntsAt S w b) (hk : ∀ S', Grow S S' → K 2 u w 0 0 .nilSlice S') :
    CallA P (N Fn.law03_box) [u, w] S (retT [.agg [.int .i64, .any, .any, .int .u64, .int .u64, .any]] K) :=
  law03_box.run hF (newS_mk hw fun S1 g1 m1 n1 => ⟨hu.cells1, hv.cells1, tellReg g1.wf m1 rfl hu.one1 hv.one1 rfl fun S' u' => hk S' (g1.after u' (by simp))⟩)

theorem law03_ball.spec (hF : law03_ball.Ok P N) (hL : law03_lo.Ok P N) {u : V} {x : Int} {a : List Int} {S : St} {K : Int → V → V → Int → Int → V → St → Prop} (hw : S.Wf) (hu : IntsAt S u a) (hk : ∀ S', Grow S S' → K 3 u .nilSlice 0 x .nilSlice S') :
    CallA P (N Fn.law03_ball) [u, .int .u64 x] S (retT [.agg [.int .i64, .any, .any, .int .u64, .int .u64, .any]] K) :=
  law03_ball.run hF (newS_mk hw fun S1 g1 m1 n1 => law03_lo.spec hL ⟨hu.cells1, tellReg g1.wf m1 rfl hu.one1 rfl rfl fun S' u' => hk S' (g1.after u' (by simp))⟩)

structure Awake03 (P : Program) (N : Nat → Nat) : Prop where
  dist : DistOk P (N Fn.vec_Dist)
  inside : InsideOk P (N Fn.vec_Inside)
  bound : BoundOk P (N Fn.vec_Bound)
  bx : vec_Box.Spec P N
  check : ChecksV P (N Fn.vec_Check)
  ints : keep_Ints.Spec P N
  lo : law03_lo.Ok P N
  box : law03_box.Ok P N
  ball : law03_ball.Ok P N

abbrev awRows : List Row := [(9, [1, 5]), (4, [3, 2])]
theorem keepReg {S : St} (hw : S.Wf) {s h l : Int} {a b c : V} (ha : a.one = true) (hb : b.one = true) (hc : c.one = true) {K : St → Prop} (hk : ∀ S', Grow S S' → S'.get S.next = some (.cells (regC s a b h l c) true) → S'.next = S.next + 1 → K S') :
    newS S (.cells [.int .i64 0, .nilSlice, .nilSlice, .int .u64 0, .int .u64 0, .nilSlice] true) fun S1 => ifS (storeV S1 6 (.ptr S.next 0) (regV s a b h l c)) K :=
  newS_mk hw fun S1 g1 m1 n1 => st_mk g1.wf m1 rfl (by simp [V.cells]) (by simp only [V.cells, List.all_cons, List.all_nil, ha, hb, hc]; rfl) fun S2 u2 m2 n2 => hk S2 (g1.after u2 (by simp)) (by simpa [over, V.cells] using m2) (by omega)

theorem law03_awake.spec (hF : law03_awake.Ok P N) (hO : Awake03 P N) : AwakeF P (N Fn.law03_awake) := by
  intro S K hk
  refine CallA.gcT (ds := [.one .bool]) rfl (CallA.wfT fun hw => ?_)
  have w0 : ∀ x : Int, 0 ≤ x → x < 18446744073709551616 → Wok 0 x := fun x h h' => ⟨by omega, by omega, h, h'⟩
  have n0 : ∀ x : Int, wN 0 x = x := fun x => by unfold wN; omega
  refine law03_awake.run hF (newS_mk hw fun S1 g1 m1 n1 => newS_mk g1.wf fun S2 g2 m2 n2 => hO.dist _ _ [-2147483647] [2147483647] _ _ (lit_ints [-2147483647] (g2.get m1) (by decide)) (lit_ints [2147483647] m2 (by decide)) (fun h => absurd (by decide +kernel) h) fun _ dh dl dw dn => ?_)
  refine keepW g2.wf fun S5 g5 m5 n5 => newS_mk g5.wf fun S6 g6 m6 n6 => newS_mk g6.wf fun S7 g7 m7 n7 => law03_box.spec hO.box g7.wf (lit_ints [0, 0] (g7.get m6) (by decide)) (lit_ints [4, 4] m7 (by decide)) fun S8 g8 => ?_
  refine newS_mk g8.wf fun S9 g9 m9 n9 => hO.inside ⟨2, [0, 0], [4, 4], 0, []⟩ _ _ _ _ 0 0 [4, 0] _ _ ⟨lit_ints [0, 0] (g9.get (g8.get (g7.get m6))) (by decide), lit_ints [4, 4] (g9.get (g8.get m7)) (by decide), (zreg_at S9).ids, w0 0 (by omega) (by omega), rfl⟩ (lit_ints [4, 0] m9 (by decide)) (fun h => absurd (by decide +kernel) h) fun _ => ?_
  refine newS_mk g9.wf fun S11 g11 m11 n11 => newS_mk g11.wf fun S12 g12 m12 n12 => law03_box.spec hO.box g12.wf (lit_ints [0, 0] (g12.get m11) (by decide)) (lit_ints [4, 4] m12 (by decide)) fun S13 g13 => ?_
  refine newS_mk g13.wf fun S14 g14 m14 n14 => hO.bound ⟨2, [0, 0], [4, 4], 0, []⟩ _ _ _ _ 0 0 [7, 8] _ _ ⟨lit_ints [0, 0] (g14.get (g13.get (g12.get m11))) (by decide), lit_ints [4, 4] (g14.get (g13.get m12)) (by decide), (zreg_at S14).ids, w0 0 (by omega) (by omega), rfl⟩ (lit_ints [7, 8] m14 (by decide)) (fun h => absurd (by decide +kernel) h) fun _ bh bl bw bn => ?_
  have bn := bn.unique (m := 25) (.inl ⟨rfl, by decide +kernel⟩)
  refine keepW g14.wf fun S17 g17 m17 n17 => newS_mk g17.wf fun S18 g18 m18 n18 => law03_ball.spec hO.ball hO.lo g18.wf (lit_ints [0, 0] m18 (by decide)) fun S19 g19 => ?_
  refine newS_mk g19.wf fun S20 g20 m20 n20 => hO.bound ⟨3, [0, 0], [], 5, []⟩ _ _ _ _ 0 5 [6, 8] _ _ ⟨lit_ints [0, 0] (g20.get (g19.get m18)) (by decide), (zreg_at S20).hi, (zreg_at S20).ids, w0 5 (by omega) (by omega), rfl⟩ (lit_ints [6, 8] m20 (by decide)) (fun h => absurd (by decide +kernel) h) fun _ ch cl cw cn => ?_
  have cn := cn.unique (m := 49) (.inr (.inl ⟨rfl, 10, 2, by unfold IsRoot; decide +kernel, by unfold IsRoot; decide +kernel, by decide +kernel⟩))
  refine keepW g20.wf fun S23 g23 m23 n23 => newS_mk g23.wf fun S24 g24 m24 n24 => ⟨rfl, newS_mk g24.wf fun S25 g25 m25 n25 => ⟨rfl, newS_mk g25.wf fun S26 g26 m26 n26 => ?_⟩⟩
  have la := lit_ints [1, 5] (g26.get (g25.get m24)) (by decide)
  have lb := lit_ints [3, 2] (g26.get m25) (by decide)
  have hrows : RowsAt S26 (.slice S25.next 0 2 2 2 true) awRows := by
    refine ⟨[.slice S23.next 0 2 2 1 true, .slice S24.next 0 2 2 1 true], rfl, ⟨⟨(by decide : 2 ≤ 4611686018427387904), rfl, .inr ⟨_, 0, 2, true, rfl, Nat.le_refl _, ?_⟩⟩, ?_⟩, ?_⟩
    · rw [show (rowsC awRows [.slice S23.next 0 2 2 1 true, .slice S24.next 0 2 2 1 true]).length * 2 = 4 from rfl, St.loads_of m26 (by simp)]; rfl
    · intro e he
      simp only [rowsC, awRows, List.mem_cons, List.not_mem_nil, or_false] at he
      rcases he with rfl | rfl <;> rfl
    · rintro (_ | _ | j) hr hw
      · exact la
      · exact lb
      · simp [awRows] at hr; omega
  refine hO.bx _ awRows 2 _ _ g26.wf hrows (fun h => absurd (by decide +kernel) h) fun _ a b c S27 ba bb bc _ => keepReg ba.grow.wf ba.one bb.one bc.one fun S29 g29 m29 n29 => ?_
  have e1 : boxLo awRows (2 : Int).toNat = [1, 2] := by decide +kernel
  have e2 : idsR awRows = [4, 9] := by decide +kernel
  rw [e1] at ba
  rw [e2] at bc
  have gB : Grow S26 S29 := ba.grow.trans g29
  have gC : Grow S23 S29 := g24.trans (g25.trans (g26.trans gB))
  have gD : Grow S17 S29 := g18.trans (g19.trans (g20.trans (g23.trans gC)))
  have gE : Grow S5 S29 := g6.trans (g7.trans (g8.trans (g9.trans (g11.trans (g12.trans (g13.trans (g14.trans (g17.trans gD))))))))
  have m23 := gC.get m23
  have m17 := gD.get m17
  have m5 := gE.get m5
  have l23 : S20.next < S29.next := gB.wf.lt m23
  have l17 : S14.next < S29.next := gB.wf.lt m17
  have l27 : S27.next < S29.next := gB.wf.lt m29
  refine Join1.mid (fun x S' => x = true ∧ S' = S29) ?_ ?_
  · refine ifC_pos rfl (ifC_pos rfl (ifC_pos rfl (ifC_pos rfl (ifC_pos rfl ⟨_, _, ldN m5 (by simp) rfl, law03_lo.spec hO.lo ⟨Same.refl _ _, _, eqW dw (w0 _ (by omega) (by omega)), ifC_tt (by rw [dn, n0]; decide +kernel) ⟨?_, rfl⟩⟩⟩))))
    exact decide_eq_true (by decide +kernel)
  · rintro _ _ ⟨rfl, rfl⟩
    refine ifC_tt rfl ⟨_, _, ldN m17 (by simp) rfl, law03_lo.spec hO.lo ⟨Same.refl _ _, _, eqW bw (w0 _ (by omega) (by omega)), ifC_tt (by rw [bn, n0]; decide +kernel) ⟨_, _, ldN m23 (by simp) rfl, law03_lo.spec hO.lo ⟨Same.refl _ _, _, eqW cw (w0 _ (by omega) (by omega)), ifC_tt (by rw [cn, n0]; decide +kernel) ?_⟩⟩⟩⟩
    refine ifS_mk (ld m29 rfl) (newS_mk gB.wf fun S34 g34 m34 n34 => ⟨Same.of_grow g34 (by simp; omega), hO.ints _ _ [1, 2] [1, 2] _ _ ((BuiltI.at_ ba).grow (g29.trans g34)) (lit_ints [1, 2] m34 (by decide)) ⟨Same.refl _ _, ifC_tt (by decide) ?_⟩⟩)
    refine ifS_mk (ld (g34.get m29) rfl) (newS_mk g34.wf fun S36 g36 m36 n36 => ⟨Same.of_grow g36 (by simp; omega), hO.ints _ _ [4, 9] [4, 9] _ _ ((BuiltI.at_ bc).grow (g29.trans (g34.trans g36))) (lit_ints [4, 9] m36 (by decide)) ⟨Same.refl _ _, ifC_tt (by decide) ?_⟩⟩)
    refine newS_mk g36.wf fun S38 g38 m38 n38 => ⟨Same.of_grow g38 (by simp; omega), hO.check _ [1, 2] 3 _ _ (lit_ints [1, 2] m38 (by decide)) ⟨Same.refl _ _, ?_⟩⟩
    exact hk

end Go.Th.L
end
