/- codec: rows put. -/
import Derived.Test.YthimmjgpiadmbaaThHcodec3
set_option linter.unusedSimpArgs false
set_option linter.unusedVariables false
namespace Go.Th.L
open Go Go.Th Go.Th.Pure
variable {P : Program} {N : Nat → Nat}

def codec_rising.Spec (P : Program) (N : Nat → Nat) : Prop := ∀ (v : V) (rs : List Row) (S : St) (K : Bool → St → Prop), RowsAt S v rs → K (risingB rs) S → CallA P (N Fn.codec_rising) [v] S (retT [.one .bool] K)

theorem codec_rising.spec (hF : codec_rising.Ok P N) : codec_rising.Spec P N := by
  rintro v rs S K ⟨ws, hv⟩ h
  have hle : rs.length ≤ 4611686018427387904 := by have := hv.sl.1.le; rwa [rowsC_length hv.len] at this
  refine codec_rising.run hF ?_
  refine Loop1.ind (fun n x S' => S' = S ∧ ∃ j : Nat, x = ((j + 1 : Nat) : Int) ∧ j + n = rs.length ∧ ∀ i (h1 : i < j) (h2 : i + 1 < rs.length), rs[i].1 < rs[i + 1].1) rs.length ⟨rfl, 0, rfl, by omega, fun i h => by omega⟩ ?_
  rintro n _ S1 ⟨rfl, j, rfl, hj, ha⟩
  refine ⟨_, hv.length, ifC_dec (fun hlt => ?_) (fun hge => ?_)⟩
  · have h1 : j + 1 < rs.length := by omega
    have h0 : j < rs.length := by omega
    refine setI_mk (n := (j : Int)) (i64_int (by omega) (by omega) |>.trans (by omega)) (ifS_mk (hv.idx h0) (ifS_mk (hv.fld h0 0) ⟨_, hv.id h0, ifS_mk (hv.idx h1) (ifS_mk (hv.fld h1 0) ⟨_, hv.id h1, ifC_dec (fun hc => ?_) (fun hc => ?_)⟩)⟩))
    · have : risingB rs = false := by
        rw [Bool.eq_false_iff]
        intro hr
        have := risingB_iff.mp hr j h1
        omega
      rwa [this] at h
    · refine setI_mk (wrap_succ (by omega)) ⟨n - 1, by omega, rfl, j + 1, rfl, by omega, fun i q1 q2 => ?_⟩
      rcases Nat.lt_or_ge i j with hi | hi
      · exact ha i hi q2
      · have : i = j := by omega
        subst this; omega
  · have : risingB rs = true := risingB_iff.mpr fun i hi => ha i (by omega) hi
    rwa [this] at h

/-- Rows put as a text. -/
def PutsR (P : Program) (f : Nat) : Prop := ∀ (v : V) (rs : List Row) (S : St) (K : List UInt8 → Int → St → Prop), RowsAt S v rs → rs.length ≤ 1048576 → (∀ r ∈ rs, r.2.length ≤ 1048576) → K (putR rs).1 (putR rs).2 S →
  CallA P f [v] S (retT [.one .str, .one (.int .i64)] K)

theorem flatMap_take_succ {rs : List Row} {j : Nat} (h : j < rs.length) : (rs.take (j + 1)).flatMap rowT = (rs.take j).flatMap rowT ++ rowT rs[j] := by
  have : rs.take (j + 1) = rs.take j ++ [rs[j]] := by rw [List.take_add_one, List.getElem?_eq_getElem h]; rfl
  rw [this, List.flatMap_append, List.flatMap_cons, List.flatMap_nil, List.append_nil]

theorem rows_size {rs : List Row} (hl : rs.length ≤ 1048576) {m : Nat} (h : ∀ r ∈ rs, r.2.length ≤ m) (j : Nat) (hm : m ≤ 131072) : ((rs.take j).flatMap rowT).length ≤ 549760008192 := by
  have key : ∀ (l : List Row), (∀ r ∈ l, r.2.length ≤ m) → (l.flatMap rowT).length ≤ l.length * 524292 := by
    intro l
    induction l with
    | nil => simp
    | cons r l ih =>
      intro h
      have h1 := ih fun q hq => h q (by simp [hq])
      have h2 := h r (by simp)
      simp only [List.flatMap_cons, List.length_append, rowT, le_length, vecT_length, List.length_cons, Nat.add_mul, Nat.one_mul]
      omega
  have h1 := key (rs.take j) fun r hr => h r (List.mem_of_mem_take hr)
  have h2 : (rs.take j).length ≤ 1048576 := by rw [List.length_take]; omega
  omega

theorem codec_PutRows.spec (hF : codec_PutRows.Ok P N) (hC : ChecksR P (N Fn.flat_Check)) (hR : codec_rising.Spec P N) (hL : LaysB P (N Fn.codec_lay) (fun _ => True)) : PutsR P (N Fn.codec_PutRows) := by
  rintro v rs S K ⟨ws, hv⟩ hl hlv h
  refine CallA.gc2 rfl rfl _ _ h fun K' hw h => ?_
  have hv := hv.ro
  generalize S.ro = R at hv hw
  have herr : errR rs = if rs ≠ [] ∧ checkR rs (dimR rs) ≠ 0 then checkR rs (dimR rs) else if risingB rs = false then 50 else 0 := rfl
  refine codec_PutRows.run hF (Join1.mid (fun x S' => S' = R ∧ x = dimR rs ∧ ¬ (rs ≠ [] ∧ checkR rs (dimR rs) ≠ 0)) ?_ ?_)
  · refine ⟨_, hv.length, ifC_dec (fun h1 => ?_) (fun h1 => ?_)⟩
    · have h0 : 0 < rs.length := by omega
      have hd : dimR rs = ((rs[0].2.length : Nat) : Int) := by
        cases rs with
        | nil => simp at h0
        | cons r rs => rfl
      refine ifS_mk (hv.idx h0) (ifS_mk (hv.fld h0 1) (ifS_mk (hv.vec h0) ⟨_, (hv.at_ h0).len, hC _ _ _ _ _ ⟨ws, hv⟩ (ifC_ndec (fun h2 => ?_) (fun h2 => ⟨rfl, hd.symm, fun hh => hh.2 (by rw [hd]; exact h2)⟩))⟩))
      rw [← hd] at h2 ⊢
      rw [if_pos ⟨by intro e; rw [e] at h0; simp at h0, h2⟩] at herr
      simp only [putC, putR, herr, if_pos h2] at h
      exact h _
    · have h0 : rs = [] := List.length_eq_zero_iff.mp (by omega)
      subst h0
      exact ⟨rfl, rfl, fun hh => hh.1 rfl⟩
  rintro _ R' ⟨rfl, rfl, hok⟩
  rw [if_neg hok] at herr
  refine hR _ _ _ _ ⟨ws, hv⟩ ?_
  by_cases hr : risingB rs = false
  · rw [if_pos hr] at herr
    simp only [putR, herr] at h
    rw [hr]
    exact ifC_tt rfl (h _)
  rw [if_neg hr] at herr
  have hr' : risingB rs = true := by simpa using hr
  rw [hr']
  have hz := errR_zero herr
  have hdm := errR_dim herr
  simp only [putR, herr] at h
  refine ifC_ff rfl ?_
  refine hL _ _ 1 [] R' R' _ (Built.nil (Upd.refl hw _) 1) (by simp) trivial fun b2 S2 hb2 u2 t2 => ?_
  refine ⟨_, (hv.grow hb2.grow).length, hL _ _ 2 _ R' S2 _ hb2 (by simp [le_length]) trivial fun b3 S3 hb3 u3 t3 => ⟨_, (hv.grow hb3.grow).length, ?_⟩⟩
  refine Loop2.ind (fun n b x S' => ∃ j : Nat, x = j ∧ j + n = rs.length ∧ BuiltB R' S' b (([] ++ le 1 (dimR rs) ++ le 2 rs.length) ++ (rs.take j).flatMap rowT)) rs.length ⟨0, rfl, by omega, by simpa using hb3⟩ ?_
  rintro n b _ S4 ⟨j, rfl, hj, hb4⟩
  have hv4 := hv.grow hb4.grow
  have hsz := rows_size (m := 64) hl (fun r hr => by have := hdm.2.2.2 r hr; omega) j (by omega)
  refine ifC_dec (fun hlt => ?_) (fun hge => ⟨_, bytes_str hb4.at_, ?_⟩)
  · have hjl : j < rs.length := by omega
    refine ifS_mk (hv4.idx hjl) ⟨_, _, hv4.both hjl, newS_mk hb4.grow.wf fun S5 g5 m5 n5 => st_mk g5.wf m5 rfl (by simp [V.cells]) (by simp only [V.cells, List.all_cons, List.all_nil, (hv4.at_ hjl).one1]; rfl) fun S6 u6 m6 n6 => ?_⟩
    simp only [V.cells, over] at m6
    have hS4 := hb4.grow.le
    have g46 : Grow S4 S6 := g5.after u6 (fun i hi => by simp at hi; subst hi; exact .inl (Nat.le_refl _))
    have hb6 := hb4.next g46
    have hbi : S4.next ∉ b.block := fun hm => by have := hb4.lt _ hm; omega
    refine ⟨_, ld m6 rfl, hL _ _ 4 _ R' S6 _ hb6 (by simp only [List.length_append, le_length, List.length_nil]; omega) trivial fun b7 S7 hb7 u7 t7 => ?_⟩
    have m7 := u7.get m6 hbi
    have hw7 := (hv.grow hb7.grow).at_ hjl
    refine ifS_mk (ld m7 rfl) ⟨_, hw7.len, ?_⟩
    have hrl := hdm.2.2.2 _ (List.getElem_mem hjl)
    refine Loop2.ind (fun m b x S' => ∃ q : Nat, x = q ∧ q + m = rs[j].2.length ∧ BuiltB R' S' b ((([] ++ le 1 (dimR rs) ++ le 2 rs.length) ++ (rs.take j).flatMap rowT) ++ (le 4 rs[j].1 ++ vecT (rs[j].2.take q)))) rs[j].2.length ⟨0, rfl, by omega, by simpa [vecT] using hb7⟩ ?_
    rintro m b' _ S8 ⟨q, rfl, hq, hb8⟩
    have hw8 := (hv.grow hb8.grow).at_ hjl
    refine ifC_dec (fun hlt2 => ?_) (fun hge2 => ?_)
    · have hql : q < rs[j].2.length := by omega
      refine ifS_mk (hw8.idx hql) ⟨_, IntsAt.get hw8 hql, hL _ _ 4 _ R' S8 _ hb8 ?_ trivial fun b9 S9 hb9 u9 t9 => setI_mk (wrap_succ (by omega)) ⟨m - 1, by omega, q + 1, rfl, by omega, ?_⟩⟩
      · have := vecT_length (rs[j].2.take q)
        have h4 : (rs[j].2.take q).length ≤ rs[j].2.length := by rw [List.length_take]; omega
        simp only [List.length_append, le_length, List.length_nil]
        omega
      · have : rs[j].2.take (q + 1) = rs[j].2.take q ++ [rs[j].2[q]] := by rw [List.take_add_one, List.getElem?_eq_getElem hql]; rfl
        rw [this, vecT_snoc]
        simpa [List.append_assoc] using hb9
    · refine setI_mk (wrap_succ (by omega)) ⟨n - 1, by omega, j + 1, rfl, by omega, ?_⟩
      rw [flatMap_take_succ hjl, rowT]
      have : rs[j].2.take q = rs[j].2 := List.take_of_length_le (by omega)
      rw [this] at hb8
      simpa [List.append_assoc] using hb8
  · have hjn : rs.take j = rs := List.take_of_length_le (by omega)
    rw [hjn]
    have he : ([] ++ le 1 (dimR rs) ++ le 2 rs.length) ++ rs.flatMap rowT = textR (dimR rs) rs := by
      unfold textR; simp
    rw [he]; exact h _

theorem ref16_PutRows.spec (hF : ref16_PutRows.Ok P N) (hC : ChecksR P (N Fn.ref05_Check)) (hN : LaysB P (N Fn.ref16_number) (fun v => 0 ≤ v ∧ v < 9223372036854775808))
    (hO : ref16_coord.Spec P N) : PutsR P (N Fn.ref16_PutRows) := by
  rintro v rs S K ⟨ws, hv⟩ hl hlv h
  refine CallA.gc2 rfl rfl _ _ h fun K' hw h => ?_
  have hv := hv.ro
  generalize S.ro = R at hv hw
  have herr : errR rs = if rs ≠ [] ∧ checkR rs (dimR rs) ≠ 0 then checkR rs (dimR rs) else if risingB rs = false then 50 else 0 := rfl
  refine ref16_PutRows.run hF (Join1.mid (fun x S' => S' = R ∧ x = dimR rs ∧ ¬ (rs ≠ [] ∧ checkR rs (dimR rs) ≠ 0)) ?_ ?_)
  · refine ⟨_, hv.length, ifC_dec (fun h1 => ?_) (fun h1 => ?_)⟩
    · have h0 : 0 < rs.length := by omega
      have hd : dimR rs = ((rs[0].2.length : Nat) : Int) := by
        cases rs with
        | nil => simp at h0
        | cons r rs => rfl
      refine ifS_mk (hv.idx h0) (ifS_mk (hv.fld h0 1) (ifS_mk (hv.vec h0) ⟨_, (hv.at_ h0).len, hC _ _ _ _ _ ⟨ws, hv⟩ (ifC_ndec (fun h2 => ?_) (fun h2 => ⟨rfl, hd.symm, fun hh => hh.2 (by rw [hd]; exact h2)⟩))⟩))
      rw [← hd] at h2 ⊢
      rw [if_pos ⟨by intro e; rw [e] at h0; simp at h0, h2⟩] at herr
      simp only [putC, putR, herr, if_pos h2] at h
      exact h _
    · have h0 : rs = [] := List.length_eq_zero_iff.mp (by omega)
      subst h0
      exact ⟨rfl, rfl, fun hh => hh.1 rfl⟩
  rintro _ R' ⟨rfl, rfl, hok⟩
  rw [if_neg hok] at herr
  -- what the check tells
  have hz : ∀ r ∈ rs, idOk r.1 = true ∧ (r.2.length : Int) = dimR rs ∧ (1 ≤ dimR rs ∧ dimR rs ≤ 64 ∧ rs.length ≤ 512) ∧ ∀ x ∈ r.2, -2147483647 ≤ x ∧ x ≤ 2147483647 := by
    intro r hr
    have hne : rs ≠ [] := fun e => by rw [e] at hr; simp at hr
    have hc : checkR rs (dimR rs) = 0 := by
      by_cases hc : checkR rs (dimR rs) = 0
      · exact hc
      · exact absurd ⟨hne, hc⟩ hok
    obtain ⟨c1, c2, c3, c4⟩ := checkR_zero hc
    obtain ⟨d1, d2⟩ := c4 r hr
    obtain ⟨e1, e2, e3, e4⟩ := checkV_zero d2
    exact ⟨d1, e3, ⟨c1, c2, c3⟩, e4⟩
  have hd0 : 0 ≤ dimR rs ∧ dimR rs ≤ 64 := by
    cases hrs : rs with
    | nil => simp [dimR]
    | cons r l => have := hz r (by rw [hrs]; simp); rw [hrs] at this; omega
  refine hN _ _ 1 [] R' R' _ (Built.nil (Upd.refl hw _) 1) (by simp) ⟨by omega, by omega⟩ fun b2 S2 hb2 u2 t2 => ?_
  refine ⟨_, (hv.grow hb2.grow).length, hN _ _ 2 _ R' S2 _ hb2 (by simp [le_length]) ⟨by omega, by omega⟩ fun b3 S3 hb3 u3 t3 => ?_⟩
  refine Loop2.ind (fun n b x S' => ∃ j : Nat, x = j ∧ j + n = rs.length ∧ BuiltB R' S' b (([] ++ le 1 (dimR rs) ++ le 2 rs.length) ++ (rs.take j).flatMap rowT) ∧ ∀ i (h1 : i + 1 < j) (h2 : i + 1 < rs.length), rs[i].1 < rs[i + 1].1) rs.length
    ⟨0, rfl, by omega, by simpa using hb3, fun i h => by omega⟩ ?_
  rintro n b _ S4 ⟨j, rfl, hj, hb4, hris⟩
  have hv4 := hv.grow hb4.grow
  refine ⟨_, hv4.length, ifC_dec (fun hlt => ?_) (fun hge => ⟨_, bytes_str hb4.at_, ?_⟩)⟩
  · have hjl : j < rs.length := by omega
    have hrj := hz _ (List.getElem_mem hjl)
    have hid := idOk_iff.mp hrj.1
    have hsz := rows_size (m := 64) hl (fun r hr => by have := hz r hr; omega) j (by omega)
    refine Join0.mid (fun S' => S' = S4 ∧ ∀ i (h1 : i + 1 < j + 1) (h2 : i + 1 < rs.length), rs[i].1 < rs[i + 1].1) ?_ ?_
    · refine ifC_dec (fun h1 => ?_) (fun h1 => ⟨rfl, fun i q1 q2 => by omega⟩)
      have hj1 : j - 1 < rs.length := by omega
      refine setI_mk (n := ((j - 1 : Nat) : Int)) (by rw [IntKind.wrap_i64]; omega) (ifS_mk (hv4.idx hj1) (ifS_mk (hv4.fld hj1 0) ⟨_, hv4.id hj1, ifS_mk (hv4.idx hjl) (ifS_mk (hv4.fld hjl 0) ⟨_, hv4.id hjl, ifC_dec (fun hc => ?_) (fun hc => ⟨rfl, fun i q1 q2 => ?_⟩)⟩)⟩))
      · have hr : risingB rs = false := by
          rw [Bool.eq_false_iff]
          intro hr
          have := risingB_iff.mp hr (j - 1) (by omega)
          have e : rs[j - 1 + 1]'(by omega) = rs[j] := by congr 1; omega
          rw [e] at this; omega
        rw [if_pos hr] at herr
        simp only [putR, herr] at h
        exact h _
      · rcases Nat.lt_or_ge (i + 1) j with hi | hi
        · exact hris i hi q2
        · have hij : i = j - 1 := by omega
          subst hij
          have e : rs[j - 1 + 1]'(by omega) = rs[j] := by congr 1; omega
          rw [e]; omega
    rintro S5 ⟨rfl, hris2⟩
    refine ifS_mk (hv4.idx hjl) (ifS_mk (hv4.fld hjl 0) ⟨_, hv4.id hjl, hN _ _ 4 _ R' S5 _ hb4 (by simp only [List.length_append, le_length, List.length_nil]; omega) ⟨by omega, by omega⟩ fun b6 S6 hb6 u6 t6 => ?_⟩)
    refine Loop2.ind (fun m b x S' => ∃ q : Nat, x = q ∧ q + m = rs[j].2.length ∧ BuiltB R' S' b ((([] ++ le 1 (dimR rs) ++ le 2 rs.length) ++ (rs.take j).flatMap rowT) ++ (le 4 rs[j].1 ++ vecT (rs[j].2.take q)))) rs[j].2.length ⟨0, rfl, by omega, by simpa [vecT] using hb6⟩ ?_
    rintro m b' _ S8 ⟨q, rfl, hq, hb8⟩
    have hv8 := hv.grow hb8.grow
    have hw8 := hv8.at_ hjl
    refine ifC_dec (fun hlt2 => ?_) (fun hge2 => ?_)
    · have hql : q < rs[j].2.length := by omega
      have hx := hrj.2.2.2 _ (List.getElem_mem hql)
      refine ifS_mk (hv8.idx hjl) (ifS_mk (hv8.fld hjl 1) (ifS_mk (hv8.vec hjl) (ifS_mk (hw8.idx hql) ⟨_, IntsAt.get hw8 hql, hO _ _ _ R' S8 _ hb8 ?_ (by omega) (by omega) fun b9 S9 hb9 u9 t9 => setI_mk (wrap_succ (by omega)) ⟨m - 1, by omega, q + 1, rfl, by omega, ?_⟩⟩)))
      · have := vecT_length (rs[j].2.take q)
        have h4 : (rs[j].2.take q).length ≤ rs[j].2.length := by rw [List.length_take]; omega
        simp only [List.length_append, le_length, List.length_nil]
        omega
      · have : rs[j].2.take (q + 1) = rs[j].2.take q ++ [rs[j].2[q]] := by rw [List.take_add_one, List.getElem?_eq_getElem hql]; rfl
        rw [this, vecT_snoc]
        simpa [List.append_assoc] using hb9
    · refine setI_mk (wrap_succ (by omega)) ⟨n - 1, by omega, j + 1, rfl, by omega, ?_, hris2⟩
      rw [flatMap_take_succ hjl, rowT]
      have : rs[j].2.take q = rs[j].2 := List.take_of_length_le (by omega)
      rw [this] at hb8
      simpa [List.append_assoc] using hb8
  · have hr : risingB rs = true := risingB_iff.mpr fun i hi => hris i (by omega) hi
    rw [if_neg (by simp [hr])] at herr
    simp only [putR, herr] at h
    have hjn : rs.take j = rs := List.take_of_length_le (by omega)
    rw [hjn]
    have he : ([] ++ le 1 (dimR rs) ++ le 2 rs.length) ++ rs.flatMap rowT = textR (dimR rs) rs := by
      unfold textR; simp
    rw [he]; exact h _

end Go.Th.L
