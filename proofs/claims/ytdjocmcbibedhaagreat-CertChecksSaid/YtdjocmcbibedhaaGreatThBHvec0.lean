/- What the row of one statement stands on: a store, abstract code, functions of the program and their laws (ThHvec0). -/
import Derived.Test.YtdjocmcbibedhaaGreatThBQ10
import Derived.Test.YtdjocmcbibedhaaGreatThBPcodec2
import Derived.Test.YtdjocmcbibedhaaGreatThBHkeep
import Derived.Test.YtdjocmcbibedhaaGreatThBGwide
import Derived.Test.YtdjocmcbibedhaaGreatThBGslicesInt

section
/- vec, flat, the document: vectors and rows checked. -/
set_option linter.unusedSimpArgs false
set_option linter.unusedVariables false
namespace Go.Th.L
open Go Go.Th Go.Th.Pure
variable {P : Program} {N : Nat → Nat}

def vec_dim.Spec (P : Program) (N : Nat → Nat) : Prop := ∀ (n : Int) (S : St) (K : Bool → St → Prop), K (decide (1 ≤ n ∧ n ≤ 64)) S → CallA P (N Fn.vec_dim) [.int .i64 n] S (retT [.one .bool] K)
theorem vec_dim.spec (hF : vec_dim.Ok P N) : vec_dim.Spec P N := by
  intro n S K h
  refine vec_dim.run hF (ifC_dec (fun h1 => ?_) (fun h1 => ?_))
  · simpa [h1] using h
  · simpa [h1] using h

def ref03_Id.Spec (P : Program) (N : Nat → Nat) : Prop := ∀ (n : Int) (S : St) (K : Bool → St → Prop), K (idOk n) S → CallA P (N Fn.ref03_Id) [.int .i64 n] S (retT [.one .bool] K)
theorem ref03_Id.spec (hF : ref03_Id.Ok P N) : ref03_Id.Spec P N := by
  intro n S K h
  refine ref03_Id.run hF (ifC_dec (fun h1 => ?_) (fun h1 => ?_))
  · simpa [idOk, h1] using h
  · simpa [idOk, h1] using h

def ChecksV (P : Program) (f : Nat) : Prop := ∀ (v : V) (l : List Int) (d : Int) (S : St) (K : Int → St → Prop), IntsAt S v l → K (checkV l d) S → CallA P f [v, .int .i64 d] S (retT [.one (.int .i64)] K)

theorem allC_step {l : List Int} {j : Nat} (hj : j < l.length) (h : ∀ i (h : i < j) (h2 : i < l.length), inC l[i] = true) (hx : inC l[j] = true) : ∀ i (h : i < j + 1) (h2 : i < l.length), inC l[i] = true := by
  intro i h1 h2
  rcases Nat.lt_or_ge i j with hi | hi
  · exact h i hi h2
  · have : i = j := by omega
    subst this; exact hx
theorem allC_all {l : List Int} {j : Nat} (hj : l.length ≤ j) (h : ∀ i (h : i < j) (h2 : i < l.length), inC l[i] = true) : l.all inC = true := by
  rw [List.all_eq_true]
  intro x hx
  obtain ⟨i, hi, rfl⟩ := List.getElem_of_mem hx
  exact h i (by omega) hi
theorem allC_not {l : List Int} {j : Nat} (hj : j < l.length) (h : ¬ (inC l[j] = true)) : ¬ (l.all inC = true) := by
  rw [List.all_eq_true]
  exact fun h' => h (h' _ (List.getElem_mem hj))

theorem vec_Check.spec (hF : vec_Check.Ok P N) (hd : vec_dim.Spec P N) : ChecksV P (N Fn.vec_Check) := by
  intro v l d S K hv h
  have hle := hv.le
  refine vec_Check.run hF (Join0.mid (fun S' => S' = S ∧ 1 ≤ d ∧ d ≤ 64 ∧ (l.length : Int) = d) ?_ ?_)
  · refine hd d S _ ?_
    by_cases h1 : 1 ≤ d ∧ d ≤ 64
    · rw [decide_eq_true h1]
      refine ifC_ff rfl ⟨_, hv.len, ifC_ndec (fun h2 => ?_) (fun h2 => ⟨rfl, h1.1, h1.2, h2⟩)⟩
      rwa [checkV, if_pos (.inr (.inr h2))] at h
    · rw [decide_eq_false h1]
      refine ifC_tt rfl ?_
      rwa [checkV, if_pos (by omega)] at h
  rintro S' ⟨rfl, h1, h2, h3⟩
  rw [checkV, if_neg (by omega)] at h
  refine ⟨_, hv.len, ?_⟩
  refine Loop1.ind (fun n x S'' => S'' = S' ∧ ∃ j : Nat, x = j ∧ j + n = l.length ∧ ∀ i (h : i < j) (h2 : i < l.length), inC l[i] = true) l.length ⟨rfl, 0, rfl, by omega, fun i h => by omega⟩ ?_
  rintro n _ S'' ⟨rfl, j, rfl, hj, ha⟩
  refine ifC_dec (fun hlt => ?_) (fun hge => ?_)
  · have hjl : j < l.length := by omega
    refine ifS_mk (hv.idx hjl) ⟨_, IntsAt.get hv hjl, ifC_dec (fun h4 => ?_) (fun h4 => ifC_dec (fun h5 => ?_) (fun h5 => ?_))⟩
    · rwa [if_neg (allC_not hjl (by simp [inC]; omega))] at h
    · rwa [if_neg (allC_not hjl (by simp [inC]; omega))] at h
    · exact setI_mk (wrap_succ (by omega)) ⟨n - 1, by omega, rfl, j + 1, rfl, by omega, allC_step hjl ha (by simp [inC]; omega)⟩
  · rwa [if_pos (allC_all (by omega) ha)] at h

theorem ref03_Check.spec (hF : ref03_Check.Ok P N) : ChecksV P (N Fn.ref03_Check) := by
  intro v l d S K hv h
  have hle := hv.le
  refine ref03_Check.run hF (Join0.mid (fun S' => S' = S ∧ 1 ≤ d ∧ d ≤ 64 ∧ (l.length : Int) = d) ?_ ?_)
  · refine ifC_dec (fun h1 => ?_) (fun h1 => ifC_dec (fun h2 => ?_) (fun h2 => ⟨_, hv.len, ifC_ndec (fun h3 => ?_) (fun h3 => ⟨rfl, by omega, by omega, h3⟩)⟩))
    · rwa [checkV, if_pos (.inl h1)] at h
    · rwa [checkV, if_pos (.inr (.inl h2))] at h
    · rwa [checkV, if_pos (.inr (.inr h3))] at h
  rintro S' ⟨rfl, h1, h2, h3⟩
  rw [checkV, if_neg (by omega)] at h
  refine Loop1.ind (fun n x S'' => S'' = S' ∧ ∃ j : Nat, x = j ∧ j + n = l.length ∧ ∀ i (h : i < j) (h2 : i < l.length), inC l[i] = true) l.length ⟨rfl, 0, rfl, by omega, fun i h => by omega⟩ ?_
  rintro n _ S'' ⟨rfl, j, rfl, hj, ha⟩
  refine ⟨_, hv.len, ifC_dec (fun hlt => ?_) (fun hge => ?_)⟩
  · have hjl : j < l.length := by omega
    refine ifS_mk (hv.idx hjl) ⟨_, IntsAt.get hv hjl, ifC_dec (fun h4 => ?_) (fun h4 => ifS_mk (hv.idx hjl) ⟨_, IntsAt.get hv hjl, ifC_dec (fun h5 => ?_) (fun h5 => ?_)⟩)⟩
    · rwa [if_neg (allC_not hjl (by simp [inC]; omega))] at h
    · rwa [if_neg (allC_not hjl (by simp [inC]; omega))] at h
    · exact setI_mk (wrap_succ (by omega)) ⟨n - 1, by omega, rfl, j + 1, rfl, by omega, allC_step hjl ha (by simp [inC]; omega)⟩
  · rwa [if_pos (allC_all (by omega) ha)] at h

def ChecksR (P : Program) (f : Nat) : Prop := ∀ (v : V) (rs : List Row) (d : Int) (S : St) (K : Int → St → Prop), RowsAt S v rs → K (checkR rs d) S → CallA P f [v, .int .i64 d] S (retT [.one (.int .i64)] K)

theorem drop_cons {α : Type} {l : List α} {j : Nat} (h : j < l.length) : l.drop j = l[j] :: l.drop (j + 1) := List.drop_eq_getElem_cons h

def ref03_Rows.Spec (P : Program) (N : Nat → Nat) : Prop := ∀ (v : V) (rs : List Row) (d : Int) (S : St) (K : Int → St → Prop), RowsAt S v rs →
    K (if 512 < rs.length then 2 else rowsErr [] rs d) S → CallA P (N Fn.ref03_Rows) [v, .int .i64 d] S (retT [.one (.int .i64)] K)

theorem ref03_Rows.spec (hF : ref03_Rows.Ok P N) (hI : ref03_Id.Spec P N) (hC : ChecksV P (N Fn.ref03_Check)) : ref03_Rows.Spec P N := by
  rintro v rs d S K ⟨ws, hv⟩ h
  refine ref03_Rows.run hF ⟨_, hv.length, ifC_dec (fun h1 => ?_) (fun h1 => ?_)⟩
  · rwa [if_pos (by omega)] at h
  rw [if_neg (by omega)] at h
  refine Loop1.ind (fun n x S' => S' = S ∧ ∃ (j : Nat) (seen : List Int), x = j ∧ j + n = rs.length ∧ (∀ k, k ∈ seen ↔ ∃ i, ∃ (h : i < rs.length), i < j ∧ rs[i].1 = k) ∧ rowsErr seen (rs.drop j) d = rowsErr [] rs d) rs.length
    ⟨rfl, 0, [], rfl, by omega, by simp, by simp⟩ ?_
  rintro n _ S' ⟨rfl, j, seen, rfl, hj, hseen, he⟩
  refine ⟨_, hv.length, ifC_dec (fun hlt => ?_) (fun hge => ?_)⟩
  · have hjl : j < rs.length := by omega
    rw [drop_cons hjl] at he
    simp only [rowsErr] at he
    refine ifS_mk (hv.idx hjl) (ifS_mk (hv.fld hjl 0) ⟨_, hv.id hjl, hI _ _ _ ?_⟩)
    by_cases hid : idOk rs[j].1 = true
    · rw [hid]
      refine ifC_ff rfl ?_
      refine Loop1.ind (fun m x S'' => S'' = S' ∧ ∃ q : Nat, x = q ∧ q + m = j ∧ ∀ i (h1 : i < q) (h2 : i < rs.length), rs[i].1 ≠ rs[j].1) j ⟨rfl, 0, rfl, by omega, fun i h => by omega⟩ ?_
      rintro m _ S'' ⟨rfl, q, rfl, hq, hne⟩
      refine ifC_dec (fun hlt2 => ?_) (fun hge2 => ?_)
      · have hql : q < rs.length := by omega
        refine ifS_mk (hv.idx hql) (ifS_mk (hv.fld hql 0) ⟨_, hv.id hql, ifS_mk (hv.idx hjl) (ifS_mk (hv.fld hjl 0) ⟨_, hv.id hjl, ifC_dec (fun heq => ?_) (fun hneq => ?_)⟩)⟩)
        · rw [if_pos (.inr ((hseen _).mpr ⟨q, hql, by omega, heq⟩))] at he
          rwa [← he] at h
        · refine setI_mk (wrap_succ (by omega)) ⟨m - 1, by omega, rfl, q + 1, rfl, by omega, fun i h1 h2 => ?_⟩
          rcases Nat.lt_or_ge i q with hi | hi
          · exact hne i hi h2
          · have : i = q := by omega
            subst this; exact hneq
      · have hns : ¬ (idOk rs[j].1 = false ∨ rs[j].1 ∈ seen) := by
          rintro (h' | h')
          · rw [hid] at h'; cases h'
          · obtain ⟨i, hi, hij, he'⟩ := (hseen _).mp h'
            exact hne i (by omega) hi he'
        rw [if_neg hns] at he
        refine ifS_mk (hv.idx hjl) (ifS_mk (hv.fld hjl 1) (ifS_mk (hv.vec hjl) (hC _ _ _ _ _ (hv.at_ hjl) (ifC_ndec (fun hc => ?_) (fun hc => ?_)))))
        · rw [if_pos hc] at he
          rwa [← he] at h
        · rw [if_neg (by simpa using hc)] at he
          refine setI_mk (wrap_succ (by omega)) ⟨n - 1, by omega, rfl, j + 1, rs[j].1 :: seen, rfl, by omega, fun k => ?_, he⟩
          constructor
          · intro hk
            rcases List.mem_cons.mp hk with rfl | hk
            · exact ⟨j, hjl, by omega, rfl⟩
            · obtain ⟨i, hi, hij, he'⟩ := (hseen _).mp hk
              exact ⟨i, hi, by omega, he'⟩
          · rintro ⟨i, hi, hij, he'⟩
            rcases Nat.lt_or_ge i j with h' | h'
            · exact List.mem_cons_of_mem _ ((hseen _).mpr ⟨i, hi, h', he'⟩)
            · have : i = j := by omega
              subst this; rw [← he']; exact List.mem_cons_self
    · have hid' : idOk rs[j].1 = false := by simpa using hid
      rw [hid']
      refine ifC_tt rfl ?_
      rw [if_pos (.inl hid')] at he
      rwa [← he] at h
  · have : rs.drop j = [] := List.drop_of_length_le (by omega)
    rw [this] at he
    simp only [rowsErr] at he
    rwa [← he] at h

theorem ref05_Check.spec (hF : ref05_Check.Ok P N) (hR : ref03_Rows.Spec P N) : ChecksR P (N Fn.ref05_Check) := by
  intro v rs d S K hv h
  unfold checkR at h
  refine ref05_Check.run hF (ifC_dec (fun h1 => ?_) (fun h1 => ifC_dec (fun h2 => ?_) (fun h2 => ?_)))
  · rwa [if_pos (.inl h1)] at h
  · rwa [if_pos (.inr h2)] at h
  · rw [if_neg (by omega)] at h
    exact hR v rs d S _ hv h

theorem flat_Check.spec (hF : flat_Check.Ok P N) (hC : ChecksV P (N Fn.vec_Check)) : ChecksR P (N Fn.flat_Check) := by
  rintro v rs d S K ⟨ws, hv0⟩ h
  refine CallA.gcT rfl (CallA.wfT fun hw => ?_)
  have hv := hv0.ro
  have hle : rs.length ≤ 4611686018427387904 := by have := hv.sl.1.le; rwa [rowsC_length hv.len] at this
  change ∀ _, _ at hw
  have h : ∀ _ : St, (fun (n : Int) (_ : St) => K n S) (checkR rs d) S := fun _ => h
  generalize hK : (fun (n : Int) (_ : St) => K n S) = K' at h
  have hat : atS (flats [.one (.int .i64)]) K S = K' := by rw [← hK]; rfl
  rw [hat]
  have hk : ∀ S', K' (checkR rs d) S' := by rw [← hK] at h ⊢; exact fun S' => h S'
  clear h
  generalize S.ro = R at hv hw
  unfold checkR at hk
  refine flat_Check.run hF (Join1.mid (fun b S' => S' = R ∧ b = decide (d < 1 ∨ 64 < d)) ?_ ?_)
  · exact ifC_dec (fun h1 => ⟨rfl, by simp [h1]⟩) (fun h1 => ⟨rfl, by simp [h1]⟩)
  rintro b S1 ⟨rfl, rfl⟩
  refine ifC_dec (fun h1 => ?_) (fun h1 => ⟨_, hv.length, ifC_dec (fun h2 => ?_) (fun h2 => ?_)⟩)
  · rw [if_pos h1] at hk; exact hk _
  · rw [if_neg h1, if_pos (by omega)] at hk; exact hk _
  rw [if_neg h1, if_neg (by omega)] at hk
  refine newS_mk hw fun S2 g2 m2 n2 => ⟨_, (hv.grow g2).length, ?_⟩
  refine Loop1.ind (fun n x S' => ∃ (j : Nat) (es : List (Int × V)) (seen : List Int), x = j ∧ j + n = rs.length ∧ Grow S1 S' ∧ MapAt S' S1.next es ∧ (∀ k, k ∈ seen ↔ ∃ e ∈ es, e.1 = k) ∧ (∀ e ∈ es, e.2 = .bool true) ∧ rowsErr seen (rs.drop j) d = rowsErr [] rs d) rs.length
    ⟨0, [], [], rfl, by omega, g2, m2, by simp, by simp, by simp⟩ ?_
  rintro n _ S3 ⟨j, es, seen, rfl, hj, g3, m3, hseen, htrue, he⟩
  refine ifC_dec (fun hlt => ?_) (fun hge => ?_)
  · have hjl : j < rs.length := by omega
    rw [drop_cons hjl] at he
    simp only [rowsErr] at he
    have hv3 := hv.grow g3
    refine ifS_mk (hv3.idx hjl) ⟨_, _, hv3.both hjl, newS_mk g3.wf fun S4 g4 m4 n4 => st_mk g4.wf m4 rfl (by simp [V.cells]) (by simp only [V.cells, List.all_cons, List.all_nil, (hv3.at_ hjl).one1]; rfl) fun S5 u5 m5 n5 => ?_⟩
    simp only [V.cells, over] at m5
    have g35 : Grow S3 S5 := g4.after u5 (fun i hi => by simp at hi; subst hi; exact .inl (Nat.le_refl _))
    have g5 : Grow S1 S5 := g3.trans g35
    have mm5 : MapAt S5 S1.next es := m3.upd g35 (by simp)
    refine Join0.mid (fun S' => S' = S5 ∧ idOk rs[j].1 = true ∧ rs[j].1 ∉ seen) ?_ ?_
    · refine ⟨_, ld m5 rfl, ifC_dec (fun h3 => ?_) (fun h3 => ⟨_, ld m5 rfl, ifC_dec (fun h4 => ?_) (fun h4 => ⟨_, ld m5 rfl, ?_⟩)⟩)⟩
      · rw [if_pos (.inl (by simp [idOk]; omega))] at he
        rw [← he] at hk; exact hk _
      · rw [if_pos (.inl (by simp [idOk]; omega))] at he
        rw [← he] at hk; exact hk _
      · have hlk := lookup_int mm5 (.bool false) rs[j].1
        by_cases hin : rs[j].1 ∈ seen
        · obtain ⟨e, hem, hek⟩ := (hseen _).mp hin
          refine ⟨true, ?_, ifC_tt rfl ?_⟩
          · rw [hlk]
            cases hf : es.find? (fun e => decide (rs[j].1 = e.1)) with
            | none => rw [List.find?_eq_none] at hf; have := hf e hem; simp [hek] at this
            | some e' => simp only; rw [htrue e' (List.mem_of_find?_eq_some hf)]
          · rw [if_pos (.inr hin)] at he
            rw [← he] at hk; exact hk _
        · refine ⟨false, ?_, ifC_ff rfl ⟨rfl, by simp [idOk]; omega, hin⟩⟩
          rw [hlk]
          cases hf : es.find? (fun e => decide (rs[j].1 = e.1)) with
          | none => rfl
          | some e' =>
            have h1 := List.mem_of_find?_eq_some hf
            have h2 := List.find?_some hf
            exact absurd ((hseen _).mpr ⟨e', h1, (of_decide_eq_true h2).symm⟩) hin
    rintro S6 ⟨rfl, hid, hnin⟩
    rw [if_neg (by rintro (h' | h'); rw [hid] at h'; cases h'; exact hnin h')] at he
    refine ifS_mk (ld m5 rfl) (hC _ _ _ _ _ ((hv3.at_ hjl).grow g35) (ifC_ndec (fun hc => ?_) (fun hc => ⟨_, ld m5 rfl, ?_⟩)))
    · rw [if_pos hc] at he
      rw [← he] at hk; exact hk _
    · rw [if_neg (by simpa using hc)] at he
      obtain ⟨S7, e7, m7, u7, n7⟩ := mapUpd_new g5.wf mm5 (k := rs[j].1) (.bool true) (fun e hem hek => hnin ((hseen _).mpr ⟨e, hem, hek⟩))
      refine ifS_mk e7 (setI_mk (wrap_succ (by omega)) ⟨n - 1, by omega, j + 1, es ++ [(rs[j].1, .bool true)], rs[j].1 :: seen, rfl, by omega, g5.after u7 (fun i hi => by simp at hi; subst hi; exact .inl (Nat.le_refl _)), m7, fun k => ?_, fun e hem => ?_, he⟩)
      · constructor
        · intro hk'
          rcases List.mem_cons.mp hk' with rfl | hk'
          · exact ⟨(rs[j].1, .bool true), by simp, rfl⟩
          · obtain ⟨e, hem, hek⟩ := (hseen _).mp hk'
            exact ⟨e, by simp [hem], hek⟩
        · rintro ⟨e, hem, hek⟩
          rcases List.mem_append.mp hem with hem | hem
          · exact List.mem_cons_of_mem _ ((hseen _).mpr ⟨e, hem, hek⟩)
          · simp at hem; subst hem; rw [← hek]; exact List.mem_cons_self
      · rcases List.mem_append.mp hem with hem | hem
        · exact htrue e hem
        · simp at hem; subst hem; rfl
  · have : rs.drop j = [] := List.drop_of_length_le (by omega)
    rw [this] at he
    simp only [rowsErr] at he
    rw [← he] at hk; exact hk _

end Go.Th.L
end
