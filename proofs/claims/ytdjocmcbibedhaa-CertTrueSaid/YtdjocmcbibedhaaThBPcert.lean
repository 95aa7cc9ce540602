/- What the row of one statement stands on: a store, abstract code, functions of the program and their laws (ThPcert). -/
import Derived.Test.YtdjocmcbibedhaaThBHcert1
import Derived.Test.YtdjocmcbibedhaaThBPbox

section
/- Plain: sound answers, certain ones; whose hits are the first of all rows. -/
set_option linter.unusedSimpArgs false
set_option linter.unusedVariables false
namespace Go.Th.Pure
open Go Go.Th Go.Th.L

structure Ans where
  hits : List Hit
  seen : List Int
  rest : List Reg

abbrev idsOf (rs : List Row) : List Int := rs.map (·.1)
def rowOf (rs : List Row) (i : Int) : Row := (rs.find? fun r => decide (r.1 = i)).getD (0, [])
def UpTo (l : List Int) : Prop := ∀ i, 0 < i → i < l.length → l.getD (i - 1) 0 < l.getD i 0
def RegIn (rs : List Row) (q : List Int) (g : Reg) : Prop := g.ids ≠ [] ∧ errReg g q.length = 0 ∧ ∀ i ∈ g.ids, InReg g (rowOf rs i).2
def restIds (l : List Reg) : List Int := (l.map (·.ids)).flatten
def toldA (a : Ans) : List Int := a.seen ++ restIds a.rest
def SoundA (rs : List Row) (q : List Int) (k : Nat) (a : Ans) : Prop := UpTo a.seen ∧ (∀ g ∈ a.rest, RegIn rs q g) ∧ (toldA a).Perm (idsOf rs) ∧ a.hits = best k (hitsOf q (a.seen.map (rowOf rs)))
def farH (x : Hit) : Int := wN x.hi x.lo
def CertA (rs : List Row) (q : List Int) (k : Nat) (a : Ans) : Prop := SoundA rs q k a ∧ ∀ g ∈ a.rest, k ≤ a.hits.length ∧ ∃ n, IsNear g q n ∧ farH (a.hits.getD (k - 1) default) < n

theorem rowOf_mem {rs : List Row} {i : Int} (h : i ∈ idsOf rs) : rowOf rs i ∈ rs ∧ (rowOf rs i).1 = i := by
  obtain ⟨r, hr, rfl⟩ := List.mem_map.mp h
  unfold rowOf
  cases hf : rs.find? (fun x => decide (x.1 = r.1)) with
  | none => rw [List.find?_eq_none] at hf; have := hf r hr; simp at this
  | some x =>
    have h1 := List.find?_some hf
    exact ⟨List.mem_of_find?_eq_some hf, of_decide_eq_true h1⟩
theorem nodup_row : ∀ {rs : List Row}, (idsOf rs).Nodup → ∀ {r x : Row}, r ∈ rs → x ∈ rs → r.1 = x.1 → r = x
  | [], _, _, _, h, _, _ => by simp at h
  | a :: rs, hn, r, x, hr, hx, he => by
    rw [idsOf, List.map_cons, List.nodup_cons] at hn
    rcases List.mem_cons.mp hr with e1 | hr' <;> rcases List.mem_cons.mp hx with e2 | hx'
    · rw [e1, e2]
    · exact absurd (List.mem_map.mpr ⟨x, hx', by rw [← e1]; exact he.symm⟩) hn.1
    · exact absurd (List.mem_map.mpr ⟨r, hr', by rw [← e2]; exact he⟩) hn.1
    · exact nodup_row hn.2 hr' hx' he
theorem rowOf_of {rs : List Row} (hn : (idsOf rs).Nodup) {r : Row} (hr : r ∈ rs) : rowOf rs r.1 = r := by
  obtain ⟨h1, h2⟩ := rowOf_mem (i := r.1) (List.mem_map.mpr ⟨r, hr, rfl⟩)
  exact nodup_row hn h1 hr h2
theorem map_rowOf {rs : List Row} (hn : (idsOf rs).Nodup) {t : List Int} (h : t.Perm (idsOf rs)) : (t.map (rowOf rs)).Perm rs := by
  refine (h.map (rowOf rs)).trans ?_
  rw [idsOf, List.map_map]
  have : rs.map (rowOf rs ∘ fun r => r.1) = rs := by
    conv => rhs; rw [← List.map_id rs]
    exact List.map_congr_left fun r hr => rowOf_of hn hr
  rw [this]

theorem errAsk_nodup {q : List Int} {rs : List Row} (h : errAsk q rs = 0) : (idsOf rs).Nodup := by
  obtain ⟨_, h2⟩ := errAsk_zero h
  unfold checkR at h2
  split at h2
  · omega
  · split at h2
    · omega
    · exact (rowsErr_nodup h2).2
theorem errTop_zero {q : List Int} {rs : List Row} {k : Int} (h : errTop q rs k = 0) : errAsk q rs = 0 ∧ 1 ≤ k ∧ k ≤ 64 := by
  unfold errTop at h
  split at h
  · omega
  · split at h
    · omega
    · exact ⟨by omega, by omega, by omega⟩
theorem errAsk_row {q : List Int} {rs : List Row} (h : errAsk q rs = 0) {r : Row} (hr : r ∈ rs) : r.2.length = q.length ∧ checkV r.2 r.2.length = 0 ∧ checkV q q.length = 0 := by
  obtain ⟨h1, h2⟩ := errAsk_zero h
  obtain ⟨_, _, _, h3⟩ := checkR_zero h2
  obtain ⟨_, h4⟩ := h3 r hr
  obtain ⟨_, _, h5, _⟩ := checkV_ok h4
  have h5 : r.2.length = q.length := by omega
  exact ⟨h5, by rw [h5]; exact h4, h1⟩

theorem farH_hitOf (q : List Int) (r : Row) : farH (hitOf q r) = distL r.2 q := by
  unfold farH wN hitOf
  simp only
  omega
theorem less_far {q : List Int} {r x : Row} (h : farH (hitOf q x) < farH (hitOf q r)) : lessH (hitOf q r) (hitOf q x) = false := by
  rw [farH_hitOf, farH_hitOf] at h
  unfold lessH
  refine decide_eq_false ?_
  simp only [hitOf]
  omega
theorem best_mem {k : Nat} {l : List Hit} {x : Hit} (h : x ∈ best k l) : x ∈ l := (sortH_perm l).mem_iff.mp (List.mem_of_mem_take h)

/-- What is farther than the last changes nothing. -/
theorem best_more {k : Nat} (hk : 1 ≤ k) : ∀ (m l : List Hit), (∀ x ∈ m, k ≤ (best k l).length ∧ lessH x ((best k l).getD (k - 1) default) = false) → best k (l ++ m) = best k l
  | [], l, _ => by rw [List.append_nil]
  | x :: m, l, h => by
    have e : best k (l ++ [x]) = best k l := by
      rw [best_snoc]
      obtain ⟨h1, h2⟩ := h x (by simp)
      refine keptH_not hk (by rw [best_length]; omega) (best_srt k l) ?_
      rw [List.getD_eq_getElem?_getD] at h2
      rw [keptH, h2, decide_eq_false (by omega)]; rfl
    have := best_more hk m (l ++ [x]) (fun y hy => by rw [e]; exact h y (by simp [hy]))
    rw [e, List.append_assoc] at this
    exact this

/-- THE STAGE'S THEOREM. -/
theorem cert_true {rs : List Row} {q : List Int} {k : Nat} {a : Ans} (he : errAsk q rs = 0) (hk : 1 ≤ k) (h : CertA rs q k a) : a.hits = best k (hitsOf q rs) := by
  obtain ⟨⟨h1, h2, h3, h4⟩, h5⟩ := h
  have hn := errAsk_nodup he
  have hp := map_rowOf hn h3
  have hp2 : (hitsOf q (a.seen.map (rowOf rs)) ++ hitsOf q ((restIds a.rest).map (rowOf rs))).Perm (hitsOf q rs) := by
    rw [← List.map_append, ← List.map_append]
    exact hp.map (hitOf q)
  rw [← best_congr hp2, best_more hk, ← h4]
  intro x hx
  obtain ⟨r, hr, rfl⟩ := List.mem_map.mp hx
  obtain ⟨i, hi, rfl⟩ := List.mem_map.mp hr
  unfold restIds at hi
  obtain ⟨l, hl, hil⟩ := List.mem_flatten.mp hi
  obtain ⟨g, hg, rfl⟩ := List.mem_map.mp hl
  obtain ⟨a1, n, a2, a3⟩ := h5 g hg
  obtain ⟨b1, b2, b3⟩ := h2 g hg
  have him : i ∈ idsOf rs := h3.mem_iff.mp (by unfold toldA; exact List.mem_append_right _ hi)
  obtain ⟨c1, c2⟩ := rowOf_mem him
  obtain ⟨d1, d2, d3⟩ := errAsk_row he c1
  have hnear := near_le (r := g) (v := (rowOf rs i).2) (q := q) (n := n) (by unfold errBoth; rw [d1, b2, if_neg (by simp), ← d1]; exact d2) (by unfold errBoth; rw [b2, if_neg (by simp)]; exact d3) d1.symm (b3 i hil) a2
  rw [← h4]
  refine ⟨a1, ?_⟩
  have hlt : k - 1 < a.hits.length := by omega
  have hmem : a.hits.getD (k - 1) default ∈ hitsOf q (a.seen.map (rowOf rs)) := by
    rw [List.getD_eq_getElem?_getD, List.getElem?_eq_getElem hlt, Option.getD_some]
    have := List.getElem_mem hlt
    have h6 : a.hits[k - 1] ∈ best k (hitsOf q (a.seen.map (rowOf rs))) := by rw [← h4]; exact this
    exact best_mem h6
  obtain ⟨y, hy, he2⟩ := List.mem_map.mp hmem
  rw [← he2] at a3 ⊢
  refine less_far ?_
  rw [farH_hitOf q (rowOf rs i)]
  omega

end Go.Th.Pure
end
