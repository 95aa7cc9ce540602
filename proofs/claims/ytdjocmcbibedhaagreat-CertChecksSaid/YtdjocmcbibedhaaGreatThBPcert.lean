/- What the row of one statement stands on: a store, abstract code, functions of the program and their laws (ThPcert). -/
import Derived.Test.YtdjocmcbibedhaaGreatThBHcert1
import Derived.Test.YtdjocmcbibedhaaGreatThBPbox

section
/- Plain: sound answers, certain ones; whose hits are the first of all rows. -/
set_option linter.unusedSimpArgs false
set_option linter.unusedVariables false
namespace Go.Th.Pure
open Go Go.Th Go.Th.L

structure Ans where
  hits : List Hit
  seen : List Int
  rest : List Reg

abbrev idsOf (rs : List Row) : List Int := rs.map (·.1)
def rowOf (rs : List Row) (i : Int) : Row := (rs.find? fun r => decide (r.1 = i)).getD (0, [])
def UpTo (l : List Int) : Prop := ∀ i, 0 < i → i < l.length → l.getD (i - 1) 0 < l.getD i 0
def RegIn (rs : List Row) (q : List Int) (g : Reg) : Prop := g.ids ≠ [] ∧ errReg g q.length = 0 ∧ ∀ i ∈ g.ids, InReg g (rowOf rs i).2
def restIds (l : List Reg) : List Int := (l.map (·.ids)).flatten
def toldA (a : Ans) : List Int := a.seen ++ restIds a.rest
def SoundA (rs : List Row) (q : List Int) (k : Nat) (a : Ans) : Prop := UpTo a.seen ∧ (∀ g ∈ a.rest, RegIn rs q g) ∧ (toldA a).Perm (idsOf rs) ∧ a.hits = best k (hitsOf q (a.seen.map (rowOf rs)))
def farH (x : Hit) : Int := wN x.hi x.lo
def CertA (rs : List Row) (q : List Int) (k : Nat) (a : Ans) : Prop := SoundA rs q k a ∧ ∀ g ∈ a.rest, k ≤ a.hits.length ∧ ∃ n, IsNear g q n ∧ farH (a.hits.getD (k - 1) default) < n

theorem rowOf_mem {rs : List Row} {i : Int} (h : i ∈ idsOf rs) : rowOf rs i ∈ rs ∧ (rowOf rs i).1 = i := by
  obtain ⟨r, hr, rfl⟩ := List.mem_map.mp h
  unfold rowOf
  cases hf : rs.find? (fun x => decide (x.1 = r.1)) with
  | none => rw [List.find?_eq_none] at hf; have := hf r hr; simp at this
  | some x =>
    have h1 := List.find?_some hf
    exact ⟨List.mem_of_find?_eq_some hf, of_decide_eq_true h1⟩
theorem nodup_row : ∀ {rs : List Row}, (idsOf rs).Nodup → ∀ {r x : Row}, r ∈ rs → x ∈ rs → r.1 = x.1 → r = x
  | [], _, _, _, h, _, _ => by simp at h
  | a :: rs, hn, r, x, hr, hx, he => by
    rw [idsOf, List.map_cons, List.nodup_cons] at hn
    rcases List.mem_cons.mp hr with e1 | hr' <;> rcases List.mem_cons.mp hx with e2 | hx'
    · rw [e1, e2]
    · exact absurd (List.mem_map.mpr ⟨x, hx', by rw [← e1]; exact he.symm⟩) hn.1
    · exact absurd (List.mem_map.mpr ⟨r, hr', by rw [← e2]; exact he⟩) hn.1
    · exact nodup_row hn.2 hr' hx' he
theorem rowOf_of {rs : List Row} (hn : (idsOf rs).Nodup) {r : Row} (hr : r ∈ rs) : rowOf rs r.1 = r := by
  obtain ⟨h1, h2⟩ := rowOf_mem (i := r.1) (List.mem_map.mpr ⟨r, hr, rfl⟩)
  exact nodup_row hn h1 hr h2
theorem errAsk_nodup {q : List Int} {rs : List Row} (h : errAsk q rs = 0) : (idsOf rs).Nodup := by
  obtain ⟨_, h2⟩ := errAsk_zero h
  unfold checkR at h2
  split at h2
  · omega
  · split at h2
    · omega
    · exact (rowsErr_nodup h2).2
theorem errTop_zero {q : List Int} {rs : List Row} {k : Int} (h : errTop q rs k = 0) : errAsk q rs = 0 ∧ 1 ≤ k ∧ k ≤ 64 := by
  unfold errTop at h
  split at h
  · omega
  · split at h
    · omega
    · exact ⟨by omega, by omega, by omega⟩
theorem errAsk_row {q : List Int} {rs : List Row} (h : errAsk q rs = 0) {r : Row} (hr : r ∈ rs) : r.2.length = q.length ∧ checkV r.2 r.2.length = 0 ∧ checkV q q.length = 0 := by
  obtain ⟨h1, h2⟩ := errAsk_zero h
  obtain ⟨_, _, _, h3⟩ := checkR_zero h2
  obtain ⟨_, h4⟩ := h3 r hr
  obtain ⟨_, _, h5, _⟩ := checkV_ok h4
  have h5 : r.2.length = q.length := by omega
  exact ⟨h5, by rw [h5]; exact h4, h1⟩

theorem best_mem {k : Nat} {l : List Hit} {x : Hit} (h : x ∈ best k l) : x ∈ l := (sortH_perm l).mem_iff.mp (List.mem_of_mem_take h)

end Go.Th.Pure
end
