/- What the row of one statement stands on: a store, abstract code, functions of the program and their laws (ThHref17a). -/
import Derived.Test.YtilkmjbbdnnphaaGreatDoorThBHdisk14
import Derived.Test.YtilkmjbbdnnphaaGreatDoorThBGref17

section
/- The document's disk: its small functions. -/
set_option linter.unusedSimpArgs false
set_option linter.unusedVariables false
set_option maxHeartbeats 1000000
namespace Go.Th.L
open Go Go.Th Go.Th.Pure
variable {P : Program} {N : Nat → Nat}

def nmE (l : List (Nm × Nat)) : List (List V) := l.map fun p => [.str p.1, .int .i64 (p.2 : Nat)]
theorem nmE_len (l : List (Nm × Nat)) : (nmE l).length = l.length := by simp [nmE]
abbrev NsAt (S : St) (v : V) (l : List (Nm × Nat)) : Prop := SlE S 2 v (nmE l)
theorem nmE_get {l : List (Nm × Nat)} {j : Nat} (h : j < (nmE l).length) : (nmE l)[j] = [.str (l[j]'(by simpa [nmE] using h)).1, .int .i64 ((l[j]'(by simpa [nmE] using h)).2 : Nat)] := by simp [nmE]
section
variable {S : St} {v : V} {l : List (Nm × Nat)} (h : NsAt S v l) {j : Nat} (hj : j < l.length)
include h
theorem NsAt.length : lenV S 2 v = some (.int .i64 l.length) := by rw [SlE.len h, nmE_len]
include hj
theorem NsAt.ix : idxAddrV 2 v (.int .i64 (j : Int)) = some (eltV 2 v j 0) := SlE.idx h (by rw [nmE_len]; exact hj)
theorem NsAt.name : loadV S (eltV 2 v j 0) = some (.str l[j].1) := by
  rw [SlE.get h (by rw [nmE_len]; exact hj) (by omega), nmE_get]; rfl
theorem NsAt.file : loadV S (eltV 2 v j 1) = some (.int .i64 (l[j].2 : Nat)) := by
  rw [SlE.get h (by rw [nmE_len]; exact hj) (by omega), nmE_get]; rfl
theorem NsAt.both : loadNV S 2 (eltV 2 v j 0) = some (.agg [.str l[j].1, .int .i64 (l[j].2 : Nat)]) := by
  rw [SlE.getN h (by rw [nmE_len]; exact hj) (by omega), nmE_get]
end

theorem SlE.from {S : St} {k : Nat} {v : V} {es : List (List V)} (h : SlE S k v es) {m : Nat} (hm : m ≤ es.length) : ∃ v', sliceSlV k v (some (.int .i64 (m : Nat))) none none = some v' ∧ SlE S k v' (es.drop m) ∧ ∀ i ∈ v'.block, i ∈ v.block := by
  obtain ⟨v', e, a, b⟩ := SlAt.sub h.1 (lo := some (.int .i64 (m : Nat))) (hi := none) (l := m) (h := es.length) (c := 0) (fun cap hc => bnds_l (l := m) (by omega)) (by omega) (Nat.le_refl _)
  refine ⟨v', e, ⟨?_, fun x hx => h.2 x (List.mem_of_mem_drop hx)⟩, b⟩
  have hf := flatten_len h.2
  have e2 : (es.flatten.drop (m * k)).take ((es.length - m) * k) = (es.drop m).flatten := by
    have h1 := flatten_takeN h.2 m
    have h2 : es.flatten = (es.take m).flatten ++ (es.drop m).flatten := by rw [← List.flatten_append, List.take_append_drop]
    have h3 : (es.take m).flatten.length = m * k := by
      rw [flatten_len (fun x hx => h.2 x (List.mem_of_mem_take hx)), List.length_take]
      congr 1; omega
    have h4 : (es.drop m).flatten.length = (es.length - m) * k := by
      rw [flatten_len (fun x hx => h.2 x (List.mem_of_mem_drop hx)), List.length_drop]
    rw [h2, List.drop_append, List.drop_of_length_le (by omega), h3, Nat.sub_self, List.drop_zero, List.nil_append, List.take_of_length_le (by omega)]
  rw [e2] at a
  rw [List.length_drop]; exact a

end Go.Th.L
end
