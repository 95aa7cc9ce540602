/- What the row of one statement stands on: a store, abstract code, functions of the program and their laws (ThDiskAll3). -/
import Derived.Test.YtcdbfhamhcaclaaThBDiskAll2
import Derived.Test.YtcdbfhamhcaclaaThBHlaw17c

section
/- The seat's functions, each by its law: DiskSafe. -/
set_option linter.unusedVariables false
namespace Go.Th.Disk
open Go Go.Th Go.Th.L Go.Th.Pure

theorem rdd_more {S : St} (hw : S.Wf) : ∀ (n : Nat) (es : List V), es.length = n * 1 → (∀ m, m < n → Has S u8S ((es.drop (m * 1)).take 1)) → ∃ l : List (V × List UInt8), l.length = n ∧ es = (l.map fun p => [p.1]).flatten ∧ ∀ p ∈ l, BytesAt S p.1 p.2 ∧ (p.2 ≠ [] → ∀ i ∈ p.1.block, i < S.next)
  | 0, es, hl, _ => ⟨[], rfl, List.length_eq_zero_iff.mp (by omega), by simp⟩
  | n + 1, es, hl, h => by
    obtain ⟨v, b, e, hb⟩ := rdd_bytes (h 0 (by omega))
    simp only [Nat.zero_mul, List.drop_zero] at e
    obtain ⟨l, l1, l2, l3⟩ := rdd_more hw n (es.drop 1) (by rw [List.length_drop]; omega) (fun m hm => by
      have := h (m + 1) (by omega)
      rw [List.drop_drop]
      rwa [show 1 + m * 1 = (m + 1) * 1 from by omega])
    refine ⟨(v, b) :: l, by simp [l1], ?_, fun y hy => ?_⟩
    · rw [List.map_cons, List.flatten_cons, ← e, ← l2, List.take_append_drop]
    · rcases List.mem_cons.mp hy with rfl | hy
      · exact ⟨hb, fun h0 i hi => SlAt.block_lt hw hb (by have h1 : 0 < b.length := List.length_pos_iff.mpr h0; omega) i hi⟩
      · exact l3 y hy
theorem rdd_parts {S : St} (hw : S.Wf) {v : V} (h : Has S (Sh.slice 1 24 u8S) [v]) : ∃ l, MoreAt S (fun i => i < S.next) v l := by
  unfold Has at h
  obtain ⟨v', n, es, e, hs, _, he⟩ := h
  cases e
  obtain ⟨l, l1, l2, l3⟩ := rdd_more hw n es hs.2.1 he
  subst l2; subst l1
  refine ⟨l, ⟨by rw [List.length_map]; exact hs, fun y hy => by
    obtain ⟨x, _, rfl⟩ := List.mem_map.1 hy
    rfl⟩, fun h0 i hi => ?_, l3⟩
  exact SlAt.block_lt hw hs (by have h1 : 0 < l.length := List.length_pos_iff.mpr h0; omega) i hi

def law5_shapes : List Sh := [Sh.int IntKind.i64, scrS, Sh.str, Sh.slice 1 24 u8S, i64S, i64S]
theorem law5_spec (S : St) (av : List V) (hw : S.Wf) (h : HasAs S law5_shapes av) : CallA PP 5 av S (fun r _ => r = .ret (.bool true)) := by
  rw [← (show N Fn.law17_DiskSafe = 5 from by kernel_rfl)]
  simp only [law5_shapes, HasAs] at h
  obtain ⟨a1, _, rfl, h1, a2, _, rfl, h2, a3, _, rfl, h3, a4, _, rfl, h4, a5, _, rfl, h5, a6, _, rfl, h6, rfl⟩ := h
  obtain ⟨room, e, _⟩ := rdd_int (S := S) h1
  cases e
  obtain ⟨_, l, e, hs⟩ := rdd_script hw h2
  cases e
  obtain ⟨nm, e⟩ := rdd_str (S := S) h3
  cases e
  obtain ⟨ml, hm⟩ := rdd_parts hw h4
  obtain ⟨_, ch, e, hc, cb⟩ := rdd_ints h5
  cases e
  obtain ⟨_, ag, e, hg, gb⟩ := rdd_ints h6
  cases e
  refine (law17_DiskSafe.spec s_LF has_law17_DiskSafe hw hs hm hc (fun h0 i hi => SlAt.block_lt hw hc (by have h1 : 0 < ch.length := List.length_pos_iff.mpr h0; omega) i hi) cb hg (fun h0 i hi => SlAt.block_lt hw hg (by have h1 : 0 < ag.length := List.length_pos_iff.mpr h0; omega) i hi) gb (K := fun b _ => b = true) (fun _ => rfl)).mono fun r S' h => retT_true h

end Go.Th.Disk
end
