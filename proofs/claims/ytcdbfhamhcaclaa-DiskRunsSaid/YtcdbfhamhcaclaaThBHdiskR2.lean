/- What the row of one statement stands on: a store, abstract code, functions of the program and their laws (ThHdiskR2). -/
import Derived.Test.YtcdbfhamhcaclaaThBHdiskR
import Derived.Test.YtcdbfhamhcaclaaThBHlaw17a

section
/- Readings of scripts. -/
set_option linter.unusedVariables false
set_option linter.unusedSimpArgs false
namespace Go.Th.L
open Go Go.Th Go.Th.Pure

abbrev opFs : Fs := Fs.cons 1 (Sh.int IntKind.i64) (Fs.cons 1 Sh.str (Fs.cons 1 Sh.str (Fs.cons 1 u8S (Fs.cons 1 (Sh.int IntKind.i64) (Fs.cons 1 i64S Fs.nil)))))
abbrev opSh : Sh := Sh.agg opFs

theorem rdd_op {S : St} (hw : S.Wf) {cs : List V} (hl : cs.length = 6) (h : Has S opSh cs) : ∃ x : OpV, cs = opC x ∧ OpAt S (fun i => i < S.next) x := by
  match cs, hl with
  | [a, b, c, d, e, f], _ =>
    unfold Has at h
    simp only [HasF, List.take_succ_cons, List.take_zero, List.drop_succ_cons, List.drop_zero] at h
    obtain ⟨ha, hb, hc, hd, he, hf, _⟩ := h
    obtain ⟨k, e1, _⟩ := rdd_int ha
    obtain ⟨n1, e2⟩ := rdd_str hb
    obtain ⟨n2, e3⟩ := rdd_str hc
    obtain ⟨vb, bs, e4, hbs⟩ := rdd_bytes hd
    obtain ⟨n, e5, hn⟩ := rdd_int he
    obtain ⟨vc, is, e6, his, hb6⟩ := rdd_ints hf
    cases e1; cases e2; cases e3; cases e4; cases e5; cases e6
    refine ⟨⟨⟨k, n1, n2, bs, n, is⟩, d, f⟩, rfl, ⟨hbs, fun h0 i hi => ?_, his, fun h0 i hi => ?_, hn, hb6⟩⟩
    · exact SlAt.block_lt hw hbs (by have h1 : 0 < bs.length := List.length_pos_iff.mpr h0; omega) i hi
    · exact SlAt.block_lt hw his (by have h1 : 0 < is.length := List.length_pos_iff.mpr h0; omega) i hi

theorem rdd_ops {S : St} (hw : S.Wf) : ∀ (n : Nat) (es : List V), es.length = n * 6 → (∀ m, m < n → Has S opSh ((es.drop (m * 6)).take 6)) → ∃ l : List OpV, l.length = n ∧ es = (l.map opC).flatten ∧ ∀ x ∈ l, OpAt S (fun i => i < S.next) x
  | 0, es, hl, _ => ⟨[], rfl, List.length_eq_zero_iff.mp (by omega), by simp⟩
  | n + 1, es, hl, h => by
    obtain ⟨x, ex, hx⟩ := rdd_op hw (cs := es.take 6) (by rw [List.length_take]; omega) (by simpa using h 0 (by omega))
    obtain ⟨l, l1, l2, l3⟩ := rdd_ops hw n (es.drop 6) (by rw [List.length_drop]; omega) (fun m hm => by
      have := h (m + 1) (by omega)
      rw [List.drop_drop]
      rwa [show 6 + m * 6 = (m + 1) * 6 from by omega])
    refine ⟨x :: l, by simp [l1], ?_, fun y hy => ?_⟩
    · rw [List.map_cons, List.flatten_cons, ← ex, ← l2, List.take_append_drop]
    · rcases List.mem_cons.mp hy with rfl | hy
      · exact hx
      · exact l3 y hy

theorem rdd_script {S : St} (hw : S.Wf) {by_ : Nat} {cs : List V} (h : Has S (Sh.slice 6 by_ opSh) cs) : ∃ v l, cs = [v] ∧ ScrAt S (fun i => i < S.next) v l := by
  unfold Has at h
  obtain ⟨v, n, es, e, hs, _, he⟩ := h
  obtain ⟨l, l1, l2, l3⟩ := rdd_ops hw n es hs.2.1 he
  subst l2; subst l1
  have hsl : SlE S 6 v (l.map opC) := ⟨by rw [List.length_map]; exact hs, fun y hy => by
    obtain ⟨x, _, rfl⟩ := List.mem_map.1 hy
    rfl⟩
  refine ⟨v, l, e, hsl, fun h0 i hi => ?_, l3⟩
  exact SlAt.block_lt hw hs (by have := List.length_pos_iff.mpr h0; omega) i hi

end Go.Th.L
end
