/- What the row of one statement stands on: a store, abstract code, functions of the program and their laws (ThQ9). -/
import Derived.Test.YtdpehfhhbmmhjaaThBTopkOrder30

section
/- Readings of arguments: rows. -/
set_option linter.unusedVariables false
set_option linter.unusedSimpArgs false
namespace Go.Th
open Go

def shRow : Sh := .agg (.cons 1 (.int .i64) (.cons 1 (.slice 1 8 (.int .i64)) .nil))

theorem has_row {S : St} {cs : List V} (h : Has S shRow cs) : ∃ (r : Row) (w : V), cs = rowC r w ∧ IntsAt S w r.2 ∧ (∀ x ∈ r.2, -9223372036854775808 ≤ x ∧ x ≤ 9223372036854775807) ∧ (-9223372036854775808 ≤ r.1 ∧ r.1 ≤ 9223372036854775807) ∧ r.2.length ≤ 17592186044416 := by
  simp only [shRow, Has, HasF] at h
  obtain ⟨⟨i, hi, hiw⟩, ⟨w, n, es, hw, hsl, hr, hes⟩, hd⟩ := h
  obtain ⟨l, hl, rfl, hlw⟩ := has_i64s (S := S) hsl.2.1 (fun m hm => by simp only [Has]; exact hes m hm)
  subst hl
  refine ⟨(i, l), w, ?_, hsl, hlw, lit_i64 hiw, ?_⟩
  · match cs with
    | [] => simp at hi
    | [a] => simp at hw
    | a :: b :: c :: r => simp at hd
    | [a, b] =>
      simp only [List.take_succ_cons, List.take_zero, List.drop_succ_cons, List.drop_zero, List.cons.injEq, and_true] at hi hw
      simp only [rowC, hi, hw]
  · simp only
    have : reachBytes = 140737488351232 := rfl
    omega

theorem has_rows {S : St} {v : V} {n : Nat} {es : List V} (hs : SlAt S 2 v n es) (hr : n * 32 ≤ reachBytes) (h : ∀ m, m < n → Has S shRow ((es.drop (m * 2)).take 2)) : ∃ rs : List Row, RowsAt S v rs ∧ rs.length ≤ 17592186044416 ∧
    (∀ r ∈ rs, r.2.length ≤ 17592186044416) ∧ (∀ r ∈ rs, (-9223372036854775808 ≤ r.1 ∧ r.1 ≤ 9223372036854775807) ∧ ∀ x ∈ r.2, -9223372036854775808 ≤ x ∧ x ≤ 9223372036854775807) := by
  have key : ∀ (n : Nat) (es : List V), es.length = n * 2 → (∀ m, m < n → Has S shRow ((es.drop (m * 2)).take 2)) → ∃ (rs : List Row) (ws : List V), ws.length = rs.length ∧ rs.length = n ∧ es = (rowsC rs ws).flatten ∧
      (∀ j (hr : j < rs.length) (hw : j < ws.length), IntsAt S ws[j] rs[j].2) ∧ (∀ r ∈ rs, r.2.length ≤ 17592186044416) ∧ (∀ r ∈ rs, (-9223372036854775808 ≤ r.1 ∧ r.1 ≤ 9223372036854775807) ∧ ∀ x ∈ r.2, -9223372036854775808 ≤ x ∧ x ≤ 9223372036854775807) := by
    intro n
    induction n with
    | zero => intro es hl _; exact ⟨[], [], rfl, rfl, by simp [rowsC, List.length_eq_zero_iff.mp (by omega : es.length = 0)], fun j h => by simp at h, by simp, by simp⟩
    | succ n ih =>
      intro es hl h
      obtain ⟨rs, ws, h1, h2, h3, h4, h5, h6⟩ := ih (es.drop 2) (by rw [List.length_drop]; omega) fun m hm => by
        have := h (m + 1) (by omega)
        rw [List.drop_drop]
        rwa [show 2 + m * 2 = (m + 1) * 2 by omega]
      have h0 := h 0 (by omega)
      rw [Nat.zero_mul, List.drop_zero] at h0
      obtain ⟨r, w, hr, hw, hx, hi, hl'⟩ := has_row h0
      refine ⟨r :: rs, w :: ws, by simp [h1], by simp [h2], ?_, ?_, ?_, ?_⟩
      · simp only [rowsC, List.flatten_cons, ← h3, ← hr, List.take_append_drop]
      · intro j q1 q2
        cases j with
        | zero => exact hw
        | succ j => exact h4 j (by simpa using q1) (by simpa using q2)
      · intro q hq
        rcases List.mem_cons.mp hq with rfl | hq
        · exact hl'
        · exact h5 q hq
      · intro q hq
        rcases List.mem_cons.mp hq with rfl | hq
        · exact ⟨hi, hx⟩
        · exact h6 q hq
  obtain ⟨rs, ws, h1, h2, h3, h4, h5, h6⟩ := key n es hs.2.1 h
  subst h2; subst h3
  have hre : reachBytes = 140737488351232 := rfl
  refine ⟨rs, ⟨ws, h1, ⟨by rw [rowsC_length h1]; exact hs, rowsC_two⟩, h4⟩, by omega, h5, h6⟩

theorem retT_true {r : Res} {S : St} (h : retT [.one .bool] (fun b _ => b = true) r S) : r = .ret (.bool true) := by
  obtain ⟨b, h1, rfl⟩ := h
  exact h1

end Go.Th
end
