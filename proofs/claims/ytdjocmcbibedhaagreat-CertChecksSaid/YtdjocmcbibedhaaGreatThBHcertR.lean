/- What the row of one statement stands on: a store, abstract code, functions of the program and their laws (ThHcertR). -/
import Derived.Test.YtdjocmcbibedhaaGreatThBHcert11
import Derived.Test.YtdjocmcbibedhaaGreatThBQ10

section
/- Readings: answers, rows, vectors. -/
set_option linter.unusedVariables false
set_option linter.unusedSimpArgs false
namespace Go.Th.L
open Go Go.Th Go.Th.Pure

abbrev intsS : Sh := Sh.slice 1 8 (Sh.int IntKind.i64)
abbrev hitS : Sh := Sh.agg (Fs.cons 1 (Sh.int IntKind.i64) (Fs.cons 2 (Sh.agg (Fs.cons 1 (Sh.int IntKind.u64) (Fs.cons 1 (Sh.int IntKind.u64) Fs.nil))) Fs.nil))
abbrev regS : Sh := Sh.agg (Fs.cons 1 (Sh.int IntKind.i64) (Fs.cons 1 intsS (Fs.cons 1 intsS (Fs.cons 2 (Sh.agg (Fs.cons 1 (Sh.int IntKind.u64) (Fs.cons 1 (Sh.int IntKind.u64) Fs.nil))) (Fs.cons 1 intsS Fs.nil)))))
abbrev ansS : Sh := Sh.agg (Fs.cons 1 (Sh.slice 3 24 hitS) (Fs.cons 1 intsS (Fs.cons 1 (Sh.slice 6 96 regS) Fs.nil)))
abbrev rowsS : Sh := Sh.slice 2 32 shRow

theorem reach_eq : reachBytes = 140737488351232 := rfl

theorem rd_ints {S : St} {cs : List V} (h : Has S intsS cs) : ∃ (v : V) (l : List Int), cs = [v] ∧ IntsAt S v l ∧ l.length ≤ 17592186044416 ∧ ∀ x ∈ l, -9223372036854775808 ≤ x ∧ x ≤ 9223372036854775807 := by
  simp only [intsS, Has] at h
  obtain ⟨v, n, es, rfl, hs, hr, he⟩ := h
  obtain ⟨l, hl, rfl, hx⟩ := has_i64s (S := S) hs.2.1 (fun m hm => by simpa only [Has] using he m hm)
  refine ⟨v, l, rfl, hs.ints, ?_, hx⟩
  have := reach_eq
  omega

theorem rd_hit {S : St} {cs : List V} (h : Has S hitS cs) : ∃ a : Hit, cs = hcells a := by
  simp only [hitS, HasF, Has] at h
  obtain ⟨⟨i, hi, _⟩, ⟨⟨a, ha, _⟩, ⟨b, hb, _⟩, h4⟩, h5⟩ := h
  match cs with
  | [] => simp at hi
  | [x] => simp at ha
  | [x, y] => simp at hb
  | x :: y :: z :: w :: r => simp at h5
  | [x, y, z] =>
    simp at hi ha hb
    exact ⟨⟨i, a, b⟩, by rw [hi, ha, hb]⟩
theorem rd_hitsE {S : St} : ∀ {n : Nat} {es : List V} (hl : es.length = n * 3) (h : ∀ m, m < n → Has S hitS ((es.drop (m * 3)).take 3)), ∃ l : List Hit, l.length = n ∧ es = (hitsE l).flatten
  | 0, es, hl, _ => ⟨[], rfl, List.length_eq_zero_iff.mp (by omega)⟩
  | n + 1, es, hl, h => by
    obtain ⟨l, h1, h2⟩ := rd_hitsE (S := S) (n := n) (es := es.drop 3) (by rw [List.length_drop]; omega) fun m hm => by
      have := h (m + 1) (by omega)
      rw [List.drop_drop]
      rwa [show 3 + m * 3 = (m + 1) * 3 by omega]
    obtain ⟨a, ha⟩ := rd_hit (h 0 (by omega))
    rw [Nat.zero_mul, List.drop_zero] at ha
    refine ⟨a :: l, by simp [h1], ?_⟩
    rw [← List.take_append_drop 3 es, ha, h2]
    rfl
theorem rd_hits {S : St} {cs : List V} (h : Has S (Sh.slice 3 24 hitS) cs) : ∃ (v : V) (l : List Hit), cs = [v] ∧ HitsAt S v l ∧ l.length ≤ 17592186044416 := by
  simp only [Has] at h
  obtain ⟨v, n, es, rfl, hs, hr, he⟩ := h
  obtain ⟨l, h1, rfl⟩ := rd_hitsE (S := S) hs.2.1 (fun m hm => by simpa only [Has] using he m hm)
  have := reach_eq
  exact ⟨v, l, rfl, HitsAt.mk (by rw [h1]; exact hs), by omega⟩

theorem rd_reg {S : St} {cs : List V} (h : Has S regS cs) : ∃ (r : Reg) (p : RP), cs = p.cells r.shape ∧ RegAt S p.a p.b p.c p.h p.l r ∧ r.lo.length ≤ 17592186044416 ∧ r.hi.length ≤ 17592186044416 ∧ r.ids.length ≤ 17592186044416 := by
  simp only [regS, Has, HasF] at h
  obtain ⟨⟨s, e1, _⟩, h2, h3, ⟨⟨hh, e4, w4⟩, ⟨ll, e4', w4'⟩, e4''⟩, h5, h6⟩ := h
  obtain ⟨v2, l2, e2, r2, b2, _⟩ := rd_ints (S := S) (by simpa only [intsS, Has] using h2)
  obtain ⟨v3, l3, e3, r3, b3, _⟩ := rd_ints (S := S) (by simpa only [intsS, Has] using h3)
  obtain ⟨v5, l5, e5, r5, b5, _⟩ := rd_ints (S := S) (by simpa only [intsS, Has] using h5)
  have : cs = regC s v2 v3 hh ll v5 := by
    match cs with
    | [] => simp at e1
    | [_] => simp at e2
    | [_, _] => simp at e3
    | [_, _, _] => simp at e4
    | [_, _, _, _] => simp at e4'
    | [_, _, _, _, _] => simp at e5
    | _ :: _ :: _ :: _ :: _ :: _ :: _ :: _ => simp at h6
    | [c1, c2, c3, c4, c5, c6] =>
      simp at e1 e2 e3 e4 e4' e5
      subst e1 e2 e3 e4 e4' e5; rfl
  subst this
  have c1 := lit_u64 w4
  have c2 := lit_u64 w4'
  have hwk : Wok hh ll := ⟨by omega, by omega, by omega, by omega⟩
  exact ⟨⟨s, l2, l3, wN hh ll, l5⟩, ⟨v2, v3, v5, hh, ll⟩, rfl, ⟨r2, r3, r5, hwk, rfl⟩, b2, b3, b5⟩
theorem rd_regsE {S : St} : ∀ {n : Nat} {es : List V} (hl : es.length = n * 6) (h : ∀ m, m < n → Has S regS ((es.drop (m * 6)).take 6)), ∃ (gs : List Reg) (ps : List RP), gs.length = n ∧ ps.length = gs.length ∧ es = (regsC gs ps).flatten ∧
    (∀ j (hr : j < gs.length) (hw : j < ps.length), RegAt S ps[j].a ps[j].b ps[j].c ps[j].h ps[j].l gs[j]) ∧ ∀ g ∈ gs, g.lo.length ≤ 17592186044416 ∧ g.hi.length ≤ 17592186044416 ∧ g.ids.length ≤ 17592186044416
  | 0, es, hl, _ => ⟨[], [], rfl, rfl, List.length_eq_zero_iff.mp (by omega), fun j h => by simp at h, by simp⟩
  | n + 1, es, hl, h => by
    obtain ⟨gs, ps, h1, h2, h3, h4, h5⟩ := rd_regsE (S := S) (n := n) (es := es.drop 6) (by rw [List.length_drop]; omega) fun m hm => by
      have := h (m + 1) (by omega)
      rw [List.drop_drop]
      rwa [show 6 + m * 6 = (m + 1) * 6 by omega]
    obtain ⟨r, p, ha, hb, hc⟩ := rd_reg (h 0 (by omega))
    rw [Nat.zero_mul, List.drop_zero] at ha
    refine ⟨r :: gs, p :: ps, by simp [h1], by simp [h2], ?_, ?_, ?_⟩
    · rw [← List.take_append_drop 6 es, ha, h3]
      rfl
    · intro j hj hw
      cases j with
      | zero => exact hb
      | succ j => exact h4 j (by simpa using hj) (by simpa using hw)
    · intro g hg
      rcases List.mem_cons.mp hg with rfl | hg
      · exact hc
      · exact h5 g hg

theorem rd_ans {S : St} {x : V} (h : HasA S ansS x) : ∃ (y : Ans) (a b c : V), x = ansV a b c ∧ AnsAt S a b c y ∧ SizedA y := by
  simp only [ansS, HasA, HasF] at h
  obtain ⟨cs, rfl, h1, h2, h3, h4⟩ := h
  obtain ⟨a, l1, e1, r1, b1⟩ := rd_hits h1
  obtain ⟨b, l2, e2, r2, b2, _⟩ := rd_ints h2
  simp only [Has] at h3
  obtain ⟨c, n, es, e3, hs, hr, he⟩ := h3
  obtain ⟨gs, ps, g1, g2, rfl, g4, g5⟩ := rd_regsE (S := S) hs.2.1 (fun m hm => by simpa only [Has] using he m hm)
  have hcs : cs = [a, b, c] := by
    match cs with
    | [] => simp at e1
    | [_] => simp at e2
    | [_, _] => simp at e3
    | _ :: _ :: _ :: _ :: _ => simp at h4
    | [c1, c2, c3] =>
      simp at e1 e2 e3
      subst e1 e2 e3; rfl
  subst hcs
  have := reach_eq
  exact ⟨⟨l1, l2, gs⟩, a, b, c, rfl, ⟨r1, r2, ps, g2, ⟨by rw [regsC_length g2, g1]; exact hs, regsC_six⟩, g4⟩, ⟨b1, b2, by simp only; omega, g5⟩⟩

theorem rd_rows {S : St} {x : V} (h : HasA S rowsS x) : ∃ rs : List Row, RowsAt S x rs ∧ rs.length ≤ 17592186044416 ∧ (∀ r ∈ rs, r.2.length ≤ 17592186044416) := by
  simp only [rowsS, HasA, Has] at h
  obtain ⟨v, n, es, hv, hs, hr, he⟩ := h
  cases hv
  obtain ⟨rs, h1, h2, h3, _⟩ := has_rows hs hr he
  exact ⟨rs, h1, h2, h3⟩
theorem rd_vec {S : St} {x : V} (h : HasA S intsS x) : ∃ l : List Int, IntsAt S x l ∧ l.length ≤ 17592186044416 := by
  obtain ⟨v, l, e, h1, h2, _⟩ := rd_ints (S := S) (cs := [x]) (by simpa only [intsS, HasA] using h)
  cases e
  exact ⟨l, h1, h2⟩
theorem rd_int {S : St} {x : V} (h : HasA S (Sh.int .i64) x) : ∃ n : Int, x = .int .i64 n ∧ -9223372036854775808 ≤ n ∧ n ≤ 9223372036854775807 := by
  simp only [HasA, Has] at h
  obtain ⟨n, e, hw⟩ := h
  cases e
  exact ⟨n, rfl, lit_i64 hw⟩

theorem rd_given {S : St} {v u y : V} (hv : HasA S rowsS v) (hu : HasA S intsS u) (hy : HasA S ansS y) : ∃ (rs : List Row) (q : List Int) (x : Ans) (a b c : V), y = ansV a b c ∧ Given13 S v u a b c rs q x := by
  obtain ⟨rs, h1, h2, h3⟩ := rd_rows hv
  obtain ⟨q, h4, h5⟩ := rd_vec hu
  obtain ⟨x, a, b, c, rfl, h6, h7⟩ := rd_ans hy
  exact ⟨rs, q, x, a, b, c, rfl, ⟨h1, h2, h3, h4, h5, h6, h7⟩⟩

end Go.Th.L
end
