/- What the row of one statement stands on: a store, abstract code, functions of the program and their laws (ThHjson17, ThHjson18, ThHref20a, ThHref20b, ThHref20c, ThHref20d, ThHref20e, ThHref20f, ThHref20g, ThHref20h, ThHref20i, ThHjson19, ThHjson20, ThHjson21, ThHjson22, ThHlaw20a). -/
import Derived.Test.YtconjbbmdjaehaaGreatDoorThBHcut
import Derived.Test.YtconjbbmdjaehaaGreatDoorThBGstringsLen
import Derived.Test.YtconjbbmdjaehaaGreatDoorThBQ12
import Derived.Test.YtconjbbmdjaehaaGreatDoorThBPjson7

section
/- json: what a value must be. -/
set_option linter.unusedSimpArgs false
set_option linter.unusedVariables false
set_option maxHeartbeats 1000000
namespace Go.Th.L
open Go Go.Th Go.Th.Pure
variable {P : Program} {N : Nat → Nat}

structure CheckF (P : Program) (N : Nat → Nat) : Prop where
  check : json_Check.Ok P N
  all : json_all.Ok P N
  all1 : json_all_1.Ok P N
  cont : slices_ContainsFunc_Lapi_Value.Ok P N
  index : slices_IndexFunc_Lapi_Value.Ok P N
  formed : json_formed.Ok P N
  deep : json_deep.Ok P N
  c1 : json_Check_1.Ok P N
  c2 : json_Check_2.Ok P N
  c3 : json_Check_3.Ok P N
  canall : canEnter P (N Fn.json_all_1) = true
  canf : canEnter P (N Fn.json_formed) = true
  can1 : canEnter P (N Fn.json_Check_1) = true
  can2 : canEnter P (N Fn.json_Check_2) = true
  can3 : canEnter P (N Fn.json_Check_3) = true

theorem json_all.asks (hF : CheckF P N) {f : FuncId} {q : JV → Bool} (hf : ∀ n, AsksJ P f q n) (hcan : canEnter P f = true) (n : Nat) : ∀ {S : St} {v : JV} {lv nv : V} {K : Bool → St → Prop}, S.Wf → RV S S.next v lv nv → SizeOf.sizeOf v < n → (∀ S', Grow S S' → K (allJ q v) S') →
    CallA P (N Fn.json_all) [.agg (vcells v lv nv), .func (.func f) [] []] S (retT [.one .bool] K) := by
  induction n with
  | zero =>
    intro S v lv nv K _ _ h
    exact absurd h (Nat.not_lt_zero _)
  | succ n ih =>
    intro S v lv nv K hw hv hn hk
    refine json_all.run hF.all (newS_mk hw fun S1 g1 m1 n1 => newS_mk g1.wf fun S2 g2 m2 n2 => ?_)
    rw [allJ_eq] at hk
    obtain ⟨es, hv⟩ := hv.at_
    have g02 := g1.trans g2
    have v2 := hv.grow g02 g02.le
    refine ifS_mk (a := .func (.func f) [] []) (ld m2 rfl) ⟨_, _, _, _, _, ld5 (g2.get m1), ifS_mk (callee_mk hcan) (hf _ g2.wf v2.rv (Nat.lt_succ_self _) fun S3 g3 => ?_)⟩
    have g03 := g02.trans g3
    have v3 := v2.grow g3 g3.le
    refine ifC_tt_ff (fun hq => ?_) fun hq => by rw [hq] at hk; exact hk S3 g03
    rw [hq] at hk
    refine ifS_mk (ld (g3.get (g2.get m1)) rfl) (slices_ContainsFunc_Lapi_Value.run hF.cont (slices_IndexFunc_Lapi_Value.run hF.index ⟨_, v3.len, ?_⟩))
    refine Loop1.ind (fun m x S' => ∃ j : Nat, x = j ∧ j ≤ v.list.length ∧ m = v.list.length - j ∧ Grow S3 S' ∧ (v.list.take j).all (allJ q) = true) v.list.length ⟨0, rfl, Nat.zero_le _, rfl, Upd.refl g3.wf _, rfl⟩ ?_
    rintro m _ S4 ⟨j, rfl, hj, rfl, g4, ha⟩
    have v4 := v3.grow g4 g4.le
    refine ifC_dec (fun hx => ?_) fun hx => ?_
    · have hj : j < v.list.length := by omega
      obtain ⟨lw, nw, e, r⟩ := v4.elt hj
      refine ifS_mk (v4.idx hj) ⟨_, _, _, _, _, e, ifS_mk (callee_mk hF.canall) (json_all_1.run hF.all1 (newS_mk g4.wf fun S5 g5 m5 n5 => ⟨_, _, _, _, _, ld5 m5, ?_⟩))⟩
      refine ifS_mk (a := .func (.func f) [] []) (ld (g5.get (g4.get (g3.get m2))) rfl) (ih g5.wf (r.grow g5 g5.le) (by have := JV.list_lt (List.getElem_mem hj); omega) fun S6 g6 => ?_)
      have g46 := g4.trans (g5.trans g6)
      cases hq2 : allJ q v.list[j] with
      | false =>
        have := hk S6 (g03.trans g46)
        rw [all_false hj hq2] at this
        refine ifC_tt rfl ?_
        have h0 : decide ((0 : Int) ≤ ((j : Nat) : Int)) = true := by simp
        show K (!decide ((0 : Int) ≤ ((j : Nat) : Int))) S6
        rw [h0]
        exact this
      | true => exact ifC_ff rfl (setI_mk (n := ((j + 1 : Nat) : Int)) (wrap_next hj hv.le) ⟨v.list.length - (j + 1), by omega, j + 1, rfl, hj, rfl, g46, all_take hj ha hq2⟩)
    · have hj : j = v.list.length := by omega
      subst hj
      rw [List.take_length] at ha
      have := hk S4 (g03.trans g4)
      rw [ha] at this
      exact this

theorem json_formed.asks1 (hF : json_formed.Ok P N) (n : Nat) : AsksJ P (N Fn.json_formed) form1 n := by
  intro S v lv nv K hw hv hn hk
  refine json_formed.run hF (newS_mk hw fun S1 g1 m1 n1 => ⟨_, _, _, _, _, ld5 m1, newS_mk g1.wf fun S2 g2 m2 n2 => ?_⟩)
  obtain ⟨es, hv⟩ := hv.at_
  have o1 := hv.ones
  have lc : ∀ {k m : Nat} {x : V} {cs : List V}, SlAt S k x m cs → x.cells = [x] := fun h => h.cells1
  refine st_mk g2.wf m2 (by simp [V.cells]) (by simp [V.cells]) (by simp only [V.cells, List.all_cons, List.all_nil, o1.1, o1.2]; rfl) fun S3 u3 m3 n3 => ?_
  have g03 : Grow S S3 := (g1.trans g2).after u3 fun j hj => .inl (by rw [List.mem_singleton.mp hj]; have := g1.le; omega)
  have hne : S.next ≠ S1.next := by omega
  have c3 : S3.get S.next = some (.cells (vcells v lv nv) true) := u3.get (g2.get m1) (by simp; omega)
  have m3 : S3.get S1.next = some (.cells (vcells v lv nv) true) := m3
  have v3 := hv.grow g03 g03.le
  have tail : ∀ {S4 : St} {m0 : Int} {t0 : Bs8} {l0 n0 : V} {ll nn : Nat}, Grow S S4 → S4.get S1.next = some (.cells [.int .i64 v.sort, .int .i64 m0, .str t0, l0, n0] true) → lenV S4 2 l0 = some (.int .i64 (ll : Nat)) → lenV S4 2 n0 = some (.int .i64 (nn : Nat)) →
      K (decide (m0 = 0) && decide (t0 = []) && decide (ll = 0) && decide (nn = 0)) S4 → ∃ x32 : Int, loadV S4 (V.ptr S1.next 1) = some (V.int .i64 x32) ∧
   ifC (decide (x32 = (0 : Int)))
   (∃ x36 : List UInt8, loadV S4 (V.ptr S1.next 2) = some (V.str x36) ∧
   ifC (decide (x36 = ([] : List UInt8)))
   (ifS (loadV S4 (V.ptr S1.next 3)) fun x41 =>
   ∃ x42 : Int, lenV S4 2 x41 = some (V.int .i64 x42) ∧
   ifC (decide (x42 = (0 : Int)))
   (ifS (loadV S4 (V.ptr S1.next 4)) fun x47 =>
   ∃ x48 : Int, lenV S4 2 x47 = some (V.int .i64 x48) ∧
   K (decide (x48 = (0 : Int))) S4)
   (K false S4))
   (K false S4))
   (K false S4) := by
    intro S4 m0 t0 l0 n0 ll nn g4 c4 e1 e2 hk
    refine ⟨m0, ld c4 rfl, ifC_dec (fun hx => ⟨t0, ld c4 rfl, ifC_dec (fun hy => ifS_mk (ld c4 rfl) ⟨_, e1, ifC_dec (fun hz => ifS_mk (ld c4 rfl) ⟨_, e2, ?_⟩) fun hz => ?_⟩) fun hy => ?_⟩) fun hx => ?_⟩
    · have hz' : ll = 0 := by omega
      rw [hx, hy, hz'] at hk
      have : decide (((nn : Nat) : Int) = 0) = decide (nn = 0) := by rw [decide_eq_decide]; omega
      rw [this]
      simpa using hk
    · have hz' : ll ≠ 0 := by omega
      simpa [hz'] using hk
    · simpa [hy] using hk
    · simpa [hx] using hk
  have nil0 : ∀ {S4 : St}, lenV S4 2 V.nilSlice = some (.int .i64 ((0 : Nat) : Int)) := rfl
  have up : ∀ {S4 : St}, Upd [S1.next] S3 S4 → Grow S S4 := fun u => g03.after u fun j hj => .inl (by rw [List.mem_singleton.mp hj]; have := g1.le; omega)
  refine Join0.mid (fun S' => ∃ m0 t0 l0 n0, ∃ ll nn : Nat, Grow S S' ∧ S'.get S1.next = some (.cells [.int .i64 v.sort, .int .i64 m0, .str t0, l0, n0] true) ∧ lenV S' 2 l0 = some (.int .i64 (ll : Nat)) ∧ lenV S' 2 n0 = some (.int .i64 (nn : Nat)) ∧ form1 v = (decide (m0 = 0) && decide (t0 = []) && decide (ll = 0) && decide (nn = 0))) ?_ ?_
  · refine ⟨v.sort, ld c3 rfl, Join1.mid (fun b S' => S3 = S' ∧ b = decide (v.sort = 1 ∨ v.sort = 2 ∨ v.sort = 3)) ?_ ?_⟩
    · refine ifC_dec (fun hx => ⟨rfl, by simp [hx]⟩) fun hx => ifC_dec (fun hy => ⟨rfl, by simp [hy]⟩) fun hy => ⟨rfl, by simp [hx, hy]⟩
    rintro _ _ ⟨rfl, rfl⟩
    have fin : ∀ {m0 : Int} {t0 : Bs8} {ll nn : Nat}, ((1 ≤ v.sort ∧ v.sort ≤ 7 ∧ (v.sort = 4 ∨ v.num = 0) ∧ (v.sort = 5 ∨ v.text = []) ∧ (v.sort = 6 ∨ v.sort = 7 ∨ v.list.length = 0) ∧ (v.sort = 7 → v.names.length = v.list.length) ∧ (v.sort ≠ 7 → v.names.length = 0)) ↔ (m0 = 0 ∧ t0 = [] ∧ ll = 0 ∧ nn = 0)) → form1 v = (decide (m0 = 0) && decide (t0 = []) && decide (ll = 0) && decide (nn = 0)) := by
      intro m0 t0 ll nn h
      rw [Bool.eq_iff_iff, form1_iff, h]
      simp [and_assoc]
    refine ifC_dec (fun hx => ?_) fun hx => ?_
    · refine ⟨v.num, v.text, lv, nv, _, _, g03, m3, v3.len, v3.nlen, fin ?_⟩
      have e5 : v.sort ≠ 5 := by omega
      have e7 : v.sort ≠ 7 := by omega
      have e6 : v.sort ≠ 6 := by omega
      have e4 : v.sort ≠ 4 := by omega
      simp only [e5, e7, e6, e4, false_or, false_imp_iff, true_imp_iff, true_and, ne_eq, not_false_eq_true]
      constructor
      · rintro ⟨_, _, h⟩; exact h
      · intro h; exact ⟨by omega, by omega, h⟩
    refine ifC_dec (fun h4 => ?_) fun h4 => ?_
    · refine st_mk g03.wf m3 (by rfl) (by simp [V.cells, vcells]) (by rfl) fun S6 u6 m6 n6 => ?_
      have g6 := up u6
      have v6 := hv.grow g6 g6.le
      refine ⟨0, v.text, lv, nv, _, _, g6, m6, v6.len, v6.nlen, fin ?_⟩
      simp [h4]
    refine ifC_dec (fun h5 => ?_) fun h5 => ?_
    · refine st_mk g03.wf m3 (by rfl) (by simp [V.cells, vcells]) (by rfl) fun S6 u6 m6 n6 => ?_
      have g6 := up u6
      have v6 := hv.grow g6 g6.le
      refine ⟨v.num, [], lv, nv, _, _, g6, m6, v6.len, v6.nlen, fin ?_⟩
      simp [h5]
    refine ifC_dec (fun h6 => ?_) fun h6 => ?_
    · refine st_mk g03.wf m3 (by rfl) (by simp [V.cells, vcells]) (by rfl) fun S6 u6 m6 n6 => ?_
      have g6 := up u6
      have v6 := hv.grow g6 g6.le
      refine ⟨v.num, v.text, .nilSlice, nv, 0, _, g6, m6, nil0, v6.nlen, fin ?_⟩
      simp [h6]
    refine ifC_dec (fun h7 => ?_) fun h7 => ?_
    · refine ifS_mk (ld c3 rfl) ⟨_, v3.nlen, ifS_mk (ld c3 rfl) ⟨_, v3.len, ifC_ndec (fun hne => ?_) fun heq => ?_⟩⟩
      · have := hk S3 g03
        have hf : form1 v = false := by rw [← Bool.not_eq_true, form1_iff]; intro h; have := h.2.2.2.2.2.1 h7; omega
        rw [hf] at this
        exact this
      · refine st_mk g03.wf m3 (by rfl) (by simp [V.cells, vcells]) (by rfl) fun S6 u6 m6 n6 => st_mk u6.wf m6 (by rfl) (by simp [V.cells, vcells, over]) (by rfl) fun S8 u8 m8 n8 => ?_
        have g8 := up (u6.trans u8)
        refine ⟨v.num, v.text, .nilSlice, .nilSlice, 0, 0, g8, m8, nil0, nil0, fin ?_⟩
        have : v.names.length = v.list.length := by omega
        simp [h7, this]
    · have := hk S3 g03
      have hf : form1 v = false := by rw [← Bool.not_eq_true, form1_iff]; intro h; omega
      rw [hf] at this
      exact this
  · rintro S4 ⟨m0, t0, l0, n0, ll, nn, g4, c4, e1, e2, hf⟩
    refine tail g4 c4 e1 e2 ?_
    rw [← hf]
    exact hk S4 g4

theorem json_deep.deeps (hF : json_deep.Ok P N) (n : Nat) : DeepsJ P (N Fn.json_deep) n := by
  induction n with
  | zero =>
    intro S v lv nv K _ _ h
    exact absurd h (Nat.not_lt_zero _)
  | succ n ih =>
    intro S v lv nv K hw hv hn hd hk
    refine json_deep.run hF (newS_mk hw fun S1 g1 m1 n1 => ?_)
    obtain ⟨es, hv⟩ := hv.at_
    have v1 := hv.grow g1 g1.le
    rw [deepJ_eq] at hk hd
    refine Join0.mid (fun S' => S1 = S' ∧ (v.sort = 6 ∨ v.sort = 7)) ?_ ?_
    · refine ⟨v.sort, ld m1 rfl, ifC_ndec (fun hx => ⟨v.sort, ld m1 rfl, ifC_ndec (fun hy => ?_) fun hy => ⟨rfl, .inr hy⟩⟩) fun hx => ⟨rfl, .inl hx⟩⟩
      rw [if_neg (by omega)] at hk
      exact hk S1 g1
    rintro _ ⟨rfl, hs⟩
    rw [if_pos hs] at hk hd
    refine ifS_mk (ld m1 rfl) ⟨_, v1.len, ?_⟩
    refine Loop2.ind (fun m y x S' => ∃ j : Nat, x = j ∧ j ≤ v.list.length ∧ m = v.list.length - j ∧ Grow S1 S' ∧ y = (deepsJ (v.list.take j) : Nat)) v.list.length ⟨0, rfl, Nat.zero_le _, rfl, Upd.refl g1.wf _, by rw [List.take_zero, deepsJ]; rfl⟩ ?_
    rintro m _ _ S3 ⟨j, rfl, hj, rfl, g, rfl⟩
    have h3 := v1.grow g g.le
    refine ifC_dec (fun hx => ?_) fun hx => ?_
    · have hj : j < v.list.length := by omega
      obtain ⟨lw, nw, e, r⟩ := h3.elt hj
      have hm := List.getElem_mem hj
      obtain ⟨es2, r2⟩ := r.at_
      refine ifS_mk (h3.idx hj) ⟨_, _, _, _, _, e, newS_mk g.wf fun S4 g4 m4 n4 => st_mk g4.wf m4 (by simp [V.cells]) (by simp [V.cells]) (by simp only [V.cells, List.all_cons, List.all_nil, r2.ones.1, r2.ones.2]; rfl) fun S5 u5 m5 n5 => ?_⟩
      have g35 : Grow S3 S5 := g4.after u5 fun j hj => .inl (by rw [List.mem_singleton.mp hj]; exact Nat.le_refl _)
      refine ⟨_, _, _, _, _, ld5 (v := v.list[j]) m5, ih g35.wf (r.grow g35 (by have := g1.le; have := g.le; have := g35.le; omega)) (by have := JV.list_lt hm; omega) (by have := deepsJ_le hm; omega) fun S6 g6 => ?_⟩
      exact setI_mk (n := ((j + 1 : Nat) : Int)) (wrap_next hj hv.le) ⟨v.list.length - (j + 1), by omega, j + 1, rfl, hj, rfl, g.trans (g35.trans g6), by rw [goMax_nat, deepsJ_take hj]⟩
    · have hj : j = v.list.length := by omega
      subst hj
      rw [List.take_length]
      exact setI_mk (n := ((deepsJ v.list + 1 : Nat) : Int)) (wrap_nat (by omega)) (hk S3 (g1.trans g))

end Go.Th.L
end

section
/- json: what a value must be, all together. -/
set_option linter.unusedSimpArgs false
set_option linter.unusedVariables false
set_option maxHeartbeats 1000000
namespace Go.Th.L
open Go Go.Th Go.Th.Pure
variable {P : Program} {N : Nat → Nat}

theorem mem_take_succ {l : List Bs8} {j : Nat} (hj : j < l.length) {t : Bs8} : t ∈ l.take (j + 1) ↔ t ∈ l.take j ∨ t = l[j] := by
  rw [← List.take_append_getElem hj, List.mem_append, List.mem_singleton]

theorem json_Check_1.asks (hF : json_Check_1.Ok P N) (n : Nat) : AsksJ P (N Fn.json_Check_1) small1 n := by
  intro S v lv nv K hw hv hn hk
  refine json_Check_1.run hF (newS_mk hw fun S1 g1 m1 n1 => ⟨v.num, ld m1 rfl, ifC_dec (fun hx => ⟨v.num, ld m1 rfl, ?_⟩) fun hx => ?_⟩)
  · have := hk S1 g1
    unfold small1 at this
    rw [decide_eq_true hx, Bool.true_and] at this
    exact this
  · have := hk S1 g1
    unfold small1 at this
    rw [decide_eq_false hx, Bool.false_and] at this
    exact this

theorem json_Check_2.asks (hF : json_Check_2.Ok P N) (n : Nat) : AsksJ P (N Fn.json_Check_2) few1 n := by
  intro S v lv nv K hw hv hn hk
  obtain ⟨es, hv⟩ := hv.at_
  refine json_Check_2.run hF (newS_mk hw fun S1 g1 m1 n1 => ifS_mk (ld m1 rfl) ⟨_, (hv.grow g1 g1.le).len, ?_⟩)
  have := hk S1 g1
  unfold few1 at this
  have e : decide (((v.list.length : Nat) : Int) ≤ 1024) = decide (v.list.length ≤ 1024) := by rw [decide_eq_decide]; omega
  rw [e]
  exact this

theorem json_Check_3.asks (hF : json_Check_3.Ok P N) (n : Nat) : AsksJ P (N Fn.json_Check_3) unlike1 n := by
  intro S v lv nv K hw hv hn hk
  obtain ⟨es, hv⟩ := hv.at_
  refine json_Check_3.run hF (newS_mk hw fun S1 g1 m1 n1 => newS_mk g1.wf fun S2 g2 m2 n2 => ?_)
  have g02 := g1.trans g2
  have v2 := hv.grow g02 g02.le
  refine ifS_mk (ld (g2.get m1) rfl) ⟨_, v2.nlen, ?_⟩
  refine Loop1.ind (fun m x S' => ∃ (j : Nat) (l : List (Nm × V)), x = j ∧ j ≤ v.names.length ∧ m = v.names.length - j ∧ Grow S S' ∧ NamesAt S' S1.next l ∧ RVat S' S'.next v lv nv es ∧ (v.names.take j).Nodup ∧ (∀ t, (lkK l t = some (.bool true) ∧ t ∈ v.names.take j) ∨ (lkK l t = none ∧ t ∉ v.names.take j))) v.names.length ⟨0, [], rfl, Nat.zero_le _, rfl, g02, NamesAt.new (S := S2) m2, v2, by simp, fun t => .inr ⟨rfl, by simp⟩⟩ ?_
  rintro m _ S3 ⟨j, l, rfl, hj, rfl, g, hn, v3, hd, hl⟩
  refine ifC_dec (fun hx => ?_) fun hx => ?_
  · have hj : j < v.names.length := by omega
    refine ifS_mk (v3.nidx hj) ⟨_, v3.name hj, ?_⟩
    have hlk := names_lookup hn (.bool false) false v.names[j]
    rcases hl v.names[j] with ⟨h1, h2⟩ | ⟨h1, h2⟩
    · rw [h1] at hlk
      refine ⟨true, hlk, ifC_tt rfl ?_⟩
      have hu : unlike1 v = false := by
        simp only [unlike1, decide_eq_false_iff_not]
        intro hd
        exact ((nodup_take hj).mp (hd.sublist (List.take_sublist _ _))).2 h2
      have := hk S3 g
      rw [hu] at this
      exact this
    · rw [h1] at hlk
      refine ⟨false, hlk, ifC_ff rfl (names_upd g.wf hn _ _ fun S4 h4 u4 n4 => ?_)⟩
      refine setI_mk (n := ((j + 1 : Nat) : Int)) (wrap_next hj hv.nle) ⟨v.names.length - (j + 1), by omega, j + 1, _, rfl, hj, rfl, ?_, h4, ?_, (nodup_take hj).mpr ⟨hd, h2⟩, fun t => ?_⟩
      · exact g.after u4 fun i hi => .inl (by rw [List.mem_singleton.mp hi]; exact g1.le)
      · exact (hv.upd (g.after u4 fun i hi => .inl (by rw [List.mem_singleton.mp hi]; exact g1.le)) (by simp) (by rw [n4]; exact g.le))
      · rw [lkK_cons]
        by_cases ht : v.names[j] = t
        · subst ht
          rw [if_pos rfl]
          refine .inl ⟨rfl, ?_⟩
          exact (mem_take_succ hj).mpr (.inr rfl)
        · rw [if_neg ht]
          have hdr : lkK (dropK l v.names[j]) t = lkK l t := by
            unfold lkK dropK
            rw [List.find?_filter]
            congr 2
            funext p
            by_cases hp : p.1 = t
            · have : p.1 ≠ v.names[j] := fun e => ht (e ▸ hp)
              simp [hp]; exact fun e => ht e.symm
            · simp [hp]
          have hm : t ∈ v.names.take (j + 1) ↔ t ∈ v.names.take j := by
            rw [mem_take_succ hj]
            exact ⟨fun h => h.elim id fun e => absurd e.symm ht, .inl⟩
          rw [hdr, hm]
          exact hl t
  · have hj : j = v.names.length := by omega
    subst hj
    rw [List.take_length] at hd
    have := hk S3 g
    have hu : unlike1 v = true := by simp only [unlike1, decide_eq_true_eq]; exact hd
    rw [hu] at this
    exact this

theorem json_Check.spec (hF : CheckF P N) : ChecksJ P (N Fn.json_Check) := by
  intro S v lv nv K hw hv hd hk
  refine json_Check.run hF.check (newS_mk hw fun S1 g1 m1 n1 => ?_)
  have v1 := hv.grow g1 g1.le
  unfold checkJ at hk
  refine ⟨_, _, _, _, _, ld5 m1, json_all.asks hF (json_formed.asks1 hF.formed) hF.canf _ g1.wf v1 (Nat.lt_succ_self _) fun S2 g2 => ?_⟩
  refine ifC_nb (fun h => ?_) fun h => ?_
  · rw [if_pos h] at hk
    exact hk S2 (g1.trans g2)
  rw [if_neg (by rw [h]; simp)] at hk
  have v2 := v1.grow g2 g2.le
  refine ⟨_, _, _, _, _, ld5 (g2.get m1), json_deep.deeps hF.deep _ g2.wf v2 (Nat.lt_succ_self _) hd fun S3 g3 => ?_⟩
  refine ifC_dec (fun h => ?_) fun h => ?_
  · rw [if_pos (by omega)] at hk
    exact hk S3 ((g1.trans g2).trans g3)
  rw [if_neg (by omega)] at hk
  have v3 := v2.grow g3 g3.le
  refine ⟨_, _, _, _, _, ld5 (g3.get (g2.get m1)), json_all.asks hF (json_Check_1.asks hF.c1) hF.can1 _ g3.wf v3 (Nat.lt_succ_self _) fun S4 g4 => ?_⟩
  refine ifC_nb (fun h => ?_) fun h => ?_
  · rw [if_pos h] at hk
    exact hk S4 (((g1.trans g2).trans g3).trans g4)
  rw [if_neg (by rw [h]; simp)] at hk
  have v4 := v3.grow g4 g4.le
  refine ⟨_, _, _, _, _, ld5 (g4.get (g3.get (g2.get m1))), json_all.asks hF (json_Check_2.asks hF.c2) hF.can2 _ g4.wf v4 (Nat.lt_succ_self _) fun S5 g5 => ?_⟩
  have g05 := (((g1.trans g2).trans g3).trans g4).trans g5
  refine ifC_nb (fun h => ?_) fun h => ?_
  · rw [if_pos h] at hk
    exact hk S5 g05
  rw [if_neg (by rw [h]; simp)] at hk
  have v5 := v4.grow g5 g5.le
  refine ⟨_, _, _, _, _, ld5 (g5.get (g4.get (g3.get (g2.get m1)))), json_all.asks hF (json_Check_3.asks hF.c3) hF.can3 _ g5.wf v5 (Nat.lt_succ_self _) fun S6 g6 => ?_⟩
  refine ifC_nb (fun h => ?_) fun h => ?_
  · rw [if_pos h] at hk
    exact hk S6 (g05.trans g6)
  · rw [if_neg (by rw [h]; simp)] at hk
    exact hk S6 (g05.trans g6)

end Go.Th.L
end

section
/- json's reference: a text that is cut, by bytes and words. -/
set_option linter.unusedSimpArgs false
set_option linter.unusedVariables false
set_option maxHeartbeats 1000000
namespace Go.Th.L
open Go Go.Th Go.Th.Pure
variable {P : Program} {N : Nat → Nat}

def CutS (S : St) (c : Nat) (s : Bs8) : Option Bs8 → Prop
  | some r => ∃ k : Nat, (k ≤ s.length ∧ s.length ≤ 1048576) ∧ s.drop k = r ∧ S.get c = some (.cells [.str s, .int .i64 k, .bool false] true)
  | none => ∃ x : Int, S.get c = some (.cells [.str s, .int .i64 x, .bool true] true)
def peekJ : Option Bs8 → UInt8
  | some (b :: _) => b
  | _ => 0
section
variable {S S' : St} {c : Nat} {s : Bs8} {o : Option Bs8}
theorem CutS.cell (h : CutS S c s o) : ∃ cs, S.get c = some (.cells cs true) := by
  cases o with
  | none => obtain ⟨x, h⟩ := h; exact ⟨_, h⟩
  | some r => obtain ⟨k, _, _, h⟩ := h; exact ⟨_, h⟩
theorem CutS.upd {D : List Nat} (h : CutS S c s o) (u : Upd D S S') (hc : c ∉ D) : CutS S' c s o := by
  cases o with
  | none => obtain ⟨x, h⟩ := h; exact ⟨x, u.get h hc⟩
  | some r => obtain ⟨k, h1, h2, h⟩ := h; exact ⟨k, h1, h2, u.get h hc⟩
theorem CutS.grow (h : CutS S c s o) (g : Grow S S') : CutS S' c s o := h.upd g (by simp)
theorem CutS.lt (h : CutS S c s o) (hw : S.Wf) : c < S.next := by
  obtain ⟨cs, h⟩ := h.cell
  exact hw.lt h
theorem CutS.le {r : Bs8} (h : CutS S c s (some r)) : r.length ≤ s.length := by
  obtain ⟨k, h1, rfl, h⟩ := h
  simp
end

structure CutF (P : Program) (N : Nat → Nat) : Prop where
  peek : ref20_Cut_peek.Ok P N
  blanks : ref20_Cut_blanks.Ok P N
  must : ref20_Cut_must.Ok P N
  word : ref20_Cut_word.Ok P N
  number : ref20_Cut_number.Ok P N
  digit : ref20_Cut_digit.Ok P N
  char : ref20_Cut_char.Ok P N
  text : ref20_Cut_text.Ok P N
  list : ref20_Cut_list.Ok P N
  value : ref20_Cut_value.Ok P N

theorem drop_cons {s r : Bs8} {b : UInt8} {k : Nat} (h : s.drop k = b :: r) : ∃ hk : k < s.length, s[k] = b ∧ s.drop (k + 1) = r := by
  have hk : k < s.length := by
    rcases Nat.lt_or_ge k s.length with h' | h'
    · exact h'
    · rw [List.drop_of_length_le h'] at h; cases h
  rw [List.drop_eq_getElem_cons hk] at h
  injection h with h1 h2
  exact ⟨hk, h1, h2⟩

theorem ref20_Cut_peek.spec (hF : ref20_Cut_peek.Ok P N) {S : St} {c : Nat} {s : Bs8} {o : Option Bs8} (h : CutS S c s o) {K : Int → St → Prop} (hk : K ((peekJ o).toNat : Nat) S) : CallA P (N Fn.ref20_Cut_peek) [.ptr c 0] S (retT [.one (.int .u8)] K) := by
  cases o with
  | none =>
    obtain ⟨x, h⟩ := h
    refine ref20_Cut_peek.run hF (Join0.mid (fun _ => False) ⟨rfl, ifS_mk (a := .ptr c 2) rfl ⟨true, ld h rfl, ifC_tt rfl hk⟩⟩ fun _ h => h.elim)
  | some r =>
    obtain ⟨k, ⟨hkl, hsl⟩, hd, h⟩ := h
    refine ref20_Cut_peek.run hF (Join0.mid (fun S' => S = S' ∧ k < s.length) ⟨rfl, ifS_mk (a := .ptr c 2) rfl ⟨false, ld h rfl, ifC_ff rfl ⟨rfl, ifS_mk (a := .ptr c 1) rfl ⟨_, ld h rfl, rfl, ifS_mk (a := .ptr c 0) rfl ⟨_, ld h rfl, ifC_dec (fun hx => ?_) fun hx => ⟨rfl, by omega⟩⟩⟩⟩⟩⟩ ?_)
    · rw [List.drop_of_length_le (by omega)] at hd
      subst hd
      exact hk
    · rintro _ ⟨rfl, hlt⟩
      refine ⟨rfl, ifS_mk (a := .ptr c 0) rfl ⟨_, ld h rfl, rfl, ifS_mk (a := .ptr c 1) rfl ⟨_, ld h rfl, _, idx_str hlt, ?_⟩⟩⟩
      rw [List.drop_eq_getElem_cons hlt] at hd
      subst hd
      exact hk

theorem cut_step {S : St} (hw : S.Wf) {c : Nat} {s : Bs8} {o : Option Bs8} (h : CutS S c s o) {K : St → Prop} (hk : ∀ S', Upd [c] S S' → S'.next = S.next → (∀ b r, o = some (b :: r) → CutS S' c s (some r)) → (o = none → CutS S' c s none) → (o = some [] → ∃ x : Int, S'.get c = some (.cells [.str s, .int .i64 x, .bool false] true)) → K S') :
    nilV (V.ptr c 0) = some (V.ptr c 0) ∧ ifS (fieldAddrV 1 (V.ptr c 0)) fun x13 => ∃ x14 : Int, loadV S x13 = some (V.int .i64 x14) ∧ setI (IntKind.i64.wrap (x14 + (1 : Int))) fun x15 => nilV (V.ptr c 0) = some (V.ptr c 0) ∧ ifS (fieldAddrV 1 (V.ptr c 0)) fun x17 => ifS (storeV S 1 x17 (V.int .i64 x15)) K := by
  cases o with
  | none =>
    obtain ⟨x, h⟩ := h
    refine ⟨rfl, ifS_mk (a := .ptr c 1) rfl ⟨x, ld h rfl, setI_mk rfl ⟨rfl, ifS_mk (a := .ptr c 1) rfl (st_mk hw h rfl (by simp [V.cells]) (by simp [V.cells, V.one]) fun S' u m n => hk S' u n (by simp) (fun _ => ⟨_, m⟩) (by simp))⟩⟩⟩
  | some r =>
    obtain ⟨k, ⟨hkl, hsl⟩, hd, h⟩ := h
    refine ⟨rfl, ifS_mk (a := .ptr c 1) rfl ⟨k, ld h rfl, setI_mk rfl ⟨rfl, ifS_mk (a := .ptr c 1) rfl (st_mk hw h rfl (by simp [V.cells]) (by simp [V.cells, V.one]) fun S' u m n => hk S' u n (fun b r e => ?_) (by simp) (fun _ => ⟨_, m⟩))⟩⟩⟩
    simp only [Option.some.injEq] at e
    subst e
    obtain ⟨hlt, h1, h2⟩ := drop_cons hd
    refine ⟨k + 1, ⟨hlt, hsl⟩, h2, ?_⟩
    rw [m, wrap_nat (by omega)]
    rfl

theorem cut_bad {S : St} (hw : S.Wf) {c : Nat} {s : Bs8} {x : Int} {b : Bool} (h : S.get c = some (.cells [.str s, .int .i64 x, .bool b] true)) {K : St → Prop} (hk : ∀ S', Upd [c] S S' → S'.next = S.next → CutS S' c s none → K S') :
    nilV (V.ptr c 0) = some (V.ptr c 0) ∧ ifS (fieldAddrV 2 (V.ptr c 0)) fun x10 => ifS (storeV S 1 x10 (V.bool true)) K :=
  ⟨rfl, ifS_mk (a := .ptr c 2) rfl (st_mk hw h rfl (by simp [V.cells]) (by simp [V.cells, V.one]) fun S' u m n => hk S' u n ⟨x, m⟩)⟩
theorem CutS.raw {S : St} {c : Nat} {s : Bs8} {o : Option Bs8} (h : CutS S c s o) : ∃ (x : Int) (b : Bool), S.get c = some (.cells [.str s, .int .i64 x, .bool b] true) := by
  cases o with
  | none => obtain ⟨x, h⟩ := h; exact ⟨x, true, h⟩
  | some r => obtain ⟨k, _, _, h⟩ := h; exact ⟨k, false, h⟩

theorem peek_byte (o : Option Bs8) (n : Nat) (h0 : n ≠ 0) (hn : n < 256) : (((peekJ o).toNat : Nat) : Int) = (n : Nat) ↔ ∃ r, o = some (UInt8.ofNat n :: r) := by
  constructor
  · intro h
    match o, h with
    | none, h => exact absurd h (by show ((0 : Nat) : Int) ≠ _; omega)
    | some [], h => exact absurd h (by show ((0 : Nat) : Int) ≠ _; omega)
    | some (b :: r), h => exact ⟨r, by rw [(byte_int b n hn).mp h]⟩
  · rintro ⟨r, rfl⟩
    exact (byte_int _ n hn).mpr rfl

theorem blanks_cons (b : UInt8) (r : Bs8) : blanksJ (b :: r) = if blankB b = true then blanksJ r else b :: r := by
  unfold blanksJ
  rw [List.dropWhile_cons]
theorem blankB_iff (b : UInt8) : blankB b = true ↔ b = 32 ∨ b = 9 ∨ b = 10 ∨ b = 13 := by
  simp [blankB, or_assoc]

theorem ref20_Cut_blanks.spec (hF : CutF P N) {S : St} (hw : S.Wf) {c : Nat} {s : Bs8} {o : Option Bs8} (h : CutS S c s o) {K : St → Prop} (hk : ∀ S', Upd [c] S S' → S'.next = S.next → CutS S' c s (o.map blanksJ) → K S') :
    CallA P (N Fn.ref20_Cut_blanks) [.ptr c 0] S (retT [] K) := by
  refine ref20_Cut_blanks.run hF.blanks (Loop0.ind (fun m S' => ∃ o', Upd [c] S S' ∧ S'.next = S.next ∧ CutS S' c s o' ∧ o'.map blanksJ = o.map blanksJ ∧ m = (o'.getD []).length) (o.getD []).length ⟨o, Upd.refl hw _, rfl, h, rfl, rfl⟩ ?_)
  rintro m S1 ⟨o', u, n1, h1, e, rfl⟩
  have hit : ∀ {x : Int} {n : Nat}, n ≠ 0 → n < 256 → (n = 32 ∨ n = 9 ∨ n = 10 ∨ n = 13) → x = ((peekJ o').toNat : Nat) → x = (n : Nat) → ∃ b r, o' = some (b :: r) ∧ blankB b = true := by
    intro x n h0 hn hb e1 e2
    rw [e1] at e2
    obtain ⟨r, rfl⟩ := (peek_byte o' n h0 hn).mp e2
    exact ⟨_, r, rfl, by rcases hb with rfl | rfl | rfl | rfl <;> rfl⟩
  refine Join0.mid (fun S' => S1 = S' ∧ ∃ b r, o' = some (b :: r) ∧ blankB b = true) ?_ ?_
  · refine ref20_Cut_peek.spec hF.peek h1 (ifC_dec (fun hx => ⟨rfl, hit (n := 32) (by omega) (by omega) (by omega) rfl hx⟩) fun hx32 => ref20_Cut_peek.spec hF.peek h1 (ifC_dec (fun hx => ⟨rfl, hit (n := 9) (by omega) (by omega) (by omega) rfl hx⟩) fun hx9 => ref20_Cut_peek.spec hF.peek h1 (ifC_dec (fun hx => ⟨rfl, hit (n := 10) (by omega) (by omega) (by omega) rfl hx⟩) fun hx10 => ref20_Cut_peek.spec hF.peek h1 (ifC_dec (fun hx => ⟨rfl, hit (n := 13) (by omega) (by omega) (by omega) rfl hx⟩) fun hx13 => hk S1 u n1 ?_))))
    rw [← e]
    match o', h1, hx32, hx9, hx10, hx13 with
    | none, h1, _, _, _, _ => exact h1
    | some [], h1, _, _, _, _ => exact h1
    | some (b :: r), h1, hx32, hx9, hx10, hx13 =>
      rw [Option.map_some, blanks_cons, if_neg]
      · exact h1
      · rw [blankB_iff]
        rintro (rfl | rfl | rfl | rfl)
        · exact hx32 rfl
        · exact hx9 rfl
        · exact hx10 rfl
        · exact hx13 rfl
  · rintro _ ⟨rfl, b, r, rfl, hb⟩
    refine cut_step u.wf h1 fun S' u' n' h2 _ _ => ⟨r.length, by simp, some r, u.trans u', by rw [n', n1], h2 b r rfl, ?_, rfl⟩
    rw [← e, Option.map_some, Option.map_some, blanks_cons, if_pos hb]

theorem ref20_Cut_must.spec (hF : CutF P N) {S : St} (hw : S.Wf) {c : Nat} {s : Bs8} {o : Option Bs8} (h : CutS S c s o) {b : UInt8} (hb : b ≠ 0) {K : St → Prop} (hk : ∀ S', Upd [c] S S' → S'.next = S.next → CutS S' c s (o.bind (comesJ [b])) → K S') :
    CallA P (N Fn.ref20_Cut_must) [.ptr c 0, .int .u8 (b.toNat : Nat)] S (retT [] K) := by
  refine ref20_Cut_must.run hF.must (ref20_Cut_peek.spec hF.peek h (ifC_ndec (fun hx => ?_) fun hx => ?_))
  · obtain ⟨x, b', hr⟩ := h.raw
    refine cut_bad hw hr fun S' u n h' => hk S' u n ?_
    have : o.bind (comesJ [b]) = none := by
      match o, hx with
      | none, _ => rfl
      | some [], _ => rfl
      | some (d :: r), hx =>
        have : b ≠ d := fun e => hx (by rw [e]; rfl)
        simp [comesJ, this]
    rw [this]
    exact h'
  · obtain ⟨r, rfl⟩ := (peek_byte o b.toNat (fun e => hb (by rw [← UInt8.ofNat_toNat (x := b), e]; rfl)) b.toNat_lt).mp hx
    rw [UInt8.ofNat_toNat] at h hk
    refine cut_step hw h fun S' u n h2 _ _ => hk S' u n ?_
    have : (some (b :: r)).bind (comesJ [b]) = some r := by simp [comesJ]
    rw [this]
    exact h2 b r rfl

theorem comes_split (b : UInt8) (w s : Bs8) : comesJ (b :: w) s = (comesJ [b] s).bind (comesJ w) := by
  cases s with
  | nil => rfl
  | cons d s =>
    simp only [comesJ]
    by_cases h : b = d
    · simp [h]
    · simp [h]

theorem ref20_Cut_word.spec (hF : CutF P N) {S : St} (hw : S.Wf) {c : Nat} {s w : Bs8} {o : Option Bs8} (h : CutS S c s o) (hb : ∀ b ∈ w, b ≠ 0) (hl : w.length ≤ 100) {K : St → Prop} (hk : ∀ S', Upd [c] S S' → S'.next = S.next → CutS S' c s (o.bind (comesJ w)) → K S') :
    CallA P (N Fn.ref20_Cut_word) [.ptr c 0, .str w] S (retT [] K) := by
  refine ref20_Cut_word.run hF.word (Loop1.ind (fun m x S' => ∃ (j : Nat) (o' : Option Bs8), x = j ∧ j ≤ w.length ∧ m = w.length - j ∧ Upd [c] S S' ∧ S'.next = S.next ∧ CutS S' c s o' ∧ o'.bind (comesJ (w.drop j)) = o.bind (comesJ w)) w.length ⟨0, o, rfl, Nat.zero_le _, rfl, Upd.refl hw _, rfl, h, rfl⟩ ?_)
  rintro m _ S1 ⟨j, o', rfl, hj, rfl, u, n1, h1, e⟩
  refine ifC_dec (fun hx => ?_) fun hx => ?_
  · have hj : j < w.length := by omega
    refine ⟨_, idx_str hj, ref20_Cut_must.spec hF u.wf h1 (hb _ (List.getElem_mem hj)) fun S2 u2 n2 h2 => setI_mk (n := ((j + 1 : Nat) : Int)) (wrap_nat (by omega)) ⟨w.length - (j + 1), by omega, j + 1, _, rfl, hj, rfl, u.trans u2, by rw [n2, n1], h2, ?_⟩⟩
    rw [← e, List.drop_eq_getElem_cons hj, Option.bind_assoc]
    congr 1
    funext t
    exact (comes_split _ _ t).symm
  · have hj : j = w.length := by omega
    subst hj
    refine hk S1 u n1 ?_
    rw [← e, List.drop_length]
    have : o'.bind (comesJ []) = o' := by cases o' <;> rfl
    rw [this]
    exact h1

end Go.Th.L
end

section
/- json's reference: a number cut. -/
set_option linter.unusedSimpArgs false
set_option linter.unusedVariables false
set_option maxHeartbeats 1000000
namespace Go.Th.L
open Go Go.Th Go.Th.Pure
variable {P : Program} {N : Nat → Nat}

theorem valJ_snoc (ds : Bs8) (d : UInt8) : valJ (ds ++ [d]) = 10 * valJ ds + (d.toNat - 48) := by
  unfold valJ; rw [List.foldl_append]; rfl
theorem CutS.mk {S : St} {c : Nat} {s : Bs8} {k : Nat} (hk : k ≤ s.length) (hs : s.length ≤ 1048576) (h : S.get c = some (.cells [.str s, .int .i64 k, .bool false] true)) : CutS S c s (some (s.drop k)) := ⟨k, ⟨hk, hs⟩, rfl, h⟩
theorem goMin_nat (a b : Nat) : goMin ((a : Nat) : Int) ((b : Nat) : Int) = ((min a b : Nat) : Int) := by
  unfold goMin; split <;> omega

theorem ref20_Cut_number.none_ (hF : CutF P N) {S : St} (hw : S.Wf) {c : Nat} {s : Bs8} (h : CutS S c s none) {K : Int → St → Prop} (hk : ∀ S', Upd [c] S S' → CutS S' c s none → K 0 S') : CallA P (N Fn.ref20_Cut_number) [.ptr c 0] S (retT [.one (.int .i64)] K) := by
  have h' := h
  obtain ⟨x, hx⟩ := h'
  refine ref20_Cut_number.run hF.number (ref20_Cut_peek.spec hF.peek h (Join0.mid (fun S' => S = S') (ifC_ff rfl rfl) ?_))
  rintro _ rfl
  refine ⟨rfl, ifS_mk (a := .ptr c 1) rfl ⟨x, ld hx rfl, Join1.mid (fun n S' => S = S' ∧ n = 0) ?_ ?_⟩⟩
  · refine Loop1.ind (fun m n S' => S = S' ∧ n = 0) 0 ⟨rfl, rfl⟩ ?_
    rintro m _ _ ⟨rfl, rfl⟩
    exact Join0.mid (fun _ => False) (ref20_Cut_peek.spec hF.peek h (ifC_ff rfl ⟨rfl, rfl⟩)) fun _ h => h.elim
  · rintro _ _ ⟨rfl, rfl⟩
    refine ⟨rfl, ifS_mk (a := .ptr c 1) rfl ⟨x, ld hx rfl, setI_mk (n := 0) (by rw [Int.sub_self]; rfl) (Join1.mid (fun b S' => S = S' ∧ b = true) (ifC_tt rfl ⟨rfl, rfl⟩) ?_)⟩⟩
    rintro _ _ ⟨rfl, rfl⟩
    exact ifC_tt rfl (cut_bad hw hx fun S' u n h' => hk S' u h')

theorem ref20_Cut_number.spec (hF : CutF P N) {S : St} (hw : S.Wf) {c : Nat} {s : Bs8} {o : Option Bs8} (h : CutS S c s o) {K : Int → St → Prop} (h0 : o.bind numJ = none → ∀ S', Upd [c] S S' → CutS S' c s none → K 0 S')
    (h1 : ∀ v r, o.bind numJ = some (v, r) → ∀ S', Upd [c] S S' → CutS S' c s (some r) → K v S') : CallA P (N Fn.ref20_Cut_number) [.ptr c 0] S (retT [.one (.int .i64)] K) := by
  cases o with
  | none => exact ref20_Cut_number.none_ hF hw h fun S' u h' => h0 rfl S' u h'
  | some r =>
  have h' := h
  obtain ⟨k, ⟨hkl, hsl⟩, hd, hc⟩ := h'
  simp only [Option.bind_some] at h0 h1
  have hpk : (((peekJ (some r)).toNat : Nat) : Int) = ((45 : Nat) : Int) ↔ r.head? = some 45 := by
    rw [peek_byte _ 45 (by omega) (by omega)]
    cases r with
    | nil => simp
    | cons b r => simp
  refine ref20_Cut_number.run hF.number (ref20_Cut_peek.spec hF.peek h (Join0.mid (fun S' => ∃ k1 : Nat, Upd [c] S S' ∧ k1 ≤ s.length ∧ s.drop k1 = (signJ r).2 ∧ S'.get c = some (.cells [.str s, .int .i64 k1, .bool false] true)) ?_ ?_))
  · refine ifC_dec (fun hx => ?_) fun hx => ?_
    · have hm := hpk.mp hx
      match r, hm with
      | b :: t, hm =>
        refine cut_step hw h fun S' u n h2 _ _ => ?_
        obtain ⟨k1, ⟨a1, _⟩, a2, a3⟩ := h2 b t rfl
        refine ⟨k1, u, a1, ?_, a3⟩
        rw [a2]; unfold signJ; rw [if_pos hm]; rfl
    · have hm : ¬ r.head? = some 45 := fun e => hx (hpk.mpr e)
      exact ⟨k, Upd.refl hw _, hkl, by rw [hd]; unfold signJ; rw [if_neg hm], hc⟩
  have hm45 : decide ((((peekJ (some r)).toNat : Nat) : Int) = 45) = (signJ r).1 := by
    unfold signJ
    by_cases hm : r.head? = some 45
    · rw [if_pos hm, decide_eq_true_eq]; exact hpk.mpr hm
    · rw [if_neg hm, decide_eq_false_iff_not]; exact fun e => hm (hpk.mp e)
  rintro S2 ⟨k1, u2, hk1, hd1, c2⟩
  unfold numJ at h0 h1
  rw [hm45]
  generalize (signJ r).1 = m at *
  generalize (signJ r).2 = t at *
  have htl : t.length = s.length - k1 := by rw [← hd1, List.length_drop]
  have hrl := run_le digJ t
  obtain ⟨rt, rd⟩ := run_take digJ t
  refine ⟨rfl, ifS_mk (a := .ptr c 1) rfl ⟨k1, ld c2 rfl, Join1.mid (fun x S' => Upd [c] S S' ∧ S'.get c = some (.cells [.str s, .int .i64 ((k1 + (t.takeWhile digJ).length : Nat) : Int), .bool false] true) ∧ x = ((min (valJ (t.takeWhile digJ)) (maxNum + 1) : Nat) : Int)) ?_ ?_⟩⟩
  · refine Loop1.ind (fun z x S' => ∃ q : Nat, q ≤ (t.takeWhile digJ).length ∧ z = t.length - q ∧ Upd [c] S S' ∧ S'.get c = some (.cells [.str s, .int .i64 ((k1 + q : Nat) : Int), .bool false] true) ∧ x = ((min (valJ (t.take q)) (maxNum + 1) : Nat) : Int)) t.length ⟨0, Nat.zero_le _, rfl, u2, c2, by rw [List.take_zero]; rfl⟩ ?_
    rintro z _ S5 ⟨q, hq, rfl, u5, c5, rfl⟩
    have cut5 : CutS S5 c s (some (t.drop q)) := by
      have := CutS.mk (k := k1 + q) (by omega) hsl c5
      rw [← hd1, List.drop_drop]
      exact this
    -- the run ends here, or goes on
    have stop : ¬ (∃ hlt : q < t.length, digJ t[q] = true) → q = (t.takeWhile digJ).length := by
      intro hn
      rcases Nat.lt_or_ge q t.length with hlt | hge
      · have hdq : digJ t[q] = false := by
          cases hx : digJ t[q] with
          | false => rfl
          | true => exact absurd ⟨hlt, hx⟩ hn
        exact (run_go digJ hlt hq).2 hdq
      · omega
    have pk : ∀ {hlt : q < t.length}, peekJ (some (t.drop q)) = t[q] := by
      intro hlt
      rw [List.drop_eq_getElem_cons hlt]; rfl
    refine Join0.mid (fun S' => S5 = S' ∧ ∃ hlt : q < t.length, digJ t[q] = true) ?_ ?_
    · refine ref20_Cut_peek.spec hF.peek cut5 (ifC_dec (fun hx => ref20_Cut_peek.spec hF.peek cut5 (ifC_dec (fun hy => ⟨rfl, ?_⟩) fun hy => ?_)) fun hx => ?_)
      · rcases Nat.lt_or_ge q t.length with hlt | hge
        · refine ⟨hlt, ?_⟩
          rw [pk (hlt := hlt)] at hx hy
          rw [dig_dec, decide_eq_true hx, decide_eq_true hy]; rfl
        · rw [List.drop_of_length_le hge] at hx
          exact absurd hx (by decide)
      · have := stop (by
          rintro ⟨hlt, hdq⟩
          rw [pk (hlt := hlt)] at hy
          rw [dig_dec, decide_eq_false hy] at hdq
          simp at hdq)
        rw [this] at c5
        refine ⟨u5, c5, ?_⟩
        rw [this, rt]
      · have := stop (by
          rintro ⟨hlt, hdq⟩
          rw [pk (hlt := hlt)] at hx
          rw [dig_dec, decide_eq_false hx] at hdq
          simp at hdq)
        rw [this] at c5
        refine ⟨u5, c5, ?_⟩
        rw [this, rt]
    · rintro _ ⟨rfl, hlt, hdq⟩
      have hgo := (run_go digJ hlt hq).1 hdq
      have hm1 : min (valJ (t.take q)) (maxNum + 1) ≤ 1000000000000000 := by unfold maxNum; omega
      have hdd : 48 ≤ t[q].toNat ∧ t[q].toNat ≤ 57 := by simpa [digJ] using hdq
      refine setI_mk (n := ((10 * min (valJ (t.take q)) (maxNum + 1) : Nat) : Int)) (by rw [IntKind.wrap_i64]; omega) (ref20_Cut_peek.spec hF.peek cut5 ?_)
      rw [pk (hlt := hlt)]
      refine setI_mk (n := ((t[q].toNat - 48 : Nat) : Int)) (by rw [IntKind.wrap_u8]; omega) (setI_mk (n := ((t[q].toNat - 48 : Nat) : Int)) (by rw [IntKind.wrap_i64]; omega) (setI_mk (n := ((10 * min (valJ (t.take q)) (maxNum + 1) + (t[q].toNat - 48) : Nat) : Int)) (by rw [IntKind.wrap_i64]; omega) ?_))
      refine ⟨rfl, ifS_mk (a := .ptr c 1) rfl ⟨_, ld c5 rfl, setI_mk (n := ((k1 + (q + 1) : Nat) : Int)) (by rw [IntKind.wrap_i64]; omega) ⟨rfl, ifS_mk (a := .ptr c 1) rfl (st_mk u5.wf c5 rfl (by simp [V.cells]) (by simp [V.cells, V.one]) fun S10 u10 m10 n10 => ⟨t.length - (q + 1), by omega, q + 1, hgo, rfl, u5.trans u10, m10, ?_⟩)⟩⟩⟩
      show goMin ((10 * min (valJ (t.take q)) (maxNum + 1) + (t[q].toNat - 48) : Nat) : Int) ((1000000000000000 : Nat) : Int) = _
      rw [goMin_nat, ← List.take_append_getElem hlt, valJ_snoc]
      unfold maxNum
      congr 1
      omega
  rintro _ S4 ⟨u4, c4, rfl⟩
  generalize hds : t.takeWhile digJ = ds at *
  refine ⟨rfl, ifS_mk (a := .ptr c 1) rfl ⟨_, ld c4 rfl, setI_mk (n := ((ds.length : Nat) : Int)) (by rw [IntKind.wrap_i64]; omega) (Join1.mid (fun b S' => S4 = S' ∧ b = badNum m ds) ?_ ?_)⟩⟩
  · refine ifC_dec (fun hx => ⟨rfl, ?_⟩) fun hx => ?_
    · have : ds = [] := List.length_eq_zero_iff.mp (by omega)
      rw [this]; rfl
    · match ds, hds, hx, rt, c4, h0, h1 with
      | d :: ds', hds, hx, rt, c4, h0, h1 =>
        have hk1l : k1 < s.length := by simp only [List.length_cons] at hrl; omega
        have hsd : s[k1] = d := by
          have e1 : t.take (ds'.length + 1) = d :: ds' := by simpa using rt
          rw [← hd1, List.drop_eq_getElem_cons hk1l, List.take_succ_cons] at e1
          injection e1
        refine ⟨rfl, ifS_mk (a := .ptr c 0) rfl ⟨s, ld c4 rfl, _, idx_str hk1l, ?_⟩⟩
        rw [hsd]
        refine ifC_dec (fun hy => ?_) fun hy => ⟨rfl, ?_⟩
        · have hd48 : d = 48 := (byte_int d 48 (by omega)).mp hy
          subst hd48
          refine ifC_dec (fun hz => ⟨rfl, ?_⟩) fun hz => ⟨rfl, ?_⟩
          · have : 1 < ds'.length + 1 := by simp only [List.length_cons] at hz; omega
            simp [badNum, this]
          · have : ds'.length = 0 := by simp only [List.length_cons] at hz; omega
            simp [badNum, this]
        · have : d ≠ 48 := fun e => hy (by rw [e]; rfl)
          simp [badNum, this]
      | [], hds, hx, rt, c4, h0, h1 => exact absurd rfl hx
  rintro _ _ ⟨rfl, rfl⟩
  refine ifC_tt_ff (fun hb => ?_) fun hb => ?_
  · rw [if_pos hb] at h0
    exact cut_bad u4.wf c4 fun S' u n h' => h0 rfl S' (u4.trans u) h'
  · rw [if_neg (by rw [hb]; simp)] at h1
    have cut4 : CutS S4 c s (some (t.dropWhile digJ)) := by
      have := CutS.mk (k := k1 + ds.length) (by omega) hsl c4
      rw [← rd, ← hd1, List.drop_drop]
      exact this
    have fin := h1 (valN m ds) _ rfl S4 u4 cut4
    refine ifC_tt_ff (fun hm => ?_) fun hm => by rw [hm] at fin; exact fin
    refine setI_mk (n := -((min (valJ ds) (maxNum + 1) : Nat) : Int)) ?_ (by rw [hm] at fin; exact fin)
    have hmn : min (valJ ds) (maxNum + 1) ≤ 1000000000000000 := by unfold maxNum; omega
    generalize min (valJ ds) (maxNum + 1) = z at hmn
    rw [Int.zero_sub]
    exact i64_int (by omega) (by omega)

end Go.Th.L
end

section
/- json's reference: characters and texts cut. -/
set_option linter.unusedSimpArgs false
set_option linter.unusedVariables false
set_option maxHeartbeats 1000000
namespace Go.Th.Pure
open Go
def digitJ : Bs8 → Option (Nat × Bs8)
  | b :: r => (hexJ b).map fun h => (h, r)
  | [] => none
def escJ : Bs8 → Option (UInt8 × Bs8)
  | [] => none
  | c :: s => if c = 34 ∨ c = 92 ∨ c = 47 then some (c, s) else if c = 110 then some (10, s) else if c = 116 then some (9, s)
    else if c = 117 then ((comesJ [48, 48] s).bind digitJ).bind fun p => (digitJ p.2).map fun q => (UInt8.ofNat (16 * p.1 + q.1), q.2) else none
def charJ : Bs8 → Option (UInt8 × Bs8)
  | [] => none
  | c :: s => if c = 92 then escJ s else if 32 ≤ c.toNat ∧ c.toNat ≤ 126 then some (c, s) else none
theorem digit_len {s r : Bs8} {h : Nat} (e : digitJ s = some (h, r)) : r.length < s.length := by
  match s, e with
  | b :: r', e =>
    simp only [digitJ, Option.map_eq_some_iff, Prod.mk.injEq] at e
    obtain ⟨_, _, _, rfl⟩ := e
    simp
theorem esc_len {s r : Bs8} {b : UInt8} (e : escJ s = some (b, r)) : r.length < s.length := by
  match s, e with
  | c :: s, e =>
    simp only [escJ] at e
    split at e
    · simp only [Option.some.injEq, Prod.mk.injEq] at e; rw [← e.2]; simp
    split at e
    · simp only [Option.some.injEq, Prod.mk.injEq] at e; rw [← e.2]; simp
    split at e
    · simp only [Option.some.injEq, Prod.mk.injEq] at e; rw [← e.2]; simp
    split at e
    · obtain ⟨p, e1, e2⟩ := Option.bind_eq_some_iff.mp e
      obtain ⟨t, e3, e4⟩ := Option.bind_eq_some_iff.mp e1
      obtain ⟨q, e5, e6⟩ := Option.map_eq_some_iff.mp e2
      simp only [Prod.mk.injEq] at e6
      have h1 := comes_le e3
      have h2 := digit_len (h := p.1) (r := p.2) e4
      have h3 := digit_len (h := q.1) (r := q.2) e5
      rw [← e6.2]
      simp only [List.length_cons] at h1 ⊢
      omega
    · cases e
theorem char_len {s r : Bs8} {b : UInt8} (e : charJ s = some (b, r)) : r.length < s.length := by
  match s, e with
  | c :: s, e =>
    simp only [charJ] at e
    split at e
    · have := esc_len e; simp only [List.length_cons]; omega
    split at e
    · simp only [Option.some.injEq, Prod.mk.injEq] at e; rw [← e.2]; simp
    · cases e
theorem text_char (n : Nat) (acc s : Bs8) : textJ (n + 1) acc s = match s with
    | [] => none
    | c :: s' => if c = 34 then some (acc, s') else (charJ (c :: s')).bind fun p => textJ n (acc ++ [p.1]) p.2 := by
  cases s with
  | nil => rfl
  | cons c s =>
    simp only [textJ, charJ]
    by_cases h34 : c = 34
    · simp [h34]
    rw [if_neg h34, if_neg h34]
    by_cases h92 : c = 92
    · rw [if_pos h92, if_pos h92]
      cases s with
      | nil => rfl
      | cons c s =>
        simp only [escJ]
        split
        · rfl
        split
        · rfl
        split
        · rfl
        split
        · match s with
          | z :: y :: a :: b :: s =>
            simp only
            by_cases hz : z = 48 ∧ y = 48
            · rw [if_pos hz]
              obtain ⟨rfl, rfl⟩ := hz
              simp only [comesJ, if_true, Option.bind_some, digitJ]
              cases hexJ a with
              | none => rfl
              | some h =>
                simp only [Option.map_some, Option.bind_some]
                cases hexJ b with
                | none => rfl
                | some l => rfl
            · rw [if_neg hz]
              have : comesJ [48, 48] (z :: y :: a :: b :: s) = none := by
                simp only [comesJ]
                by_cases h1 : (48 : UInt8) = z
                · rw [if_pos h1]
                  by_cases h2 : (48 : UInt8) = y
                  · exact absurd ⟨h1.symm, h2.symm⟩ hz
                  · rw [if_neg h2]
                · rw [if_neg h1]
              rw [this]; rfl
          | [z, y, a] =>
            simp only [comesJ]
            by_cases h1 : (48 : UInt8) = z
            · rw [if_pos h1]
              by_cases h2 : (48 : UInt8) = y
              · rw [if_pos h2]
                simp only [Option.bind_some, digitJ]
                cases hexJ a <;> rfl
              · rw [if_neg h2]; rfl
            · rw [if_neg h1]; rfl
          | [z, y] =>
            simp only [comesJ]
            by_cases h1 : (48 : UInt8) = z
            · rw [if_pos h1]
              by_cases h2 : (48 : UInt8) = y
              · rw [if_pos h2]; rfl
              · rw [if_neg h2]; rfl
            · rw [if_neg h1]; rfl
          | [z] =>
            simp only [comesJ]
            by_cases h1 : (48 : UInt8) = z
            · rw [if_pos h1]; rfl
            · rw [if_neg h1]; rfl
          | [] => rfl
        · rfl
    · rw [if_neg h92, if_neg h92]
      split <;> rfl
def quotJ (s : Bs8) : Option (Bs8 × Bs8) := (comesJ [34] s).bind fun r => textJ (r.length + 1) [] r
end Go.Th.Pure
namespace Go.Th.L
open Go Go.Th Go.Th.Pure
variable {P : Program} {N : Nat → Nat}

theorem ref20_Cut_digit.spec (hF : CutF P N) {S : St} (hw : S.Wf) {c : Nat} {s : Bs8} {o : Option Bs8} (h : CutS S c s o) {K : Int → St → Prop} (h0 : o.bind digitJ = none → ∀ S', Upd [c] S S' → CutS S' c s none → K 0 S')
    (h1 : ∀ v r, o.bind digitJ = some (v, r) → ∀ S', Upd [c] S S' → CutS S' c s (some r) → K (v : Nat) S') : CallA P (N Fn.ref20_Cut_digit) [.ptr c 0] S (retT [.one (.int .i64)] K) := by
  refine ref20_Cut_digit.run hF.digit (ref20_Cut_peek.spec hF.peek h (cut_step hw h fun S2 u2 n2 a1 a2 a3 => ?_))
  have raw : ∃ (x : Int) (b : Bool), S2.get c = some (.cells [.str s, .int .i64 x, .bool b] true) := by
    match o, a1, a2, a3 with
    | none, _, a2, _ => exact (a2 rfl).raw
    | some [], _, _, a3 => obtain ⟨x, h⟩ := a3 rfl; exact ⟨x, false, h⟩
    | some (b :: r), a1, _, _ => exact (a1 b r rfl).raw
  obtain ⟨x, b', raw⟩ := raw
  have bad : o.bind digitJ = none → nilV (V.ptr c 0) = some (V.ptr c 0) ∧ ifS (fieldAddrV 2 (V.ptr c 0)) fun x10 => ifS (storeV S2 1 x10 (V.bool true)) (K 0) := fun e => cut_bad u2.wf raw fun S' u n h' => h0 e S' (u2.trans u) h'
  have good : ∀ {v : Nat}, (∀ b r, o = some (b :: r) → hexJ b = some v) → (∃ b r, o = some (b :: r)) → K (v : Nat) S2 := by
    rintro v hv ⟨b, r, rfl⟩
    refine h1 v r ?_ S2 u2 (a1 b r rfl)
    simp only [Option.bind_some, digitJ, hv b r rfl, Option.map_some]
  generalize hn : (peekJ o).toNat = n
  have hn256 : n < 256 := by rw [← hn]; exact (peekJ o).toNat_lt
  have some_ : n ≠ 0 → ∃ b r, o = some (b :: r) ∧ b.toNat = n := by
    intro hne
    match o, hn with
    | none, hn => exact absurd hn.symm hne
    | some [], hn => exact absurd hn.symm hne
    | some (b :: r), hn => exact ⟨b, r, rfl, hn⟩
  have none_ : (¬ (48 ≤ n ∧ n ≤ 57)) → (¬ (97 ≤ n ∧ n ≤ 102)) → (¬ (65 ≤ n ∧ n ≤ 70)) → o.bind digitJ = none := by
    intro e1 e2 e3
    match o, hn with
    | none, hn => rfl
    | some [], hn => rfl
    | some (b :: r), hn =>
      simp only [peekJ] at hn
      simp only [Option.bind_some, digitJ, hexJ]
      rw [hn, if_neg e1, if_neg e2, if_neg e3]; rfl
  refine Join1.mid (fun b S' => S2 = S' ∧ b = decide (48 ≤ n ∧ n ≤ 57)) ?_ ?_
  · refine ifC_dec (fun hx => ⟨rfl, ?_⟩) fun hx => ⟨rfl, ?_⟩
    · rw [decide_eq_decide]; omega
    · rw [eq_comm, decide_eq_false_iff_not]; omega
  rintro _ _ ⟨rfl, rfl⟩
  refine ifC_dec (fun hd => ?_) fun hd => ?_
  · refine setI_mk (n := ((n - 48 : Nat) : Int)) (by rw [IntKind.wrap_u8]; omega) (setI_mk (n := ((n - 48 : Nat) : Int)) (by rw [IntKind.wrap_i64]; omega) (good (fun b r e => ?_) ?_))
    · subst e
      simp only [peekJ] at hn
      unfold hexJ; rw [hn, if_pos hd]
    · obtain ⟨b, r, e, _⟩ := some_ (by omega); exact ⟨b, r, e⟩
  refine Join1.mid (fun b S' => S2 = S' ∧ b = decide (97 ≤ n ∧ n ≤ 102)) ?_ ?_
  · refine ifC_dec (fun hx => ⟨rfl, ?_⟩) fun hx => ⟨rfl, ?_⟩
    · rw [decide_eq_decide]; omega
    · rw [eq_comm, decide_eq_false_iff_not]; omega
  rintro _ _ ⟨rfl, rfl⟩
  refine ifC_dec (fun hd2 => ?_) fun hd2 => ?_
  · refine setI_mk (n := ((n - 97 : Nat) : Int)) (by rw [IntKind.wrap_u8]; omega) (setI_mk (n := ((n - 97 : Nat) : Int)) (by rw [IntKind.wrap_i64]; omega) (setI_mk (n := ((n - 87 : Nat) : Int)) (by rw [IntKind.wrap_i64]; omega) (good (fun b r e => ?_) ?_)))
    · subst e
      simp only [peekJ] at hn
      unfold hexJ; rw [hn, if_neg hd, if_pos hd2]
    · obtain ⟨b, r, e, _⟩ := some_ (by omega); exact ⟨b, r, e⟩
  refine Join1.mid (fun b S' => S2 = S' ∧ b = decide (65 ≤ n ∧ n ≤ 70)) ?_ ?_
  · refine ifC_dec (fun hx => ⟨rfl, ?_⟩) fun hx => ⟨rfl, ?_⟩
    · rw [decide_eq_decide]; omega
    · rw [eq_comm, decide_eq_false_iff_not]; omega
  rintro _ _ ⟨rfl, rfl⟩
  refine ifC_dec (fun hd3 => ?_) fun hd3 => bad (none_ hd hd2 hd3)
  · refine setI_mk (n := ((n - 65 : Nat) : Int)) (by rw [IntKind.wrap_u8]; omega) (setI_mk (n := ((n - 65 : Nat) : Int)) (by rw [IntKind.wrap_i64]; omega) (setI_mk (n := ((n - 55 : Nat) : Int)) (by rw [IntKind.wrap_i64]; omega) (good (fun b r e => ?_) ?_)))
    · subst e
      simp only [peekJ] at hn
      unfold hexJ; rw [hn, if_neg hd, if_neg hd2, if_pos hd3]
    · obtain ⟨b, r, e, _⟩ := some_ (by omega); exact ⟨b, r, e⟩

theorem digit_lt {s r : Bs8} {h : Nat} (e : digitJ s = some (h, r)) : h < 16 := by
  match s, e with
  | b :: r', e =>
    simp only [digitJ, Option.map_eq_some_iff, Prod.mk.injEq] at e
    obtain ⟨h', e1, rfl, _⟩ := e
    exact hex_lt e1
theorem byte_wrap {n : Nat} (h : n < 256) : ((n : Nat) : Int) = ((UInt8.ofNat n).toNat : Nat) := by
  rw [UInt8.toNat_ofNat', Nat.mod_eq_of_lt (show n < 2 ^ 8 from h)]

theorem ref20_Cut_char.spec (hF : CutF P N) {S : St} (hw : S.Wf) {c : Nat} {s : Bs8} {o : Option Bs8} (h : CutS S c s o) {K : Int → St → Prop} (h0 : o.bind charJ = none → ∀ (b : UInt8) S', Upd [c] S S' → CutS S' c s none → K (b.toNat : Nat) S')
    (h1 : ∀ (b : UInt8) r, o.bind charJ = some (b, r) → ∀ S', Upd [c] S S' → CutS S' c s (some r) → K (b.toNat : Nat) S') : CallA P (N Fn.ref20_Cut_char) [.ptr c 0] S (retT [.one (.int .u8)] K) := by
  refine ref20_Cut_char.run hF.char (ref20_Cut_peek.spec hF.peek h (ifC_ndec (fun hx => ?_) fun hx => ?_))
  · refine Join0.mid (fun S' => Upd [c] S S' ∧ ((o.bind charJ = none ∧ CutS S' c s none) ∨ ∃ b r, o = some (b :: r) ∧ CutS S' c s (some (b :: r)) ∧ charJ (b :: r) = some (b, r))) ?_ ?_
    · have no : (peekJ o).toNat < 32 ∨ 126 < (peekJ o).toNat → o.bind charJ = none := by
        intro hn
        match o, hn, hx with
        | none, _, _ => rfl
        | some [], _, _ => rfl
        | some (b :: r), hn, hx =>
          simp only [peekJ] at hn
          have : b ≠ 92 := fun e => hx (by rw [e]; rfl)
          simp only [Option.bind_some, charJ]
          rw [if_neg this, if_neg (by omega)]
      refine Join1.mid (fun b S' => S = S' ∧ b = decide ((peekJ o).toNat < 32 ∨ 126 < (peekJ o).toNat)) ?_ ?_
      · refine ifC_dec (fun hy => ⟨rfl, ?_⟩) fun hy => ⟨rfl, ?_⟩
        · rw [eq_comm, decide_eq_true_eq]; omega
        · rw [decide_eq_decide]; omega
      rintro _ _ ⟨rfl, rfl⟩
      obtain ⟨x, b', raw⟩ := h.raw
      refine ifC_dec (fun hy => cut_bad hw raw fun S' u n h' => ⟨u, .inl ⟨no hy, h'⟩⟩) fun hy => ⟨Upd.refl hw _, ?_⟩
      match o, hy, hx, h with
      | none, hy, _, _ => exact absurd (.inl (by decide)) hy
      | some [], hy, _, _ => exact absurd (.inl (by decide)) hy
      | some (b :: r), hy, hx, h =>
        simp only [peekJ] at hy
        have : b ≠ 92 := fun e => hx (by rw [e]; rfl)
        refine .inr ⟨b, r, rfl, h, ?_⟩
        simp only [charJ]
        rw [if_neg this, if_pos (by omega)]
    · rintro S2 ⟨u2, ⟨e, h2⟩ | ⟨b, r, rfl, h2, e⟩⟩
      · exact cut_step u2.wf h2 fun S' u n _ a2 _ => h0 e _ S' (u2.trans u) (a2 rfl)
      · exact cut_step u2.wf h2 fun S' u n a1 _ _ => h1 b r e S' (u2.trans u) (a1 b r rfl)
  · obtain ⟨r, rfl⟩ := (peek_byte o 92 (by omega) (by omega)).mp hx
    simp only [Option.bind_some, charJ] at h0 h1
    rw [if_pos (show UInt8.ofNat 92 = 92 from rfl)] at h0 h1
    refine cut_step hw h fun S6 u6 n6 a1 _ _ => ?_
    have h6 := a1 _ r rfl
    refine ref20_Cut_peek.spec hF.peek h6 (cut_step u6.wf h6 fun S8 u8 n8 b1 _ b3 => ?_)
    have u08 := u6.trans u8
    have raw : ∃ (x : Int) (b : Bool), S8.get c = some (.cells [.str s, .int .i64 x, .bool b] true) := by
      match r, b1, b3 with
      | [], _, b3 => obtain ⟨x, h⟩ := b3 rfl; exact ⟨x, false, h⟩
      | b :: r, b1, _ => exact (b1 b r rfl).raw
    obtain ⟨x, b', raw⟩ := raw
    have is : ∀ n : Nat, n ≠ 0 → n < 256 → (((peekJ (some r)).toNat : Nat) : Int) = (n : Nat) → ∃ t, r = UInt8.ofNat n :: t := fun n a b e => by
      obtain ⟨t, e⟩ := (peek_byte _ n a b).mp e
      exact ⟨t, Option.some.inj e⟩
    have isnt : ∀ n : Nat, n ≠ 0 → n < 256 → ¬ (((peekJ (some r)).toNat : Nat) : Int) = (n : Nat) → r.head? ≠ some (UInt8.ofNat n) := fun n a b e hh => by
      match r, hh with
      | d :: t, hh =>
        simp only [List.head?_cons, Option.some.injEq] at hh
        exact e ((peek_byte _ n a b).mpr ⟨t, by rw [hh]⟩)
    refine Join1.mid (fun b S' => S8 = S' ∧ (b = true → ∃ d t, r = d :: t ∧ (d = 34 ∨ d = 92 ∨ d = 47)) ∧ (b = false → ∀ d t, r = d :: t → ¬ (d = 34 ∨ d = 92 ∨ d = 47))) ?_ ?_
    · refine ifC_dec (fun hy => ⟨rfl, fun _ => ?_, fun hb => by cases hb⟩) fun hy => ifC_dec (fun hz => ⟨rfl, fun _ => ?_, fun hb => by cases hb⟩) fun hz => ⟨rfl, fun hb => ?_, fun hb d t e => ?_⟩
      · obtain ⟨t, e⟩ := is 34 (by omega) (by omega) hy; exact ⟨_, t, e, .inl rfl⟩
      · obtain ⟨t, e⟩ := is 92 (by omega) (by omega) hz; exact ⟨_, t, e, .inr (.inl rfl)⟩
      · obtain ⟨t, e⟩ := is 47 (by omega) (by omega) (by simpa using hb); exact ⟨_, t, e, .inr (.inr rfl)⟩
      · have a1 := isnt 34 (by omega) (by omega) hy
        have a2 := isnt 92 (by omega) (by omega) hz
        have a3 := isnt 47 (by omega) (by omega) (by simpa using hb)
        rw [e] at a1 a2 a3
        simp only [List.head?_cons, ne_eq, Option.some.injEq] at a1 a2 a3
        rintro (rfl | rfl | rfl)
        · exact a1 rfl
        · exact a2 rfl
        · exact a3 rfl
    rintro b _ ⟨rfl, hb1, hb0⟩
    refine ifC_tt_ff (fun hb => ?_) fun hb => ?_
    · obtain ⟨d, t, rfl, hd⟩ := hb1 hb
      exact h1 d t (by simp only [escJ]; rw [if_pos hd]) S8 u08 (b1 d t rfl)
    have hn := hb0 hb
    refine ifC_dec (fun hy => ?_) fun hy => ?_
    · obtain ⟨t, rfl⟩ := is 110 (by omega) (by omega) hy
      exact h1 10 t (by simp only [escJ]; rfl) S8 u08 (b1 _ t rfl)
    refine ifC_dec (fun hz => ?_) fun hz => ?_
    · obtain ⟨t, rfl⟩ := is 116 (by omega) (by omega) hz
      exact h1 9 t (by simp only [escJ]; rfl) S8 u08 (b1 _ t rfl)
    refine ifC_dec (fun hq => ?_) fun hq => ?_
    · obtain ⟨t, rfl⟩ := is 117 (by omega) (by omega) hq
      have he : escJ (UInt8.ofNat 117 :: t) = ((comesJ [48, 48] t).bind digitJ).bind fun p => (digitJ p.2).map fun q => (UInt8.ofNat (16 * p.1 + q.1), q.2) := by simp only [escJ]; rfl
      rw [he] at h0 h1
      refine ref20_Cut_word.spec hF u8.wf (b1 _ t rfl) (by decide) (by decide) fun S10 u10 n10 h10 => ?_
      simp only [Option.bind_some] at h10
      have u010 := u08.trans u10
      refine ref20_Cut_digit.spec hF u10.wf h10 (fun e S11 u11 h11 => ?_) fun v t2 e S11 u11 h11 => ?_
      · rw [e] at h0
        refine setI_mk (n := ((16 * 0 : Nat) : Int)) rfl (ref20_Cut_digit.spec hF u11.wf h11 (fun e S12 u12 h12 => ?_) fun v2 t3 e => by cases e)
        refine setI_mk (n := ((0 : Nat) : Int)) rfl (setI_mk (n := (((0 : UInt8).toNat : Nat) : Int)) rfl (h0 rfl 0 S12 ((u010.trans u11).trans u12) h12))
      · rw [e] at h0 h1
        simp only [Option.bind_some] at h0 h1
        have hv : v < 16 := by
          obtain ⟨t', _, e2⟩ := Option.bind_eq_some_iff.mp e
          exact digit_lt e2
        refine setI_mk (n := ((16 * v : Nat) : Int)) (by rw [IntKind.wrap_i64]; omega) (ref20_Cut_digit.spec hF u11.wf h11 (fun e2 S12 u12 h12 => ?_) fun v2 t3 e2 S12 u12 h12 => ?_)
        · simp only [Option.bind_some] at e2
          refine setI_mk (n := ((16 * v : Nat) : Int)) (by rw [IntKind.wrap_i64]; omega) (setI_mk (n := (((UInt8.ofNat (16 * v)).toNat : Nat) : Int)) (by rw [← byte_wrap (by omega)]; exact u8_bits (by omega)) (h0 (by rw [e2]; rfl) _ S12 ((u010.trans u11).trans u12) h12))
        · simp only [Option.bind_some] at e2
          have hv2 := digit_lt e2
          refine setI_mk (n := ((16 * v + v2 : Nat) : Int)) (by rw [IntKind.wrap_i64]; omega) (setI_mk (n := (((UInt8.ofNat (16 * v + v2)).toNat : Nat) : Int)) (by rw [← byte_wrap (by omega)]; exact u8_bits (by omega)) (h1 _ t3 (by rw [e2]; rfl) S12 ((u010.trans u11).trans u12) h12))
    · refine cut_bad u8.wf raw fun S' u n h' => h0 ?_ 0 S' (u08.trans u) h'
      match r, hn, hy, hz, hq with
      | [], _, _, _, _ => rfl
      | d :: t, hn, hy, hz, hq =>
        have a1 : d ≠ 110 := fun e => hy (by rw [e]; rfl)
        have a2 : d ≠ 116 := fun e => hz (by rw [e]; rfl)
        have a3 : d ≠ 117 := fun e => hq (by rw [e]; rfl)
        simp only [escJ]
        rw [if_neg (hn d t rfl), if_neg a1, if_neg a2, if_neg a3]

end Go.Th.L
end

section
/- json's reference: a text cut; lists in memory. -/
set_option linter.unusedSimpArgs false
set_option linter.unusedVariables false
set_option maxHeartbeats 1000000
namespace Go.Th.L
open Go Go.Th Go.Th.Pure
variable {P : Program} {N : Nat → Nat}

theorem CutS.flag {S : St} {c : Nat} {s : Bs8} {o : Option Bs8} (h : CutS S c s o) : loadV S (.ptr c 2) = some (.bool o.isNone) := by
  cases o with
  | none => obtain ⟨x, h⟩ := h; exact ld h rfl
  | some r => obtain ⟨k, _, _, h⟩ := h; exact ld h rfl
theorem text_char' {n : Nat} {acc s : Bs8} (h : s.head? ≠ some 34) : textJ (n + 1) acc s = (charJ s).bind fun p => textJ n (acc ++ [p.1]) p.2 := by
  rw [text_char]
  cases s with
  | nil => rfl
  | cons c s => exact if_neg (fun e => h (by rw [e]; rfl))

def leftN : Option Bs8 → Nat
  | some r => r.length + 1
  | none => 0

theorem ref20_Cut_text.spec (hF : CutF P N) {S : St} (hw : S.Wf) {c : Nat} {s : Bs8} {o : Option Bs8} (h : CutS S c s o) {K : Bs8 → St → Prop} (h0 : o.bind quotJ = none → ∀ (t : Bs8) S', Upd [c] S S' → CutS S' c s none → K t S')
    (h1 : ∀ t r, o.bind quotJ = some (t, r) → ∀ S', Upd [c] S S' → CutS S' c s (some r) → K t S') : CallA P (N Fn.ref20_Cut_text) [.ptr c 0] S (retT [.one .str] K) := by
  refine ref20_Cut_text.run hF.text (ref20_Cut_must.spec hF hw h (b := 34) (by decide) fun S1 u1 n1 c1 => ?_)
  have hclt := h.lt hw
  generalize hR : o.bind quotJ = R at h0 h1
  generalize ho1 : o.bind (comesJ [34]) = o1 at c1
  have hsl : ∀ {S' r}, CutS S' c s (some r) → s.length ≤ 1048576 := fun ⟨_, h, _⟩ => h.2
  have hRb : o1 = none → R = none := by
    intro e
    rw [← hR]
    cases o with
    | none => rfl
    | some r =>
      simp only [Option.bind_some] at ho1
      simp only [Option.bind_some, quotJ, ho1, e, Option.bind_none]
  have hRs : ∀ r, o1 = some r → textJ (r.length + 1) [] r = R := by
    intro r e
    rw [← hR]
    cases o with
    | none => rw [← ho1] at e; cases e
    | some r' =>
      simp only [Option.bind_some] at ho1
      simp only [Option.bind_some, quotJ, ho1, e]
  refine Join1.mid (fun x S2 => ∃ o2 acc, Upd [c] S S2 ∧ CutS S2 c s o2 ∧ Acc S2 S.next 1 x acc.length (bytesV acc) ∧ ((o2 = none ∧ R = none) ∨ (∃ r, o2 = some (34 :: r) ∧ R = some (acc, r)))) ?_ ?_
  · refine Loop1.ind (fun m x S2 => ∃ o2 acc, Upd [c] S S2 ∧ CutS S2 c s o2 ∧ Acc S2 S.next 1 x acc.length (bytesV acc) ∧ acc.length + leftN o2 ≤ 1048577 ∧ ((o2 = none ∧ R = none) ∨ (∃ r, o2 = some r ∧ r.length < m ∧ textJ m acc r = R))) ((o1.getD []).length + 1) ⟨o1, [], u1, c1, Acc.nil _ _ _, ?_, ?_⟩ ?_
    · cases o1 with
      | none => simp [leftN]
      | some r => have := c1.le; have := hsl c1; simp [leftN]; omega
    · cases o1 with
      | none => exact .inl ⟨rfl, hRb rfl⟩
      | some r => exact .inr ⟨r, rfl, by simp, hRs r rfl⟩
    rintro m x S3 ⟨o2, acc, u3, c3, a3, hl3, hcase⟩
    refine Join0.mid (fun S' => S3 = S' ∧ ∃ r, o2 = some r ∧ r.head? ≠ some 34 ∧ r.length < m ∧ textJ m acc r = R) ?_ ?_
    · refine ⟨rfl, ifS_mk (a := .ptr c 2) rfl ⟨_, c3.flag, ?_⟩⟩
      rcases hcase with ⟨rfl, hr⟩ | ⟨r, rfl, hrm, hr⟩
      · exact ifC_ff rfl ⟨none, acc, u3, c3, a3, .inl ⟨rfl, hr⟩⟩
      refine ifC_tt rfl (ref20_Cut_peek.spec hF.peek c3 (ifC_ndec (fun hx => ⟨rfl, r, rfl, fun e => ?_, hrm, hr⟩) fun hx => ?_))
      · match r, e with
        | d :: r, e =>
          simp only [List.head?_cons, Option.some.injEq] at e
          exact hx (by rw [e]; rfl)
      · obtain ⟨r', e⟩ := (peek_byte _ 34 (by omega) (by omega)).mp hx
        simp only [Option.some.injEq] at e
        subst e
        refine ⟨_, acc, u3, c3, a3, .inr ⟨r', rfl, ?_⟩⟩
        obtain ⟨m', rfl⟩ : ∃ k, m = k + 1 := ⟨m - 1, by omega⟩
        rw [← hr, text_char]; rfl
    · rintro _ ⟨rfl, r, rfl, hne, hrm, hr⟩
      obtain ⟨m', rfl⟩ : ∃ k, m = k + 1 := ⟨m - 1, by omega⟩
      rw [text_char' hne] at hr
      have step : ∀ {b : UInt8} {S6 : St} {o6 : Option Bs8}, Upd [c] S3 S6 → CutS S6 c s o6 → acc.length + 1 + leftN o6 ≤ 1048577 → ((o6 = none ∧ R = none) ∨ (∃ r, o6 = some r ∧ r.length < m' ∧ textJ m' (acc ++ [b]) r = R)) →
          newS S6 (.cells [(V.int .u8 (b.toNat : Nat))] true) fun S7 => ifP (appV S7 1 1 x (V.slice S6.next 0 1 1 1 true)) fun x20 S8 => ∃ m, m < m' + 1 ∧ ∃ o2 acc, Upd [c] S S8 ∧ CutS S8 c s o2 ∧ Acc S8 S.next 1 x20 acc.length (bytesV acc) ∧ acc.length + leftN o2 ≤ 1048577 ∧ ((o2 = none ∧ R = none) ∨ (∃ r, o2 = some r ∧ r.length < m ∧ textJ m acc r = R)) := by
        intro b S6 o6 u6 c6 hl6 hc6
        refine newS_mk u6.wf fun S7 g7 m7 n7 => ?_
        have hb : ∀ j ∈ x.block, j ∉ [c] := fun j hj hm => by rw [List.mem_singleton.mp hm] at hj; have := (a3.own c hj).1; omega
        have a7 := (a3.upd u6 hb).upd g7 (by simp)
        have hs : srcV 1 S7 (.slice S6.next 0 1 1 1 true) = some (1, [V.int .u8 (b.toNat : Nat)]) := by
          simp only [srcV, if_true]
          rw [St.loads_of m7 (by simp)]
          rfl
        have hle := (u3.trans u6).le
        have hle7 := g7.le
        obtain ⟨x', S8, q1, a8, u8, t8⟩ := a7.app g7.wf (by omega) hs rfl rfl (bytes := 1) (by omega) (by omega)
        refine ifP_mk q1 ⟨m', by omega, o6, acc ++ [b], ?_, c6.grow g7 |>.upd u8 fun hm => ?_, ?_, by simp; omega, hc6⟩
        · exact ((u3.trans u6).trans (g7.mono (by simp))).after u8 fun j hj => .inl (a3.own j hj).1
        · have := (a3.own c hm).1; omega
        · rw [List.length_append, bytesV_append]
          exact a8
      refine ref20_Cut_char.spec hF u3.wf c3 (fun e b S6 u6 c6 => ?_) fun b r2 e S6 u6 c6 => ?_
      · simp only [Option.bind_some] at e
        rw [e] at hr
        simp only [leftN] at hl3
        exact step u6 c6 (by simp only [leftN]; omega) (.inl ⟨rfl, hr.symm⟩)
      · simp only [Option.bind_some] at e
        rw [e] at hr
        have hcl := char_len e
        simp only [leftN] at hl3
        exact step u6 c6 (by simp only [leftN]; omega) (.inr ⟨r2, rfl, by omega, hr⟩)
  · rintro x S2 ⟨o2, acc, u2, c2, a2, hcase⟩
    refine ref20_Cut_must.spec hF u2.wf c2 (b := 34) (by decide) fun S9 u9 n9 c9 => ?_
    have hb : ∀ j ∈ x.block, j ∉ [c] := fun j hj hm => by rw [List.mem_singleton.mp hm] at hj; have := (a2.own c hj).1; omega
    refine ⟨acc, bytes_str (SlAt.bytes (a2.upd u9 hb).at_), ?_⟩
    rcases hcase with ⟨rfl, rfl⟩ | ⟨r, rfl, rfl⟩
    · exact h0 rfl acc S9 (u2.trans u9) c9
    · exact h1 acc r rfl S9 (u2.trans u9) (by simpa [comesJ] using c9)

end Go.Th.L
end

section
/- json's reference: a list of values being built. -/
set_option linter.unusedSimpArgs false
set_option linter.unusedVariables false
set_option maxHeartbeats 1000000
namespace Go.Th.L
open Go Go.Th Go.Th.Pure
variable {P : Program} {N : Nat → Nat}

structure LAt (S : St) (b : Nat) (l : List JV) (ns : List Bs8) (lv nv : V) (es : List (List V)) (F : List Nat) : Prop where
  a : Acc S b 5 lv l.length es.flatten
  n : Acc S b 1 nv ns.length (ns.map V.str)
  e : EAt S b l es F
  d1 : ∀ j ∈ lv.block, j ∉ F ∧ j ∉ nv.block
  d2 : ∀ j ∈ nv.block, j ∉ F
section
variable {S S' : St} {b : Nat} {l : List JV} {ns : List Bs8} {lv nv : V} {es : List (List V)} {F : List Nat}
theorem LAt.nil (S : St) (b : Nat) : LAt S b [] [] .nilSlice .nilSlice [] [] :=
  ⟨Acc.nil _ _ _, Acc.nil _ _ _, (by unfold EAt; exact ⟨rfl, rfl⟩), by simp [V.block], by simp [V.block]⟩
theorem LAt.upd {D : List Nat} (h : LAt S b l ns lv nv es F) (u : Upd D S S') (hD : ∀ j ∈ D, j < b) : LAt S' b l ns lv nv es F :=
  ⟨h.a.upd u fun j hj hd => by have := (h.a.own j hj).1; have := hD j hd; omega, h.n.upd u fun j hj hd => by have := (h.n.own j hj).1; have := hD j hd; omega,
    EAt.keep u l h.e fun j hd hF => by have := (EAt.own l h.e j hF).1; have := hD j hd; omega, h.d1, h.d2⟩
theorem LAt.grow (h : LAt S b l ns lv nv es F) (g : Grow S S') : LAt S' b l ns lv nv es F := h.upd g (by simp)
theorem LAt.vat (h : LAt S b l ns lv nv es F) (so n : Int) (t : Bs8) : VAt S b (.mk so n t l ns) lv nv (lv.block ++ (nv.block ++ F)) := by
  unfold VAt
  exact ⟨es, F, h.a, (EAt.len l h.e).2, h.n, h.e, h.d1, h.d2, rfl⟩
theorem LAt.addv (h : LAt S b l ns lv nv es F) (hw : S.Wf) (hb : b ≤ S.next) {v : JV} {lw nw : V} {G : List Nat} (hv : VAt S b v lw nw G) (hG : ∀ j ∈ G, j ∉ lv.block ∧ j ∉ nv.block) {g : Nat} (hg : S.get g = some (.cells (vcells v lw nw) true)) (hn : l.length ≤ 1048576) {K : V → St → Prop}
    (hk : ∀ x S', Upd lv.block S S' → LAt S' b (l ++ [v]) ns x nv (es ++ [vcells v lw nw]) (F ++ G) → K x S') : ifP (appV S 5 80 lv (.slice g 0 1 1 5 true)) K := by
  have hs : srcV 5 S (.slice g 0 1 1 5 true) = some (1, vcells v lw nw) := by
    simp only [srcV, if_true]
    rw [St.loads_of hg (by simp [vcells])]
    rfl
  have o := hv.ones
  obtain ⟨x, S3, q1, a3, u3, t3⟩ := h.a.app hw hb hs rfl (by simp only [vcells, List.all_cons, List.all_nil, o.1, o.2]; rfl) (bytes := 80) (by omega) (by omega)
  have lt : ∀ {j : Nat}, (∃ cs, S.get j = some (.cells cs true)) → j < S.next := fun ⟨_, e⟩ => hw.lt e
  refine ifP_mk q1 (hk x S3 u3 ⟨?_, h.n.upd u3 fun j hj hd => (h.d1 j hd).2 hj, EAt.snoc (VAt.keep u3 v hv fun j hd hj => (hG j hj).1 hd) l (EAt.keep u3 l h.e fun j hd hj => (h.d1 j hd).1 hj), fun j hj => ⟨fun hm => ?_, fun hm => ?_⟩, fun j hj hm => ?_⟩)
  · rw [List.length_append, List.flatten_append, List.flatten_cons, List.flatten_nil, List.append_nil]; exact a3
  · rcases List.mem_append.mp hm with hm | hm
    · rcases t3 j hj with h' | h'
      · exact (h.d1 j h').1 hm
      · have := lt (EAt.own l h.e j hm).2; omega
    · rcases t3 j hj with h' | h'
      · exact (hG j hm).1 h'
      · have := lt (VAt.own v hv j hm).2; omega
  · rcases t3 j hj with h' | h'
    · exact (h.d1 j h').2 hm
    · have := lt (h.n.own j hm).2; omega
  · rcases List.mem_append.mp hm with hm | hm
    · exact h.d2 j hj hm
    · exact (hG j hm).2 hj
theorem LAt.addn (h : LAt S b l ns lv nv es F) (hw : S.Wf) (hb : b ≤ S.next) {t : Bs8} {g : Nat} (hg : S.get g = some (.cells [.str t] true)) (hn : ns.length ≤ 1048576) {K : V → St → Prop}
    (hk : ∀ x S', Upd nv.block S S' → LAt S' b l (ns ++ [t]) lv x es F → K x S') : ifP (appV S 1 16 nv (.slice g 0 1 1 1 true)) K := by
  have hs : srcV 1 S (.slice g 0 1 1 1 true) = some (1, [V.str t]) := by
    simp only [srcV, if_true]
    rw [St.loads_of hg (by simp)]
    rfl
  obtain ⟨x, S3, q1, a3, u3, t3⟩ := h.n.app hw hb hs rfl rfl (bytes := 16) (by omega) (by omega)
  have lt : ∀ {j : Nat}, (∃ cs, S.get j = some (.cells cs true)) → j < S.next := fun ⟨_, e⟩ => hw.lt e
  refine ifP_mk q1 (hk x S3 u3 ⟨h.a.upd u3 fun j hj hd => (h.d1 j hj).2 hd, ?_, EAt.keep u3 l h.e fun j hd hj => h.d2 j hd hj, fun j hj => ⟨(h.d1 j hj).1, fun hm => ?_⟩, fun j hj hm => ?_⟩)
  · rw [List.length_append, List.map_append]; exact a3
  · rcases t3 j hm with h' | h'
    · exact (h.d1 j hj).2 h'
    · have := lt (h.a.own j hj).2; omega
  · rcases t3 j hj with h' | h'
    · exact h.d2 j h' hm
    · have := lt (EAt.own l h.e j hm).2; omega
end

theorem acc_any {S : St} (hw : S.Wf) {b k n : Nat} {x : V} {cs : List V} (hb : b ≤ S.next) (h : Acc S b k x n cs) {g : Nat} {ds : List V} (hg : S.get g = some (.cells ds true)) (hd : ds.length = k) (ho : ds.all V.one = true) (hn : n ≤ 1048577) {bytes : Nat} (hby : bytes ≤ 80) {K : V → St → Prop}
    (hk : ∀ x' S', Upd x.block S S' → Acc S' b k x' (n + 1) (cs ++ ds) → (∀ i ∈ x'.block, i ∈ x.block ∨ S.next ≤ i) → K x' S') : ifP (appV S k bytes x (.slice g 0 1 1 k true)) K := by
  have hs : srcV k S (.slice g 0 1 1 k true) = some (1, ds) := by
    simp only [srcV, if_true, Nat.one_mul]
    rw [St.loads_of hg (by omega)]
    simp [← hd]
  have : (n + 1) * bytes ≤ 1048578 * 80 := Nat.mul_le_mul (by omega) hby
  obtain ⟨x, S3, q1, a3, u3, t3⟩ := h.app hw hb hs (by omega) ho (bytes := bytes) (by omega) (by omega)
  exact ifP_mk q1 (hk x S3 u3 a3 t3)

end Go.Th.L
namespace Go.Th.Pure
open Go
def tailI (e : UInt8) (nm : Bool) (l : List JV) (ns : List Bs8) (r : Bs8) : Option (List JV × List Bs8 × Bs8) :=
  match comesJ [e] r with
  | some r2 => some (l, ns, r2)
  | none => match comesJ [44] r with
    | some r2 => pitJ e nm l ns (blanksJ r2)
    | none => none
theorem pit_tail (e : UInt8) (nm : Bool) (l : List JV) (ns : List Bs8) (s : Bs8) : pitJ e nm l ns s = (headJ nm ns s).bind fun p => (pvJ p.2).bind fun q => tailI e nm (l ++ [q.1]) p.1 (blanksJ q.2) := by
  rw [pitJ_eq]
  cases headJ nm ns s with
  | none => rfl
  | some p =>
    simp only [Option.bind_some]
    cases pvJ p.2 with
    | none => rfl
    | some q => rfl
theorem head_quot (ns : List Bs8) (s : Bs8) : headJ true ns s = (quotJ s).bind fun p => (comesJ [58] (blanksJ p.2)).map fun r => (ns ++ [p.1], blanksJ r) := by
  unfold headJ quotJ
  rw [if_pos rfl]
  cases comesJ [34] s with
  | none => rfl
  | some r =>
    simp only [Option.bind_some]
    cases textJ (r.length + 1) [] r with
    | none => rfl
    | some p => rfl
theorem quot_len {s r t : Bs8} (h : quotJ s = some (t, r)) : r.length < s.length := by
  obtain ⟨r0, e1, e2⟩ := Option.bind_eq_some_iff.mp h
  have := comes_le e1
  have := text_len e2
  omega
end Go.Th.Pure
end

section
/- json's reference: values cut. -/
set_option linter.unusedSimpArgs false
set_option linter.unusedVariables false
set_option maxHeartbeats 1000000
namespace Go.Th.L
open Go Go.Th Go.Th.Pure
variable {P : Program} {N : Nat → Nat}

def CutVOk (P : Program) (N : Nat → Nat) (n : Nat) : Prop := ∀ {S : St} {c : Nat} {s : Bs8} {o : Option Bs8} {K : Int → Int → Bs8 → V → V → St → Prop}, S.Wf → CutS S c s o → (∀ r, o = some r → r.length < n) →
  (o.bind pvJ = none → ∀ (a m : Int) (t : Bs8) (d e : V) S', d.one = true → e.one = true → Upd [c] S S' → CutS S' c s none → K a m t d e S') →
  (∀ v r lv nv F, o.bind pvJ = some (v, r) → ∀ S', Upd [c] S S' → CutS S' c s (some r) → VAt S' S.next v lv nv F → K v.sort v.num v.text lv nv S') →
  CallA P (N Fn.ref20_Cut_value) [.ptr c 0] S (retT [.agg [.int .i64, .int .i64, .str, .any, .any]] K)

theorem peek_is {o : Option Bs8} {e : UInt8} (he : e ≠ 0) : (((peekJ o).toNat : Nat) : Int) = ((e.toNat : Nat) : Int) ↔ ∃ r, o = some (e :: r) := by
  have := peek_byte o e.toNat (fun h => he (by rw [← UInt8.ofNat_toNat (x := e), h]; rfl)) e.toNat_lt
  rw [UInt8.ofNat_toNat] at this
  exact this
theorem comes_one {e : UInt8} {r : Bs8} : comesJ [e] r = none ↔ ∀ t, r ≠ e :: t := by
  cases r with
  | nil => simp [comesJ]
  | cons d r =>
    simp only [comesJ]
    by_cases h : e = d
    · rw [if_pos h, h]; simp
    · rw [if_neg h]; simp; exact fun h' => absurd h'.symm h

theorem ref20_Cut_list.spec (hF : CutF P N) {n : Nat} (hV : CutVOk P N n) {S : St} (hw : S.Wf) {c : Nat} {s : Bs8} {b0 : UInt8} {r0 : Bs8} (h : CutS S c s (some (b0 :: r0))) (hrn : r0.length < n) {e : UInt8} (he : e ≠ 0) {nm : Bool} {K : V → V → St → Prop}
    (h0 : listJ e nm r0 = none → ∀ x y S' n1 n2 cs1 cs2, Upd [c] S S' → CutS S' c s none → Acc S' S.next 5 x n1 cs1 → Acc S' S.next 1 y n2 cs2 → K x y S')
    (h1 : ∀ l ns r, listJ e nm r0 = some (l, ns, r) → ∀ x y es F S', Upd [c] S S' → CutS S' c s (some r) → LAt S' S.next l ns x y es F → K x y S') :
    CallA P (N Fn.ref20_Cut_list) [.ptr c 0, .int .u8 (e.toNat : Nat), .bool nm] S (retT [.one .any, .one .any] K) := by
  have hc := h.lt hw
  have cb : ∀ j ∈ [c], j < S.next := fun j hj => by rw [List.mem_singleton.mp hj]; exact hc
  have hsl : s.length ≤ 1048576 := by obtain ⟨_, h, _⟩ := h; exact h.2
  have hr0s : r0.length + 1 ≤ s.length := h.le
  generalize hR : listJ e nm r0 = R at h0 h1
  refine ref20_Cut_list.run hF.list (cut_step hw h fun S1 u1 n1 a1 _ _ => ref20_Cut_blanks.spec hF u1.wf (a1 b0 r0 rfl) fun S2 u2 n2 c2 => ?_)
  simp only [Option.map_some] at c2
  have u02 := u1.trans u2
  have bl0 := blanks_le r0
  -- the ends of the loop
  have endb : ∀ {S3 x y k1 k2 cs1 cs2}, Upd [c] S S3 → CutS S3 c s none → Acc S3 S.next 5 x k1 cs1 → Acc S3 S.next 1 y k2 cs2 → R = none → CallA P (N Fn.ref20_Cut_must) [.ptr c 0, .int .u8 (e.toNat : Nat)] S3 (retT [] (K x y)) := by
    intro S3 x y k1 k2 cs1 cs2 u3 c3 a1 a2 hr
    refine ref20_Cut_must.spec hF u3.wf c3 he fun S7 u7 n7 c7 => h0 hr x y S7 k1 k2 cs1 cs2 (u3.trans u7) c7 (a1.upd u7 fun j hj hd => ?_) (a2.upd u7 fun j hj hd => ?_)
    · have := (a1.own j hj).1; have := cb j hd; omega
    · have := (a2.own j hj).1; have := cb j hd; omega
  have endg : ∀ {S3 x y l ns es F r}, Upd [c] S S3 → CutS S3 c s (some (e :: r)) → LAt S3 S.next l ns x y es F → R = some (l, ns, r) → CallA P (N Fn.ref20_Cut_must) [.ptr c 0, .int .u8 (e.toNat : Nat)] S3 (retT [] (K x y)) := by
    intro S3 x y l ns es F r u3 c3 a hr
    refine ref20_Cut_must.spec hF u3.wf c3 he fun S7 u7 n7 c7 => h1 l ns r hr x y es F S7 (u3.trans u7) (by simpa [comesJ] using c7) (a.upd u7 cb)
  refine Loop3.ind (fun m x y z S' => Upd [c] S S' ∧ ((∃ l ns r es F, CutS S' c s (some r) ∧ LAt S' S.next l ns x y es F ∧ z = (l.length : Nat) ∧ (l = [] → ns = [] ∧ R = (match comesJ [e] r with
      | some r2 => some ([], [], r2)
      | none => pitJ e nm [] [] r)) ∧ (l ≠ [] → R = tailI e nm l ns r) ∧ r.length < m ∧ r.length < n ∧ l.length + r.length ≤ 1048576 ∧ ns.length ≤ l.length) ∨ (R = none ∧ CutS S' c s none ∧ ∃ k1 cs1 k2 cs2, Acc S' S.next 5 x k1 cs1 ∧ Acc S' S.next 1 y k2 cs2))) ((blanksJ r0).length + 1)
    ⟨u02, .inl ⟨[], [], _, [], [], c2, LAt.nil _ _, rfl, fun _ => ⟨rfl, hR.symm⟩, fun h => absurd rfl h, by omega, by omega, by simp; omega, by simp⟩⟩ ?_
  rintro m x y z S3 ⟨u3, ⟨l, ns, r, es, F, c3, a3, rfl, hnil, hcons, hrm, hrn3, hlr, hnl⟩ | ⟨hr, c3, k1, cs1, k2, cs2, a3, b3⟩⟩
  rotate_left
  · exact Join0.mid (fun _ => False) ⟨rfl, ifS_mk (a := .ptr c 2) rfl ⟨true, c3.flag, ifC_ff rfl (endb u3 c3 a3 b3 hr)⟩⟩ fun _ h => h.elim
  have hcl : ∀ {x : Int}, (0 : Int) < ((l.length : Nat) : Int) → l ≠ [] := fun h hl => by rw [hl] at h; exact absurd h (by decide)
  refine Join0.mid (fun S' => S3 = S' ∧ (l = [] → comesJ [e] r = none)) ?_ ?_
  · refine ⟨rfl, ifS_mk (a := .ptr c 2) rfl ⟨false, c3.flag, ifC_tt rfl (ifC_dec (fun hz => ⟨rfl, fun hl => absurd hl (hcl (x := 0) hz)⟩) fun hz => ?_)⟩⟩
    have hl : l = [] := by
      cases l with
      | nil => rfl
      | cons => exact absurd (by simp) hz
    obtain ⟨rfl, hR3⟩ := hnil hl
    subst hl
    refine ref20_Cut_peek.spec hF.peek c3 (ifC_ndec (fun hp => ⟨rfl, fun _ => comes_one.mpr fun t ht => hp ((peek_is he).mpr ⟨t, by rw [ht]⟩)⟩) fun hp => ?_)
    obtain ⟨t, ht⟩ := (peek_is he).mp hp
    simp only [Option.some.injEq] at ht
    subst ht
    exact endg u3 c3 a3 (by rw [hR3]; simp [comesJ])
  rintro _ ⟨rfl, hne⟩
  -- ahead of an element
  refine Join0.mid (fun S8 => Upd [c] S S8 ∧ LAt S8 S.next l ns x y es F ∧ ((∃ r8, CutS S8 c s (some r8) ∧ R = pitJ e nm l ns r8 ∧ r8.length ≤ r.length) ∨ (R = none ∧ CutS S8 c s none))) ?_ ?_
  · refine ifC_dec (fun hz => ?_) fun hz => ?_
    · have hl := hcl (x := 0) hz
      have hR3 := hcons hl
      refine ref20_Cut_peek.spec hF.peek c3 (ifC_dec (fun hp => ?_) fun hp => ?_)
      · obtain ⟨t, ht⟩ := (peek_is he).mp hp
        simp only [Option.some.injEq] at ht
        subst ht
        exact endg u3 c3 a3 (by rw [hR3]; simp [tailI, comesJ])
      · have hce : comesJ [e] r = none := comes_one.mpr fun t ht => hp ((peek_is he).mpr ⟨t, by rw [ht]⟩)
        unfold tailI at hR3
        rw [hce] at hR3
        refine ref20_Cut_must.spec hF u3.wf c3 (b := 44) (by decide) fun S11 u11 n11 c11 => ref20_Cut_blanks.spec hF u11.wf c11 fun S12 u12 n12 c12 => ⟨(u3.trans u11).trans u12, (a3.upd u11 cb).upd u12 cb, ?_⟩
        simp only [Option.bind_some] at c12
        cases hq : comesJ [44] r with
        | none => rw [hq] at hR3 c12; exact .inr ⟨hR3, c12⟩
        | some r2 =>
          rw [hq] at hR3 c12
          have := comes_le hq
          have := blanks_le r2
          exact .inl ⟨_, c12, hR3, by omega⟩
    · have hl : l = [] := by
        cases l with
        | nil => rfl
        | cons => exact absurd (by simp) hz
      obtain ⟨e1, hR3⟩ := hnil hl
      rw [hne hl] at hR3
      refine ⟨u3, a3, .inl ⟨r, c3, ?_, Nat.le_refl _⟩⟩
      rw [hl, e1]
      exact hR3
  rintro S8 ⟨u8, a8, hcase⟩
  -- its name
  refine Join1.mid (fun y' S13 => Upd [c] S S13 ∧ ((∃ ns' r' es' F', CutS S13 c s (some r') ∧ LAt S13 S.next l ns' x y' es' F' ∧ R = (pvJ r').bind (fun q => tailI e nm (l ++ [q.1]) ns' (blanksJ q.2)) ∧ r'.length ≤ r.length ∧ ns'.length ≤ l.length + 1) ∨ (R = none ∧ CutS S13 c s none ∧ ∃ k2 cs1 cs2, Acc S13 S.next 5 x l.length cs1 ∧ Acc S13 S.next 1 y' k2 cs2 ∧ ∀ j ∈ x.block, j ∉ y'.block))) ?_ ?_
  · cases nm with
    | false =>
      refine ifC_ff rfl ⟨u8, ?_⟩
      rcases hcase with ⟨r8, c8, hR8, hle⟩ | ⟨hr, c8⟩
      · refine .inl ⟨ns, r8, es, F, c8, a8, ?_, hle, by omega⟩
        rw [hR8, pit_tail]
        rfl
      · exact .inr ⟨hr, c8, _, _, _, a8.a, a8.n, fun j hj => (a8.d1 j hj).2⟩
    | true =>
      have nameB : ∀ {S14 : St} {t : Bs8}, Upd [c] S8 S14 → CutS S14 c s none → R = none → newS S14 (.cells [(V.str t)] true) fun S15 => ifP (appV S15 1 16 y (V.slice S14.next 0 1 1 1 true)) fun x52 S16 =>
          CallA P (N Fn.ref20_Cut_blanks) [.ptr c 0] S16 (retT [] fun (S17 : St) => CallA P (N Fn.ref20_Cut_must) [.ptr c 0, (V.int .u8 58)] S17 (retT [] fun (S18 : St) => CallA P (N Fn.ref20_Cut_blanks) [.ptr c 0] S18 (retT [] fun (S19 : St) =>
          Upd [c] S S19 ∧ ((∃ ns' r' es' F', CutS S19 c s (some r') ∧ LAt S19 S.next l ns' x x52 es' F' ∧ R = (pvJ r').bind (fun q => tailI e true (l ++ [q.1]) ns' (blanksJ q.2)) ∧ r'.length ≤ r.length ∧ ns'.length ≤ l.length + 1) ∨ (R = none ∧ CutS S19 c s none ∧ ∃ k2 cs1 cs2, Acc S19 S.next 5 x l.length cs1 ∧ Acc S19 S.next 1 x52 k2 cs2 ∧ ∀ j ∈ x.block, j ∉ x52.block))))) := by
        intro S14 t u14 c14 hr
        refine newS_mk u14.wf fun S15 g15 m15 n15 => ?_
        have a15 := (a8.upd u14 cb).grow g15
        have hbn : S.next ≤ S15.next := Nat.le_trans (u8.trans u14).le g15.le
        refine a15.addn g15.wf hbn m15 (by omega) fun x52 S16 u16 a16 => ?_
        have c16 : CutS S16 c s none := (c14.grow g15).upd u16 fun hm => by have := (a15.n.own c hm).1; omega
        have u016 : Upd [c] S S16 := ((u8.trans u14).trans (g15.mono (by simp))).after u16 fun j hj => .inl (a15.n.own j hj).1
        refine ref20_Cut_blanks.spec hF u16.wf c16 fun S17 u17 n17 c17 => ref20_Cut_must.spec hF u17.wf c17 (b := 58) (by decide) fun S18 u18 n18 c18 => ref20_Cut_blanks.spec hF u18.wf c18 fun S19 u19 n19 c19 => ⟨((u016.trans u17).trans u18).trans u19, .inr ⟨hr, c19, ?_⟩⟩
        have a19 := ((a16.upd u17 cb).upd u18 cb).upd u19 cb
        exact ⟨_, _, _, a19.a, a19.n, fun j hj => (a19.d1 j hj).2⟩
      refine ifC_tt rfl ?_
      rcases hcase with ⟨r8, c8, hR8, hle⟩ | ⟨hr, c8⟩
      rotate_left
      · exact ref20_Cut_text.spec hF u8.wf c8 (fun _ t S14 u14 c14 => nameB u14 c14 hr) fun t r' e' => by cases e'
      rw [pit_tail, head_quot] at hR8
      refine ref20_Cut_text.spec hF u8.wf c8 (fun e1 t S14 u14 c14 => nameB u14 c14 ?_) fun t r' e1 S14 u14 c14 => ?_
      · simp only [Option.bind_some] at e1
        rw [hR8, e1]; rfl
      · simp only [Option.bind_some] at e1
        have hql := quot_len e1
        rw [e1] at hR8
        simp only [Option.bind_some] at hR8
        refine newS_mk u14.wf fun S15 g15 m15 n15 => ?_
        have a15 := (a8.upd u14 cb).grow g15
        have hbn : S.next ≤ S15.next := Nat.le_trans (u8.trans u14).le g15.le
        refine a15.addn g15.wf hbn m15 (by omega) fun x52 S16 u16 a16 => ?_
        have c16 := (c14.grow g15).upd u16 fun hm => by have := (a15.n.own c hm).1; omega
        have u016 : Upd [c] S S16 := ((u8.trans u14).trans (g15.mono (by simp))).after u16 fun j hj => .inl (a15.n.own j hj).1
        refine ref20_Cut_blanks.spec hF u16.wf c16 fun S17 u17 n17 c17 => ref20_Cut_must.spec hF u17.wf c17 (b := 58) (by decide) fun S18 u18 n18 c18 => ref20_Cut_blanks.spec hF u18.wf c18 fun S19 u19 n19 c19 => ⟨((u016.trans u17).trans u18).trans u19, ?_⟩
        have a19 := ((a16.upd u17 cb).upd u18 cb).upd u19 cb
        simp only [Option.map_some, Option.bind_some] at c19
        cases hq : comesJ [58] (blanksJ r') with
        | none =>
          rw [hq] at hR8 c19
          exact .inr ⟨hR8, c19, _, _, _, a19.a, a19.n, fun j hj => (a19.d1 j hj).2⟩
        | some r2 =>
          rw [hq] at hR8 c19
          simp only [Option.map_some, Option.bind_some] at hR8 c19
          have := comes_le hq
          have := blanks_le r'
          have := blanks_le r2
          exact .inl ⟨_, _, _, _, c19, a19, hR8, by omega, by simp; omega⟩
  rintro y' S13 ⟨u13, hcase⟩
  -- the element
  have eltB : ∀ {S20 : St} {a d : Int} {t : Bs8} {p q : V} {k2 : Nat} {cs1 cs2 : List V}, Upd [c] S S20 → CutS S20 c s none → R = none → p.one = true → q.one = true → Acc S20 S.next 5 x l.length cs1 → Acc S20 S.next 1 y' k2 cs2 → (∀ j ∈ x.block, j ∉ y'.block) → newS S20 (.cells [(V.int .i64 a), (V.int .i64 d), (V.str t), p, q] true) fun S21 => ifP (appV S21 5 80 x (V.slice S20.next 0 1 1 5 true)) fun x63 S22 =>
      CallA P (N Fn.ref20_Cut_blanks) [.ptr c 0] S22 (retT [] fun (S23 : St) => setI (IntKind.i64.wrap (((l.length : Nat) : Int) + (1 : Int))) fun z => ∃ m', m' < m ∧ Upd [c] S S23 ∧ ((∃ l ns r es F, CutS S23 c s (some r) ∧ LAt S23 S.next l ns x63 y' es F ∧ z = (l.length : Nat) ∧ (l = [] → ns = [] ∧ R = (match comesJ [e] r with
      | some r2 => some ([], [], r2)
      | none => pitJ e nm [] [] r)) ∧ (l ≠ [] → R = tailI e nm l ns r) ∧ r.length < m' ∧ r.length < n ∧ l.length + r.length ≤ 1048576 ∧ ns.length ≤ l.length) ∨ (R = none ∧ CutS S23 c s none ∧ ∃ k1 cs1 k2 cs2, Acc S23 S.next 5 x63 k1 cs1 ∧ Acc S23 S.next 1 y' k2 cs2))) := by
    intro S20 a d t p q k2 cs1 cs2 u20 c20 hr hp hq ax ay hdj
    refine newS_mk u20.wf fun S21 g21 m21 n21 => ?_
    have hle20 := u20.le
    have hle21 := g21.le
    refine acc_any g21.wf (by omega) (ax.upd g21 (by simp)) m21 rfl (by simp only [List.all_cons, List.all_nil, hp, hq]; rfl) (by omega) (by omega) fun x63 S22 u22 a22 t22 => ?_
    have c22 : CutS S22 c s none := (c20.grow g21).upd u22 fun hm => by have := (ax.own c hm).1; omega
    have u022 : Upd [c] S S22 := (u20.trans (g21.mono (by simp))).after u22 fun j hj => .inl (ax.own j hj).1
    refine ref20_Cut_blanks.spec hF u22.wf c22 fun S23 u23 n23 c23 => setI_mk rfl ⟨0, by omega, u022.trans u23, .inr ⟨hr, c23, _, _, _, _, a22.upd u23 fun j hj hd => ?_, ((ay.upd g21 (by simp)).upd u22 fun j hj hd => hdj j hd hj).upd u23 fun j hj hd => ?_⟩⟩
    · have := (a22.own j hj).1; have := cb j hd; omega
    · have := (ay.own j hj).1; have := cb j hd; omega
  rcases hcase with ⟨ns', r', es', F', c13, a13, hR13, hle13, hns13⟩ | ⟨hr, c13, k2, cs1, cs2, ax, ay, hdj⟩
  rotate_left
  · refine hV u13.wf c13 (fun r e => by cases e) (fun _ a m t d e S20 h1 h2 u20 c20 => ?_) fun v r lv nv F e => by cases e
    exact eltB (u13.trans u20) c20 hr h1 h2 (ax.upd u20 fun j hj hd => by have := (ax.own j hj).1; have := cb j hd; omega) (ay.upd u20 fun j hj hd => by have := (ay.own j hj).1; have := cb j hd; omega) hdj
  refine hV u13.wf c13 (fun r e => by simp only [Option.some.injEq] at e; subst e; omega) (fun e1 a m t d e S20 h1 h2 u20 c20 => ?_) fun v r2 lw nw G e1 S20 u20 c20 v20 => ?_
  · simp only [Option.bind_some] at e1
    rw [e1] at hR13
    have a20 := a13.upd u20 cb
    exact eltB (u13.trans u20) c20 hR13 h1 h2 a20.a a20.n fun j hj => (a20.d1 j hj).2
  · simp only [Option.bind_some] at e1
    rw [e1] at hR13
    simp only [Option.bind_some] at hR13
    have a20 := a13.upd u20 cb
    have lt13 : ∀ {j : Nat}, (∃ cs, S13.get j = some (.cells cs true)) → j < S13.next := fun ⟨_, e⟩ => u13.wf.lt e
    have hlen := (left_len _).1 e1
    have hbl := blanks_le r2
    refine newS_mk u20.wf fun S21 g21 m21 n21 => ?_
    have a21 := a20.grow g21
    have hle := (u13.trans u20).le
    have hle21 := g21.le
    refine a21.addv g21.wf (by omega) (VAt.below u13.le v (v20.grow g21)) (fun j hj => ?_) m21 (by omega) fun x63 S22 u22 a22 => ?_
    · have := (VAt.own v v20 j hj).1
      exact ⟨fun hm => by have := lt13 (a13.a.own j hm).2; omega, fun hm => by have := lt13 (a13.n.own j hm).2; omega⟩
    have c22 := (c20.grow g21).upd u22 fun hm => by have := (a21.a.own c hm).1; omega
    have u022 : Upd [c] S S22 := ((u13.trans u20).trans (g21.mono (by simp))).after u22 fun j hj => .inl (a21.a.own j hj).1
    refine ref20_Cut_blanks.spec hF u22.wf c22 fun S23 u23 n23 c23 => setI_mk (n := ((l.length + 1 : Nat) : Int)) (wrap_nat (by omega)) ⟨m - 1, by omega, u022.trans u23, .inl ⟨l ++ [v], ns', blanksJ r2, _, _, c23, a22.upd u23 cb, by simp, fun h => by simp at h, fun _ => hR13, by omega, by omega, by simp; omega, by simp; omega⟩⟩

end Go.Th.L
end

section
/- json's reference: values cut. -/
set_option linter.unusedSimpArgs false
set_option linter.unusedVariables false
set_option maxHeartbeats 1000000
namespace Go.Th.L
open Go Go.Th Go.Th.Pure
variable {P : Program} {N : Nat → Nat}

theorem LAt.vat0 {S : St} {b : Nat} {l : List JV} {ns : List Bs8} {lv nv : V} {es : List (List V)} {F : List Nat} (h : LAt S b l ns lv nv es F) (so n : Int) (t : Bs8) : VAt S b (.mk so n t l []) lv .nilSlice (lv.block ++ F) := by
  unfold VAt
  exact ⟨es, F, h.a, (EAt.len l h.e).2, Acc.nil _ _ _, h.e, fun j hj => ⟨(h.d1 j hj).1, by simp [V.block]⟩, by simp [V.block], by simp [V.block]⟩

theorem ref20_Cut_value.step (hF : CutF P N) {n : Nat} {S : St} {c : Nat} {s : Bs8} {o : Option Bs8} {K : Int → Int → Bs8 → V → V → St → Prop} (hV : ∀ r, o = some r → CutVOk P N n) (hw : S.Wf) (h : CutS S c s o) (hn : ∀ r, o = some r → r.length < n + 1)
    (h0 : o.bind pvJ = none → ∀ (a m : Int) (t : Bs8) (d e : V) S', d.one = true → e.one = true → Upd [c] S S' → CutS S' c s none → K a m t d e S')
    (h1 : ∀ v r lv nv F, o.bind pvJ = some (v, r) → ∀ S', Upd [c] S S' → CutS S' c s (some r) → VAt S' S.next v lv nv F → K v.sort v.num v.text lv nv S') :
    CallA P (N Fn.ref20_Cut_value) [.ptr c 0] S (retT [.agg [.int .i64, .int .i64, .str, .any, .any]] K) := by
  have hclt := h.lt hw
  refine ref20_Cut_value.run hF.value (newS_mk hw fun S1 g1 m1 n1 => ref20_Cut_peek.spec hF.peek (h.grow g1) ?_)
  have c1 := h.grow g1
  have hpk : ∀ {b : UInt8}, b ≠ 0 → (((peekJ o).toNat : Nat) : Int) = (b.toNat : Nat) → ∃ r, o = some (b :: r) := fun hb e => (peek_is hb).mp e
  -- what is stored, and told
  have out : ∀ {S2 : St} {a d : Int} {t : Bs8} {p q : V}, Upd [c] S1 S2 → p.one = true → q.one = true → (∀ S', Upd [S.next] S2 S' → Upd [c] S S' → K a d t p q S') →
      ifS (storeV S2 5 (.ptr S.next 0) (.agg [.int .i64 a, .int .i64 d, .str t, p, q])) fun S4 => ∃ xa xb : Int, ∃ xc : Bs8, ∃ xd xe : V, cellNV S4 5 (.ptr S.next 0) = some (.agg [.int .i64 xa, .int .i64 xb, .str xc, xd, xe]) ∧ K xa xb xc xd xe S4 := by
    intro S2 a d t p q u2 hp hq hk
    refine fin_mk u2.wf (u2.get m1 (by simp; omega)) hp hq fun S' u => hk S' u ?_
    exact Upd.after (Upd.trans (g1.mono (by simp)) u2) u fun j hj => .inl (by rw [List.mem_singleton.mp hj]; exact Nat.le_refl _)
  have cc : c ∉ [S.next] := by simp; omega
  have nilv : ∀ {S' : St} (so m : Int) (t : Bs8), VAt S' S.next (.mk so m t [] []) .nilSlice .nilSlice [] := fun {S'} so m t => VAt.nil S' S.next so m t
  have c1lt : c < S1.next := by omega
  -- one of the words
  have word : ∀ {w : Bs8} {b : UInt8} {so : Int}, b ≠ 0 → (∀ x ∈ b :: w, x ≠ 0) → (b :: w).length ≤ 100 → (((peekJ o).toNat : Nat) : Int) = (b.toNat : Nat) → (∀ r, pvJ (b :: r) = (comesJ (b :: w) (b :: r)).map fun r => (.mk so 0 [] [] [], r)) →
      CallA P (N Fn.ref20_Cut_word) [.ptr c 0, .str (b :: w)] S1 (retT [] fun (S3 : St) => ifS (storeV S3 5 (.ptr S.next 0) (.agg [.int .i64 so, .int .i64 0, .str [], .nilSlice, .nilSlice])) fun S4 => ∃ xa xb : Int, ∃ xc : Bs8, ∃ xd xe : V, cellNV S4 5 (.ptr S.next 0) = some (.agg [.int .i64 xa, .int .i64 xb, .str xc, xd, xe]) ∧ K xa xb xc xd xe S4) := by
    intro w b so hb hw0 hl hp hv
    obtain ⟨r, rfl⟩ := hpk hb hp
    have hv := hv r
    simp only [Option.bind_some] at h0 h1
    rw [hv] at h0 h1
    refine ref20_Cut_word.spec hF g1.wf c1 hw0 hl fun S3 u3 n3 c3 => out u3 rfl rfl fun S' u' u => ?_
    simp only [Option.bind_some] at c3
    cases hq : comesJ (b :: w) (b :: r) with
    | none => rw [hq] at h0 c3; exact h0 rfl _ _ _ _ _ S' rfl rfl u (c3.upd u' cc)
    | some r2 => rw [hq] at h1 c3; exact h1 _ r2 _ _ _ rfl S' u (c3.upd u' cc) (nilv so 0 [])
  refine ifC_dec (fun hx => word (b := 110) (by decide) (by decide) (by decide) hx pv_n) fun x110 => ?_
  refine ifC_dec (fun hx => word (b := 102) (by decide) (by decide) (by decide) hx pv_f) fun x102 => ?_
  refine ifC_dec (fun hx => word (b := 116) (by decide) (by decide) (by decide) hx pv_t) fun x116 => ?_
  refine ifC_dec (fun hx => ?_) fun x34 => ?_
  · obtain ⟨r, rfl⟩ := hpk (b := 34) (by decide) hx
    simp only [Option.bind_some] at h0 h1
    have hq : quotJ (34 :: r) = textJ (r.length + 1) [] r := by simp [quotJ, comesJ]
    rw [pv_q, ← hq] at h0 h1
    refine ref20_Cut_text.spec hF g1.wf c1 (fun e t S3 u3 c3 => out u3 rfl rfl fun S' u' u => ?_) fun t r2 e S3 u3 c3 => out u3 rfl rfl fun S' u' u => ?_
    · simp only [Option.bind_some] at e
      rw [e] at h0
      exact h0 rfl _ _ _ _ _ S' rfl rfl u (c3.upd u' cc)
    · simp only [Option.bind_some] at e
      rw [e] at h1
      exact h1 _ r2 _ _ _ rfl S' u (c3.upd u' cc) (nilv 5 0 t)
  have keepA : ∀ {S3 S' : St} {k m : Nat} {x : V} {cs : List V}, Acc S3 S1.next k x m cs → Upd [S.next] S3 S' → x.one = true := fun a _ => Acc.one a
  refine ifC_dec (fun hx => ?_) fun x91 => ?_
  · obtain ⟨r, rfl⟩ := hpk (b := 91) (by decide) hx
    simp only [Option.bind_some] at h0 h1
    rw [pv_l] at h0 h1
    have hrn := hn _ rfl
    simp only [List.length_cons] at hrn
    refine ref20_Cut_list.spec hF (hV _ rfl) g1.wf c1 (by omega) (e := 93) (by decide) (nm := false) (fun e x y S3 k1 k2 cs1 cs2 u3 c3 a3 b3 => ⟨(Acc.cell a3), out u3 (Acc.one a3) rfl fun S' u' u => ?_⟩) fun l ns r2 e x y es F S3 u3 c3 a3 => ⟨(Acc.cell a3.a), out u3 (Acc.one a3.a) rfl fun S' u' u => ?_⟩
    · rw [e] at h0
      exact h0 rfl _ _ _ _ _ S' (Acc.one a3) rfl u (c3.upd u' cc)
    · rw [e] at h1
      refine h1 _ r2 x .nilSlice (x.block ++ F) rfl S' u (c3.upd u' cc) (VAt.below g1.le _ (LAt.vat0 (a3.upd u' fun j hj => ?_) 6 0 []))
      rw [List.mem_singleton.mp hj]; omega
  refine ifC_dec (fun hx => ?_) fun x123 => ?_
  · obtain ⟨r, rfl⟩ := hpk (b := 123) (by decide) hx
    simp only [Option.bind_some] at h0 h1
    rw [pv_o] at h0 h1
    have hrn := hn _ rfl
    simp only [List.length_cons] at hrn
    refine ref20_Cut_list.spec hF (hV _ rfl) g1.wf c1 (by omega) (e := 125) (by decide) (nm := true) (fun e x y S3 k1 k2 cs1 cs2 u3 c3 a3 b3 => ⟨(Acc.cell a3), (Acc.cell b3), out u3 (Acc.one a3) (Acc.one b3) fun S' u' u => ?_⟩) fun l ns r2 e x y es F S3 u3 c3 a3 => ⟨(Acc.cell a3.a), (Acc.cell a3.n), out u3 (Acc.one a3.a) (Acc.one a3.n) fun S' u' u => ?_⟩
    · rw [e] at h0
      exact h0 rfl _ _ _ _ _ S' (Acc.one a3) (Acc.one b3) u (c3.upd u' cc)
    · rw [e] at h1
      refine h1 _ r2 x y _ rfl S' u (c3.upd u' cc) (VAt.below g1.le _ (LAt.vat (a3.upd u' fun j hj => ?_) 7 0 []))
      rw [List.mem_singleton.mp hj]; omega
  · have hd : o.bind pvJ = (o.bind numJ).map fun (p : Int × Bs8) => (.mk 4 p.1 [] [] [], p.2) := by
      cases o with
      | none => rfl
      | some r =>
        simp only [Option.bind_some]
        refine pv_d fun b t e => ?_
        subst e
        have no : ∀ {d : UInt8}, d ≠ 0 → ¬ (((peekJ (some (b :: t))).toNat : Nat) : Int) = ((d.toNat : Nat) : Int) → b ≠ d := fun hd hne e => hne ((peek_is hd).mpr ⟨t, by rw [e]⟩)
        exact ⟨no (by decide) x110, no (by decide) x102, no (by decide) x116, no (by decide) x34, no (by decide) x91, no (by decide) x123⟩
    rw [hd] at h0 h1
    refine ref20_Cut_number.spec hF g1.wf c1 (fun e S3 u3 c3 => out u3 rfl rfl fun S' u' u => ?_) fun v r2 e S3 u3 c3 => out u3 rfl rfl fun S' u' u => ?_
    · rw [e] at h0
      exact h0 rfl _ _ _ _ _ S' rfl rfl u (c3.upd u' cc)
    · rw [e] at h1
      exact h1 _ r2 _ _ _ rfl S' u (c3.upd u' cc) (nilv 4 v [])

theorem ref20_Cut_value.ok (hF : CutF P N) (n : Nat) : CutVOk P N n := by
  induction n with
  | zero =>
    intro S c s o K hw h hn h0 h1
    cases o with
    | some r => exact absurd (hn r rfl) (Nat.not_lt_zero _)
    | none => exact ref20_Cut_value.step hF (n := 0) (fun r e => by cases e) hw h (fun r e => by cases e) h0 h1
  | succ n ih =>
    intro S c s o K hw h hn h0 h1
    exact ref20_Cut_value.step hF (fun _ _ => ih) hw h hn h0 h1

end Go.Th.L
end

section
/- json's reference: a text parsed. -/
set_option linter.unusedSimpArgs false
set_option linter.unusedVariables false
set_option maxHeartbeats 1000000
namespace Go.Th.L
open Go Go.Th Go.Th.Pure
variable {P : Program} {N : Nat → Nat}

structure RefParseF (P : Program) (N : Nat → Nat) : Prop where
  cut : CutF P N
  check : RefCheckF P N
  parse : ref20_Parse.Ok P N

theorem ref20_Parse.spec (hF : RefParseF P N) {S : St} (hw : S.Wf) {s : Bs8} {K : Int → Int → Bs8 → V → V → Int → St → Prop}
    (hk : ∀ lv nv F S', Grow S S' → VAt S' S.next (parseJ s).1 lv nv F → K (parseJ s).1.sort (parseJ s).1.num (parseJ s).1.text lv nv (parseJ s).2 S') : CallA P (N Fn.ref20_Parse) [.str s] S (retT [.agg [.int .i64, .int .i64, .str, .any, .any], .one (.int .i64)] K) := by
  refine ref20_Parse.run hF.parse (newS_mk hw fun S1 g1 m1 n1 => ?_)
  have nil : ∀ {S' : St}, VAt S' S.next jnil .nilSlice .nilSlice [] := fun {S'} => VAt.nil S' S.next 0 0 []
  -- what is stored, and told
  have out : ∀ {S2 : St} {v : JV} {lv nv : V} {F : List Nat} {c : Int} {cs : List V}, parseJ s = (v, c) → Upd [] S S2 → S2.get S.next = some (.cells cs true) → cs.length = 5 → VAt S2 S.next v lv nv F → S.next ∉ F →
      ifS (storeV S2 5 (.ptr S.next 0) (.agg [.int .i64 v.sort, .int .i64 v.num, .str v.text, lv, nv])) fun S4 => ∃ xa xb : Int, ∃ xc : Bs8, ∃ xd xe : V, cellNV S4 5 (.ptr S.next 0) = some (.agg [.int .i64 xa, .int .i64 xb, .str xc, xd, xe]) ∧ K xa xb xc xd xe c S4 := by
    intro S2 v lv nv F c cs e u hc hl hv hF
    have o := hv.ones
    refine st_mk u.wf hc (by simp [V.cells]) (by simp [V.cells, hl]) (by simp only [V.cells, List.all_cons, List.all_nil, o.1, o.2]; rfl) fun S4 u4 m4 n4 => ?_
    have m4 : S4.get S.next = some (.cells (vcells v lv nv) true) := by
      rw [m4]
      match cs, hl with
      | [_, _, _, _, _], _ => rfl
    have := hk lv nv F S4 (u.after u4 fun j hj => .inl (by rw [List.mem_singleton.mp hj]; exact Nat.le_refl _)) (by rw [e]; exact VAt.keep u4 v hv fun j hj => by rw [List.mem_singleton.mp hj]; exact hF)
    rw [e] at this
    exact ⟨_, _, _, _, _, ldC m4 (by simp [vcells]) rfl, this⟩
  refine ifC_dec (fun hl => ?_) fun hl => ?_
  · exact out (v := jnil) (c := 2) (by unfold parseJ; rw [if_pos (by omega)]) g1 m1 rfl nil (by simp)
  have hl : s.length ≤ 16384 := by omega
  have hb := blanks_le s
  have e0 : parseJ s = match pvJ (blanksJ s) with
    | none => (jnil, 200)
    | some (v, r) => if blanksJ r = [] then if checkJ v = 0 then (v, 0) else (jnil, checkJ v) else (jnil, 200) := by
    unfold parseJ; rw [if_neg (by omega)]; rfl
  refine newS_mk g1.wf fun S3 g3 m3 n3 => ?_
  have c3 : CutS S3 S1.next s (some s) := ⟨0, ⟨Nat.zero_le _, by omega⟩, rfl, m3⟩
  have g03 := g1.trans g3
  have hcb : ∀ j ∈ [S1.next], S.next ≤ j := fun j hj => by rw [List.mem_singleton.mp hj]; exact g1.le
  have up : ∀ {S' : St}, Upd [S1.next] S3 S' → Upd [] S S' := fun u => g03.after u fun j hj => .inl (hcb j hj)
  have cell : ∀ {S' : St}, Upd [S1.next] S3 S' → S'.get S.next = some (.cells [(V.int .i64 0), (V.int .i64 0), (V.str ([] : List UInt8)), V.nilSlice, V.nilSlice] true) := fun u => u.get (g3.get m1) (by simp; omega)
  refine ref20_Cut_blanks.spec hF.cut g3.wf c3 fun S4 u4 n4 c4 => ?_
  simp only [Option.map_some] at c4
  -- behind the value
  have rest : ∀ {S5 : St} {o : Option Bs8} {a b : Int} {t : Bs8} {d e : V}, Upd [S1.next] S3 S5 → CutS S5 S1.next s o → d.one = true → e.one = true → (o = none → parseJ s = (jnil, 200)) → (∀ r, o = some r → ∃ v F, pvJ (blanksJ s) = some (v, r) ∧ a = v.sort ∧ b = v.num ∧ t = v.text ∧ VAt S5 S4.next v d e F) →
      newS S5 (.cells [(V.int .i64 0), (V.int .i64 0), (V.str ([] : List UInt8)), V.nilSlice, V.nilSlice] true) fun S6 =>
   ifS (storeV S6 5 (V.ptr S5.next 0) (V.agg [(V.int .i64 a), (V.int .i64 b), (V.str t), d, e])) fun S7 =>
   CallA P (N Fn.ref20_Cut_blanks) [(V.ptr S1.next 0)] S7 (retT [] fun (S8 : St) =>
   Join1 (fun (k1 : Bool → St → Prop) =>
    nilV (V.ptr S1.next 0) = some (V.ptr S1.next 0) ∧
    ∃ x23 : Bool, loadV S8 (V.ptr S1.next 2) = some (V.bool x23) ∧
    ifC x23
    (k1 true S8)
    (nilV (V.ptr S1.next 0) = some (V.ptr S1.next 0) ∧
    ∃ x28 : Int, loadV S8 (V.ptr S1.next 1) = some (V.int .i64 x28) ∧
    k1 (!decide (x28 = (s.length : Int))) S8))
   (fun (x32 : Bool) (S9 : St) =>
    ifC x32
    (ifS (storeV S9 5 (V.ptr S.next 0) (V.agg [(V.int .i64 0), (V.int .i64 0), (V.str ([] : List UInt8)), V.nilSlice, V.nilSlice])) fun S10 =>
     ∃ xr_a_1 xr_b_1 : Int, ∃ xr_c_1 : List UInt8, ∃ xr_d_1 xr_e_1 : V, cellNV S10 5 (V.ptr S.next 0) = some (V.agg [(V.int .i64 xr_a_1), (V.int .i64 xr_b_1), (V.str xr_c_1), xr_d_1, xr_e_1]) ∧ K xr_a_1 xr_b_1 xr_c_1 xr_d_1 xr_e_1 200 S10)
    (∃ x34_a x34_b : Int, ∃ x34_c : List UInt8, ∃ x34_d x34_e : V, loadNV S9 5 (V.ptr S5.next 0) = some (V.agg [(V.int .i64 x34_a), (V.int .i64 x34_b), (V.str x34_c), x34_d, x34_e]) ∧
     CallA P (N Fn.ref20_Check) [(V.agg [(V.int .i64 x34_a), (V.int .i64 x34_b), (V.str x34_c), x34_d, x34_e])] S9 (retT [(.one (.int .i64))] fun (x35 : Int) (S11 : St) =>
     ifC (!decide (x35 = (0 : Int)))
     (ifS (storeV S11 5 (V.ptr S.next 0) (V.agg [(V.int .i64 0), (V.int .i64 0), (V.str ([] : List UInt8)), V.nilSlice, V.nilSlice])) fun S12 =>
      ∃ xr_a_2 xr_b_2 : Int, ∃ xr_c_2 : List UInt8, ∃ xr_d_2 xr_e_2 : V, cellNV S12 5 (V.ptr S.next 0) = some (V.agg [(V.int .i64 xr_a_2), (V.int .i64 xr_b_2), (V.str xr_c_2), xr_d_2, xr_e_2]) ∧ K xr_a_2 xr_b_2 xr_c_2 xr_d_2 xr_e_2 x35 S12)
     (∃ x40_a x40_b : Int, ∃ x40_c : List UInt8, ∃ x40_d x40_e : V, loadNV S11 5 (V.ptr S5.next 0) = some (V.agg [(V.int .i64 x40_a), (V.int .i64 x40_b), (V.str x40_c), x40_d, x40_e]) ∧
      ifS (storeV S11 5 (V.ptr S.next 0) (V.agg [(V.int .i64 x40_a), (V.int .i64 x40_b), (V.str x40_c), x40_d, x40_e])) fun S13 =>
      ∃ xr_a_3 xr_b_3 : Int, ∃ xr_c_3 : List UInt8, ∃ xr_d_3 xr_e_3 : V, cellNV S13 5 (V.ptr S.next 0) = some (V.agg [(V.int .i64 xr_a_3), (V.int .i64 xr_b_3), (V.str xr_c_3), xr_d_3, xr_e_3]) ∧ K xr_a_3 xr_b_3 xr_c_3 xr_d_3 xr_e_3 0 S13))))) := by
    intro S5 o a b t d e u5 c5 hd he h0 h1
    have hle5 := u5.le
    refine newS_mk u5.wf fun S6 g6 m6 n6 => st_mk g6.wf m6 (by simp [V.cells]) (by simp [V.cells]) (by simp only [V.cells, List.all_cons, List.all_nil, hd, he]; rfl) fun S7 u7 m7 n7 => ?_
    have u57 : Upd [] S5 S7 := g6.after u7 fun j hj => .inl (by rw [List.mem_singleton.mp hj]; exact Nat.le_refl _)
    have clt := c5.lt u5.wf
    refine ref20_Cut_blanks.spec hF.cut u57.wf (c5.upd u57 (by simp)) fun S8 u8 n8 c8 => ?_
    have u08 : Upd [S1.next] S3 S8 := (u5.trans (u57.mono (by simp))).trans u8
    have m8 : S8.get S5.next = some (.cells [.int .i64 a, .int .i64 b, .str t, d, e] true) := u8.get (by rw [m7]; rfl) (by simp; omega)
    refine Join1.mid (fun x S' => S8 = S' ∧ (x = true → parseJ s = (jnil, 200)) ∧ (x = false → ∃ v F, a = v.sort ∧ b = v.num ∧ t = v.text ∧ VAt S8 S4.next v d e F ∧ deepJ v ≤ 4611686018427387904 ∧ parseJ s = if checkJ v = 0 then (v, 0) else (jnil, checkJ v))) ?_ ?_
    · refine ⟨rfl, _, c8.flag, ?_⟩
      cases o with
      | none => exact ifC_tt rfl ⟨rfl, fun _ => h0 rfl, fun h => by cases h⟩
      | some r =>
        simp only [Option.map_some] at c8
        obtain ⟨k, ⟨k1, k2⟩, k3, k4⟩ := c8
        obtain ⟨v, F, a1, a2, a3, a4, a5⟩ := h1 r rfl
        have hkr : (k = s.length) ↔ blanksJ r = [] := by
          rw [← k3]
          constructor
          · rintro rfl; simp
          · intro h
            have := congrArg List.length h
            simp at this; omega
        refine ifC_ff rfl ⟨rfl, k, ld k4 rfl, rfl, fun h => ?_, fun h => ?_⟩
        · have : ¬ blanksJ r = [] := fun hb => by rw [← hkr] at hb; subst hb; simp at h
          rw [e0, a1]; simp only; rw [if_neg this]
        · have : blanksJ r = [] := hkr.mp (by simp at h; omega)
          refine ⟨v, F, a2, a3, a4, ?_, ?_, by rw [e0, a1]; simp only; rw [if_pos this]⟩
          · refine VAt.keep u8 v (VAt.keep u57 v a5 (by simp)) fun j hj hm => ?_
            rw [List.mem_singleton.mp hj] at hm
            have := (VAt.own v a5 _ hm).1
            have := g3.le
            have := u4.le
            omega
          · have := deep_text a1
            omega
    rintro x _ ⟨rfl, hx1, hx0⟩
    refine ifC_tt_ff (fun hx => ?_) fun hx => ?_
    · exact out (v := jnil) (hx1 hx) (up u08) (cell u08) rfl nil (by simp)
    obtain ⟨v, F, rfl, rfl, rfl, hv, hdp, e1⟩ := hx0 hx
    have hF4 : ∀ j ∈ F, S4.next ≤ j := fun j hj => (VAt.own v hv j hj).1
    have hS4 : S.next < S4.next := by have := g1.le; have := g3.le; have := u4.le; omega
    refine ⟨_, _, _, _, _, ld5 m8, ref20_Check.spec hF.check u8.wf (VAt.rv v hv fun j hj => by obtain ⟨_, _, h⟩ := VAt.own v hv j hj; exact u8.wf.lt h) hdp fun S11 g11 => ?_⟩
    have u011 : Upd [] S S11 := (up u08).trans g11
    have cell11 := g11.get (cell u08)
    refine ifC_ndec (fun hc => ?_) fun hc => ?_
    · rw [if_neg hc] at e1
      exact out (v := jnil) e1 u011 cell11 rfl nil (by simp)
    · rw [if_pos hc] at e1
      refine ⟨_, _, _, _, _, ld5 (g11.get m8), out e1 u011 cell11 rfl (VAt.below (by omega) v (hv.grow g11)) fun hm => by have := hF4 _ hm; omega⟩
  refine ref20_Cut_value.ok hF.cut ((blanksJ s).length + 1) u4.wf c4 (fun r e => by simp only [Option.some.injEq] at e; subst e; omega) (fun e a m t d e' S5 h1 h2 u5 c5 => ?_) fun v r lv nv F e S5 u5 c5 v5 => ?_
  · simp only [Option.bind_some] at e
    exact rest (u4.trans u5) c5 h1 h2 (fun _ => by rw [e0, e]) fun r e => by cases e
  · simp only [Option.bind_some] at e
    have o := v5.ones
    exact rest (u4.trans u5) c5 o.1 o.2 (fun h => by cases h) fun r' e' => by
      simp only [Option.some.injEq] at e'
      subst e'
      exact ⟨v, F, e, rfl, rfl, rfl, v5⟩

end Go.Th.L
end

section
/- json's reference: two values compared. -/
set_option linter.unusedSimpArgs false
set_option linter.unusedVariables false
set_option maxHeartbeats 1000000
namespace Go.Th.L
open Go Go.Th Go.Th.Pure
variable {P : Program} {N : Nat → Nat}

theorem JV.ext {v w : JV} (h1 : v.sort = w.sort) (h2 : v.num = w.num) (h3 : v.text = w.text) (h4 : v.list = w.list) (h5 : v.names = w.names) : v = w := by
  rw [← JV.eta v, ← JV.eta w, h1, h2, h3, h4, h5]

def SamesJ (P : Program) (f : FuncId) (n : Nat) : Prop := ∀ {S : St} {v w : JV} {lv nv lw nw : V} {K : Bool → St → Prop}, S.Wf → RV S S.next v lv nv → RV S S.next w lw nw → SizeOf.sizeOf v < n → (∀ b S', (b = true ↔ v = w) → Grow S S' → K b S') →
  CallA P f [.agg (vcells v lv nv), .agg (vcells w lw nw)] S (retT [.one .bool] K)

theorem ref20_Same.same (hF : ref20_Same.Ok P N) (n : Nat) : SamesJ P (N Fn.ref20_Same) n := by
  induction n with
  | zero =>
    intro S v w lv nv lw nw K _ _ _ h
    exact absurd h (Nat.not_lt_zero _)
  | succ n ih =>
    intro S v w lv nv lw nw K hw hv hz hn hk
    refine ref20_Same.run hF (newS_mk hw fun S1 g1 m1 n1 => newS_mk g1.wf fun S2 g2 m2 n2 => ?_)
    obtain ⟨es, hv⟩ := hv.at_
    obtain ⟨fs, hz⟩ := hz.at_
    have g02 := g1.trans g2
    have v2 := hv.grow g02 g02.le
    have w2 := hz.grow g02 g02.le
    have p2 := g2.get m1
    have no : v ≠ w → ∀ {S'}, Grow S S' → K false S' := fun hne S' g => hk false S' ⟨(fun h => by cases h), fun h => absurd h hne⟩ g
    refine Join0.mid (fun S' => S2 = S' ∧ v.sort = w.sort ∧ v.num = w.num ∧ v.text = w.text ∧ v.list.length = w.list.length ∧ v.names.length = w.names.length) ?_ ?_
    · refine ⟨_, ld p2 rfl, _, ld m2 rfl, ifC_ndec (fun h => no (fun e => h (by rw [e])) g02) fun h1 => ⟨_, ld p2 rfl, _, ld m2 rfl, ifC_ndec (fun h => no (fun e => h (by rw [e])) g02) fun h2 => ⟨_, ld p2 rfl, _, ld m2 rfl, ifC_ndec (fun h => no (fun e => h (by rw [e])) g02) fun h3 => ?_⟩⟩⟩
      refine ifS_mk (ld p2 rfl) ⟨_, v2.len, ifS_mk (ld m2 rfl) ⟨_, w2.len, ifC_ndec (fun h => no (fun e => h (by rw [e])) g02) fun h4 => ifS_mk (ld p2 rfl) ⟨_, v2.nlen, ifS_mk (ld m2 rfl) ⟨_, w2.nlen, ifC_ndec (fun h => no (fun e => h (by rw [e])) g02) fun h5 => ⟨rfl, h1, h2, h3, by omega, by omega⟩⟩⟩⟩⟩
    rintro _ ⟨rfl, h1, h2, h3, h4, h5⟩
    refine Loop1.ind (fun m x S' => S2 = S' ∧ ∃ j : Nat, x = j ∧ j ≤ v.names.length ∧ m = v.names.length - j ∧ v.names.take j = w.names.take j) v.names.length ⟨rfl, 0, rfl, Nat.zero_le _, rfl, by simp⟩ ?_
    rintro m _ _ ⟨rfl, j, rfl, hj, rfl, hd⟩
    refine ifS_mk (ld p2 rfl) ⟨_, v2.nlen, ifC_dec (fun hx => ?_) fun hx => ?_⟩
    · have hj : j < v.names.length := by omega
      have hj2 : j < w.names.length := by omega
      refine ifS_mk (ld p2 rfl) (ifS_mk (v2.nidx hj) ⟨_, v2.name hj, ifS_mk (ld m2 rfl) (ifS_mk (w2.nidx hj2) ⟨_, w2.name hj2, ifC_ndec (fun h => no (fun e => h (by subst e; rfl)) g02) fun he => ?_⟩)⟩)
      refine setI_mk (n := ((j + 1 : Nat) : Int)) (wrap_next hj hv.nle) ⟨v.names.length - (j + 1), by omega, rfl, j + 1, rfl, hj, rfl, ?_⟩
      rw [← List.take_append_getElem hj, ← List.take_append_getElem hj2, hd, he]
    · have hj : j = v.names.length := by omega
      subst hj
      rw [List.take_length, h5, List.take_length] at hd
      refine Loop1.ind (fun m x S' => ∃ j : Nat, x = j ∧ j ≤ v.list.length ∧ m = v.list.length - j ∧ Grow S2 S' ∧ v.list.take j = w.list.take j) v.list.length ⟨0, rfl, Nat.zero_le _, rfl, Upd.refl g02.wf _, by simp⟩ ?_
      rintro m _ S5 ⟨j, rfl, hj, rfl, g, hl⟩
      have v5 := v2.grow g g.le
      have w5 := w2.grow g g.le
      have p5 := g.get p2
      have m5 := g.get m2
      refine ifS_mk (ld p5 rfl) ⟨_, v5.len, ifC_dec (fun hx => ?_) fun hx => ?_⟩
      · have hj : j < v.list.length := by omega
        have hj2 : j < w.list.length := by omega
        obtain ⟨lx, nx, e1, r1⟩ := v5.elt hj
        obtain ⟨ly, ny, e2, r2⟩ := w5.elt hj2
        refine ifS_mk (ld p5 rfl) (ifS_mk (v5.idx hj) ⟨_, _, _, _, _, e1, ifS_mk (ld m5 rfl) (ifS_mk (w5.idx hj2) ⟨_, _, _, _, _, e2, ih g.wf r1 r2 (by have := JV.list_lt (List.getElem_mem hj); omega) fun b S6 hb g6 => ⟨Same.of_grow g6 fun j hj => ?_, ?_⟩⟩)⟩)
        · have := g.wf.lt p5
          have := g.wf.lt m5
          simp only [List.mem_cons, List.not_mem_nil, or_false] at hj
          rcases hj with rfl | rfl <;> assumption
        · have g06 := (g02.trans g).trans g6
          refine ifC_nb (fun h => no (fun e => ?_) g06) fun h => ?_
          · have : b = true := hb.mpr (by subst e; rfl)
            rw [h] at this; cases this
          · refine setI_mk (n := ((j + 1 : Nat) : Int)) (wrap_next hj hv.le) ⟨v.list.length - (j + 1), by omega, j + 1, rfl, hj, rfl, g.trans g6, ?_⟩
            rw [← List.take_append_getElem hj, ← List.take_append_getElem hj2, hl, hb.mp h]
      · have hj : j = v.list.length := by omega
        subst hj
        rw [List.take_length, h4, List.take_length] at hl
        exact hk true S5 ⟨fun _ => JV.ext h1 h2 h3 hl hd, fun _ => rfl⟩ (g02.trans g)

end Go.Th.L
end

section
/- json: a text parsed. -/
set_option linter.unusedSimpArgs false
set_option linter.unusedVariables false
set_option maxHeartbeats 1000000
namespace Go.Th.L
open Go Go.Th Go.Th.Pure
variable {P : Program} {N : Nat → Nat}

structure ParseF (P : Program) (N : Nat → Nat) (gs : List Nat) : Prop where
  r : ReadF P N gs
  c : CheckF P N
  parse : json_Parse.Ok P N
  parse1 : json_Parse_1.Ok P N
  can : canEnter P (N Fn.json_Parse_1) = true

theorem json_Parse_1.bad (hF : json_Parse_1.Ok P N) {S : St} (hw : S.Wf) {p q : Nat} (hne : p ≠ q) {cs : List V} {x : V} (hc : S.get p = some (.cells cs true)) (hl : cs.length = 5) (hx : S.get q = some (.cells [x] true)) {R : St → Prop}
    (hk : ∀ S', Upd [p, q] S S' → S'.get p = some (.cells (vcells jnil .nilSlice .nilSlice) true) → S'.get q = some (.cells [.int .i64 200] true) → R S') : panD P [(N Fn.json_Parse_1, [.ptr p 0, .ptr q 0])] R (wrongV N) S := by
  unfold panD
  simp only [leaveX]
  refine CallD.mono (json_Parse_1.run (pv := some (wrongV N)) (K := R) hF ⟨false, rfl, ifC_tt rfl ⟨?_, ?_⟩⟩) ?_
  · simp [assertV, wrongV]
  · refine st_mk hw hc (by simp [V.cells]) (by simp [V.cells, hl]) (by simp [V.cells, V.one]) fun S1 u1 m1 n1 => st_mk u1.wf (u1.get hx (by simp; omega)) (by simp [V.cells]) (by simp [V.cells]) (by simp [V.cells, V.one]) fun S2 u2 m2 n2 => hk S2 ?_ ?_ ?_
    · exact (u1.mono fun j hj => .inl (by simp at hj; simp [hj])).trans (u2.mono fun j hj => .inl (by simp at hj; simp [hj]))
    · have : over cs 0 (V.cells (.agg [(V.int .i64 0), (V.int .i64 0), (V.str ([] : List UInt8)), V.nilSlice, V.nilSlice])) = vcells jnil .nilSlice .nilSlice := by
        match cs, hl with
        | [_, _, _, _, _], _ => rfl
      rw [this] at m1
      exact u2.get m1 (by simp; omega)
    · rw [m2]; rfl
  · rintro b S' ⟨rfl, h⟩
    exact ifC_tt rfl h

theorem json_Parse_1.good (hF : json_Parse_1.Ok P N) {S : St} {p q : Nat} {Q : Bool → St → Prop} (hk : Q false S) : CallD P (N Fn.json_Parse_1) [.ptr p 0, .ptr q 0] none S Q :=
  CallD.mono (json_Parse_1.run (pv := none) (K := fun S' => S' = S) hF ⟨true, rfl, ifC_ff rfl rfl⟩) (by rintro b S' ⟨rfl, rfl⟩; exact hk)

def ParsesJ (P : Program) (f : FuncId) (gs : List Nat) : Prop := ∀ {S : St} {s : Bs8} {K : Int → Int → Bs8 → V → V → Int → St → Prop}, S.Wf → GV gs S →
  (∀ lv nv F S', Grow S S' → VAt S' S.next (parseJ s).1 lv nv F → K (parseJ s).1.sort (parseJ s).1.num (parseJ s).1.text lv nv (parseJ s).2 S') → CallA P f [.str s] S (retT [.agg [.int .i64, .int .i64, .str, .any, .any], .one (.int .i64)] K)

theorem json_Parse.spec {gs : List Nat} (hF : ParseF P N gs) : ParsesJ P (N Fn.json_Parse) gs := by
  intro S s K hw hG hk
  refine json_Parse.run hF.parse (newS_mk hw fun S1 g1 m1 n1 => newS_mk g1.wf fun S2 g2 m2 n2 => ?_)
  have g02 := g1.trans g2
  have p2 := g2.get m1
  have hne : S.next ≠ S1.next := by omega
  have fin : ∀ {S' : St} {v : JV} {lv nv : V} {F : List Nat} {c : Int}, parseJ s = (v, c) → Upd [] S S' → VAt S' S.next v lv nv F → S'.get S.next = some (.cells (vcells v lv nv) true) → S'.get S1.next = some (.cells [.int .i64 c] true) →
      ∃ xa xb : Int, ∃ xc : List UInt8, ∃ xd xe : V, cellNV S' 5 (V.ptr S.next 0) = some (V.agg [(V.int .i64 xa), (V.int .i64 xb), (V.str xc), xd, xe]) ∧ ∃ xr : Int, cell1V S' (V.ptr S1.next 0) = some (V.int .i64 xr) ∧ K xa xb xc xd xe xr S' := by
    intro S' v lv nv F c e u hv c0 c1
    have := hk lv nv F S' u (by rw [e]; exact hv)
    rw [e] at this
    exact ⟨_, _, _, _, _, ldC c0 (by simp [vcells]) rfl, _, ldC1 c1 rfl, this⟩
  have nil : ∀ {S' : St}, VAt S' S.next jnil .nilSlice .nilSlice [] := fun {S'} => VAt.nil S' S.next 0 0 []
  refine ifC_dec (fun hl => ?_) fun hl => ?_
  · refine st_mk g2.wf p2 (by simp [V.cells]) (by simp [V.cells]) (by simp [V.cells, V.one]) fun S3 u3 m3 n3 => st_mk u3.wf (u3.get m2 (by simp; omega)) (by simp [V.cells]) (by simp [V.cells]) (by simp [V.cells, V.one]) fun S4 u4 m4 n4 => ?_
    refine fin (v := jnil) (c := 2) (by unfold parseJ; rw [if_pos (by omega)]) ?_ nil (u4.get m3 (by simp; omega)) m4
    exact (g02.after u3 fun j hj => .inl (by rw [List.mem_singleton.mp hj]; exact Nat.le_refl _)).after u4 fun j hj => .inl (by rw [List.mem_singleton.mp hj]; exact g1.le)
  have hl : s.length ≤ 16384 := by omega
  have hb := blanks_le s
  refine ifS_mk (a := (N Fn.json_Parse_1, [.ptr S.next 0, .ptr S1.next 0])) (by unfold calleeD; exact if_pos hF.can) (newS_mk g2.wf fun S5 g5 m5 n5 => ?_)
  have g05 := g02.trans g5
  have up : ∀ {S' : St}, Upd [S2.next] S5 S' → Upd [] S S' := fun u => g05.after u fun j hj => .inl (by rw [List.mem_singleton.mp hj]; exact g02.le)
  have up3 : ∀ {S' S'' : St}, Upd [] S S' → Upd [S.next, S1.next] S' S'' → Upd [] S S'' := fun u u' => u.after u' fun j hj => .inl (by
    simp only [List.mem_cons, List.not_mem_nil, or_false] at hj
    rcases hj with rfl | rfl
    · exact Nat.le_refl _
    · exact g1.le)
  -- where something is thrown
  have bad : ∀ {S' : St} {cs : List V}, parseJ s = (jnil, 200) → Upd [] S S' → S'.get S.next = some (.cells cs true) → cs.length = 5 → S'.get S1.next = some (.cells [.int .i64 0] true) → ∀ {R : St → Prop},
      (∀ S'', (∃ xa xb : Int, ∃ xc : List UInt8, ∃ xd xe : V, cellNV S'' 5 (V.ptr S.next 0) = some (V.agg [(V.int .i64 xa), (V.int .i64 xb), (V.str xc), xd, xe]) ∧ ∃ xr : Int, cell1V S'' (V.ptr S1.next 0) = some (V.int .i64 xr) ∧ K xa xb xc xd xe xr S'') → R S'') → panD P [(N Fn.json_Parse_1, [.ptr S.next 0, .ptr S1.next 0])] R (wrongV N) S' := by
    intro S' cs e u c0 hcl c1 R hR
    exact json_Parse_1.bad hF.parse1 u.wf hne c0 hcl c1 fun S'' u2 d0 d1 => hR S'' (fin e (up3 u u2) nil d0 d1)
  have e0 : parseJ s = match pvJ (blanksJ s) with
    | none => (jnil, 200)
    | some (v, r) => if blanksJ r = [] then if checkJ v = 0 then (v, 0) else (jnil, checkJ v) else (jnil, 200) := by
    unfold parseJ; rw [if_neg (by omega)]; rfl
  have c05 : ∀ {S' : St}, Upd [S2.next] S5 S' → S'.get S.next = some (.cells [(V.int .i64 0), (V.int .i64 0), (V.str ([] : List UInt8)), V.nilSlice, V.nilSlice] true) ∧ S'.get S1.next = some (.cells [.int .i64 0] true) := fun u =>
    ⟨u.get (g5.get p2) (by simp; omega), u.get (g5.get m2) (by simp; omega)⟩
  refine CallA.np (json_reading_blanks.spec hF.r.o.blanks hF.r.o.trim g5.wf (s := s) m5 fun S6 u6 l6 n6 => ?_)
  have gv6 : GV gs S6 := (hG.upd g05 (by simp)).left u6 m5
  refine json_reading_value.ok hF.r ((blanksJ s).length + 1) u6.wf gv6 l6 (by omega) (by omega) (fun e S7 u7 => ?_) fun v r lv nv F e S8 u8 l8 v8 => ?_
  · have c := c05 (u6.trans u7)
    refine bad ?_ (up (u6.trans u7)) c.1 rfl c.2 fun S'' h => h
    rw [e0, e]
  have hr := (left_len _).1 e
  have hd := deep_text e
  have u58 := u6.trans u8
  have c8 := c05 u58
  have o8 := v8.ones
  refine st_mk u8.wf c8.1 (by simp [V.cells]) (by simp [V.cells]) (by simp only [V.cells, List.all_cons, List.all_nil, o8.1, o8.2]; rfl) fun S10 u10 m10 n10 => ?_
  have m10 : S10.get S.next = some (.cells (vcells v lv nv) true) := m10
  have g010 : Upd [] S S10 := (up u58).after u10 fun j hj => .inl (by rw [List.mem_singleton.mp hj]; exact Nat.le_refl _)
  have hS6 : S5.next ≤ S6.next := u6.le
  have v10 : VAt S10 S.next v lv nv F := VAt.below (by have := g05.le; omega) v (VAt.keep u10 v v8 fun j hj hm => by rw [List.mem_singleton.mp hj] at hm; have := (VAt.own v v8 _ hm).1; have := g1.le; have := g02.le; omega)
  have hF10 : ∀ j ∈ F, S6.next ≤ j := fun j hj => (VAt.own v v8 j hj).1
  have l10 : LeftAt S10 S2.next r := u10.get l8 (by simp; omega)
  have q10 : S10.get S1.next = some (.cells [.int .i64 0] true) := u10.get c8.2 (by simp; omega)
  refine CallA.np (json_reading_blanks.spec hF.r.o.blanks hF.r.o.trim u10.wf l10 fun S11 u11 l11 n11 => ⟨rfl, blanksJ r, ld l11 rfl, ?_⟩)
  have g011 : Upd [] S S11 := g010.after u11 fun j hj => .inl (by rw [List.mem_singleton.mp hj]; exact g02.le)
  have p11 : S11.get S.next = some (.cells (vcells v lv nv) true) := u11.get m10 (by simp; omega)
  have q11 : S11.get S1.next = some (.cells [.int .i64 0] true) := u11.get q10 (by simp; omega)
  have v11 : VAt S11 S.next v lv nv F := VAt.keep u11 v v10 fun j hj hm => by rw [List.mem_singleton.mp hj] at hm; have := hF10 _ hm; omega
  refine json_is.spec hF.r.o.is (fun hb => ?_) fun hb => ?_
  · refine bad ?_ g011 p11 rfl q11 fun S'' h => h
    rw [e0, e]
    simp only
    rw [if_neg (by simpa using hb)]
  have e1 : parseJ s = if checkJ v = 0 then (v, 0) else (jnil, checkJ v) := by
    rw [e0, e]
    simp only
    rw [if_pos (by simpa using hb)]
  refine ⟨_, _, _, _, _, ld5 p11, CallA.np (json_Check.spec hF.c u11.wf (VAt.rv v v11 fun j hj => by obtain ⟨_, _, h⟩ := VAt.own v v11 j hj; exact u11.wf.lt h) (by omega) fun S15 g15 => ?_)⟩
  have p15 := g15.get p11
  have q15 := g15.get q11
  have g015 : Upd [] S S15 := g011.trans g15
  have v15 := v11.grow g15
  refine ifC_ndec (fun hc => ?_) fun hc => ?_
  · rw [if_neg hc] at e1
    refine st_mk g15.wf p15 (by simp [V.cells]) (by simp [V.cells, vcells]) (by simp [V.cells, V.one]) fun S17 u17 m17 n17 => st_mk u17.wf (u17.get q15 (by simp; omega)) (by simp [V.cells]) (by simp [V.cells]) (by simp [V.cells, V.one]) fun S18 u18 m18 n18 => ?_
    refine json_Parse_1.good hF.parse1 (fin e1 ?_ nil (u18.get m17 (by simp; omega)) m18)
    exact (g015.after u17 fun j hj => .inl (by rw [List.mem_singleton.mp hj]; exact Nat.le_refl _)).after u18 fun j hj => .inl (by rw [List.mem_singleton.mp hj]; exact g1.le)
  · rw [if_pos hc] at e1
    refine ⟨_, _, _, _, _, ld5 p15, ?_⟩
    refine st_mk g15.wf p15 (by simp [V.cells]) (by simp [V.cells, vcells]) (by simp only [V.cells, List.all_cons, List.all_nil, o8.1, o8.2]; rfl) fun S20 u20 m20 n20 => st_mk u20.wf (u20.get q15 (by simp; omega)) (by simp [V.cells]) (by simp [V.cells]) (by simp [V.cells, V.one]) fun S21 u21 m21 n21 => ?_
    refine json_Parse_1.good hF.parse1 (fin (F := F) e1 ?_ ?_ (u21.get m20 (by simp; omega)) m21)
    · exact (g015.after u20 fun j hj => .inl (by rw [List.mem_singleton.mp hj]; exact Nat.le_refl _)).after u21 fun j hj => .inl (by rw [List.mem_singleton.mp hj]; exact g1.le)
    · refine VAt.keep u21 v (VAt.keep u20 v v15 fun j hj hm => ?_) fun j hj hm => ?_
      · rw [List.mem_singleton.mp hj] at hm; have := hF10 _ hm; have := g1.le; have := g02.le; omega
      · rw [List.mem_singleton.mp hj] at hm; have := hF10 _ hm; have := g1.le; have := g02.le; omega

end Go.Th.L
end

section
/- json: a text quoted into a builder. -/
set_option linter.unusedSimpArgs false
set_option linter.unusedVariables false
set_option maxHeartbeats 1000000
namespace Go.Th.L
open Go Go.Th Go.Th.Pure
variable {P : Program} {N : Nat → Nat}

structure WIn (T e : TypeId) (S : St) (b : Nat) (g0 : List Nat) (S' : St) (g : List Nat) (acc : Bs8) (xs : List (Nat × Blk)) : Prop where
  sb : SbAt T e S' b g acc
  u : Upd (b :: g0) S S'
  new : ∀ j ∈ g, j ∈ g0 ∨ S.next ≤ j
  keep : ∀ p ∈ xs, S'.get p.1 = some p.2 ∧ p.1 ∉ g ∧ p.1 ≠ b
section
variable {T e : TypeId} {S S' S2 : St} {b : Nat} {g0 g g2 : List Nat} {acc acc2 : Bs8} {xs : List (Nat × Blk)}
theorem WIn.start (hw : S.Wf) (h : SbAt T e S b g acc) : WIn T e S b g S g acc [] := ⟨h, Upd.refl hw _, fun j hj => .inl hj, by simp⟩
theorem WIn.write (h : WIn T e S b g0 S' g acc xs) (k : SbAt T e S2 b g2 acc2) (u : Upd (b :: g) S' S2) (n : ∀ j ∈ g2, j ∈ g ∨ S'.next ≤ j) : WIn T e S b g0 S2 g2 acc2 xs := by
  have hle := h.u.le
  refine ⟨k, h.u.after u fun j hj => ?_, fun j hj => ?_, fun p hp => ?_⟩
  · rcases List.mem_cons.mp hj with rfl | hj
    · exact .inr (by simp)
    · rcases h.new j hj with h' | h'
      · exact .inr (by simp [h'])
      · exact .inl h'
  · rcases n j hj with h' | h'
    · exact h.new j h'
    · exact .inr (by omega)
  · obtain ⟨a1, a2, a3⟩ := h.keep p hp
    refine ⟨u.get a1 (by simp [a2, a3]), fun hm => ?_, a3⟩
    rcases n _ hm with h' | h'
    · exact a2 h'
    · have := h.u.wf.lt a1; omega
theorem WIn.new_ (h : WIn T e S b g0 S' g acc xs) {bk : Blk} (gr : Grow S' S2) (m : S2.get S'.next = some bk) (hb : b < S'.next) (hg : ∀ j ∈ g, j < S'.next) : WIn T e S b g0 S2 g acc ((S'.next, bk) :: xs) := by
  refine ⟨h.sb.upd gr (by simp) (by simp), h.u.trans (gr.mono (by simp)), h.new, fun p hp => ?_⟩
  rcases List.mem_cons.mp hp with rfl | hp
  · exact ⟨m, fun hm => by have := hg _ hm; simp only at this; omega, fun e => by simp only at e; omega⟩
  · obtain ⟨a1, a2, a3⟩ := h.keep p hp
    exact ⟨gr.get a1, a2, a3⟩
theorem WIn.lt (h : WIn T e S b g0 S' g acc xs) : b < S'.next ∧ ∀ j ∈ g, j < S'.next := by
  rcases h.sb with ⟨rfl, h2, p, h3, h4⟩ | ⟨k, c, rfl, h2, h3, h4, h5, h6⟩
  · exact ⟨h.u.wf.lt h4, by simp⟩
  · exact ⟨h.u.wf.lt h4, fun j hj => by rw [List.mem_singleton.mp hj]; exact h.u.wf.lt h5⟩
theorem WIn.more (h : WIn T e S b g0 S' g acc xs) {ys : List (Nat × Blk)} (hy : ∀ p ∈ ys, p ∈ xs) : WIn T e S b g0 S' g acc ys := ⟨h.sb, h.u, h.new, fun p hp => h.keep p (hy p hp)⟩
end

def QuoteOk (P : Program) (N : Nat → Nat) (T e : TypeId) : Prop := ∀ {S : St} {b : Nat} {g : List Nat} {acc s : Bs8} {K : St → Prop}, S.Wf → SbAt T e S b g acc → acc.length + (quoteJ s).length ≤ 70368744177664 → s.length ≤ 70368744177664 →
  (∀ S' g', SbAt T e S' b g' (acc ++ quoteJ s) → Upd (b :: g) S S' → (∀ j ∈ g', j ∈ g ∨ S.next ≤ j) → K S') → CallA P (N Fn.json_quote) [.ptr b 0, .str s] S (retT [] K)

theorem idx_hex {n : Nat} (h : n < 16) : idxStrV (V.str ([48, 49, 50, 51, 52, 53, 54, 55, 56, 57, 97, 98, 99, 100, 101, 102] : List UInt8)) (V.int .u8 ((n : Nat) : Int)) = some (V.int .u8 (((hexD.getD n 0).toNat : Nat) : Int)) := by
  have : n = 0 ∨ n = 1 ∨ n = 2 ∨ n = 3 ∨ n = 4 ∨ n = 5 ∨ n = 6 ∨ n = 7 ∨ n = 8 ∨ n = 9 ∨ n = 10 ∨ n = 11 ∨ n = 12 ∨ n = 13 ∨ n = 14 ∨ n = 15 := by omega
  rcases this with rfl | rfl | rfl | rfl | rfl | rfl | rfl | rfl | rfl | rfl | rfl | rfl | rfl | rfl | rfl | rfl <;> rfl
theorem and15 (n : Nat) (h : n < 256) : intBits .and .u8 ((n : Nat) : Int) (15 : Int) = ((n % 16 : Nat) : Int) := by
  have : ∀ m : Fin 256, intBits .and .u8 ((m.val : Nat) : Int) (15 : Int) = ((m.val % 16 : Nat) : Int) := by decide +kernel
  exact this ⟨n, h⟩
theorem shr4 (n : Nat) : Int.fdiv ((n : Nat) : Int) (2 ^ (min (Int.toNat (4 : Int)) (IntKind.bits .u8))) = ((n / 16 : Nat) : Int) := by
  show Int.fdiv ((n : Nat) : Int) 16 = _
  rw [Int.fdiv_eq_ediv_of_nonneg _ (by omega)]
  omega
theorem flat_take {s : Bs8} {j : Nat} (hj : j < s.length) : (s.take (j + 1)).flatMap quoteB = (s.take j).flatMap quoteB ++ quoteB s[j] := by
  rw [← List.take_append_getElem hj, List.flatMap_append]
  simp
theorem flat_le (s : Bs8) (j : Nat) : ((s.take j).flatMap quoteB).length ≤ (s.flatMap quoteB).length := by
  have e : s.flatMap quoteB = (s.take j).flatMap quoteB ++ (s.drop j).flatMap quoteB := by rw [← List.flatMap_append, List.take_append_drop]
  rw [e, List.length_append]
  omega

theorem json_quote.spec (hF : json_quote.Ok P N) {T e : TypeId} (hB : SbOk P T e (N Fn.strings_Builder_WriteByte) (N Fn.strings_Builder_WriteString) (N Fn.strings_Builder_String)) : QuoteOk P N T e := by
  intro S b g acc s K hw hs hl hsl hk
  have hq : (quoteJ s).length = (s.flatMap quoteB).length + 2 := by unfold quoteJ; rw [List.length_cons, List.length_append, List.length_singleton]
  refine json_quote.run hF (hB.writeByte hw hs (by omega) 34 fun S1 g1 k1 u1 t1 => newS_mk u1.wf fun S2 r2 m2 n2 => ?_)
  have w1 := (WIn.start hw hs).write k1 u1 t1
  have w2 := w1.new_ r2 m2 w1.lt.1 w1.lt.2
  have sl : ∀ {S' : St}, S'.get S1.next = some (.cells (bytesV s) false) → SlAt S' 1 (V.slice S1.next 0 s.length s.length 1 false) s.length (bytesV s) := by
    intro S' h
    refine ⟨by omega, by rw [bytesV_length]; omega, .inr ⟨_, _, _, _, rfl, Nat.le_refl _, ?_⟩⟩
    rw [St.loads_of h (by rw [bytesV_length]; omega)]
    simp [bytesV_length, List.take_of_length_le]
  refine ⟨_, (sl m2).len, ?_⟩
  refine Loop1.ind (fun m x S' => ∃ (j : Nat) (g' : List Nat), x = j ∧ j ≤ s.length ∧ m = s.length - j ∧ WIn T e S b g S' g' (acc ++ (34 :: (s.take j).flatMap quoteB)) [(S1.next, .cells (bytesV s) false)]) s.length ⟨0, g1, rfl, Nat.zero_le _, rfl, by simpa using w2⟩ ?_
  rintro m _ S3 ⟨j, g3, rfl, hj, rfl, w3⟩
  have l3 := (w3.keep (S1.next, .cells (bytesV s) false) (by simp)).1
  have hfl := flat_le s j
  refine ifC_dec (fun hx => ?_) fun hx => ?_
  · have hj : j < s.length := by omega
    have hft := flat_take hj
    have hfl1 := flat_le s (j + 1)
    have hqb := quoteB_len s[j]
    rw [hft, List.length_append] at hfl1
    refine ifS_mk ((sl l3).idx hj) ⟨((s[j].toNat : Nat) : Int), ?_, ?_⟩
    · rw [(sl l3).load hj (by omega)]
      simp [bytesV, hj]
    have again : ∀ {S8 : St} {g8 : List Nat}, WIn T e S b g S8 g8 (acc ++ (34 :: (s.take j).flatMap quoteB) ++ quoteB s[j]) [(S1.next, .cells (bytesV s) false)] → setI (IntKind.i64.wrap (((j : Nat) : Int) + (1 : Int))) fun x49 => ∃ m, m < s.length - j ∧ ∃ (j : Nat) (g' : List Nat), x49 = j ∧ j ≤ s.length ∧ m = s.length - j ∧ WIn T e S b g S8 g' (acc ++ (34 :: (s.take j).flatMap quoteB)) [(S1.next, .cells (bytesV s) false)] := by
      intro S8 g8 w8
      refine setI_mk (n := ((j + 1 : Nat) : Int)) (wrap_nat (by omega)) ⟨s.length - (j + 1), by omega, j + 1, g8, rfl, hj, rfl, ?_⟩
      rw [hft]
      simpa using w8
    have hal : (acc ++ (34 :: (s.take j).flatMap quoteB)).length + (quoteB s[j]).length ≤ 140737488355328 := by
      rw [List.length_append, List.length_cons]; omega
    generalize hA : acc ++ (34 :: (s.take j).flatMap quoteB) = A at w3 again hal
    generalize s[j] = c at *
    refine Join1.mid (fun x S' => S3 = S' ∧ x = decide (c = 34 ∨ c = 92)) ?_ ?_
    · refine ifC_dec (fun h => ⟨rfl, ?_⟩) fun h => ⟨rfl, ?_⟩
      · rw [(byte_int c 34 (by omega)).mp h]; rfl
      · have e1 : c ≠ 34 := fun e => h ((byte_int c 34 (by omega)).mpr e)
        simp only [e1, false_or, decide_eq_decide]
        exact byte_int c 92 (by omega)
    rintro _ _ ⟨rfl, rfl⟩
    refine ifC_dec (fun h => ?_) fun h => ?_
    · have e1 : quoteB c = [92, c] := by unfold quoteB; rw [if_pos h]
      rw [e1] at again hal
      simp only [List.length_cons, List.length_nil] at hal
      refine hB.writeByte w3.u.wf w3.sb (by omega) 92 fun S5 g5 k5 u5 t5 => ?_
      have w5 := w3.write k5 u5 t5
      refine hB.writeByte w5.u.wf w5.sb (by rw [List.length_append]; simp only [List.length_cons, List.length_nil]; omega) c fun S6 g6 k6 u6 t6 => again (g8 := g6) ?_
      have w6 := w5.write k6 u6 t6
      simpa using w6
    refine Join1.mid (fun x S' => S3 = S' ∧ x = decide (32 ≤ c.toNat ∧ c.toNat ≤ 126)) ?_ ?_
    · refine ifC_dec (fun h => ⟨rfl, ?_⟩) fun h => ⟨rfl, ?_⟩
      · rw [decide_eq_decide]; omega
      · rw [eq_comm, decide_eq_false_iff_not]; omega
    rintro _ _ ⟨rfl, rfl⟩
    refine ifC_dec (fun h2 => ?_) fun h2 => ?_
    · have e1 : quoteB c = [c] := by unfold quoteB; rw [if_neg h, if_pos h2]
      rw [e1] at again hal
      simp only [List.length_cons, List.length_nil] at hal
      exact hB.writeByte w3.u.wf w3.sb (by omega) c fun S5 g5 k5 u5 t5 => again (w3.write k5 u5 t5)
    · have e1 : quoteB c = [92, 117, 48, 48, hexD.getD (c.toNat / 16) 0, hexD.getD (c.toNat % 16) 0] := by unfold quoteB; rw [if_neg h, if_neg h2]
      rw [e1] at again hal
      simp only [List.length_cons, List.length_nil] at hal
      have hc := c.toNat_lt
      refine hB.writeString w3.u.wf w3.sb (by decide) (by simp only [List.length_cons, List.length_nil]; omega) fun S9 g9 k9 u9 t9 => ?_
      have w9 := w3.write k9 u9 t9
      refine ⟨by decide, setI_mk (n := ((c.toNat / 16 : Nat) : Int)) (shr4 _) ⟨_, idx_hex (by omega), hB.writeByte w9.u.wf w9.sb (by rw [List.length_append]; simp only [List.length_cons, List.length_nil]; omega) _ fun S10 g10 k10 u10 t10 => ?_⟩⟩
      have w10 := w9.write k10 u10 t10
      refine setI_mk (n := ((c.toNat % 16 : Nat) : Int)) (and15 _ (by omega)) ⟨_, idx_hex (by omega), hB.writeByte w10.u.wf w10.sb (by rw [List.length_append, List.length_append]; simp only [List.length_cons, List.length_nil]; omega) _ fun S11 g11 k11 u11 t11 => again (g8 := g11) ?_⟩
      have w11 := w10.write k11 u11 t11
      simpa using w11
  · have hj : j = s.length := by omega
    subst hj
    rw [List.take_length] at w3
    refine hB.writeByte w3.u.wf w3.sb (by rw [List.length_append, List.length_cons]; omega) 34 fun S12 g12 k12 u12 t12 => ?_
    have w12 := w3.write k12 u12 t12
    refine hk S12 g12 ?_ w12.u w12.new
    have := w12.sb
    unfold quoteJ
    simpa using this

end Go.Th.L
end

section
/- json: a value laid into a builder, and printed. -/
set_option linter.unusedSimpArgs false
set_option linter.unusedVariables false
set_option maxHeartbeats 1000000
namespace Go.Th.Pure
open Go
theorem lays_app (named : Bool) (l2 : List JV) : ∀ (first : Bool) (l1 : List JV) (ns : List Bs8), laysJ named first (l1 ++ l2) ns = laysJ named first l1 ns ++ laysJ named (first && l1.isEmpty) l2 (ns.drop l1.length)
  | first, [], ns => by simp [laysJ]
  | first, v :: l1, ns => by
    simp only [List.cons_append, laysJ, lays_app named l2 false l1 ns.tail, List.isEmpty_cons, Bool.and_false, Bool.false_and, List.length_cons, List.append_assoc]
    cases ns <;> simp
theorem lays_le (named : Bool) (l : List JV) (ns : List Bs8) (j : Nat) : (laysJ named true (l.take j) ns).length ≤ (laysJ named true l ns).length := by
  have := lays_app named (l.drop j) true (l.take j) ns
  rw [List.take_append_drop] at this
  rw [this, List.length_append]
  omega
theorem le_quote (s : Bs8) : s.length ≤ (quoteJ s).length := by
  have : ∀ s : Bs8, s.length ≤ (s.flatMap quoteB).length := by
    intro s
    induction s with
    | nil => simp
    | cons c s ih =>
      have e : ((c :: s).flatMap quoteB).length = (quoteB c).length + (s.flatMap quoteB).length := by rw [List.flatMap_cons, List.length_append]
      have := quoteB_len c
      rw [e, List.length_cons]
      omega
  have := this s
  unfold quoteJ
  rw [List.length_cons, List.length_append]
  omega
end Go.Th.Pure
namespace Go.Th.L
open Go Go.Th Go.Th.Pure
variable {P : Program} {N : Nat → Nat}

def ItoaJ (P : Program) (f : FuncId) (S0 : St) : Prop := ∀ {n : Int} {S : St} {K : Bs8 → St → Prop}, Grow S0 S → -999999999999999 ≤ n → n ≤ 999999999999999 → K (Lib.itoa n) S → CallA P f [.int .i64 n] S (retT [.one .str] K)

def LayOk (P : Program) (N : Nat → Nat) (T e : TypeId) (S0 : St) (n : Nat) : Prop := ∀ {S : St} {b B : Nat} {g : List Nat} {acc : Bs8} {v : JV} {lv nv : V} {K : St → Prop}, Grow S0 S → S0.next ≤ b → (∀ j ∈ g, S0.next ≤ j) → SbAt T e S b g acc → RV S B v lv nv → B ≤ b → (∀ j ∈ g, B ≤ j) →
  allJ form1 v = true → allJ small1 v = true → SizeOf.sizeOf v < n → acc.length + (layJ v).length ≤ 70368744177664 →
  (∀ S' g', SbAt T e S' b g' (acc ++ layJ v) → Upd (b :: g) S S' → (∀ j ∈ g', j ∈ g ∨ S.next ≤ j) → K S') → CallA P (N Fn.json_lay) [.ptr b 0, .agg (vcells v lv nv)] S (retT [] K)

theorem all_at {q : JV → Bool} {v : JV} (h : allJ q v = true) : q v = true ∧ ∀ w ∈ v.list, allJ q w = true := by
  rw [allJ_eq, Bool.and_eq_true, List.all_eq_true] at h
  exact h

theorem json_lay.ok (hF : json_lay.Ok P N) {T e : TypeId} {S0 : St} (hB : SbOk P T e (N Fn.strings_Builder_WriteByte) (N Fn.strings_Builder_WriteString) (N Fn.strings_Builder_String)) (hQ : QuoteOk P N T e) (hI : ItoaJ P (N Fn.strconv_Itoa) S0) (n : Nat) : LayOk P N T e S0 n := by
  induction n with
  | zero =>
    intro S b B g acc v lv nv K _ _ _ _ _ _ _ _ _ h
    exact absurd h (Nat.not_lt_zero _)
  | succ n ih =>
    intro S b B g acc v lv nv K h0 hb0 hg0 hs hv hbB hgB hf hsm hn hl hk
    have hw := h0.wf
    refine json_lay.run hF (newS_mk hw fun S1 r1 m1 n1 => ?_)
    have wS := WIn.start hw hs
    have w1 := wS.new_ r1 m1 wS.lt.1 wS.lt.2
    have hBS : B < S.next := Nat.lt_of_le_of_lt hbB wS.lt.1
    obtain ⟨es, hv⟩ := hv.at_
    obtain ⟨f1, ff⟩ := all_at hf
    obtain ⟨s1, sf⟩ := all_at hsm
    rw [form1_iff] at f1
    simp only [small1, Bool.and_eq_true] at s1
    have s1 : v.num ≤ 999999999999999 ∧ -999999999999999 ≤ v.num := ⟨of_decide_eq_true s1.1, of_decide_eq_true s1.2⟩
    rw [layJ_eq] at hl hk
    have grow0 : ∀ {S' : St}, Upd (b :: g) S S' → Grow S0 S' := fun u => h0.after u fun j hj => .inl (by
      rcases List.mem_cons.mp hj with rfl | hj
      · exact hb0
      · exact hg0 j hj)
    -- one write, and done
    have one : ∀ {S2 : St} {s : Bs8}, Grow S1 S2 → s ≠ [] → acc.length + s.length ≤ 70368744177664 → (∀ S' g', SbAt T e S' b g' (acc ++ s) → Upd (b :: g) S S' → (∀ j ∈ g', j ∈ g ∨ S.next ≤ j) → K S') → CallA P (N Fn.strings_Builder_WriteString) [.ptr b 0, .str s] S2 (retT [.one (.int .i64), .one .any] fun _ _ S' => K S') := by
      intro S2 s r2 hne hl hk
      have w2 : WIn T e S b g S2 g acc [] := ⟨w1.sb.upd r2 (by simp) (by simp), w1.u.trans (r2.mono (by simp)), w1.new, by simp⟩
      refine hB.writeString w2.u.wf w2.sb hne (by omega) fun S' g' k u t => ?_
      have w3 := w2.write k u t
      exact hk S' g' w3.sb w3.u w3.new
    refine ⟨v.sort, ld m1 rfl, ifC_dec (fun h => ?_) fun x1 => ifC_dec (fun h => ?_) fun x2 => ifC_dec (fun h => ?_) fun x3 => ifC_dec (fun h => ?_) fun x4 => ifC_dec (fun h => ?_) fun x5 => ?_⟩
    · rw [if_pos h] at hl hk
      exact one (Upd.refl r1.wf _) (by decide) hl hk
    · rw [if_neg x1, if_pos h] at hl hk
      exact one (Upd.refl r1.wf _) (by decide) hl hk
    · rw [if_neg x1, if_neg x2, if_pos h] at hl hk
      exact one (Upd.refl r1.wf _) (by decide) hl hk
    · rw [if_neg x1, if_neg x2, if_neg x3, if_pos h] at hl hk
      refine ⟨v.num, ld m1 rfl, hI (h0.trans r1) s1.2 s1.1 (one (Upd.refl r1.wf _) ?_ hl hk)⟩
      unfold Lib.itoa
      split
      · simp
      · intro e
        have h1 := dec_len v.num.toNat
        rw [e] at h1
        have h2 := Lib.nDigits_pos v.num.toNat
        simp at h1; omega
    · rw [if_neg x1, if_neg x2, if_neg x3, if_neg x4, if_pos h] at hl hk
      have := le_quote v.text
      refine ⟨v.text, ld m1 rfl, hQ r1.wf w1.sb (by omega) (by omega) fun S' g' k u t => ?_⟩
      have w3 := w1.write k u t
      exact hk S' g' w3.sb w3.u w3.new
    rw [if_neg x1, if_neg x2, if_neg x3, if_neg x4, if_neg x5] at hl hk
    have h67 : v.sort = 6 ∨ v.sort = 7 := by omega
    refine Join1.mid (fun x S' => S1 = S' ∧ x = [(if v.sort = 7 then 123 else 91 : UInt8), (if v.sort = 7 then 125 else 93 : UInt8)]) ?_ ?_
    · refine ⟨v.sort, ld m1 rfl, ifC_dec (fun h => ⟨rfl, ?_⟩) fun h => ⟨rfl, ?_⟩⟩
      · rw [if_pos h, if_pos h]
      · rw [if_neg h, if_neg h]
    rintro _ _ ⟨rfl, rfl⟩
    generalize hop : (if v.sort = 7 then 123 else 91 : UInt8) = op at *
    generalize hcl : (if v.sort = 7 then 125 else 93 : UInt8) = cl at *
    simp only [List.length_cons, List.length_append, List.length_nil] at hl
    refine ⟨_, idx_str (s := [op, cl]) (j := 0) (by simp), hB.writeByte r1.wf w1.sb (by omega) op fun S9 g9 k9 u9 t9 => ?_⟩
    have w9 := w1.write k9 u9 t9
    have hD : ∀ j ∈ b :: g, B ≤ j := fun j hj => by
      rcases List.mem_cons.mp hj with rfl | hj
      · exact hbB
      · exact hgB j hj
    have cellS : ∀ {S' g' acc' xs}, WIn T e S b g S' g' acc' ((S.next, .cells (vcells v lv nv) true) :: xs) → S'.get S.next = some (.cells (vcells v lv nv) true) := fun h => (h.keep (S.next, .cells (vcells v lv nv) true) (by simp)).1
    have w9 : WIn T e S b g S9 g9 (acc ++ [op]) [(S.next, .cells (vcells v lv nv) true)] := w9
    have v9 := hv.upd w9.u hD (Nat.le_refl _)
    refine ifS_mk (ld (cellS w9) rfl) ⟨_, v9.len, ?_⟩
    refine Loop1.ind (fun m x S' => ∃ (j : Nat) (g' : List Nat), x = j ∧ j ≤ v.list.length ∧ m = v.list.length - j ∧ WIn T e S b g S' g' (acc ++ (op :: laysJ (decide (v.sort = 7)) true (v.list.take j) v.names)) [(S.next, .cells (vcells v lv nv) true)]) v.list.length ⟨0, g9, rfl, Nat.zero_le _, rfl, by rw [List.take_zero, laysJ]; exact w9⟩ ?_
    rintro m _ S10 ⟨j, g10, rfl, hj, rfl, w10⟩
    have v10 := hv.upd w10.u hD (Nat.le_refl _)
    have hle := lays_le (decide (v.sort = 7)) v.list v.names j
    refine ifC_dec (fun hx => ?_) fun hx => ?_
    · have hj : j < v.list.length := by omega
      have hle1 := lays_le (decide (v.sort = 7)) v.list v.names (j + 1)
      have htk := lays_take (named := decide (v.sort = 7)) (ns := v.names) hj
      rw [htk, List.length_append] at hle1
      obtain ⟨lw, nw, ee, rr⟩ := v10.elt hj
      have oo : lw.one = true ∧ nw.one = true := by obtain ⟨es2, r2⟩ := rr.at_; exact r2.ones
      refine ifS_mk (v10.idx hj) ⟨_, _, _, _, _, ee, newS_mk w10.u.wf fun S11 r11 m11 n11 => st_mk r11.wf m11 (by simp [V.cells]) (by simp [V.cells]) (by simp only [V.cells, List.all_cons, List.all_nil, oo.1, oo.2]; rfl) fun S12 u12 m12 n12 => ?_⟩
      have g1012 : Grow S10 S12 := r11.after u12 fun i hi => .inl (by rw [List.mem_singleton.mp hi]; exact Nat.le_refl _)
      have w12 : WIn T e S b g S12 g10 (acc ++ (op :: laysJ (decide (v.sort = 7)) true (v.list.take j) v.names)) [(S10.next, .cells (vcells v.list[j] lw nw) true), (S.next, .cells (vcells v lv nv) true)] := w10.new_ g1012 m12 w10.lt.1 w10.lt.2
      have hA : (acc ++ (op :: laysJ (decide (v.sort = 7)) true (v.list.take j) v.names)).length = acc.length + 1 + (laysJ (decide (v.sort = 7)) true (v.list.take j) v.names).length := by
        rw [List.length_append, List.length_cons]; omega
      have hnext : acc ++ (op :: laysJ (decide (v.sort = 7)) true (v.list.take (j + 1)) v.names) = (acc ++ (op :: laysJ (decide (v.sort = 7)) true (v.list.take j) v.names)) ++ pieceJ (decide (v.sort = 7)) j v.list[j] v.names := by rw [htk]; simp
      generalize hA0 : acc ++ (op :: laysJ (decide (v.sort = 7)) true (v.list.take j) v.names) = A at *
      have hpl : A.length + (pieceJ (decide (v.sort = 7)) j v.list[j] v.names).length ≤ 70368744177664 := by omega
      unfold pieceJ at hpl hnext
      refine Join0.mid (fun S' => ∃ g', WIn T e S b g S' g' (A ++ (if j = 0 then [] else [44])) [(S10.next, .cells (vcells v.list[j] lw nw) true), (S.next, .cells (vcells v lv nv) true)]) ?_ ?_
      · refine ifC_dec (fun h => ?_) fun h => ?_
        · rw [if_neg (by omega)] at hpl ⊢
          simp only [List.length_append, List.length_cons] at hpl
          exact hB.writeByte w12.u.wf w12.sb (by omega) 44 fun S14 g14 k14 u14 t14 => ⟨g14, w12.write k14 u14 t14⟩
        · rw [if_pos (by omega)]
          exact ⟨g10, by simpa using w12⟩
      rintro S13 ⟨g13, w13⟩
      have hlB : ((if j = 0 then [] else [44] : Bs8)).length ≤ 1 := by split <;> simp
      have hA2 : (A ++ (if j = 0 then [] else [44])).length = A.length + ((if j = 0 then [] else [44] : Bs8)).length := List.length_append
      rw [List.length_append] at hpl
      have hnext2 : acc ++ (op :: laysJ (decide (v.sort = 7)) true (v.list.take (j + 1)) v.names) = (A ++ (if j = 0 then [] else [44])) ++ ((if (decide (v.sort = 7)) = true then quoteJ (v.names.getD j []) ++ [58] else []) ++ layJ v.list[j]) := by rw [hnext]; simp
      generalize (if j = 0 then [] else [44] : Bs8) = sep at *
      generalize A ++ sep = A2 at *
      refine Join0.mid (fun S' => ∃ g', WIn T e S b g S' g' (A2 ++ (if (decide (v.sort = 7)) = true then quoteJ (v.names.getD j []) ++ [58] else [])) [(S10.next, .cells (vcells v.list[j] lw nw) true), (S.next, .cells (vcells v lv nv) true)]) ?_ ?_
      · have c13 := (w13.keep (S.next, .cells (vcells v lv nv) true) (by simp)).1
        have v13 := hv.upd w13.u hD (Nat.le_refl _)
        refine ⟨v.sort, ld c13 rfl, ifC_dec (fun h => ?_) fun h => ?_⟩
        · have hjn : j < v.names.length := by have := f1.2.2.2.2.2.1 h; omega
          rw [if_pos (by simpa using h)] at hpl ⊢
          have hgd : v.names.getD j [] = v.names[j] := by simp [hjn]
          rw [hgd] at hpl ⊢
          simp only [List.length_append, List.length_cons, List.length_nil] at hpl
          have := le_quote v.names[j]
          refine ifS_mk (ld c13 rfl) (ifS_mk (v13.nidx hjn) ⟨_, v13.name hjn, hQ w13.u.wf w13.sb (by omega) (by omega) fun S16 g16 k16 u16 t16 => ?_⟩)
          have w16 := w13.write k16 u16 t16
          refine hB.writeByte w16.u.wf w16.sb (by rw [List.length_append]; omega) 58 fun S17 g17 k17 u17 t17 => ⟨g17, ?_⟩
          have := w16.write k17 u17 t17
          simpa using this
        · rw [if_neg (by simpa using h)]
          exact ⟨g13, by simpa using w13⟩
      rintro S15 ⟨g15, w15⟩
      have hnext3 : acc ++ (op :: laysJ (decide (v.sort = 7)) true (v.list.take (j + 1)) v.names) = (A2 ++ (if (decide (v.sort = 7)) = true then quoteJ (v.names.getD j []) ++ [58] else [])) ++ layJ v.list[j] := by rw [hnext2]; simp
      rw [List.length_append] at hpl
      generalize (if (decide (v.sort = 7)) = true then quoteJ (v.names.getD j []) ++ [58] else [] : Bs8) = nm at *
      have hm := List.getElem_mem hj
      have u15 := w15.u
      have n15 := w15.new
      refine ⟨_, _, _, _, _, ld5 (w15.keep (S10.next, .cells (vcells v.list[j] lw nw) true) (by simp)).1, ih (B := B) (grow0 u15) hb0 (fun i hi => ?_) w15.sb ?_ hbB (fun i hi => ?_) (ff _ hm) (sf _ hm) (by have := JV.list_lt hm; omega) (by rw [List.length_append]; omega) fun S18 g18 k18 u18 t18 => ?_⟩
      · rcases n15 i hi with h' | h'
        · exact hg0 i h'
        · have := h0.le; omega
      · have v15 := hv.upd w15.u hD (Nat.le_refl _)
        obtain ⟨lw2, nw2, ee2, rr2⟩ := v15.elt hj
        have hj2 : j < es.length := by rw [RVs.length hv.rs]; exact hj
        obtain ⟨lw3, nw3, e3, r3⟩ := RVs.get v15.rs hj hj2
        have e4 := v10.sl.getN (j := j) hj2 (by omega)
        rw [ee, e3] at e4
        simp only [vcells, Option.some.injEq, V.agg.injEq, List.cons.injEq, and_true, true_and] at e4
        rw [e4.1, e4.2]
        exact r3
      · rcases n15 i hi with h' | h'
        · exact hgB i h'
        · omega
      · have w18 := w15.write k18 u18 t18
        refine setI_mk (n := ((j + 1 : Nat) : Int)) (wrap_next hj hv.le) ⟨v.list.length - (j + 1), by omega, j + 1, g18, rfl, hj, rfl, ?_⟩
        rw [hnext3]
        exact w18.more fun p hp => by simp at hp ⊢; exact .inr hp
    · have hj : j = v.list.length := by omega
      subst hj
      rw [List.take_length] at w10
      refine ⟨_, idx_str (s := [op, cl]) (j := 1) (by simp), hB.writeByte w10.u.wf w10.sb (by rw [List.length_append, List.length_cons]; omega) cl fun S19 g19 k19 u19 t19 => ?_⟩
      have w19 := w10.write k19 u19 t19
      refine hk S19 g19 ?_ w19.u w19.new
      have := w19.sb
      simpa using this

end Go.Th.L
end

section
/- json: printing, and names looked up. -/
set_option linter.unusedSimpArgs false
set_option linter.unusedVariables false
set_option maxHeartbeats 1000000
namespace Go.Th.Pure
open Go
theorem check_zero {v : JV} (h : checkJ v = 0) : allJ form1 v = true ∧ deepJ v ≤ 8 ∧ allJ small1 v = true ∧ allJ few1 v = true ∧ allJ unlike1 v = true := by
  unfold checkJ at h
  split at h
  · cases h
  split at h
  · cases h
  split at h
  · cases h
  split at h
  · cases h
  split at h
  · cases h
  · rename_i h1 h2 h3 h4 h5
    exact ⟨by simpa using h1, by omega, by simpa using h3, by simpa using h4, by simpa using h5⟩
def getJ (v : JV) (name : Bs8) : Option JV := if v.sort = 7 then (v.names.findIdx? fun t => decide (t = name)).bind fun j => v.list[j]? else none
end Go.Th.Pure
namespace Go.Th.L
open Go Go.Th Go.Th.Pure
variable {P : Program} {N : Nat → Nat}

structure PrintF (P : Program) (N : Nat → Nat) : Prop where
  c : CheckF P N
  print : json_Print.Ok P N
  lay : json_lay.Ok P N
  quote : json_quote.Ok P N
  len : strings_Builder_Len.Ok P N
  sb : ∃ e, SbOk P (N Fn.ty_strings_Builder) e (N Fn.strings_Builder_WriteByte) (N Fn.strings_Builder_WriteString) (N Fn.strings_Builder_String)

def PrintsJ (P : Program) (f : FuncId) (S0 : St) : Prop := ∀ {S : St} {v : JV} {lv nv : V} {K : Bs8 → Int → St → Prop}, Grow S0 S → RV S S.next v lv nv → deepJ v ≤ 4611686018427387904 → 40 * partsJ v ≤ 70368744177664 → (∀ S', Grow S S' → K (printJ v).1 (printJ v).2 S') →
  CallA P f [.agg (vcells v lv nv)] S (retT [.one .str, .one (.int .i64)] K)

theorem json_Print.spec (hF : PrintF P N) {S0 : St} (hI : ItoaJ P (N Fn.strconv_Itoa) S0) : PrintsJ P (N Fn.json_Print) S0 := by
  intro S v lv nv K h0 hv hd hp hk
  obtain ⟨e, hB⟩ := hF.sb
  refine json_Print.run hF.print (newS_mk h0.wf fun S1 g1 m1 n1 => ⟨_, _, _, _, _, ld5 m1, json_Check.spec hF.c g1.wf (hv.grow g1 g1.le) hd fun S2 g2 => ?_⟩)
  have g02 := g1.trans g2
  have v2 := hv.grow g02 g02.le
  unfold printJ at hk
  refine ifC_ndec (fun hc => ?_) fun hc => ?_
  · rw [if_neg hc] at hk
    exact hk S2 g02
  rw [if_pos hc] at hk
  obtain ⟨c1, _, c2, _, _⟩ := check_zero hc
  refine newS_mk g2.wf fun S3 g3 m3 n3 => ?_
  have g03 := g02.trans g3
  have hll := lay_len v c2
  refine ⟨_, _, _, _, _, ld5 (g3.get (g2.get m1)), json_lay.ok hF.lay hB (json_quote.spec hF.quote hB) hI (SizeOf.sizeOf v + 1) (B := S2.next) (b := S2.next) (g := []) (acc := []) (h0.trans g03) (Nat.le_trans h0.le g02.le) (by simp) (SbAt.fresh m3) (v2.grow g3 (Nat.le_refl _)) (Nat.le_refl _) (by simp) c1 c2 (Nat.lt_succ_self _) (by simp; omega) fun S4 g' k4 u4 t4 => ?_⟩
  have g04 : Grow S S4 := g03.after u4 fun j hj => .inl (by simp only [List.mem_cons, List.not_mem_nil, or_false] at hj; rw [hj]; exact g02.le)
  rw [List.nil_append] at k4
  obtain ⟨x, l1, l2⟩ := k4.len
  refine strings_Builder_Len.run hF.len ⟨rfl, ifS_mk (a := .ptr S2.next 1) rfl (ifS_mk l1 ⟨_, l2, ?_⟩)⟩
  refine ifC_dec (fun h => ?_) fun h => ?_
  · rw [if_pos (by omega)] at hk
    exact hk S4 g04
  · rw [if_neg (by omega)] at hk
    refine hB.string u4.wf k4 fun S6 u6 => hk S6 (g04.after u6 fun j hj => .inl ?_)
    rcases List.mem_cons.mp hj with rfl | hj
    · exact g02.le
    · rcases t4 j hj with h' | h'
      · cases h'
      · have := g03.le; omega

def GetsJ (P : Program) (f : FuncId) : Prop := ∀ {S : St} {v : JV} {lv nv : V} {name : Bs8} {K : Int → Int → Bs8 → V → V → Bool → St → Prop}, S.Wf → RV S S.next v lv nv → (getJ v name = none → ∀ S', Grow S S' → K 0 0 [] .nilSlice .nilSlice false S') →
  (∀ w lw nw S', getJ v name = some w → Grow S S' → RV S' S'.next w lw nw → K w.sort w.num w.text lw nw true S') → CallA P f [.agg (vcells v lv nv), .str name] S (retT [.agg [.int .i64, .int .i64, .str, .any, .any], .one .bool] K)

theorem findIdx_none {l : List Bs8} {name : Bs8} (h : ∀ k (hk : k < l.length), l[k] ≠ name) : l.findIdx? (fun t => decide (t = name)) = none := by
  rw [List.findIdx?_eq_none_iff]
  intro t ht
  obtain ⟨k, hk, rfl⟩ := List.getElem_of_mem ht
  simpa using h k hk
theorem findIdx_some {l : List Bs8} {name : Bs8} {j : Nat} (hj : j < l.length) (h : ∀ k (hk : k < j), l[k]'(by omega) ≠ name) (he : l[j] = name) : l.findIdx? (fun t => decide (t = name)) = some j := by
  rw [List.findIdx?_eq_some_iff_getElem]
  exact ⟨hj, by simpa using he, fun k hk => by simpa using h k hk⟩

theorem slices_Index_Lstring.spec (hF : slices_Index_Lstring.Ok P N) {S : St} (hw : S.Wf) {nv : V} {ns : List Bs8} {name : Bs8} (h : SlAt S 1 nv ns.length (ns.map V.str)) {K : Int → St → Prop}
    (hk : K (match ns.findIdx? fun t => decide (t = name) with
      | some j => ((j : Nat) : Int)
      | none => -1) S) : CallA P (N Fn.slices_Index_Lstring) [nv, .str name] S (retT [.one (.int .i64)] K) := by
  have hle := h.le
  refine slices_Index_Lstring.run hF ⟨_, h.len, Loop1.ind (fun m x S' => S = S' ∧ ∃ j : Nat, x = j ∧ j ≤ ns.length ∧ m = ns.length - j ∧ ∀ k (hk : k < j) (hk2 : k < ns.length), ns[k] ≠ name) ns.length ⟨rfl, 0, rfl, Nat.zero_le _, rfl, fun k hk => absurd hk (Nat.not_lt_zero _)⟩ ?_⟩
  rintro m _ _ ⟨rfl, j, rfl, hj, rfl, hne⟩
  refine ifC_dec (fun hx => ?_) fun hx => ?_
  · have hj : j < ns.length := by omega
    refine ifS_mk (h.idx hj) ⟨ns[j], by rw [h.load hj (by omega)]; simp [hj], ifC_dec (fun he => ?_) fun he => ?_⟩
    · rw [findIdx_some hj (fun k hk => hne k hk (by omega)) he.symm] at hk
      exact hk
    · refine setI_mk (n := ((j + 1 : Nat) : Int)) (wrap_next hj hle) ⟨ns.length - (j + 1), by omega, rfl, j + 1, rfl, hj, rfl, fun k hk hk2 => ?_⟩
      by_cases hkj : k = j
      · subst hkj; exact fun e => he e.symm
      · exact hne k (by omega) hk2
  · rw [findIdx_none fun k hk => hne k (by omega) hk] at hk
    exact hk

theorem json_Get.spec (hF : json_Get.Ok P N) (hX : slices_Index_Lstring.Ok P N) : GetsJ P (N Fn.json_Get) := by
  intro S v lv nv name K hw hv h0 h1
  obtain ⟨es, hv⟩ := hv.at_
  refine json_Get.run hF (newS_mk hw fun S1 g1 m1 n1 => newS_mk g1.wf fun S2 g2 m2 n2 => ?_)
  have g02 := g1.trans g2
  have v2 := hv.grow g02 g02.le
  have p2 := g2.get m1
  refine ifS_mk (ld p2 rfl) (slices_Index_Lstring.spec hX g2.wf v2.nm ?_)
  have up : ∀ {S'}, Upd [S1.next] S2 S' → Grow S S' := fun u => g02.after u fun j hj => .inl (by rw [List.mem_singleton.mp hj]; exact g1.le)
  refine Join1.mid (fun x S' => S2 = S' ∧ (x = true → getJ v name = none) ∧ (x = false → ∃ j : Nat, (v.names.findIdx? fun t => decide (t = name)) = some j ∧ j < v.list.length ∧ v.sort = 7)) ?_ ?_
  · refine ⟨v.sort, ld p2 rfl, ifC_ndec (fun h => ⟨rfl, fun _ => by unfold getJ; rw [if_neg h], fun h => by cases h⟩) fun h => ?_⟩
    cases hi : v.names.findIdx? (fun t => decide (t = name)) with
    | none => exact ifC_tt rfl ⟨rfl, fun _ => by unfold getJ; rw [if_pos h, hi]; rfl, fun h => by cases h⟩
    | some j =>
      refine ifC_ff (by rw [decide_eq_false_iff_not]; simp only; omega) (ifS_mk (ld p2 rfl) ⟨_, v2.len, rfl, fun hx => ?_, fun hx => ⟨j, rfl, ?_, h⟩⟩)
      · unfold getJ
        rw [if_pos h, hi, Option.bind_some]
        have hx := of_decide_eq_true hx
        exact List.getElem?_eq_none (by simp only at hx; omega)
      · have hx := of_decide_eq_false hx
        simp only at hx; omega
  rintro x _ ⟨rfl, hx1, hx0⟩
  refine ifC_tt_ff (fun hx => ?_) fun hx => ?_
  · exact fin_mk g2.wf m2 rfl rfl fun S' u => h0 (hx1 hx) S' (up u)
  · obtain ⟨j, hi, hj, hs⟩ := hx0 hx
    have hg : getJ v name = some v.list[j] := by
      unfold getJ
      rw [if_pos hs, hi, Option.bind_some, List.getElem?_eq_getElem hj]
    rw [hi]
    obtain ⟨lw, nw, e, r⟩ := v2.elt hj
    have o : lw.one = true ∧ nw.one = true := by obtain ⟨es2, r2⟩ := r.at_; exact r2.ones
    refine ifS_mk (ld p2 rfl) (ifS_mk (v2.idx hj) ⟨_, _, _, _, _, e, fin_mk g2.wf m2 o.1 o.2 fun S' u => ?_⟩)
    have v' := hv.grow (up u) (up u).le
    obtain ⟨lw2, nw2, e2, r2⟩ := v'.elt hj
    have hjs : j < es.length := by rw [RVs.length hv.rs]; exact hj
    have e3 := v2.sl.getN (j := j) hjs (by omega)
    have e4 := v'.sl.getN (j := j) hjs (by omega)
    rw [e] at e3
    rw [e2, ← e3] at e4
    simp only [vcells, Option.some.injEq, V.agg.injEq, List.cons.injEq, and_true, true_and] at e4
    rw [e4.1, e4.2] at r2
    exact h1 _ lw nw S' hg (up u) r2

end Go.Th.L
end

section
/- json's laws: the document's examples. -/
set_option linter.unusedSimpArgs false
set_option linter.unusedVariables false
set_option maxHeartbeats 1000000
namespace Go.Th.L
open Go Go.Th Go.Th.Pure
variable {P : Program} {N : Nat → Nat}

theorem parse_a : parseJ [32, 123, 32, 34, 97, 34, 32, 58, 32, 91, 32, 49, 32, 44, 32, 45, 50, 32, 93, 32, 125, 32] = (.mk 7 0 [] [.mk 6 0 [] [.mk 4 1 [] [] [], .mk 4 (-2) [] [] []] []] [[97]], 0) := by rfl
theorem parse_b : parseJ [48, 49] = (jnil, 200) := by rfl
theorem parse_c : parseJ [91, 91, 91, 91, 91, 91, 91, 91, 91, 93, 93, 93, 93, 93, 93, 93, 93, 93] = (jnil, 201) := by rfl
theorem itoa_1 : Lib.itoa 1 = [49] := by
  unfold Lib.itoa
  rw [if_neg (by decide), Lib.decDigits, dif_pos (by decide)]
  rfl
theorem itoa_2 : Lib.itoa (-2) = [45, 50] := by
  unfold Lib.itoa
  rw [if_pos (by decide), Lib.decDigits, dif_pos (by decide)]
  rfl
theorem print_a : printJ (.mk 7 0 [] [.mk 6 0 [] [.mk 4 1 [] [] [], .mk 4 (-2) [] [] []] []] [[97]]) = ([123, 34, 97, 34, 58, 91, 49, 44, 45, 50, 93, 125], 0) := by
  have e : layJ (.mk 7 0 [] [.mk 6 0 [] [.mk 4 1 [] [] [], .mk 4 (-2) [] [] []] []] [[97]]) = [123, 34, 97, 34, 58, 91] ++ (Lib.itoa 1 ++ ([44] ++ (Lib.itoa (-2) ++ [93, 125]))) := by simp [layJ, laysJ, quoteJ, quoteB]
  unfold printJ
  rw [e, itoa_1, itoa_2]
  rfl
theorem print_b : printJ (.mk 5 0 [10, 34, 255] [] []) = ([34, 92, 117, 48, 48, 48, 97, 92, 34, 92, 117, 48, 48, 102, 102, 34], 0) := by rfl

theorem ParsesJ.at_ {f : FuncId} {gs : List Nat} (h : ParsesJ P f gs) {S : St} {s : Bs8} {K : Int → Int → Bs8 → V → V → Int → St → Prop} (hw : S.Wf) (hG : GV gs S) {v : JV} {c : Int} (e : parseJ s = (v, c))
    (hk : ∀ lv nv F S', Grow S S' → VAt S' S.next v lv nv F → K v.sort v.num v.text lv nv c S') : CallA P f [.str s] S (retT [.agg [.int .i64, .int .i64, .str, .any, .any], .one (.int .i64)] K) :=
  h hw hG fun lv nv F S' g hv => by rw [e] at hv ⊢; exact hk lv nv F S' g hv
theorem VAt.rv' {S : St} (hw : S.Wf) {b : Nat} {v : JV} {lv nv : V} {F : List Nat} (h : VAt S b v lv nv F) : RV S S.next v lv nv := VAt.rv v h fun j hj => by obtain ⟨_, _, h⟩ := VAt.own v h j hj; exact hw.lt h
theorem RV.ones {S : St} {B : Nat} {v : JV} {lv nv : V} (h : RV S B v lv nv) : lv.one = true ∧ nv.one = true := by obtain ⟨es, h⟩ := h.at_; exact h.ones
theorem RV.nil (S : St) (B : Nat) (so n : Int) (t : Bs8) : RV S B (.mk so n t [] []) .nilSlice .nilSlice := by
  simp only [RV]
  exact ⟨[], ⟨⟨by decide, by simp, .inl ⟨rfl, rfl⟩⟩, by simp⟩, by simp only [RVs], ⟨by simp, by simp, .inl ⟨rfl, rfl⟩⟩, by simp, by simp⟩

theorem copy_mk {S : St} (hw : S.Wf) {v : JV} {lv nv : V} (h1 : lv.one = true) (h2 : nv.one = true) {K : St → Prop} (hk : ∀ S', Grow S S' → S'.get S.next = some (.cells (vcells v lv nv) true) → K S') :
    newS S (.cells [(V.int .i64 0), (V.int .i64 0), (V.str ([] : List UInt8)), V.nilSlice, V.nilSlice] true) fun S2 => ifS (storeV S2 5 (V.ptr S.next 0) (V.agg [(V.int .i64 v.sort), (V.int .i64 v.num), (V.str v.text), lv, nv])) K :=
  newS_mk hw fun S1 g1 m1 n1 => st_mk g1.wf m1 (by simp [V.cells]) (by simp [V.cells]) (by simp only [V.cells, List.all_cons, List.all_nil, h1, h2]; rfl) fun S2 u2 m2 n2 => hk S2 (g1.after u2 fun j hj => .inl (by rw [List.mem_singleton.mp hj]; exact Nat.le_refl _)) m2

structure Awake20F (P : Program) (N : Nat → Nat) (gs : List Nat) (S0 : St) : Prop where
  parse : ParsesJ P (N Fn.json_Parse) gs
  print : PrintsJ P (N Fn.json_Print) S0
  get : GetsJ P (N Fn.json_Get)
  awake : law20_awake.Ok P N

theorem law20_awake.spec {gs : List Nat} {S0 : St} (hF : Awake20F P N gs S0) {S : St} (h0 : Grow S0 S) (hG : GV gs S) {K : Bool → St → Prop} (hk : ∀ S', Grow S S' → K true S') : CallA P (N Fn.law20_awake) [] S (retT [.one .bool] K) := by
  refine law20_awake.run hF.awake (ParsesJ.at_ hF.parse h0.wf hG parse_a fun lv nv F S1 g1 v1 => ?_)
  have o1 := v1.ones
  refine copy_mk g1.wf o1.1 o1.2 fun S3 g3 m3 => ?_
  have g03 := g1.trans g3
  have v3 := (v1.grow g3).rv' g3.wf
  refine ⟨_, _, _, _, _, ld5 m3, hF.print (h0.trans g03) v3 (by decide) (by decide) fun S4 g4 => ?_⟩
  rw [print_a]
  have g04 := g03.trans g4
  refine ParsesJ.at_ hF.parse g4.wf (hG.upd g04 (by simp)) parse_b fun lv2 nv2 F2 S5 g5 v5 => copy_mk g5.wf v5.ones.1 v5.ones.2 fun S7 g7 m7 => ?_
  have g07 := (g04.trans g5).trans g7
  refine ParsesJ.at_ hF.parse g7.wf (hG.upd g07 (by simp)) parse_c fun lv3 nv3 F3 S8 g8 v8 => copy_mk g8.wf v8.ones.1 v8.ones.2 fun S10 g10 m10 => ?_
  have g010 := (g07.trans g8).trans g10
  refine hF.print (v := .mk 5 0 [10, 34, 255] [] []) (h0.trans g010) (RV.nil _ _ _ _ _) (by decide) (by decide) fun S11 g11 => ?_
  rw [print_b]
  have g311 := ((((g4.trans g5).trans g7).trans g8).trans g10).trans g11
  have g011 := g03.trans g311
  refine ⟨_, _, _, _, _, ld5 (Grow.get g311 m3), hF.get (name := [97]) g11.wf (v3.grow g311 g311.le) (fun e => by cases e) fun w lw nw S12 e g12 r12 => ?_⟩
  obtain rfl : w = .mk 6 0 [] [.mk 4 1 [] [] [], .mk 4 (-2) [] [] []] [] := by
    have : getJ (.mk 7 0 [] [.mk 6 0 [] [.mk 4 1 [] [] [], .mk 4 (-2) [] [] []] []] [[97]]) [97] = some (.mk 6 0 [] [.mk 4 1 [] [] [], .mk 4 (-2) [] [] []] []) := by rfl
    rw [this] at e
    exact (Option.some.inj e).symm
  refine copy_mk g12.wf r12.ones.1 r12.ones.2 fun S14 g14 m14 => ?_
  have r14 := r12.grow g14 g14.le
  obtain ⟨es, r14⟩ := r14.at_
  refine ifC_tt rfl (ifC_tt rfl (ifC_tt rfl (ifC_tt rfl (ifC_tt rfl (ifC_tt rfl (ifC_tt rfl (ifC_tt rfl (ifS_mk (ld m14 rfl) ⟨_, r14.len, ?_⟩))))))))
  exact hk S14 ((g011.trans g12).trans g14)

end Go.Th.L
end
