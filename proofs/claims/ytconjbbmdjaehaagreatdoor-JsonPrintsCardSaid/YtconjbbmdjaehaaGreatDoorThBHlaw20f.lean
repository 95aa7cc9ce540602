/- What the row of one statement stands on: a store, abstract code, functions of the program and their laws (ThHjson17, ThHjson18, ThHjson19, ThHjson20, ThHjson21, ThHjson22, ThHjson23, ThHjson24, ThHref20i, ThHlaw20a, ThHlaw20b, ThPjson8, ThPjson9, ThPjson10, ThPjson11, ThHlaw20d, ThHref20j, ThHref20k, ThHlaw20f). -/
import Derived.Test.YtconjbbmdjaehaaGreatDoorThBHcut
import Derived.Test.YtconjbbmdjaehaaGreatDoorThBGstringsLen
import Derived.Test.YtconjbbmdjaehaaGreatDoorThBQ12
import Derived.Test.YtconjbbmdjaehaaGreatDoorThBPjson7
import Derived.Test.YtconjbbmdjaehaaGreatDoorThBO7

section
/- json: what a value must be. -/
set_option linter.unusedSimpArgs false
set_option linter.unusedVariables false
set_option maxHeartbeats 1000000
namespace Go.Th.L
open Go Go.Th Go.Th.Pure
variable {P : Program} {N : Nat → Nat}

structure CheckF (P : Program) (N : Nat → Nat) : Prop where
  check : json_Check.Ok P N
  all : json_all.Ok P N
  all1 : json_all_1.Ok P N
  cont : slices_ContainsFunc_Lapi_Value.Ok P N
  index : slices_IndexFunc_Lapi_Value.Ok P N
  formed : json_formed.Ok P N
  deep : json_deep.Ok P N
  c1 : json_Check_1.Ok P N
  c2 : json_Check_2.Ok P N
  c3 : json_Check_3.Ok P N
  canall : canEnter P (N Fn.json_all_1) = true
  canf : canEnter P (N Fn.json_formed) = true
  can1 : canEnter P (N Fn.json_Check_1) = true
  can2 : canEnter P (N Fn.json_Check_2) = true
  can3 : canEnter P (N Fn.json_Check_3) = true

theorem json_all.asks (hF : CheckF P N) {f : FuncId} {q : JV → Bool} (hf : ∀ n, AsksJ P f q n) (hcan : canEnter P f = true) (n : Nat) : ∀ {S : St} {v : JV} {lv nv : V} {K : Bool → St → Prop}, S.Wf → RV S S.next v lv nv → SizeOf.sizeOf v < n → (∀ S', Grow S S' → K (allJ q v) S') →
    CallA P (N Fn.json_all) [.agg (vcells v lv nv), .func (.func f) [] []] S (retT [.one .bool] K) := by
  induction n with
  | zero =>
    intro S v lv nv K _ _ h
    exact absurd h (Nat.not_lt_zero _)
  | succ n ih =>
    intro S v lv nv K hw hv hn hk
    refine json_all.run hF.all (newS_mk hw fun S1 g1 m1 n1 => newS_mk g1.wf fun S2 g2 m2 n2 => ?_)
    rw [allJ_eq] at hk
    obtain ⟨es, hv⟩ := hv.at_
    have g02 := g1.trans g2
    have v2 := hv.grow g02 g02.le
    refine ifS_mk (a := .func (.func f) [] []) (ld m2 rfl) ⟨_, _, _, _, _, ld5 (g2.get m1), ifS_mk (callee_mk hcan) (hf _ g2.wf v2.rv (Nat.lt_succ_self _) fun S3 g3 => ?_)⟩
    have g03 := g02.trans g3
    have v3 := v2.grow g3 g3.le
    refine ifC_tt_ff (fun hq => ?_) fun hq => by rw [hq] at hk; exact hk S3 g03
    rw [hq] at hk
    refine ifS_mk (ld (g3.get (g2.get m1)) rfl) (slices_ContainsFunc_Lapi_Value.run hF.cont (slices_IndexFunc_Lapi_Value.run hF.index ⟨_, v3.len, ?_⟩))
    refine Loop1.ind (fun m x S' => ∃ j : Nat, x = j ∧ j ≤ v.list.length ∧ m = v.list.length - j ∧ Grow S3 S' ∧ (v.list.take j).all (allJ q) = true) v.list.length ⟨0, rfl, Nat.zero_le _, rfl, Upd.refl g3.wf _, rfl⟩ ?_
    rintro m _ S4 ⟨j, rfl, hj, rfl, g4, ha⟩
    have v4 := v3.grow g4 g4.le
    refine ifC_dec (fun hx => ?_) fun hx => ?_
    · have hj : j < v.list.length := by omega
      obtain ⟨lw, nw, e, r⟩ := v4.elt hj
      refine ifS_mk (v4.idx hj) ⟨_, _, _, _, _, e, ifS_mk (callee_mk hF.canall) (json_all_1.run hF.all1 (newS_mk g4.wf fun S5 g5 m5 n5 => ⟨_, _, _, _, _, ld5 m5, ?_⟩))⟩
      refine ifS_mk (a := .func (.func f) [] []) (ld (g5.get (g4.get (g3.get m2))) rfl) (ih g5.wf (r.grow g5 g5.le) (by have := JV.list_lt (List.getElem_mem hj); omega) fun S6 g6 => ?_)
      have g46 := g4.trans (g5.trans g6)
      cases hq2 : allJ q v.list[j] with
      | false =>
        have := hk S6 (g03.trans g46)
        rw [all_false hj hq2] at this
        refine ifC_tt rfl ?_
        have h0 : decide ((0 : Int) ≤ ((j : Nat) : Int)) = true := by simp
        show K (!decide ((0 : Int) ≤ ((j : Nat) : Int))) S6
        rw [h0]
        exact this
      | true => exact ifC_ff rfl (setI_mk (n := ((j + 1 : Nat) : Int)) (wrap_next hj hv.le) ⟨v.list.length - (j + 1), by omega, j + 1, rfl, hj, rfl, g46, all_take hj ha hq2⟩)
    · have hj : j = v.list.length := by omega
      subst hj
      rw [List.take_length] at ha
      have := hk S4 (g03.trans g4)
      rw [ha] at this
      exact this

theorem json_formed.asks1 (hF : json_formed.Ok P N) (n : Nat) : AsksJ P (N Fn.json_formed) form1 n := by
  intro S v lv nv K hw hv hn hk
  refine json_formed.run hF (newS_mk hw fun S1 g1 m1 n1 => ⟨_, _, _, _, _, ld5 m1, newS_mk g1.wf fun S2 g2 m2 n2 => ?_⟩)
  obtain ⟨es, hv⟩ := hv.at_
  have o1 := hv.ones
  have lc : ∀ {k m : Nat} {x : V} {cs : List V}, SlAt S k x m cs → x.cells = [x] := fun h => h.cells1
  refine st_mk g2.wf m2 (by simp [V.cells]) (by simp [V.cells]) (by simp only [V.cells, List.all_cons, List.all_nil, o1.1, o1.2]; rfl) fun S3 u3 m3 n3 => ?_
  have g03 : Grow S S3 := (g1.trans g2).after u3 fun j hj => .inl (by rw [List.mem_singleton.mp hj]; have := g1.le; omega)
  have hne : S.next ≠ S1.next := by omega
  have c3 : S3.get S.next = some (.cells (vcells v lv nv) true) := u3.get (g2.get m1) (by simp; omega)
  have m3 : S3.get S1.next = some (.cells (vcells v lv nv) true) := m3
  have v3 := hv.grow g03 g03.le
  have tail : ∀ {S4 : St} {m0 : Int} {t0 : Bs8} {l0 n0 : V} {ll nn : Nat}, Grow S S4 → S4.get S1.next = some (.cells [.int .i64 v.sort, .int .i64 m0, .str t0, l0, n0] true) → lenV S4 2 l0 = some (.int .i64 (ll : Nat)) → lenV S4 2 n0 = some (.int .i64 (nn : Nat)) →
      K (decide (m0 = 0) && decide (t0 = []) && decide (ll = 0) && decide (nn = 0)) S4 → ∃ x32 : Int, loadV S4 (V.ptr S1.next 1) = some (V.int .i64 x32) ∧
   ifC (decide (x32 = (0 : Int)))
   (∃ x36 : List UInt8, loadV S4 (V.ptr S1.next 2) = some (V.str x36) ∧
   ifC (decide (x36 = ([] : List UInt8)))
   (ifS (loadV S4 (V.ptr S1.next 3)) fun x41 =>
   ∃ x42 : Int, lenV S4 2 x41 = some (V.int .i64 x42) ∧
   ifC (decide (x42 = (0 : Int)))
   (ifS (loadV S4 (V.ptr S1.next 4)) fun x47 =>
   ∃ x48 : Int, lenV S4 2 x47 = some (V.int .i64 x48) ∧
   K (decide (x48 = (0 : Int))) S4)
   (K false S4))
   (K false S4))
   (K false S4) := by
    intro S4 m0 t0 l0 n0 ll nn g4 c4 e1 e2 hk
    refine ⟨m0, ld c4 rfl, ifC_dec (fun hx => ⟨t0, ld c4 rfl, ifC_dec (fun hy => ifS_mk (ld c4 rfl) ⟨_, e1, ifC_dec (fun hz => ifS_mk (ld c4 rfl) ⟨_, e2, ?_⟩) fun hz => ?_⟩) fun hy => ?_⟩) fun hx => ?_⟩
    · have hz' : ll = 0 := by omega
      rw [hx, hy, hz'] at hk
      have : decide (((nn : Nat) : Int) = 0) = decide (nn = 0) := by rw [decide_eq_decide]; omega
      rw [this]
      simpa using hk
    · have hz' : ll ≠ 0 := by omega
      simpa [hz'] using hk
    · simpa [hy] using hk
    · simpa [hx] using hk
  have nil0 : ∀ {S4 : St}, lenV S4 2 V.nilSlice = some (.int .i64 ((0 : Nat) : Int)) := rfl
  have up : ∀ {S4 : St}, Upd [S1.next] S3 S4 → Grow S S4 := fun u => g03.after u fun j hj => .inl (by rw [List.mem_singleton.mp hj]; have := g1.le; omega)
  refine Join0.mid (fun S' => ∃ m0 t0 l0 n0, ∃ ll nn : Nat, Grow S S' ∧ S'.get S1.next = some (.cells [.int .i64 v.sort, .int .i64 m0, .str t0, l0, n0] true) ∧ lenV S' 2 l0 = some (.int .i64 (ll : Nat)) ∧ lenV S' 2 n0 = some (.int .i64 (nn : Nat)) ∧ form1 v = (decide (m0 = 0) && decide (t0 = []) && decide (ll = 0) && decide (nn = 0))) ?_ ?_
  · refine ⟨v.sort, ld c3 rfl, Join1.mid (fun b S' => S3 = S' ∧ b = decide (v.sort = 1 ∨ v.sort = 2 ∨ v.sort = 3)) ?_ ?_⟩
    · refine ifC_dec (fun hx => ⟨rfl, by simp [hx]⟩) fun hx => ifC_dec (fun hy => ⟨rfl, by simp [hy]⟩) fun hy => ⟨rfl, by simp [hx, hy]⟩
    rintro _ _ ⟨rfl, rfl⟩
    have fin : ∀ {m0 : Int} {t0 : Bs8} {ll nn : Nat}, ((1 ≤ v.sort ∧ v.sort ≤ 7 ∧ (v.sort = 4 ∨ v.num = 0) ∧ (v.sort = 5 ∨ v.text = []) ∧ (v.sort = 6 ∨ v.sort = 7 ∨ v.list.length = 0) ∧ (v.sort = 7 → v.names.length = v.list.length) ∧ (v.sort ≠ 7 → v.names.length = 0)) ↔ (m0 = 0 ∧ t0 = [] ∧ ll = 0 ∧ nn = 0)) → form1 v = (decide (m0 = 0) && decide (t0 = []) && decide (ll = 0) && decide (nn = 0)) := by
      intro m0 t0 ll nn h
      rw [Bool.eq_iff_iff, form1_iff, h]
      simp [and_assoc]
    refine ifC_dec (fun hx => ?_) fun hx => ?_
    · refine ⟨v.num, v.text, lv, nv, _, _, g03, m3, v3.len, v3.nlen, fin ?_⟩
      have e5 : v.sort ≠ 5 := by omega
      have e7 : v.sort ≠ 7 := by omega
      have e6 : v.sort ≠ 6 := by omega
      have e4 : v.sort ≠ 4 := by omega
      simp only [e5, e7, e6, e4, false_or, false_imp_iff, true_imp_iff, true_and, ne_eq, not_false_eq_true]
      constructor
      · rintro ⟨_, _, h⟩; exact h
      · intro h; exact ⟨by omega, by omega, h⟩
    refine ifC_dec (fun h4 => ?_) fun h4 => ?_
    · refine st_mk g03.wf m3 (by rfl) (by simp [V.cells, vcells]) (by rfl) fun S6 u6 m6 n6 => ?_
      have g6 := up u6
      have v6 := hv.grow g6 g6.le
      refine ⟨0, v.text, lv, nv, _, _, g6, m6, v6.len, v6.nlen, fin ?_⟩
      simp [h4]
    refine ifC_dec (fun h5 => ?_) fun h5 => ?_
    · refine st_mk g03.wf m3 (by rfl) (by simp [V.cells, vcells]) (by rfl) fun S6 u6 m6 n6 => ?_
      have g6 := up u6
      have v6 := hv.grow g6 g6.le
      refine ⟨v.num, [], lv, nv, _, _, g6, m6, v6.len, v6.nlen, fin ?_⟩
      simp [h5]
    refine ifC_dec (fun h6 => ?_) fun h6 => ?_
    · refine st_mk g03.wf m3 (by rfl) (by simp [V.cells, vcells]) (by rfl) fun S6 u6 m6 n6 => ?_
      have g6 := up u6
      have v6 := hv.grow g6 g6.le
      refine ⟨v.num, v.text, .nilSlice, nv, 0, _, g6, m6, nil0, v6.nlen, fin ?_⟩
      simp [h6]
    refine ifC_dec (fun h7 => ?_) fun h7 => ?_
    · refine ifS_mk (ld c3 rfl) ⟨_, v3.nlen, ifS_mk (ld c3 rfl) ⟨_, v3.len, ifC_ndec (fun hne => ?_) fun heq => ?_⟩⟩
      · have := hk S3 g03
        have hf : form1 v = false := by rw [← Bool.not_eq_true, form1_iff]; intro h; have := h.2.2.2.2.2.1 h7; omega
        rw [hf] at this
        exact this
      · refine st_mk g03.wf m3 (by rfl) (by simp [V.cells, vcells]) (by rfl) fun S6 u6 m6 n6 => st_mk u6.wf m6 (by rfl) (by simp [V.cells, vcells, over]) (by rfl) fun S8 u8 m8 n8 => ?_
        have g8 := up (u6.trans u8)
        refine ⟨v.num, v.text, .nilSlice, .nilSlice, 0, 0, g8, m8, nil0, nil0, fin ?_⟩
        have : v.names.length = v.list.length := by omega
        simp [h7, this]
    · have := hk S3 g03
      have hf : form1 v = false := by rw [← Bool.not_eq_true, form1_iff]; intro h; omega
      rw [hf] at this
      exact this
  · rintro S4 ⟨m0, t0, l0, n0, ll, nn, g4, c4, e1, e2, hf⟩
    refine tail g4 c4 e1 e2 ?_
    rw [← hf]
    exact hk S4 g4

theorem json_deep.deeps (hF : json_deep.Ok P N) (n : Nat) : DeepsJ P (N Fn.json_deep) n := by
  induction n with
  | zero =>
    intro S v lv nv K _ _ h
    exact absurd h (Nat.not_lt_zero _)
  | succ n ih =>
    intro S v lv nv K hw hv hn hd hk
    refine json_deep.run hF (newS_mk hw fun S1 g1 m1 n1 => ?_)
    obtain ⟨es, hv⟩ := hv.at_
    have v1 := hv.grow g1 g1.le
    rw [deepJ_eq] at hk hd
    refine Join0.mid (fun S' => S1 = S' ∧ (v.sort = 6 ∨ v.sort = 7)) ?_ ?_
    · refine ⟨v.sort, ld m1 rfl, ifC_ndec (fun hx => ⟨v.sort, ld m1 rfl, ifC_ndec (fun hy => ?_) fun hy => ⟨rfl, .inr hy⟩⟩) fun hx => ⟨rfl, .inl hx⟩⟩
      rw [if_neg (by omega)] at hk
      exact hk S1 g1
    rintro _ ⟨rfl, hs⟩
    rw [if_pos hs] at hk hd
    refine ifS_mk (ld m1 rfl) ⟨_, v1.len, ?_⟩
    refine Loop2.ind (fun m y x S' => ∃ j : Nat, x = j ∧ j ≤ v.list.length ∧ m = v.list.length - j ∧ Grow S1 S' ∧ y = (deepsJ (v.list.take j) : Nat)) v.list.length ⟨0, rfl, Nat.zero_le _, rfl, Upd.refl g1.wf _, by rw [List.take_zero, deepsJ]; rfl⟩ ?_
    rintro m _ _ S3 ⟨j, rfl, hj, rfl, g, rfl⟩
    have h3 := v1.grow g g.le
    refine ifC_dec (fun hx => ?_) fun hx => ?_
    · have hj : j < v.list.length := by omega
      obtain ⟨lw, nw, e, r⟩ := h3.elt hj
      have hm := List.getElem_mem hj
      obtain ⟨es2, r2⟩ := r.at_
      refine ifS_mk (h3.idx hj) ⟨_, _, _, _, _, e, newS_mk g.wf fun S4 g4 m4 n4 => st_mk g4.wf m4 (by simp [V.cells]) (by simp [V.cells]) (by simp only [V.cells, List.all_cons, List.all_nil, r2.ones.1, r2.ones.2]; rfl) fun S5 u5 m5 n5 => ?_⟩
      have g35 : Grow S3 S5 := g4.after u5 fun j hj => .inl (by rw [List.mem_singleton.mp hj]; exact Nat.le_refl _)
      refine ⟨_, _, _, _, _, ld5 (v := v.list[j]) m5, ih g35.wf (r.grow g35 (by have := g1.le; have := g.le; have := g35.le; omega)) (by have := JV.list_lt hm; omega) (by have := deepsJ_le hm; omega) fun S6 g6 => ?_⟩
      exact setI_mk (n := ((j + 1 : Nat) : Int)) (wrap_next hj hv.le) ⟨v.list.length - (j + 1), by omega, j + 1, rfl, hj, rfl, g.trans (g35.trans g6), by rw [goMax_nat, deepsJ_take hj]⟩
    · have hj : j = v.list.length := by omega
      subst hj
      rw [List.take_length]
      exact setI_mk (n := ((deepsJ v.list + 1 : Nat) : Int)) (wrap_nat (by omega)) (hk S3 (g1.trans g))

end Go.Th.L
end

section
/- json: what a value must be, all together. -/
set_option linter.unusedSimpArgs false
set_option linter.unusedVariables false
set_option maxHeartbeats 1000000
namespace Go.Th.L
open Go Go.Th Go.Th.Pure
variable {P : Program} {N : Nat → Nat}

theorem mem_take_succ {l : List Bs8} {j : Nat} (hj : j < l.length) {t : Bs8} : t ∈ l.take (j + 1) ↔ t ∈ l.take j ∨ t = l[j] := by
  rw [← List.take_append_getElem hj, List.mem_append, List.mem_singleton]

theorem json_Check_1.asks (hF : json_Check_1.Ok P N) (n : Nat) : AsksJ P (N Fn.json_Check_1) small1 n := by
  intro S v lv nv K hw hv hn hk
  refine json_Check_1.run hF (newS_mk hw fun S1 g1 m1 n1 => ⟨v.num, ld m1 rfl, ifC_dec (fun hx => ⟨v.num, ld m1 rfl, ?_⟩) fun hx => ?_⟩)
  · have := hk S1 g1
    unfold small1 at this
    rw [decide_eq_true hx, Bool.true_and] at this
    exact this
  · have := hk S1 g1
    unfold small1 at this
    rw [decide_eq_false hx, Bool.false_and] at this
    exact this

theorem json_Check_2.asks (hF : json_Check_2.Ok P N) (n : Nat) : AsksJ P (N Fn.json_Check_2) few1 n := by
  intro S v lv nv K hw hv hn hk
  obtain ⟨es, hv⟩ := hv.at_
  refine json_Check_2.run hF (newS_mk hw fun S1 g1 m1 n1 => ifS_mk (ld m1 rfl) ⟨_, (hv.grow g1 g1.le).len, ?_⟩)
  have := hk S1 g1
  unfold few1 at this
  have e : decide (((v.list.length : Nat) : Int) ≤ 1024) = decide (v.list.length ≤ 1024) := by rw [decide_eq_decide]; omega
  rw [e]
  exact this

theorem json_Check_3.asks (hF : json_Check_3.Ok P N) (n : Nat) : AsksJ P (N Fn.json_Check_3) unlike1 n := by
  intro S v lv nv K hw hv hn hk
  obtain ⟨es, hv⟩ := hv.at_
  refine json_Check_3.run hF (newS_mk hw fun S1 g1 m1 n1 => newS_mk g1.wf fun S2 g2 m2 n2 => ?_)
  have g02 := g1.trans g2
  have v2 := hv.grow g02 g02.le
  refine ifS_mk (ld (g2.get m1) rfl) ⟨_, v2.nlen, ?_⟩
  refine Loop1.ind (fun m x S' => ∃ (j : Nat) (l : List (Nm × V)), x = j ∧ j ≤ v.names.length ∧ m = v.names.length - j ∧ Grow S S' ∧ NamesAt S' S1.next l ∧ RVat S' S'.next v lv nv es ∧ (v.names.take j).Nodup ∧ (∀ t, (lkK l t = some (.bool true) ∧ t ∈ v.names.take j) ∨ (lkK l t = none ∧ t ∉ v.names.take j))) v.names.length ⟨0, [], rfl, Nat.zero_le _, rfl, g02, NamesAt.new (S := S2) m2, v2, by simp, fun t => .inr ⟨rfl, by simp⟩⟩ ?_
  rintro m _ S3 ⟨j, l, rfl, hj, rfl, g, hn, v3, hd, hl⟩
  refine ifC_dec (fun hx => ?_) fun hx => ?_
  · have hj : j < v.names.length := by omega
    refine ifS_mk (v3.nidx hj) ⟨_, v3.name hj, ?_⟩
    have hlk := names_lookup hn (.bool false) false v.names[j]
    rcases hl v.names[j] with ⟨h1, h2⟩ | ⟨h1, h2⟩
    · rw [h1] at hlk
      refine ⟨true, hlk, ifC_tt rfl ?_⟩
      have hu : unlike1 v = false := by
        simp only [unlike1, decide_eq_false_iff_not]
        intro hd
        exact ((nodup_take hj).mp (hd.sublist (List.take_sublist _ _))).2 h2
      have := hk S3 g
      rw [hu] at this
      exact this
    · rw [h1] at hlk
      refine ⟨false, hlk, ifC_ff rfl (names_upd g.wf hn _ _ fun S4 h4 u4 n4 => ?_)⟩
      refine setI_mk (n := ((j + 1 : Nat) : Int)) (wrap_next hj hv.nle) ⟨v.names.length - (j + 1), by omega, j + 1, _, rfl, hj, rfl, ?_, h4, ?_, (nodup_take hj).mpr ⟨hd, h2⟩, fun t => ?_⟩
      · exact g.after u4 fun i hi => .inl (by rw [List.mem_singleton.mp hi]; exact g1.le)
      · exact (hv.upd (g.after u4 fun i hi => .inl (by rw [List.mem_singleton.mp hi]; exact g1.le)) (by simp) (by rw [n4]; exact g.le))
      · rw [lkK_cons]
        by_cases ht : v.names[j] = t
        · subst ht
          rw [if_pos rfl]
          refine .inl ⟨rfl, ?_⟩
          exact (mem_take_succ hj).mpr (.inr rfl)
        · rw [if_neg ht]
          have hdr : lkK (dropK l v.names[j]) t = lkK l t := by
            unfold lkK dropK
            rw [List.find?_filter]
            congr 2
            funext p
            by_cases hp : p.1 = t
            · have : p.1 ≠ v.names[j] := fun e => ht (e ▸ hp)
              simp [hp]; exact fun e => ht e.symm
            · simp [hp]
          have hm : t ∈ v.names.take (j + 1) ↔ t ∈ v.names.take j := by
            rw [mem_take_succ hj]
            exact ⟨fun h => h.elim id fun e => absurd e.symm ht, .inl⟩
          rw [hdr, hm]
          exact hl t
  · have hj : j = v.names.length := by omega
    subst hj
    rw [List.take_length] at hd
    have := hk S3 g
    have hu : unlike1 v = true := by simp only [unlike1, decide_eq_true_eq]; exact hd
    rw [hu] at this
    exact this

theorem json_Check.spec (hF : CheckF P N) : ChecksJ P (N Fn.json_Check) := by
  intro S v lv nv K hw hv hd hk
  refine json_Check.run hF.check (newS_mk hw fun S1 g1 m1 n1 => ?_)
  have v1 := hv.grow g1 g1.le
  unfold checkJ at hk
  refine ⟨_, _, _, _, _, ld5 m1, json_all.asks hF (json_formed.asks1 hF.formed) hF.canf _ g1.wf v1 (Nat.lt_succ_self _) fun S2 g2 => ?_⟩
  refine ifC_nb (fun h => ?_) fun h => ?_
  · rw [if_pos h] at hk
    exact hk S2 (g1.trans g2)
  rw [if_neg (by rw [h]; simp)] at hk
  have v2 := v1.grow g2 g2.le
  refine ⟨_, _, _, _, _, ld5 (g2.get m1), json_deep.deeps hF.deep _ g2.wf v2 (Nat.lt_succ_self _) hd fun S3 g3 => ?_⟩
  refine ifC_dec (fun h => ?_) fun h => ?_
  · rw [if_pos (by omega)] at hk
    exact hk S3 ((g1.trans g2).trans g3)
  rw [if_neg (by omega)] at hk
  have v3 := v2.grow g3 g3.le
  refine ⟨_, _, _, _, _, ld5 (g3.get (g2.get m1)), json_all.asks hF (json_Check_1.asks hF.c1) hF.can1 _ g3.wf v3 (Nat.lt_succ_self _) fun S4 g4 => ?_⟩
  refine ifC_nb (fun h => ?_) fun h => ?_
  · rw [if_pos h] at hk
    exact hk S4 (((g1.trans g2).trans g3).trans g4)
  rw [if_neg (by rw [h]; simp)] at hk
  have v4 := v3.grow g4 g4.le
  refine ⟨_, _, _, _, _, ld5 (g4.get (g3.get (g2.get m1))), json_all.asks hF (json_Check_2.asks hF.c2) hF.can2 _ g4.wf v4 (Nat.lt_succ_self _) fun S5 g5 => ?_⟩
  have g05 := (((g1.trans g2).trans g3).trans g4).trans g5
  refine ifC_nb (fun h => ?_) fun h => ?_
  · rw [if_pos h] at hk
    exact hk S5 g05
  rw [if_neg (by rw [h]; simp)] at hk
  have v5 := v4.grow g5 g5.le
  refine ⟨_, _, _, _, _, ld5 (g5.get (g4.get (g3.get (g2.get m1)))), json_all.asks hF (json_Check_3.asks hF.c3) hF.can3 _ g5.wf v5 (Nat.lt_succ_self _) fun S6 g6 => ?_⟩
  refine ifC_nb (fun h => ?_) fun h => ?_
  · rw [if_pos h] at hk
    exact hk S6 (g05.trans g6)
  · rw [if_neg (by rw [h]; simp)] at hk
    exact hk S6 (g05.trans g6)

end Go.Th.L
end

section
/- json: a text parsed. -/
set_option linter.unusedSimpArgs false
set_option linter.unusedVariables false
set_option maxHeartbeats 1000000
namespace Go.Th.L
open Go Go.Th Go.Th.Pure
variable {P : Program} {N : Nat → Nat}

structure ParseF (P : Program) (N : Nat → Nat) (gs : List Nat) : Prop where
  r : ReadF P N gs
  c : CheckF P N
  parse : json_Parse.Ok P N
  parse1 : json_Parse_1.Ok P N
  can : canEnter P (N Fn.json_Parse_1) = true

theorem json_Parse_1.bad (hF : json_Parse_1.Ok P N) {S : St} (hw : S.Wf) {p q : Nat} (hne : p ≠ q) {cs : List V} {x : V} (hc : S.get p = some (.cells cs true)) (hl : cs.length = 5) (hx : S.get q = some (.cells [x] true)) {R : St → Prop}
    (hk : ∀ S', Upd [p, q] S S' → S'.get p = some (.cells (vcells jnil .nilSlice .nilSlice) true) → S'.get q = some (.cells [.int .i64 200] true) → R S') : panD P [(N Fn.json_Parse_1, [.ptr p 0, .ptr q 0])] R (wrongV N) S := by
  unfold panD
  simp only [leaveX]
  refine CallD.mono (json_Parse_1.run (pv := some (wrongV N)) (K := R) hF ⟨false, rfl, ifC_tt rfl ⟨?_, ?_⟩⟩) ?_
  · simp [assertV, wrongV]
  · refine st_mk hw hc (by simp [V.cells]) (by simp [V.cells, hl]) (by simp [V.cells, V.one]) fun S1 u1 m1 n1 => st_mk u1.wf (u1.get hx (by simp; omega)) (by simp [V.cells]) (by simp [V.cells]) (by simp [V.cells, V.one]) fun S2 u2 m2 n2 => hk S2 ?_ ?_ ?_
    · exact (u1.mono fun j hj => .inl (by simp at hj; simp [hj])).trans (u2.mono fun j hj => .inl (by simp at hj; simp [hj]))
    · have : over cs 0 (V.cells (.agg [(V.int .i64 0), (V.int .i64 0), (V.str ([] : List UInt8)), V.nilSlice, V.nilSlice])) = vcells jnil .nilSlice .nilSlice := by
        match cs, hl with
        | [_, _, _, _, _], _ => rfl
      rw [this] at m1
      exact u2.get m1 (by simp; omega)
    · rw [m2]; rfl
  · rintro b S' ⟨rfl, h⟩
    exact ifC_tt rfl h

theorem json_Parse_1.good (hF : json_Parse_1.Ok P N) {S : St} {p q : Nat} {Q : Bool → St → Prop} (hk : Q false S) : CallD P (N Fn.json_Parse_1) [.ptr p 0, .ptr q 0] none S Q :=
  CallD.mono (json_Parse_1.run (pv := none) (K := fun S' => S' = S) hF ⟨true, rfl, ifC_ff rfl rfl⟩) (by rintro b S' ⟨rfl, rfl⟩; exact hk)

def ParsesJ (P : Program) (f : FuncId) (gs : List Nat) : Prop := ∀ {S : St} {s : Bs8} {K : Int → Int → Bs8 → V → V → Int → St → Prop}, S.Wf → GV gs S →
  (∀ lv nv F S', Grow S S' → VAt S' S.next (parseJ s).1 lv nv F → K (parseJ s).1.sort (parseJ s).1.num (parseJ s).1.text lv nv (parseJ s).2 S') → CallA P f [.str s] S (retT [.agg [.int .i64, .int .i64, .str, .any, .any], .one (.int .i64)] K)

theorem json_Parse.spec {gs : List Nat} (hF : ParseF P N gs) : ParsesJ P (N Fn.json_Parse) gs := by
  intro S s K hw hG hk
  refine json_Parse.run hF.parse (newS_mk hw fun S1 g1 m1 n1 => newS_mk g1.wf fun S2 g2 m2 n2 => ?_)
  have g02 := g1.trans g2
  have p2 := g2.get m1
  have hne : S.next ≠ S1.next := by omega
  have fin : ∀ {S' : St} {v : JV} {lv nv : V} {F : List Nat} {c : Int}, parseJ s = (v, c) → Upd [] S S' → VAt S' S.next v lv nv F → S'.get S.next = some (.cells (vcells v lv nv) true) → S'.get S1.next = some (.cells [.int .i64 c] true) →
      ∃ xa xb : Int, ∃ xc : List UInt8, ∃ xd xe : V, cellNV S' 5 (V.ptr S.next 0) = some (V.agg [(V.int .i64 xa), (V.int .i64 xb), (V.str xc), xd, xe]) ∧ ∃ xr : Int, cell1V S' (V.ptr S1.next 0) = some (V.int .i64 xr) ∧ K xa xb xc xd xe xr S' := by
    intro S' v lv nv F c e u hv c0 c1
    have := hk lv nv F S' u (by rw [e]; exact hv)
    rw [e] at this
    exact ⟨_, _, _, _, _, ldC c0 (by simp [vcells]) rfl, _, ldC1 c1 rfl, this⟩
  have nil : ∀ {S' : St}, VAt S' S.next jnil .nilSlice .nilSlice [] := fun {S'} => VAt.nil S' S.next 0 0 []
  refine ifC_dec (fun hl => ?_) fun hl => ?_
  · refine st_mk g2.wf p2 (by simp [V.cells]) (by simp [V.cells]) (by simp [V.cells, V.one]) fun S3 u3 m3 n3 => st_mk u3.wf (u3.get m2 (by simp; omega)) (by simp [V.cells]) (by simp [V.cells]) (by simp [V.cells, V.one]) fun S4 u4 m4 n4 => ?_
    refine fin (v := jnil) (c := 2) (by unfold parseJ; rw [if_pos (by omega)]) ?_ nil (u4.get m3 (by simp; omega)) m4
    exact (g02.after u3 fun j hj => .inl (by rw [List.mem_singleton.mp hj]; exact Nat.le_refl _)).after u4 fun j hj => .inl (by rw [List.mem_singleton.mp hj]; exact g1.le)
  have hl : s.length ≤ 16384 := by omega
  have hb := blanks_le s
  refine ifS_mk (a := (N Fn.json_Parse_1, [.ptr S.next 0, .ptr S1.next 0])) (by unfold calleeD; exact if_pos hF.can) (newS_mk g2.wf fun S5 g5 m5 n5 => ?_)
  have g05 := g02.trans g5
  have up : ∀ {S' : St}, Upd [S2.next] S5 S' → Upd [] S S' := fun u => g05.after u fun j hj => .inl (by rw [List.mem_singleton.mp hj]; exact g02.le)
  have up3 : ∀ {S' S'' : St}, Upd [] S S' → Upd [S.next, S1.next] S' S'' → Upd [] S S'' := fun u u' => u.after u' fun j hj => .inl (by
    simp only [List.mem_cons, List.not_mem_nil, or_false] at hj
    rcases hj with rfl | rfl
    · exact Nat.le_refl _
    · exact g1.le)
  -- where something is thrown
  have bad : ∀ {S' : St} {cs : List V}, parseJ s = (jnil, 200) → Upd [] S S' → S'.get S.next = some (.cells cs true) → cs.length = 5 → S'.get S1.next = some (.cells [.int .i64 0] true) → ∀ {R : St → Prop},
      (∀ S'', (∃ xa xb : Int, ∃ xc : List UInt8, ∃ xd xe : V, cellNV S'' 5 (V.ptr S.next 0) = some (V.agg [(V.int .i64 xa), (V.int .i64 xb), (V.str xc), xd, xe]) ∧ ∃ xr : Int, cell1V S'' (V.ptr S1.next 0) = some (V.int .i64 xr) ∧ K xa xb xc xd xe xr S'') → R S'') → panD P [(N Fn.json_Parse_1, [.ptr S.next 0, .ptr S1.next 0])] R (wrongV N) S' := by
    intro S' cs e u c0 hcl c1 R hR
    exact json_Parse_1.bad hF.parse1 u.wf hne c0 hcl c1 fun S'' u2 d0 d1 => hR S'' (fin e (up3 u u2) nil d0 d1)
  have e0 : parseJ s = match pvJ (blanksJ s) with
    | none => (jnil, 200)
    | some (v, r) => if blanksJ r = [] then if checkJ v = 0 then (v, 0) else (jnil, checkJ v) else (jnil, 200) := by
    unfold parseJ; rw [if_neg (by omega)]; rfl
  have c05 : ∀ {S' : St}, Upd [S2.next] S5 S' → S'.get S.next = some (.cells [(V.int .i64 0), (V.int .i64 0), (V.str ([] : List UInt8)), V.nilSlice, V.nilSlice] true) ∧ S'.get S1.next = some (.cells [.int .i64 0] true) := fun u =>
    ⟨u.get (g5.get p2) (by simp; omega), u.get (g5.get m2) (by simp; omega)⟩
  refine CallA.np (json_reading_blanks.spec hF.r.o.blanks hF.r.o.trim g5.wf (s := s) m5 fun S6 u6 l6 n6 => ?_)
  have gv6 : GV gs S6 := (hG.upd g05 (by simp)).left u6 m5
  refine json_reading_value.ok hF.r ((blanksJ s).length + 1) u6.wf gv6 l6 (by omega) (by omega) (fun e S7 u7 => ?_) fun v r lv nv F e S8 u8 l8 v8 => ?_
  · have c := c05 (u6.trans u7)
    refine bad ?_ (up (u6.trans u7)) c.1 rfl c.2 fun S'' h => h
    rw [e0, e]
  have hr := (left_len _).1 e
  have hd := deep_text e
  have u58 := u6.trans u8
  have c8 := c05 u58
  have o8 := v8.ones
  refine st_mk u8.wf c8.1 (by simp [V.cells]) (by simp [V.cells]) (by simp only [V.cells, List.all_cons, List.all_nil, o8.1, o8.2]; rfl) fun S10 u10 m10 n10 => ?_
  have m10 : S10.get S.next = some (.cells (vcells v lv nv) true) := m10
  have g010 : Upd [] S S10 := (up u58).after u10 fun j hj => .inl (by rw [List.mem_singleton.mp hj]; exact Nat.le_refl _)
  have hS6 : S5.next ≤ S6.next := u6.le
  have v10 : VAt S10 S.next v lv nv F := VAt.below (by have := g05.le; omega) v (VAt.keep u10 v v8 fun j hj hm => by rw [List.mem_singleton.mp hj] at hm; have := (VAt.own v v8 _ hm).1; have := g1.le; have := g02.le; omega)
  have hF10 : ∀ j ∈ F, S6.next ≤ j := fun j hj => (VAt.own v v8 j hj).1
  have l10 : LeftAt S10 S2.next r := u10.get l8 (by simp; omega)
  have q10 : S10.get S1.next = some (.cells [.int .i64 0] true) := u10.get c8.2 (by simp; omega)
  refine CallA.np (json_reading_blanks.spec hF.r.o.blanks hF.r.o.trim u10.wf l10 fun S11 u11 l11 n11 => ⟨rfl, blanksJ r, ld l11 rfl, ?_⟩)
  have g011 : Upd [] S S11 := g010.after u11 fun j hj => .inl (by rw [List.mem_singleton.mp hj]; exact g02.le)
  have p11 : S11.get S.next = some (.cells (vcells v lv nv) true) := u11.get m10 (by simp; omega)
  have q11 : S11.get S1.next = some (.cells [.int .i64 0] true) := u11.get q10 (by simp; omega)
  have v11 : VAt S11 S.next v lv nv F := VAt.keep u11 v v10 fun j hj hm => by rw [List.mem_singleton.mp hj] at hm; have := hF10 _ hm; omega
  refine json_is.spec hF.r.o.is (fun hb => ?_) fun hb => ?_
  · refine bad ?_ g011 p11 rfl q11 fun S'' h => h
    rw [e0, e]
    simp only
    rw [if_neg (by simpa using hb)]
  have e1 : parseJ s = if checkJ v = 0 then (v, 0) else (jnil, checkJ v) := by
    rw [e0, e]
    simp only
    rw [if_pos (by simpa using hb)]
  refine ⟨_, _, _, _, _, ld5 p11, CallA.np (json_Check.spec hF.c u11.wf (VAt.rv v v11 fun j hj => by obtain ⟨_, _, h⟩ := VAt.own v v11 j hj; exact u11.wf.lt h) (by omega) fun S15 g15 => ?_)⟩
  have p15 := g15.get p11
  have q15 := g15.get q11
  have g015 : Upd [] S S15 := g011.trans g15
  have v15 := v11.grow g15
  refine ifC_ndec (fun hc => ?_) fun hc => ?_
  · rw [if_neg hc] at e1
    refine st_mk g15.wf p15 (by simp [V.cells]) (by simp [V.cells, vcells]) (by simp [V.cells, V.one]) fun S17 u17 m17 n17 => st_mk u17.wf (u17.get q15 (by simp; omega)) (by simp [V.cells]) (by simp [V.cells]) (by simp [V.cells, V.one]) fun S18 u18 m18 n18 => ?_
    refine json_Parse_1.good hF.parse1 (fin e1 ?_ nil (u18.get m17 (by simp; omega)) m18)
    exact (g015.after u17 fun j hj => .inl (by rw [List.mem_singleton.mp hj]; exact Nat.le_refl _)).after u18 fun j hj => .inl (by rw [List.mem_singleton.mp hj]; exact g1.le)
  · rw [if_pos hc] at e1
    refine ⟨_, _, _, _, _, ld5 p15, ?_⟩
    refine st_mk g15.wf p15 (by simp [V.cells]) (by simp [V.cells, vcells]) (by simp only [V.cells, List.all_cons, List.all_nil, o8.1, o8.2]; rfl) fun S20 u20 m20 n20 => st_mk u20.wf (u20.get q15 (by simp; omega)) (by simp [V.cells]) (by simp [V.cells]) (by simp [V.cells, V.one]) fun S21 u21 m21 n21 => ?_
    refine json_Parse_1.good hF.parse1 (fin (F := F) e1 ?_ ?_ (u21.get m20 (by simp; omega)) m21)
    · exact (g015.after u20 fun j hj => .inl (by rw [List.mem_singleton.mp hj]; exact Nat.le_refl _)).after u21 fun j hj => .inl (by rw [List.mem_singleton.mp hj]; exact g1.le)
    · refine VAt.keep u21 v (VAt.keep u20 v v15 fun j hj hm => ?_) fun j hj hm => ?_
      · rw [List.mem_singleton.mp hj] at hm; have := hF10 _ hm; have := g1.le; have := g02.le; omega
      · rw [List.mem_singleton.mp hj] at hm; have := hF10 _ hm; have := g1.le; have := g02.le; omega

end Go.Th.L
end

section
/- json: a text quoted into a builder. -/
set_option linter.unusedSimpArgs false
set_option linter.unusedVariables false
set_option maxHeartbeats 1000000
namespace Go.Th.L
open Go Go.Th Go.Th.Pure
variable {P : Program} {N : Nat → Nat}

structure WIn (T e : TypeId) (S : St) (b : Nat) (g0 : List Nat) (S' : St) (g : List Nat) (acc : Bs8) (xs : List (Nat × Blk)) : Prop where
  sb : SbAt T e S' b g acc
  u : Upd (b :: g0) S S'
  new : ∀ j ∈ g, j ∈ g0 ∨ S.next ≤ j
  keep : ∀ p ∈ xs, S'.get p.1 = some p.2 ∧ p.1 ∉ g ∧ p.1 ≠ b
section
variable {T e : TypeId} {S S' S2 : St} {b : Nat} {g0 g g2 : List Nat} {acc acc2 : Bs8} {xs : List (Nat × Blk)}
theorem WIn.start (hw : S.Wf) (h : SbAt T e S b g acc) : WIn T e S b g S g acc [] := ⟨h, Upd.refl hw _, fun j hj => .inl hj, by simp⟩
theorem WIn.write (h : WIn T e S b g0 S' g acc xs) (k : SbAt T e S2 b g2 acc2) (u : Upd (b :: g) S' S2) (n : ∀ j ∈ g2, j ∈ g ∨ S'.next ≤ j) : WIn T e S b g0 S2 g2 acc2 xs := by
  have hle := h.u.le
  refine ⟨k, h.u.after u fun j hj => ?_, fun j hj => ?_, fun p hp => ?_⟩
  · rcases List.mem_cons.mp hj with rfl | hj
    · exact .inr (by simp)
    · rcases h.new j hj with h' | h'
      · exact .inr (by simp [h'])
      · exact .inl h'
  · rcases n j hj with h' | h'
    · exact h.new j h'
    · exact .inr (by omega)
  · obtain ⟨a1, a2, a3⟩ := h.keep p hp
    refine ⟨u.get a1 (by simp [a2, a3]), fun hm => ?_, a3⟩
    rcases n _ hm with h' | h'
    · exact a2 h'
    · have := h.u.wf.lt a1; omega
theorem WIn.new_ (h : WIn T e S b g0 S' g acc xs) {bk : Blk} (gr : Grow S' S2) (m : S2.get S'.next = some bk) (hb : b < S'.next) (hg : ∀ j ∈ g, j < S'.next) : WIn T e S b g0 S2 g acc ((S'.next, bk) :: xs) := by
  refine ⟨h.sb.upd gr (by simp) (by simp), h.u.trans (gr.mono (by simp)), h.new, fun p hp => ?_⟩
  rcases List.mem_cons.mp hp with rfl | hp
  · exact ⟨m, fun hm => by have := hg _ hm; simp only at this; omega, fun e => by simp only at e; omega⟩
  · obtain ⟨a1, a2, a3⟩ := h.keep p hp
    exact ⟨gr.get a1, a2, a3⟩
theorem WIn.lt (h : WIn T e S b g0 S' g acc xs) : b < S'.next ∧ ∀ j ∈ g, j < S'.next := by
  rcases h.sb with ⟨rfl, h2, p, h3, h4⟩ | ⟨k, c, rfl, h2, h3, h4, h5, h6⟩
  · exact ⟨h.u.wf.lt h4, by simp⟩
  · exact ⟨h.u.wf.lt h4, fun j hj => by rw [List.mem_singleton.mp hj]; exact h.u.wf.lt h5⟩
theorem WIn.more (h : WIn T e S b g0 S' g acc xs) {ys : List (Nat × Blk)} (hy : ∀ p ∈ ys, p ∈ xs) : WIn T e S b g0 S' g acc ys := ⟨h.sb, h.u, h.new, fun p hp => h.keep p (hy p hp)⟩
end

def QuoteOk (P : Program) (N : Nat → Nat) (T e : TypeId) : Prop := ∀ {S : St} {b : Nat} {g : List Nat} {acc s : Bs8} {K : St → Prop}, S.Wf → SbAt T e S b g acc → acc.length + (quoteJ s).length ≤ 70368744177664 → s.length ≤ 70368744177664 →
  (∀ S' g', SbAt T e S' b g' (acc ++ quoteJ s) → Upd (b :: g) S S' → (∀ j ∈ g', j ∈ g ∨ S.next ≤ j) → K S') → CallA P (N Fn.json_quote) [.ptr b 0, .str s] S (retT [] K)

theorem idx_hex {n : Nat} (h : n < 16) : idxStrV (V.str ([48, 49, 50, 51, 52, 53, 54, 55, 56, 57, 97, 98, 99, 100, 101, 102] : List UInt8)) (V.int .u8 ((n : Nat) : Int)) = some (V.int .u8 (((hexD.getD n 0).toNat : Nat) : Int)) := by
  have : n = 0 ∨ n = 1 ∨ n = 2 ∨ n = 3 ∨ n = 4 ∨ n = 5 ∨ n = 6 ∨ n = 7 ∨ n = 8 ∨ n = 9 ∨ n = 10 ∨ n = 11 ∨ n = 12 ∨ n = 13 ∨ n = 14 ∨ n = 15 := by omega
  rcases this with rfl | rfl | rfl | rfl | rfl | rfl | rfl | rfl | rfl | rfl | rfl | rfl | rfl | rfl | rfl | rfl <;> rfl
theorem and15 (n : Nat) (h : n < 256) : intBits .and .u8 ((n : Nat) : Int) (15 : Int) = ((n % 16 : Nat) : Int) := by
  have : ∀ m : Fin 256, intBits .and .u8 ((m.val : Nat) : Int) (15 : Int) = ((m.val % 16 : Nat) : Int) := by decide +kernel
  exact this ⟨n, h⟩
theorem shr4 (n : Nat) : Int.fdiv ((n : Nat) : Int) (2 ^ (min (Int.toNat (4 : Int)) (IntKind.bits .u8))) = ((n / 16 : Nat) : Int) := by
  show Int.fdiv ((n : Nat) : Int) 16 = _
  rw [Int.fdiv_eq_ediv_of_nonneg _ (by omega)]
  omega
theorem flat_take {s : Bs8} {j : Nat} (hj : j < s.length) : (s.take (j + 1)).flatMap quoteB = (s.take j).flatMap quoteB ++ quoteB s[j] := by
  rw [← List.take_append_getElem hj, List.flatMap_append]
  simp
theorem flat_le (s : Bs8) (j : Nat) : ((s.take j).flatMap quoteB).length ≤ (s.flatMap quoteB).length := by
  have e : s.flatMap quoteB = (s.take j).flatMap quoteB ++ (s.drop j).flatMap quoteB := by rw [← List.flatMap_append, List.take_append_drop]
  rw [e, List.length_append]
  omega

theorem json_quote.spec (hF : json_quote.Ok P N) {T e : TypeId} (hB : SbOk P T e (N Fn.strings_Builder_WriteByte) (N Fn.strings_Builder_WriteString) (N Fn.strings_Builder_String)) : QuoteOk P N T e := by
  intro S b g acc s K hw hs hl hsl hk
  have hq : (quoteJ s).length = (s.flatMap quoteB).length + 2 := by unfold quoteJ; rw [List.length_cons, List.length_append, List.length_singleton]
  refine json_quote.run hF (hB.writeByte hw hs (by omega) 34 fun S1 g1 k1 u1 t1 => newS_mk u1.wf fun S2 r2 m2 n2 => ?_)
  have w1 := (WIn.start hw hs).write k1 u1 t1
  have w2 := w1.new_ r2 m2 w1.lt.1 w1.lt.2
  have sl : ∀ {S' : St}, S'.get S1.next = some (.cells (bytesV s) false) → SlAt S' 1 (V.slice S1.next 0 s.length s.length 1 false) s.length (bytesV s) := by
    intro S' h
    refine ⟨by omega, by rw [bytesV_length]; omega, .inr ⟨_, _, _, _, rfl, Nat.le_refl _, ?_⟩⟩
    rw [St.loads_of h (by rw [bytesV_length]; omega)]
    simp [bytesV_length, List.take_of_length_le]
  refine ⟨_, (sl m2).len, ?_⟩
  refine Loop1.ind (fun m x S' => ∃ (j : Nat) (g' : List Nat), x = j ∧ j ≤ s.length ∧ m = s.length - j ∧ WIn T e S b g S' g' (acc ++ (34 :: (s.take j).flatMap quoteB)) [(S1.next, .cells (bytesV s) false)]) s.length ⟨0, g1, rfl, Nat.zero_le _, rfl, by simpa using w2⟩ ?_
  rintro m _ S3 ⟨j, g3, rfl, hj, rfl, w3⟩
  have l3 := (w3.keep (S1.next, .cells (bytesV s) false) (by simp)).1
  have hfl := flat_le s j
  refine ifC_dec (fun hx => ?_) fun hx => ?_
  · have hj : j < s.length := by omega
    have hft := flat_take hj
    have hfl1 := flat_le s (j + 1)
    have hqb := quoteB_len s[j]
    rw [hft, List.length_append] at hfl1
    refine ifS_mk ((sl l3).idx hj) ⟨((s[j].toNat : Nat) : Int), ?_, ?_⟩
    · rw [(sl l3).load hj (by omega)]
      simp [bytesV, hj]
    have again : ∀ {S8 : St} {g8 : List Nat}, WIn T e S b g S8 g8 (acc ++ (34 :: (s.take j).flatMap quoteB) ++ quoteB s[j]) [(S1.next, .cells (bytesV s) false)] → setI (IntKind.i64.wrap (((j : Nat) : Int) + (1 : Int))) fun x49 => ∃ m, m < s.length - j ∧ ∃ (j : Nat) (g' : List Nat), x49 = j ∧ j ≤ s.length ∧ m = s.length - j ∧ WIn T e S b g S8 g' (acc ++ (34 :: (s.take j).flatMap quoteB)) [(S1.next, .cells (bytesV s) false)] := by
      intro S8 g8 w8
      refine setI_mk (n := ((j + 1 : Nat) : Int)) (wrap_nat (by omega)) ⟨s.length - (j + 1), by omega, j + 1, g8, rfl, hj, rfl, ?_⟩
      rw [hft]
      simpa using w8
    have hal : (acc ++ (34 :: (s.take j).flatMap quoteB)).length + (quoteB s[j]).length ≤ 140737488355328 := by
      rw [List.length_append, List.length_cons]; omega
    generalize hA : acc ++ (34 :: (s.take j).flatMap quoteB) = A at w3 again hal
    generalize s[j] = c at *
    refine Join1.mid (fun x S' => S3 = S' ∧ x = decide (c = 34 ∨ c = 92)) ?_ ?_
    · refine ifC_dec (fun h => ⟨rfl, ?_⟩) fun h => ⟨rfl, ?_⟩
      · rw [(byte_int c 34 (by omega)).mp h]; rfl
      · have e1 : c ≠ 34 := fun e => h ((byte_int c 34 (by omega)).mpr e)
        simp only [e1, false_or, decide_eq_decide]
        exact byte_int c 92 (by omega)
    rintro _ _ ⟨rfl, rfl⟩
    refine ifC_dec (fun h => ?_) fun h => ?_
    · have e1 : quoteB c = [92, c] := by unfold quoteB; rw [if_pos h]
      rw [e1] at again hal
      simp only [List.length_cons, List.length_nil] at hal
      refine hB.writeByte w3.u.wf w3.sb (by omega) 92 fun S5 g5 k5 u5 t5 => ?_
      have w5 := w3.write k5 u5 t5
      refine hB.writeByte w5.u.wf w5.sb (by rw [List.length_append]; simp only [List.length_cons, List.length_nil]; omega) c fun S6 g6 k6 u6 t6 => again (g8 := g6) ?_
      have w6 := w5.write k6 u6 t6
      simpa using w6
    refine Join1.mid (fun x S' => S3 = S' ∧ x = decide (32 ≤ c.toNat ∧ c.toNat ≤ 126)) ?_ ?_
    · refine ifC_dec (fun h => ⟨rfl, ?_⟩) fun h => ⟨rfl, ?_⟩
      · rw [decide_eq_decide]; omega
      · rw [eq_comm, decide_eq_false_iff_not]; omega
    rintro _ _ ⟨rfl, rfl⟩
    refine ifC_dec (fun h2 => ?_) fun h2 => ?_
    · have e1 : quoteB c = [c] := by unfold quoteB; rw [if_neg h, if_pos h2]
      rw [e1] at again hal
      simp only [List.length_cons, List.length_nil] at hal
      exact hB.writeByte w3.u.wf w3.sb (by omega) c fun S5 g5 k5 u5 t5 => again (w3.write k5 u5 t5)
    · have e1 : quoteB c = [92, 117, 48, 48, hexD.getD (c.toNat / 16) 0, hexD.getD (c.toNat % 16) 0] := by unfold quoteB; rw [if_neg h, if_neg h2]
      rw [e1] at again hal
      simp only [List.length_cons, List.length_nil] at hal
      have hc := c.toNat_lt
      refine hB.writeString w3.u.wf w3.sb (by decide) (by simp only [List.length_cons, List.length_nil]; omega) fun S9 g9 k9 u9 t9 => ?_
      have w9 := w3.write k9 u9 t9
      refine ⟨by decide, setI_mk (n := ((c.toNat / 16 : Nat) : Int)) (shr4 _) ⟨_, idx_hex (by omega), hB.writeByte w9.u.wf w9.sb (by rw [List.length_append]; simp only [List.length_cons, List.length_nil]; omega) _ fun S10 g10 k10 u10 t10 => ?_⟩⟩
      have w10 := w9.write k10 u10 t10
      refine setI_mk (n := ((c.toNat % 16 : Nat) : Int)) (and15 _ (by omega)) ⟨_, idx_hex (by omega), hB.writeByte w10.u.wf w10.sb (by rw [List.length_append, List.length_append]; simp only [List.length_cons, List.length_nil]; omega) _ fun S11 g11 k11 u11 t11 => again (g8 := g11) ?_⟩
      have w11 := w10.write k11 u11 t11
      simpa using w11
  · have hj : j = s.length := by omega
    subst hj
    rw [List.take_length] at w3
    refine hB.writeByte w3.u.wf w3.sb (by rw [List.length_append, List.length_cons]; omega) 34 fun S12 g12 k12 u12 t12 => ?_
    have w12 := w3.write k12 u12 t12
    refine hk S12 g12 ?_ w12.u w12.new
    have := w12.sb
    unfold quoteJ
    simpa using this

end Go.Th.L
end

section
/- json: a value laid into a builder, and printed. -/
set_option linter.unusedSimpArgs false
set_option linter.unusedVariables false
set_option maxHeartbeats 1000000
namespace Go.Th.Pure
open Go
theorem lays_app (named : Bool) (l2 : List JV) : ∀ (first : Bool) (l1 : List JV) (ns : List Bs8), laysJ named first (l1 ++ l2) ns = laysJ named first l1 ns ++ laysJ named (first && l1.isEmpty) l2 (ns.drop l1.length)
  | first, [], ns => by simp [laysJ]
  | first, v :: l1, ns => by
    simp only [List.cons_append, laysJ, lays_app named l2 false l1 ns.tail, List.isEmpty_cons, Bool.and_false, Bool.false_and, List.length_cons, List.append_assoc]
    cases ns <;> simp
theorem lays_le (named : Bool) (l : List JV) (ns : List Bs8) (j : Nat) : (laysJ named true (l.take j) ns).length ≤ (laysJ named true l ns).length := by
  have := lays_app named (l.drop j) true (l.take j) ns
  rw [List.take_append_drop] at this
  rw [this, List.length_append]
  omega
theorem le_quote (s : Bs8) : s.length ≤ (quoteJ s).length := by
  have : ∀ s : Bs8, s.length ≤ (s.flatMap quoteB).length := by
    intro s
    induction s with
    | nil => simp
    | cons c s ih =>
      have e : ((c :: s).flatMap quoteB).length = (quoteB c).length + (s.flatMap quoteB).length := by rw [List.flatMap_cons, List.length_append]
      have := quoteB_len c
      rw [e, List.length_cons]
      omega
  have := this s
  unfold quoteJ
  rw [List.length_cons, List.length_append]
  omega
end Go.Th.Pure
namespace Go.Th.L
open Go Go.Th Go.Th.Pure
variable {P : Program} {N : Nat → Nat}

def ItoaJ (P : Program) (f : FuncId) (S0 : St) : Prop := ∀ {n : Int} {S : St} {K : Bs8 → St → Prop}, Grow S0 S → -999999999999999 ≤ n → n ≤ 999999999999999 → K (Lib.itoa n) S → CallA P f [.int .i64 n] S (retT [.one .str] K)

def LayOk (P : Program) (N : Nat → Nat) (T e : TypeId) (S0 : St) (n : Nat) : Prop := ∀ {S : St} {b B : Nat} {g : List Nat} {acc : Bs8} {v : JV} {lv nv : V} {K : St → Prop}, Grow S0 S → S0.next ≤ b → (∀ j ∈ g, S0.next ≤ j) → SbAt T e S b g acc → RV S B v lv nv → B ≤ b → (∀ j ∈ g, B ≤ j) →
  allJ form1 v = true → allJ small1 v = true → SizeOf.sizeOf v < n → acc.length + (layJ v).length ≤ 70368744177664 →
  (∀ S' g', SbAt T e S' b g' (acc ++ layJ v) → Upd (b :: g) S S' → (∀ j ∈ g', j ∈ g ∨ S.next ≤ j) → K S') → CallA P (N Fn.json_lay) [.ptr b 0, .agg (vcells v lv nv)] S (retT [] K)

theorem all_at {q : JV → Bool} {v : JV} (h : allJ q v = true) : q v = true ∧ ∀ w ∈ v.list, allJ q w = true := by
  rw [allJ_eq, Bool.and_eq_true, List.all_eq_true] at h
  exact h

theorem json_lay.ok (hF : json_lay.Ok P N) {T e : TypeId} {S0 : St} (hB : SbOk P T e (N Fn.strings_Builder_WriteByte) (N Fn.strings_Builder_WriteString) (N Fn.strings_Builder_String)) (hQ : QuoteOk P N T e) (hI : ItoaJ P (N Fn.strconv_Itoa) S0) (n : Nat) : LayOk P N T e S0 n := by
  induction n with
  | zero =>
    intro S b B g acc v lv nv K _ _ _ _ _ _ _ _ _ h
    exact absurd h (Nat.not_lt_zero _)
  | succ n ih =>
    intro S b B g acc v lv nv K h0 hb0 hg0 hs hv hbB hgB hf hsm hn hl hk
    have hw := h0.wf
    refine json_lay.run hF (newS_mk hw fun S1 r1 m1 n1 => ?_)
    have wS := WIn.start hw hs
    have w1 := wS.new_ r1 m1 wS.lt.1 wS.lt.2
    have hBS : B < S.next := Nat.lt_of_le_of_lt hbB wS.lt.1
    obtain ⟨es, hv⟩ := hv.at_
    obtain ⟨f1, ff⟩ := all_at hf
    obtain ⟨s1, sf⟩ := all_at hsm
    rw [form1_iff] at f1
    simp only [small1, Bool.and_eq_true] at s1
    have s1 : v.num ≤ 999999999999999 ∧ -999999999999999 ≤ v.num := ⟨of_decide_eq_true s1.1, of_decide_eq_true s1.2⟩
    rw [layJ_eq] at hl hk
    have grow0 : ∀ {S' : St}, Upd (b :: g) S S' → Grow S0 S' := fun u => h0.after u fun j hj => .inl (by
      rcases List.mem_cons.mp hj with rfl | hj
      · exact hb0
      · exact hg0 j hj)
    -- one write, and done
    have one : ∀ {S2 : St} {s : Bs8}, Grow S1 S2 → s ≠ [] → acc.length + s.length ≤ 70368744177664 → (∀ S' g', SbAt T e S' b g' (acc ++ s) → Upd (b :: g) S S' → (∀ j ∈ g', j ∈ g ∨ S.next ≤ j) → K S') → CallA P (N Fn.strings_Builder_WriteString) [.ptr b 0, .str s] S2 (retT [.one (.int .i64), .one .any] fun _ _ S' => K S') := by
      intro S2 s r2 hne hl hk
      have w2 : WIn T e S b g S2 g acc [] := ⟨w1.sb.upd r2 (by simp) (by simp), w1.u.trans (r2.mono (by simp)), w1.new, by simp⟩
      refine hB.writeString w2.u.wf w2.sb hne (by omega) fun S' g' k u t => ?_
      have w3 := w2.write k u t
      exact hk S' g' w3.sb w3.u w3.new
    refine ⟨v.sort, ld m1 rfl, ifC_dec (fun h => ?_) fun x1 => ifC_dec (fun h => ?_) fun x2 => ifC_dec (fun h => ?_) fun x3 => ifC_dec (fun h => ?_) fun x4 => ifC_dec (fun h => ?_) fun x5 => ?_⟩
    · rw [if_pos h] at hl hk
      exact one (Upd.refl r1.wf _) (by decide) hl hk
    · rw [if_neg x1, if_pos h] at hl hk
      exact one (Upd.refl r1.wf _) (by decide) hl hk
    · rw [if_neg x1, if_neg x2, if_pos h] at hl hk
      exact one (Upd.refl r1.wf _) (by decide) hl hk
    · rw [if_neg x1, if_neg x2, if_neg x3, if_pos h] at hl hk
      refine ⟨v.num, ld m1 rfl, hI (h0.trans r1) s1.2 s1.1 (one (Upd.refl r1.wf _) ?_ hl hk)⟩
      unfold Lib.itoa
      split
      · simp
      · intro e
        have h1 := dec_len v.num.toNat
        rw [e] at h1
        have h2 := Lib.nDigits_pos v.num.toNat
        simp at h1; omega
    · rw [if_neg x1, if_neg x2, if_neg x3, if_neg x4, if_pos h] at hl hk
      have := le_quote v.text
      refine ⟨v.text, ld m1 rfl, hQ r1.wf w1.sb (by omega) (by omega) fun S' g' k u t => ?_⟩
      have w3 := w1.write k u t
      exact hk S' g' w3.sb w3.u w3.new
    rw [if_neg x1, if_neg x2, if_neg x3, if_neg x4, if_neg x5] at hl hk
    have h67 : v.sort = 6 ∨ v.sort = 7 := by omega
    refine Join1.mid (fun x S' => S1 = S' ∧ x = [(if v.sort = 7 then 123 else 91 : UInt8), (if v.sort = 7 then 125 else 93 : UInt8)]) ?_ ?_
    · refine ⟨v.sort, ld m1 rfl, ifC_dec (fun h => ⟨rfl, ?_⟩) fun h => ⟨rfl, ?_⟩⟩
      · rw [if_pos h, if_pos h]
      · rw [if_neg h, if_neg h]
    rintro _ _ ⟨rfl, rfl⟩
    generalize hop : (if v.sort = 7 then 123 else 91 : UInt8) = op at *
    generalize hcl : (if v.sort = 7 then 125 else 93 : UInt8) = cl at *
    simp only [List.length_cons, List.length_append, List.length_nil] at hl
    refine ⟨_, idx_str (s := [op, cl]) (j := 0) (by simp), hB.writeByte r1.wf w1.sb (by omega) op fun S9 g9 k9 u9 t9 => ?_⟩
    have w9 := w1.write k9 u9 t9
    have hD : ∀ j ∈ b :: g, B ≤ j := fun j hj => by
      rcases List.mem_cons.mp hj with rfl | hj
      · exact hbB
      · exact hgB j hj
    have cellS : ∀ {S' g' acc' xs}, WIn T e S b g S' g' acc' ((S.next, .cells (vcells v lv nv) true) :: xs) → S'.get S.next = some (.cells (vcells v lv nv) true) := fun h => (h.keep (S.next, .cells (vcells v lv nv) true) (by simp)).1
    have w9 : WIn T e S b g S9 g9 (acc ++ [op]) [(S.next, .cells (vcells v lv nv) true)] := w9
    have v9 := hv.upd w9.u hD (Nat.le_refl _)
    refine ifS_mk (ld (cellS w9) rfl) ⟨_, v9.len, ?_⟩
    refine Loop1.ind (fun m x S' => ∃ (j : Nat) (g' : List Nat), x = j ∧ j ≤ v.list.length ∧ m = v.list.length - j ∧ WIn T e S b g S' g' (acc ++ (op :: laysJ (decide (v.sort = 7)) true (v.list.take j) v.names)) [(S.next, .cells (vcells v lv nv) true)]) v.list.length ⟨0, g9, rfl, Nat.zero_le _, rfl, by rw [List.take_zero, laysJ]; exact w9⟩ ?_
    rintro m _ S10 ⟨j, g10, rfl, hj, rfl, w10⟩
    have v10 := hv.upd w10.u hD (Nat.le_refl _)
    have hle := lays_le (decide (v.sort = 7)) v.list v.names j
    refine ifC_dec (fun hx => ?_) fun hx => ?_
    · have hj : j < v.list.length := by omega
      have hle1 := lays_le (decide (v.sort = 7)) v.list v.names (j + 1)
      have htk := lays_take (named := decide (v.sort = 7)) (ns := v.names) hj
      rw [htk, List.length_append] at hle1
      obtain ⟨lw, nw, ee, rr⟩ := v10.elt hj
      have oo : lw.one = true ∧ nw.one = true := by obtain ⟨es2, r2⟩ := rr.at_; exact r2.ones
      refine ifS_mk (v10.idx hj) ⟨_, _, _, _, _, ee, newS_mk w10.u.wf fun S11 r11 m11 n11 => st_mk r11.wf m11 (by simp [V.cells]) (by simp [V.cells]) (by simp only [V.cells, List.all_cons, List.all_nil, oo.1, oo.2]; rfl) fun S12 u12 m12 n12 => ?_⟩
      have g1012 : Grow S10 S12 := r11.after u12 fun i hi => .inl (by rw [List.mem_singleton.mp hi]; exact Nat.le_refl _)
      have w12 : WIn T e S b g S12 g10 (acc ++ (op :: laysJ (decide (v.sort = 7)) true (v.list.take j) v.names)) [(S10.next, .cells (vcells v.list[j] lw nw) true), (S.next, .cells (vcells v lv nv) true)] := w10.new_ g1012 m12 w10.lt.1 w10.lt.2
      have hA : (acc ++ (op :: laysJ (decide (v.sort = 7)) true (v.list.take j) v.names)).length = acc.length + 1 + (laysJ (decide (v.sort = 7)) true (v.list.take j) v.names).length := by
        rw [List.length_append, List.length_cons]; omega
      have hnext : acc ++ (op :: laysJ (decide (v.sort = 7)) true (v.list.take (j + 1)) v.names) = (acc ++ (op :: laysJ (decide (v.sort = 7)) true (v.list.take j) v.names)) ++ pieceJ (decide (v.sort = 7)) j v.list[j] v.names := by rw [htk]; simp
      generalize hA0 : acc ++ (op :: laysJ (decide (v.sort = 7)) true (v.list.take j) v.names) = A at *
      have hpl : A.length + (pieceJ (decide (v.sort = 7)) j v.list[j] v.names).length ≤ 70368744177664 := by omega
      unfold pieceJ at hpl hnext
      refine Join0.mid (fun S' => ∃ g', WIn T e S b g S' g' (A ++ (if j = 0 then [] else [44])) [(S10.next, .cells (vcells v.list[j] lw nw) true), (S.next, .cells (vcells v lv nv) true)]) ?_ ?_
      · refine ifC_dec (fun h => ?_) fun h => ?_
        · rw [if_neg (by omega)] at hpl ⊢
          simp only [List.length_append, List.length_cons] at hpl
          exact hB.writeByte w12.u.wf w12.sb (by omega) 44 fun S14 g14 k14 u14 t14 => ⟨g14, w12.write k14 u14 t14⟩
        · rw [if_pos (by omega)]
          exact ⟨g10, by simpa using w12⟩
      rintro S13 ⟨g13, w13⟩
      have hlB : ((if j = 0 then [] else [44] : Bs8)).length ≤ 1 := by split <;> simp
      have hA2 : (A ++ (if j = 0 then [] else [44])).length = A.length + ((if j = 0 then [] else [44] : Bs8)).length := List.length_append
      rw [List.length_append] at hpl
      have hnext2 : acc ++ (op :: laysJ (decide (v.sort = 7)) true (v.list.take (j + 1)) v.names) = (A ++ (if j = 0 then [] else [44])) ++ ((if (decide (v.sort = 7)) = true then quoteJ (v.names.getD j []) ++ [58] else []) ++ layJ v.list[j]) := by rw [hnext]; simp
      generalize (if j = 0 then [] else [44] : Bs8) = sep at *
      generalize A ++ sep = A2 at *
      refine Join0.mid (fun S' => ∃ g', WIn T e S b g S' g' (A2 ++ (if (decide (v.sort = 7)) = true then quoteJ (v.names.getD j []) ++ [58] else [])) [(S10.next, .cells (vcells v.list[j] lw nw) true), (S.next, .cells (vcells v lv nv) true)]) ?_ ?_
      · have c13 := (w13.keep (S.next, .cells (vcells v lv nv) true) (by simp)).1
        have v13 := hv.upd w13.u hD (Nat.le_refl _)
        refine ⟨v.sort, ld c13 rfl, ifC_dec (fun h => ?_) fun h => ?_⟩
        · have hjn : j < v.names.length := by have := f1.2.2.2.2.2.1 h; omega
          rw [if_pos (by simpa using h)] at hpl ⊢
          have hgd : v.names.getD j [] = v.names[j] := by simp [hjn]
          rw [hgd] at hpl ⊢
          simp only [List.length_append, List.length_cons, List.length_nil] at hpl
          have := le_quote v.names[j]
          refine ifS_mk (ld c13 rfl) (ifS_mk (v13.nidx hjn) ⟨_, v13.name hjn, hQ w13.u.wf w13.sb (by omega) (by omega) fun S16 g16 k16 u16 t16 => ?_⟩)
          have w16 := w13.write k16 u16 t16
          refine hB.writeByte w16.u.wf w16.sb (by rw [List.length_append]; omega) 58 fun S17 g17 k17 u17 t17 => ⟨g17, ?_⟩
          have := w16.write k17 u17 t17
          simpa using this
        · rw [if_neg (by simpa using h)]
          exact ⟨g13, by simpa using w13⟩
      rintro S15 ⟨g15, w15⟩
      have hnext3 : acc ++ (op :: laysJ (decide (v.sort = 7)) true (v.list.take (j + 1)) v.names) = (A2 ++ (if (decide (v.sort = 7)) = true then quoteJ (v.names.getD j []) ++ [58] else [])) ++ layJ v.list[j] := by rw [hnext2]; simp
      rw [List.length_append] at hpl
      generalize (if (decide (v.sort = 7)) = true then quoteJ (v.names.getD j []) ++ [58] else [] : Bs8) = nm at *
      have hm := List.getElem_mem hj
      have u15 := w15.u
      have n15 := w15.new
      refine ⟨_, _, _, _, _, ld5 (w15.keep (S10.next, .cells (vcells v.list[j] lw nw) true) (by simp)).1, ih (B := B) (grow0 u15) hb0 (fun i hi => ?_) w15.sb ?_ hbB (fun i hi => ?_) (ff _ hm) (sf _ hm) (by have := JV.list_lt hm; omega) (by rw [List.length_append]; omega) fun S18 g18 k18 u18 t18 => ?_⟩
      · rcases n15 i hi with h' | h'
        · exact hg0 i h'
        · have := h0.le; omega
      · have v15 := hv.upd w15.u hD (Nat.le_refl _)
        obtain ⟨lw2, nw2, ee2, rr2⟩ := v15.elt hj
        have hj2 : j < es.length := by rw [RVs.length hv.rs]; exact hj
        obtain ⟨lw3, nw3, e3, r3⟩ := RVs.get v15.rs hj hj2
        have e4 := v10.sl.getN (j := j) hj2 (by omega)
        rw [ee, e3] at e4
        simp only [vcells, Option.some.injEq, V.agg.injEq, List.cons.injEq, and_true, true_and] at e4
        rw [e4.1, e4.2]
        exact r3
      · rcases n15 i hi with h' | h'
        · exact hgB i h'
        · omega
      · have w18 := w15.write k18 u18 t18
        refine setI_mk (n := ((j + 1 : Nat) : Int)) (wrap_next hj hv.le) ⟨v.list.length - (j + 1), by omega, j + 1, g18, rfl, hj, rfl, ?_⟩
        rw [hnext3]
        exact w18.more fun p hp => by simp at hp ⊢; exact .inr hp
    · have hj : j = v.list.length := by omega
      subst hj
      rw [List.take_length] at w10
      refine ⟨_, idx_str (s := [op, cl]) (j := 1) (by simp), hB.writeByte w10.u.wf w10.sb (by rw [List.length_append, List.length_cons]; omega) cl fun S19 g19 k19 u19 t19 => ?_⟩
      have w19 := w10.write k19 u19 t19
      refine hk S19 g19 ?_ w19.u w19.new
      have := w19.sb
      simpa using this

end Go.Th.L
end

section
/- json: printing, and names looked up. -/
set_option linter.unusedSimpArgs false
set_option linter.unusedVariables false
set_option maxHeartbeats 1000000
namespace Go.Th.Pure
open Go
theorem check_zero {v : JV} (h : checkJ v = 0) : allJ form1 v = true ∧ deepJ v ≤ 8 ∧ allJ small1 v = true ∧ allJ few1 v = true ∧ allJ unlike1 v = true := by
  unfold checkJ at h
  split at h
  · cases h
  split at h
  · cases h
  split at h
  · cases h
  split at h
  · cases h
  split at h
  · cases h
  · rename_i h1 h2 h3 h4 h5
    exact ⟨by simpa using h1, by omega, by simpa using h3, by simpa using h4, by simpa using h5⟩
def getJ (v : JV) (name : Bs8) : Option JV := if v.sort = 7 then (v.names.findIdx? fun t => decide (t = name)).bind fun j => v.list[j]? else none
end Go.Th.Pure
namespace Go.Th.L
open Go Go.Th Go.Th.Pure
variable {P : Program} {N : Nat → Nat}

structure PrintF (P : Program) (N : Nat → Nat) : Prop where
  c : CheckF P N
  print : json_Print.Ok P N
  lay : json_lay.Ok P N
  quote : json_quote.Ok P N
  len : strings_Builder_Len.Ok P N
  sb : ∃ e, SbOk P (N Fn.ty_strings_Builder) e (N Fn.strings_Builder_WriteByte) (N Fn.strings_Builder_WriteString) (N Fn.strings_Builder_String)

def PrintsJ (P : Program) (f : FuncId) (S0 : St) : Prop := ∀ {S : St} {v : JV} {lv nv : V} {K : Bs8 → Int → St → Prop}, Grow S0 S → RV S S.next v lv nv → deepJ v ≤ 4611686018427387904 → 40 * partsJ v ≤ 70368744177664 → (∀ S', Grow S S' → K (printJ v).1 (printJ v).2 S') →
  CallA P f [.agg (vcells v lv nv)] S (retT [.one .str, .one (.int .i64)] K)

theorem json_Print.spec (hF : PrintF P N) {S0 : St} (hI : ItoaJ P (N Fn.strconv_Itoa) S0) : PrintsJ P (N Fn.json_Print) S0 := by
  intro S v lv nv K h0 hv hd hp hk
  obtain ⟨e, hB⟩ := hF.sb
  refine json_Print.run hF.print (newS_mk h0.wf fun S1 g1 m1 n1 => ⟨_, _, _, _, _, ld5 m1, json_Check.spec hF.c g1.wf (hv.grow g1 g1.le) hd fun S2 g2 => ?_⟩)
  have g02 := g1.trans g2
  have v2 := hv.grow g02 g02.le
  unfold printJ at hk
  refine ifC_ndec (fun hc => ?_) fun hc => ?_
  · rw [if_neg hc] at hk
    exact hk S2 g02
  rw [if_pos hc] at hk
  obtain ⟨c1, _, c2, _, _⟩ := check_zero hc
  refine newS_mk g2.wf fun S3 g3 m3 n3 => ?_
  have g03 := g02.trans g3
  have hll := lay_len v c2
  refine ⟨_, _, _, _, _, ld5 (g3.get (g2.get m1)), json_lay.ok hF.lay hB (json_quote.spec hF.quote hB) hI (SizeOf.sizeOf v + 1) (B := S2.next) (b := S2.next) (g := []) (acc := []) (h0.trans g03) (Nat.le_trans h0.le g02.le) (by simp) (SbAt.fresh m3) (v2.grow g3 (Nat.le_refl _)) (Nat.le_refl _) (by simp) c1 c2 (Nat.lt_succ_self _) (by simp; omega) fun S4 g' k4 u4 t4 => ?_⟩
  have g04 : Grow S S4 := g03.after u4 fun j hj => .inl (by simp only [List.mem_cons, List.not_mem_nil, or_false] at hj; rw [hj]; exact g02.le)
  rw [List.nil_append] at k4
  obtain ⟨x, l1, l2⟩ := k4.len
  refine strings_Builder_Len.run hF.len ⟨rfl, ifS_mk (a := .ptr S2.next 1) rfl (ifS_mk l1 ⟨_, l2, ?_⟩)⟩
  refine ifC_dec (fun h => ?_) fun h => ?_
  · rw [if_pos (by omega)] at hk
    exact hk S4 g04
  · rw [if_neg (by omega)] at hk
    refine hB.string u4.wf k4 fun S6 u6 => hk S6 (g04.after u6 fun j hj => .inl ?_)
    rcases List.mem_cons.mp hj with rfl | hj
    · exact g02.le
    · rcases t4 j hj with h' | h'
      · cases h'
      · have := g03.le; omega

def GetsJ (P : Program) (f : FuncId) : Prop := ∀ {S : St} {v : JV} {lv nv : V} {name : Bs8} {K : Int → Int → Bs8 → V → V → Bool → St → Prop}, S.Wf → RV S S.next v lv nv → (getJ v name = none → ∀ S', Grow S S' → K 0 0 [] .nilSlice .nilSlice false S') →
  (∀ w lw nw S', getJ v name = some w → Grow S S' → RV S' S'.next w lw nw → K w.sort w.num w.text lw nw true S') → CallA P f [.agg (vcells v lv nv), .str name] S (retT [.agg [.int .i64, .int .i64, .str, .any, .any], .one .bool] K)

theorem findIdx_none {l : List Bs8} {name : Bs8} (h : ∀ k (hk : k < l.length), l[k] ≠ name) : l.findIdx? (fun t => decide (t = name)) = none := by
  rw [List.findIdx?_eq_none_iff]
  intro t ht
  obtain ⟨k, hk, rfl⟩ := List.getElem_of_mem ht
  simpa using h k hk
theorem findIdx_some {l : List Bs8} {name : Bs8} {j : Nat} (hj : j < l.length) (h : ∀ k (hk : k < j), l[k]'(by omega) ≠ name) (he : l[j] = name) : l.findIdx? (fun t => decide (t = name)) = some j := by
  rw [List.findIdx?_eq_some_iff_getElem]
  exact ⟨hj, by simpa using he, fun k hk => by simpa using h k hk⟩

theorem slices_Index_Lstring.spec (hF : slices_Index_Lstring.Ok P N) {S : St} (hw : S.Wf) {nv : V} {ns : List Bs8} {name : Bs8} (h : SlAt S 1 nv ns.length (ns.map V.str)) {K : Int → St → Prop}
    (hk : K (match ns.findIdx? fun t => decide (t = name) with
      | some j => ((j : Nat) : Int)
      | none => -1) S) : CallA P (N Fn.slices_Index_Lstring) [nv, .str name] S (retT [.one (.int .i64)] K) := by
  have hle := h.le
  refine slices_Index_Lstring.run hF ⟨_, h.len, Loop1.ind (fun m x S' => S = S' ∧ ∃ j : Nat, x = j ∧ j ≤ ns.length ∧ m = ns.length - j ∧ ∀ k (hk : k < j) (hk2 : k < ns.length), ns[k] ≠ name) ns.length ⟨rfl, 0, rfl, Nat.zero_le _, rfl, fun k hk => absurd hk (Nat.not_lt_zero _)⟩ ?_⟩
  rintro m _ _ ⟨rfl, j, rfl, hj, rfl, hne⟩
  refine ifC_dec (fun hx => ?_) fun hx => ?_
  · have hj : j < ns.length := by omega
    refine ifS_mk (h.idx hj) ⟨ns[j], by rw [h.load hj (by omega)]; simp [hj], ifC_dec (fun he => ?_) fun he => ?_⟩
    · rw [findIdx_some hj (fun k hk => hne k hk (by omega)) he.symm] at hk
      exact hk
    · refine setI_mk (n := ((j + 1 : Nat) : Int)) (wrap_next hj hle) ⟨ns.length - (j + 1), by omega, rfl, j + 1, rfl, hj, rfl, fun k hk hk2 => ?_⟩
      by_cases hkj : k = j
      · subst hkj; exact fun e => he e.symm
      · exact hne k (by omega) hk2
  · rw [findIdx_none fun k hk => hne k (by omega) hk] at hk
    exact hk

theorem json_Get.spec (hF : json_Get.Ok P N) (hX : slices_Index_Lstring.Ok P N) : GetsJ P (N Fn.json_Get) := by
  intro S v lv nv name K hw hv h0 h1
  obtain ⟨es, hv⟩ := hv.at_
  refine json_Get.run hF (newS_mk hw fun S1 g1 m1 n1 => newS_mk g1.wf fun S2 g2 m2 n2 => ?_)
  have g02 := g1.trans g2
  have v2 := hv.grow g02 g02.le
  have p2 := g2.get m1
  refine ifS_mk (ld p2 rfl) (slices_Index_Lstring.spec hX g2.wf v2.nm ?_)
  have up : ∀ {S'}, Upd [S1.next] S2 S' → Grow S S' := fun u => g02.after u fun j hj => .inl (by rw [List.mem_singleton.mp hj]; exact g1.le)
  refine Join1.mid (fun x S' => S2 = S' ∧ (x = true → getJ v name = none) ∧ (x = false → ∃ j : Nat, (v.names.findIdx? fun t => decide (t = name)) = some j ∧ j < v.list.length ∧ v.sort = 7)) ?_ ?_
  · refine ⟨v.sort, ld p2 rfl, ifC_ndec (fun h => ⟨rfl, fun _ => by unfold getJ; rw [if_neg h], fun h => by cases h⟩) fun h => ?_⟩
    cases hi : v.names.findIdx? (fun t => decide (t = name)) with
    | none => exact ifC_tt rfl ⟨rfl, fun _ => by unfold getJ; rw [if_pos h, hi]; rfl, fun h => by cases h⟩
    | some j =>
      refine ifC_ff (by rw [decide_eq_false_iff_not]; simp only; omega) (ifS_mk (ld p2 rfl) ⟨_, v2.len, rfl, fun hx => ?_, fun hx => ⟨j, rfl, ?_, h⟩⟩)
      · unfold getJ
        rw [if_pos h, hi, Option.bind_some]
        have hx := of_decide_eq_true hx
        exact List.getElem?_eq_none (by simp only at hx; omega)
      · have hx := of_decide_eq_false hx
        simp only at hx; omega
  rintro x _ ⟨rfl, hx1, hx0⟩
  refine ifC_tt_ff (fun hx => ?_) fun hx => ?_
  · exact fin_mk g2.wf m2 rfl rfl fun S' u => h0 (hx1 hx) S' (up u)
  · obtain ⟨j, hi, hj, hs⟩ := hx0 hx
    have hg : getJ v name = some v.list[j] := by
      unfold getJ
      rw [if_pos hs, hi, Option.bind_some, List.getElem?_eq_getElem hj]
    rw [hi]
    obtain ⟨lw, nw, e, r⟩ := v2.elt hj
    have o : lw.one = true ∧ nw.one = true := by obtain ⟨es2, r2⟩ := r.at_; exact r2.ones
    refine ifS_mk (ld p2 rfl) (ifS_mk (v2.idx hj) ⟨_, _, _, _, _, e, fin_mk g2.wf m2 o.1 o.2 fun S' u => ?_⟩)
    have v' := hv.grow (up u) (up u).le
    obtain ⟨lw2, nw2, e2, r2⟩ := v'.elt hj
    have hjs : j < es.length := by rw [RVs.length hv.rs]; exact hj
    have e3 := v2.sl.getN (j := j) hjs (by omega)
    have e4 := v'.sl.getN (j := j) hjs (by omega)
    rw [e] at e3
    rw [e2, ← e3] at e4
    simp only [vcells, Option.some.injEq, V.agg.injEq, List.cons.injEq, and_true, true_and] at e4
    rw [e4.1, e4.2] at r2
    exact h1 _ lw nw S' hg (up u) r2

end Go.Th.L
end

section
/- json: a value that comes in as an argument. -/
set_option linter.unusedSimpArgs false
set_option linter.unusedVariables false
set_option maxHeartbeats 1000000
namespace Go.Th.Pure
open Go
def fits1 (v : JV) : Bool := decide (v.text.length ≤ 140737488355328) && v.names.all fun t => decide (t.length ≤ 140737488355328)
end Go.Th.Pure
namespace Go.Th.L
open Go Go.Th Go.Th.Pure

structure ValTy (P : Program) (t ts : TypeId) : Prop where
  one : ∃ q, shOfR P 1 t = some (.agg (.cons 1 Sh.stop q))
  step : ∀ g, shOfR P (g + 2) t = obind (shOfR P g t) fun s => obind (shOfR P g ts) fun u => some (.agg (.cons 1 (.int .i64) (.cons 1 (.int .i64) (.cons 1 .str (.cons 1 (.slice 5 80 s) (.cons 1 (.slice 1 16 u) .nil))))))
  str : ∀ g, shOfR P (g + 1) ts = some .str

theorem RVs.of_all {S : St} {B : Nat} : ∀ (n : Nat) (es : List V), es.length = n * 5 → (∀ m, m < n → ∃ v lv nv, (es.drop (m * 5)).take 5 = vcells v lv nv ∧ RV S B v lv nv ∧ allJ fits1 v = true) → ∃ (l : List JV) (fs : List (List V)), l.length = n ∧ fs.flatten = es ∧ (∀ e ∈ fs, e.length = 5) ∧ fs.length = n ∧ RVs S B l fs ∧ allsJ fits1 l = true
  | 0, es, hl, h => by
    have : es = [] := List.length_eq_zero_iff.mp (by omega)
    subst this
    exact ⟨[], [], rfl, rfl, by simp, rfl, by simp only [RVs], by rw [allsJ]⟩
  | n + 1, es, hl, h => by
    obtain ⟨v, lv, nv, e0, r0, f0⟩ := h 0 (by omega)
    obtain ⟨l, fs, h1, h2, h3, h4, h5, h6⟩ := RVs.of_all n (es.drop 5) (by rw [List.length_drop]; omega) (fun m hm => by
      obtain ⟨v, lv, nv, e, r, f⟩ := h (m + 1) (by omega)
      refine ⟨v, lv, nv, ?_, r, f⟩
      rw [List.drop_drop, show 5 + m * 5 = (m + 1) * 5 by omega]
      exact e)
    rw [Nat.zero_mul, List.drop_zero] at e0
    refine ⟨v :: l, vcells v lv nv :: fs, by simp [h1], ?_, ?_, by simp [h4], ?_, ?_⟩
    · rw [List.flatten_cons, h2, ← e0, List.take_append_drop]
    · intro e he
      rcases List.mem_cons.mp he with rfl | he
      · rfl
      · exact h3 e he
    · simp only [RVs]
      exact ⟨lv, nv, fs, rfl, r0, h5⟩
    · rw [allsJ, f0, h6]; rfl

theorem names_of {S : St} : ∀ (n : Nat) (es : List V), es.length = n * 1 → (∀ m, m < n → Has S .str ((es.drop (m * 1)).take 1)) → ∃ ns : List Bs8, ns.length = n ∧ es = ns.map V.str ∧ ns.all (fun t => decide (t.length ≤ 140737488355328)) = true
  | 0, es, hl, h => ⟨[], rfl, List.length_eq_zero_iff.mp (by omega), rfl⟩
  | n + 1, es, hl, h => by
    have h0 := h 0 (by omega)
    simp only [Has, Nat.zero_mul, List.drop_zero] at h0
    obtain ⟨s, e0, hs⟩ := h0
    obtain ⟨ns, h1, h2, h3⟩ := names_of n (es.drop 1) (by rw [List.length_drop]; omega) (fun m hm => by
      have := h (m + 1) (by omega)
      rw [List.drop_drop, show 1 + m * 1 = (m + 1) * 1 by omega]
      exact this)
    refine ⟨s :: ns, by simp [h1], ?_, ?_⟩
    · rw [List.map_cons, ← h2]
      have := (List.take_append_drop 1 es).symm
      rw [e0] at this
      exact this
    · have : reachBytes = 140737488351232 := rfl
      rw [List.all_cons, h3, Bool.and_true, decide_eq_true_eq]
      omega

theorem val_read {P : Program} {t ts : TypeId} (hT : ValTy P t ts) {S : St} (hw : S.Wf) (g : Nat) : ∀ {sh : Sh} {cs : List V}, shOfR P g t = some sh → Has S sh cs → ∃ v lv nv, cs = vcells v lv nv ∧ RV S S.next v lv nv ∧ allJ fits1 v = true := by
  induction g using Nat.strongRecOn with
  | _ g ih =>
  intro sh cs hs h
  match g, ih, hs with
  | 0, ih, hs =>
    simp only [shOfR, Option.some.injEq] at hs
    subst hs
    exact absurd h not_stop
  | 1, ih, hs =>
    obtain ⟨q, hq⟩ := hT.one
    rw [hq] at hs
    cases hs
    simp only [Has, HasF] at h
    exact absurd h.1 not_stop
  | g + 2, ih, hs =>
    rw [hT.step] at hs
    obtain ⟨s, hs1, hs⟩ := obind_some hs
    obtain ⟨u, hs2, hs⟩ := obind_some hs
    cases hs
    simp only [Has, HasF] at h
    obtain ⟨⟨so, h1, _⟩, ⟨n, h2, _⟩, ⟨tx, h3, htx⟩, ⟨lv, k, es, h4, hsl, _, hel⟩, ⟨nv, k2, ns0, h5, hnl, _, hne⟩, h6⟩ := h
    have hcs : cs = [.int .i64 so, .int .i64 n, .str tx, lv, nv] := by
      have a0 := (List.take_append_drop 1 cs).symm
      have a1 := (List.take_append_drop 1 (cs.drop 1)).symm
      have a2 := (List.take_append_drop 1 ((cs.drop 1).drop 1)).symm
      have a3 := (List.take_append_drop 1 (((cs.drop 1).drop 1).drop 1)).symm
      have a4 := (List.take_append_drop 1 ((((cs.drop 1).drop 1).drop 1).drop 1)).symm
      rw [h5, h6] at a4
      rw [h4, a4] at a3
      rw [h3, a3] at a2
      rw [h2, a2] at a1
      rw [h1, a1] at a0
      exact a0
    obtain ⟨l, fs, l1, l2, l3, l4, l5, l6⟩ := RVs.of_all (S := S) (B := S.next) k es hsl.2.1 (fun m hm => ih g (by omega) hs1 (hel m hm))
    obtain ⟨ns, n1, n2, n3⟩ : ∃ ns : List Bs8, ns.length = k2 ∧ ns0 = ns.map V.str ∧ ns.all (fun t => decide (t.length ≤ 140737488355328)) = true := by
      rcases Nat.eq_zero_or_pos k2 with hz | hz
      · subst hz
        exact ⟨[], rfl, List.length_eq_zero_iff.mp (by have := hnl.2.1; omega), rfl⟩
      · have hu : u = .str := by
          cases g with
          | zero =>
            simp only [shOfR, Option.some.injEq] at hs2
            subst hs2
            exact absurd (hne 0 hz) not_stop
          | succ g =>
            rw [hT.str] at hs2
            cases hs2; rfl
        subst hu
        exact names_of k2 ns0 hnl.2.1 hne
    have hsl' : SlAt S 5 lv k fs.flatten := by rw [l2]; exact hsl
    refine ⟨.mk so n tx l ns, lv, nv, hcs, ?_, ?_⟩
    · simp only [RV]
      refine ⟨fs, ⟨by rw [l4]; exact hsl', l3⟩, l5, by rw [n1, ← n2]; exact hnl, fun hl => ?_, fun hl => ?_⟩
      · have : 0 < k := by rw [← l1]; exact List.length_pos_iff.mpr hl
        exact hsl.block_lt hw (by omega)
      · have : 0 < k2 := by rw [← n1]; exact List.length_pos_iff.mpr hl
        exact hnl.block_lt hw (by omega)
    · rw [allJ, l6, Bool.and_true]
      show (decide (tx.length ≤ 140737488355328) && ns.all fun t => decide (t.length ≤ 140737488355328)) = true
      rw [n3, Bool.and_true, decide_eq_true_eq]
      have : reachBytes = 140737488351232 := rfl
      omega

theorem val_arg {P : Program} {t ts : TypeId} (hT : ValTy P t ts) {S : St} (hw : S.Wf) {g : Nat} {sh : Sh} {a : V} (hs : shOfR P g t = some sh) (h : HasA S sh a) : ∃ v lv nv, a = .agg (vcells v lv nv) ∧ RV S S.next v lv nv ∧ allJ fits1 v = true := by
  have ha : ∃ fs, sh = .agg fs := by
    match g, hs with
    | 0, hs => simp only [shOfR, Option.some.injEq] at hs; exact ⟨_, hs.symm⟩
    | 1, hs =>
      obtain ⟨q, hq⟩ := hT.one
      rw [hq] at hs
      cases hs
      exact ⟨_, rfl⟩
    | g + 2, hs =>
      rw [hT.step] at hs
      obtain ⟨s, hs1, hs⟩ := obind_some hs
      obtain ⟨u, hs2, hs⟩ := obind_some hs
      cases hs
      exact ⟨_, rfl⟩
  obtain ⟨fs, rfl⟩ := ha
  obtain ⟨cs, rfl, h⟩ := h
  obtain ⟨v, lv, nv, rfl, r⟩ := val_read hT hw g hs (by simpa only [Has] using h)
  exact ⟨v, lv, nv, rfl, r⟩

end Go.Th.L
end

section
/- json: the values' type. -/
set_option linter.unusedSimpArgs false
set_option linter.unusedVariables false
namespace Go.Th.L
open Go Go.Th Go.Th.Pure

theorem ValTy.of {P : Program} {t tso ti ts tl tn : TypeId} {fs : Array Field} (hu : P.underlying t = some (.struct fs))
    (hf : ∀ f : TypeId → Option Sh, fsOf P f (P.cellsOf t) 0 fs.toList = obind (f tso) fun a => obind (obind (f ti) fun b => obind (obind (f ts) fun c => obind (obind (f tl) fun d => obind (obind (f tn) fun e => obind (some .nil) fun q => some (.cons 1 e q)) fun q => some (.cons 1 d q)) fun q => some (.cons 1 c q)) fun q => some (.cons 1 b q)) fun q => some (.cons 1 a q))
    (h1 : P.underlying tso = some (.int .i64)) (h2 : P.underlying ti = some (.int .i64)) (h3 : P.underlying ts = some .string) (h4 : P.underlying tl = some (.slice t)) (h5 : P.underlying tn = some (.slice ts)) (c1 : P.cellsOf t = 5) (c2 : P.bytesOf t = 80) (c3 : P.cellsOf ts = 1) (c4 : P.bytesOf ts = 16) : ValTy P t ts := by
  refine ⟨⟨.cons 1 Sh.stop (.cons 1 Sh.stop (.cons 1 Sh.stop (.cons 1 Sh.stop .nil))), ?_⟩, fun g => ?_, fun g => by simp only [shOfR, h3]⟩
  · simp only [shOfR, hu, hf]
    rfl
  · have e1 : shOfR P (g + 1) tso = some (.int .i64) := by simp only [shOfR, h1]
    have e2 : shOfR P (g + 1) ti = some (.int .i64) := by simp only [shOfR, h2]
    have e3 : shOfR P (g + 1) ts = some .str := by simp only [shOfR, h3]
    have e4 : shOfR P (g + 1) tl = obind (shOfR P g t) fun s => some (.slice 5 80 s) := by
      simp only [shOfR, h4, c1, c2]; rfl
    have e5 : shOfR P (g + 1) tn = obind (shOfR P g ts) fun s => some (.slice 1 16 s) := by
      simp only [shOfR, h5, c3, c4]; rfl
    have e0 : shOfR P (g + 2) t = obind (fsOf P (shOfR P (g + 1)) (P.cellsOf t) 0 fs.toList) fun q => some (.agg q) := by
      rw [show g + 2 = (g + 1) + 1 from rfl]
      simp only [shOfR, hu]
    rw [e0, hf, e1, e2, e3, e4, e5]
    cases shOfR P g t <;> cases shOfR P g ts <;> rfl
theorem ValTy.isSome {P : Program} {t ts : TypeId} (h : ValTy P t ts) : ∀ g, (shOfR P g t).isSome = true ∧ (shOfR P g ts).isSome = true := by
  have hs : ∀ g, (shOfR P g ts).isSome = true := by
    intro g
    cases g with
    | zero => rfl
    | succ g => rw [h.str]; rfl
  intro g
  refine ⟨?_, hs g⟩
  induction g using Nat.strongRecOn with
  | _ g ih =>
    match g, ih with
    | 0, ih => rfl
    | 1, ih => obtain ⟨q, hq⟩ := h.one; rw [hq]; rfl
    | g + 2, ih =>
      rw [h.step]
      have a := ih g (by omega)
      have b := hs g
      obtain ⟨x, hx⟩ := Option.isSome_iff_exists.mp a
      obtain ⟨y, hy⟩ := Option.isSome_iff_exists.mp b
      rw [hx, hy]; rfl
theorem ValTy.args {P : Program} {t ts : TypeId} (h : ValTy P t ts) : ∀ u ∈ [t, ts], ∀ g, (shOfR P g u).isSome = true := by
  intro u hu g
  simp only [List.mem_cons, List.not_mem_nil, or_false] at hu
  rcases hu with rfl | rfl
  · exact (h.isSome g).1
  · exact (h.isSome g).2
theorem ValTy.two {P : Program} {t ts : TypeId} (h : ValTy P t ts) {S : St} (hw : S.Wf) {av : List V} (ha : HasAsR P S [t, ts] av) : ∃ v lv nv s, av = [.agg (vcells v lv nv), .str s] ∧ RV S S.next v lv nv ∧ allJ fits1 v = true := by
  simp only [HasAsR] at ha
  obtain ⟨a, _, g, sh, rfl, hs, h1, b, _, g2, sh2, rfl, hs2, h2, rfl⟩ := ha
  obtain ⟨v, lv, nv, rfl, r, f⟩ := val_arg h hw hs h1
  cases g2 with
  | zero =>
    simp only [shOfR, Option.some.injEq] at hs2
    subst hs2
    obtain ⟨cs, _, h2⟩ := h2
    exact absurd (by unfold Sh.stop; simp only [Has]; exact h2) (not_stop (S := S) (cs := cs))
  | succ g2 =>
    rw [h.str] at hs2
    cases hs2
    obtain ⟨s, e, _⟩ := (by simpa only [HasA, Has] using h2 : ∃ s : List UInt8, [b] = [.str s] ∧ s.length ≤ reachBytes)
    cases e
    exact ⟨v, lv, nv, s, rfl, r, f⟩

end Go.Th.L
end

section
/- json's reference: two values compared. -/
set_option linter.unusedSimpArgs false
set_option linter.unusedVariables false
set_option maxHeartbeats 1000000
namespace Go.Th.L
open Go Go.Th Go.Th.Pure
variable {P : Program} {N : Nat → Nat}

theorem JV.ext {v w : JV} (h1 : v.sort = w.sort) (h2 : v.num = w.num) (h3 : v.text = w.text) (h4 : v.list = w.list) (h5 : v.names = w.names) : v = w := by
  rw [← JV.eta v, ← JV.eta w, h1, h2, h3, h4, h5]

def SamesJ (P : Program) (f : FuncId) (n : Nat) : Prop := ∀ {S : St} {v w : JV} {lv nv lw nw : V} {K : Bool → St → Prop}, S.Wf → RV S S.next v lv nv → RV S S.next w lw nw → SizeOf.sizeOf v < n → (∀ b S', (b = true ↔ v = w) → Grow S S' → K b S') →
  CallA P f [.agg (vcells v lv nv), .agg (vcells w lw nw)] S (retT [.one .bool] K)

theorem ref20_Same.same (hF : ref20_Same.Ok P N) (n : Nat) : SamesJ P (N Fn.ref20_Same) n := by
  induction n with
  | zero =>
    intro S v w lv nv lw nw K _ _ _ h
    exact absurd h (Nat.not_lt_zero _)
  | succ n ih =>
    intro S v w lv nv lw nw K hw hv hz hn hk
    refine ref20_Same.run hF (newS_mk hw fun S1 g1 m1 n1 => newS_mk g1.wf fun S2 g2 m2 n2 => ?_)
    obtain ⟨es, hv⟩ := hv.at_
    obtain ⟨fs, hz⟩ := hz.at_
    have g02 := g1.trans g2
    have v2 := hv.grow g02 g02.le
    have w2 := hz.grow g02 g02.le
    have p2 := g2.get m1
    have no : v ≠ w → ∀ {S'}, Grow S S' → K false S' := fun hne S' g => hk false S' ⟨(fun h => by cases h), fun h => absurd h hne⟩ g
    refine Join0.mid (fun S' => S2 = S' ∧ v.sort = w.sort ∧ v.num = w.num ∧ v.text = w.text ∧ v.list.length = w.list.length ∧ v.names.length = w.names.length) ?_ ?_
    · refine ⟨_, ld p2 rfl, _, ld m2 rfl, ifC_ndec (fun h => no (fun e => h (by rw [e])) g02) fun h1 => ⟨_, ld p2 rfl, _, ld m2 rfl, ifC_ndec (fun h => no (fun e => h (by rw [e])) g02) fun h2 => ⟨_, ld p2 rfl, _, ld m2 rfl, ifC_ndec (fun h => no (fun e => h (by rw [e])) g02) fun h3 => ?_⟩⟩⟩
      refine ifS_mk (ld p2 rfl) ⟨_, v2.len, ifS_mk (ld m2 rfl) ⟨_, w2.len, ifC_ndec (fun h => no (fun e => h (by rw [e])) g02) fun h4 => ifS_mk (ld p2 rfl) ⟨_, v2.nlen, ifS_mk (ld m2 rfl) ⟨_, w2.nlen, ifC_ndec (fun h => no (fun e => h (by rw [e])) g02) fun h5 => ⟨rfl, h1, h2, h3, by omega, by omega⟩⟩⟩⟩⟩
    rintro _ ⟨rfl, h1, h2, h3, h4, h5⟩
    refine Loop1.ind (fun m x S' => S2 = S' ∧ ∃ j : Nat, x = j ∧ j ≤ v.names.length ∧ m = v.names.length - j ∧ v.names.take j = w.names.take j) v.names.length ⟨rfl, 0, rfl, Nat.zero_le _, rfl, by simp⟩ ?_
    rintro m _ _ ⟨rfl, j, rfl, hj, rfl, hd⟩
    refine ifS_mk (ld p2 rfl) ⟨_, v2.nlen, ifC_dec (fun hx => ?_) fun hx => ?_⟩
    · have hj : j < v.names.length := by omega
      have hj2 : j < w.names.length := by omega
      refine ifS_mk (ld p2 rfl) (ifS_mk (v2.nidx hj) ⟨_, v2.name hj, ifS_mk (ld m2 rfl) (ifS_mk (w2.nidx hj2) ⟨_, w2.name hj2, ifC_ndec (fun h => no (fun e => h (by subst e; rfl)) g02) fun he => ?_⟩)⟩)
      refine setI_mk (n := ((j + 1 : Nat) : Int)) (wrap_next hj hv.nle) ⟨v.names.length - (j + 1), by omega, rfl, j + 1, rfl, hj, rfl, ?_⟩
      rw [← List.take_append_getElem hj, ← List.take_append_getElem hj2, hd, he]
    · have hj : j = v.names.length := by omega
      subst hj
      rw [List.take_length, h5, List.take_length] at hd
      refine Loop1.ind (fun m x S' => ∃ j : Nat, x = j ∧ j ≤ v.list.length ∧ m = v.list.length - j ∧ Grow S2 S' ∧ v.list.take j = w.list.take j) v.list.length ⟨0, rfl, Nat.zero_le _, rfl, Upd.refl g02.wf _, by simp⟩ ?_
      rintro m _ S5 ⟨j, rfl, hj, rfl, g, hl⟩
      have v5 := v2.grow g g.le
      have w5 := w2.grow g g.le
      have p5 := g.get p2
      have m5 := g.get m2
      refine ifS_mk (ld p5 rfl) ⟨_, v5.len, ifC_dec (fun hx => ?_) fun hx => ?_⟩
      · have hj : j < v.list.length := by omega
        have hj2 : j < w.list.length := by omega
        obtain ⟨lx, nx, e1, r1⟩ := v5.elt hj
        obtain ⟨ly, ny, e2, r2⟩ := w5.elt hj2
        refine ifS_mk (ld p5 rfl) (ifS_mk (v5.idx hj) ⟨_, _, _, _, _, e1, ifS_mk (ld m5 rfl) (ifS_mk (w5.idx hj2) ⟨_, _, _, _, _, e2, ih g.wf r1 r2 (by have := JV.list_lt (List.getElem_mem hj); omega) fun b S6 hb g6 => ⟨Same.of_grow g6 fun j hj => ?_, ?_⟩⟩)⟩)
        · have := g.wf.lt p5
          have := g.wf.lt m5
          simp only [List.mem_cons, List.not_mem_nil, or_false] at hj
          rcases hj with rfl | rfl <;> assumption
        · have g06 := (g02.trans g).trans g6
          refine ifC_nb (fun h => no (fun e => ?_) g06) fun h => ?_
          · have : b = true := hb.mpr (by subst e; rfl)
            rw [h] at this; cases this
          · refine setI_mk (n := ((j + 1 : Nat) : Int)) (wrap_next hj hv.le) ⟨v.list.length - (j + 1), by omega, j + 1, rfl, hj, rfl, g.trans g6, ?_⟩
            rw [← List.take_append_getElem hj, ← List.take_append_getElem hj2, hl, hb.mp h]
      · have hj : j = v.list.length := by omega
        subst hj
        rw [List.take_length, h4, List.take_length] at hl
        exact hk true S5 ⟨fun _ => JV.ext h1 h2 h3 hl hd, fun _ => rfl⟩ (g02.trans g)

end Go.Th.L
end

section
/- json's laws: the document's examples. -/
set_option linter.unusedSimpArgs false
set_option linter.unusedVariables false
set_option maxHeartbeats 1000000
namespace Go.Th.L
open Go Go.Th Go.Th.Pure
variable {P : Program} {N : Nat → Nat}

theorem parse_a : parseJ [32, 123, 32, 34, 97, 34, 32, 58, 32, 91, 32, 49, 32, 44, 32, 45, 50, 32, 93, 32, 125, 32] = (.mk 7 0 [] [.mk 6 0 [] [.mk 4 1 [] [] [], .mk 4 (-2) [] [] []] []] [[97]], 0) := by rfl
theorem parse_b : parseJ [48, 49] = (jnil, 200) := by rfl
theorem parse_c : parseJ [91, 91, 91, 91, 91, 91, 91, 91, 91, 93, 93, 93, 93, 93, 93, 93, 93, 93] = (jnil, 201) := by rfl
theorem itoa_1 : Lib.itoa 1 = [49] := by
  unfold Lib.itoa
  rw [if_neg (by decide), Lib.decDigits, dif_pos (by decide)]
  rfl
theorem itoa_2 : Lib.itoa (-2) = [45, 50] := by
  unfold Lib.itoa
  rw [if_pos (by decide), Lib.decDigits, dif_pos (by decide)]
  rfl
theorem print_a : printJ (.mk 7 0 [] [.mk 6 0 [] [.mk 4 1 [] [] [], .mk 4 (-2) [] [] []] []] [[97]]) = ([123, 34, 97, 34, 58, 91, 49, 44, 45, 50, 93, 125], 0) := by
  have e : layJ (.mk 7 0 [] [.mk 6 0 [] [.mk 4 1 [] [] [], .mk 4 (-2) [] [] []] []] [[97]]) = [123, 34, 97, 34, 58, 91] ++ (Lib.itoa 1 ++ ([44] ++ (Lib.itoa (-2) ++ [93, 125]))) := by simp [layJ, laysJ, quoteJ, quoteB]
  unfold printJ
  rw [e, itoa_1, itoa_2]
  rfl
theorem print_b : printJ (.mk 5 0 [10, 34, 255] [] []) = ([34, 92, 117, 48, 48, 48, 97, 92, 34, 92, 117, 48, 48, 102, 102, 34], 0) := by rfl

theorem ParsesJ.at_ {f : FuncId} {gs : List Nat} (h : ParsesJ P f gs) {S : St} {s : Bs8} {K : Int → Int → Bs8 → V → V → Int → St → Prop} (hw : S.Wf) (hG : GV gs S) {v : JV} {c : Int} (e : parseJ s = (v, c))
    (hk : ∀ lv nv F S', Grow S S' → VAt S' S.next v lv nv F → K v.sort v.num v.text lv nv c S') : CallA P f [.str s] S (retT [.agg [.int .i64, .int .i64, .str, .any, .any], .one (.int .i64)] K) :=
  h hw hG fun lv nv F S' g hv => by rw [e] at hv ⊢; exact hk lv nv F S' g hv
theorem VAt.rv' {S : St} (hw : S.Wf) {b : Nat} {v : JV} {lv nv : V} {F : List Nat} (h : VAt S b v lv nv F) : RV S S.next v lv nv := VAt.rv v h fun j hj => by obtain ⟨_, _, h⟩ := VAt.own v h j hj; exact hw.lt h
theorem RV.ones {S : St} {B : Nat} {v : JV} {lv nv : V} (h : RV S B v lv nv) : lv.one = true ∧ nv.one = true := by obtain ⟨es, h⟩ := h.at_; exact h.ones
theorem RV.nil (S : St) (B : Nat) (so n : Int) (t : Bs8) : RV S B (.mk so n t [] []) .nilSlice .nilSlice := by
  simp only [RV]
  exact ⟨[], ⟨⟨by decide, by simp, .inl ⟨rfl, rfl⟩⟩, by simp⟩, by simp only [RVs], ⟨by simp, by simp, .inl ⟨rfl, rfl⟩⟩, by simp, by simp⟩

theorem copy_mk {S : St} (hw : S.Wf) {v : JV} {lv nv : V} (h1 : lv.one = true) (h2 : nv.one = true) {K : St → Prop} (hk : ∀ S', Grow S S' → S'.get S.next = some (.cells (vcells v lv nv) true) → K S') :
    newS S (.cells [(V.int .i64 0), (V.int .i64 0), (V.str ([] : List UInt8)), V.nilSlice, V.nilSlice] true) fun S2 => ifS (storeV S2 5 (V.ptr S.next 0) (V.agg [(V.int .i64 v.sort), (V.int .i64 v.num), (V.str v.text), lv, nv])) K :=
  newS_mk hw fun S1 g1 m1 n1 => st_mk g1.wf m1 (by simp [V.cells]) (by simp [V.cells]) (by simp only [V.cells, List.all_cons, List.all_nil, h1, h2]; rfl) fun S2 u2 m2 n2 => hk S2 (g1.after u2 fun j hj => .inl (by rw [List.mem_singleton.mp hj]; exact Nat.le_refl _)) m2

structure Awake20F (P : Program) (N : Nat → Nat) (gs : List Nat) (S0 : St) : Prop where
  parse : ParsesJ P (N Fn.json_Parse) gs
  print : PrintsJ P (N Fn.json_Print) S0
  get : GetsJ P (N Fn.json_Get)
  awake : law20_awake.Ok P N

theorem law20_awake.spec {gs : List Nat} {S0 : St} (hF : Awake20F P N gs S0) {S : St} (h0 : Grow S0 S) (hG : GV gs S) {K : Bool → St → Prop} (hk : ∀ S', Grow S S' → K true S') : CallA P (N Fn.law20_awake) [] S (retT [.one .bool] K) := by
  refine law20_awake.run hF.awake (ParsesJ.at_ hF.parse h0.wf hG parse_a fun lv nv F S1 g1 v1 => ?_)
  have o1 := v1.ones
  refine copy_mk g1.wf o1.1 o1.2 fun S3 g3 m3 => ?_
  have g03 := g1.trans g3
  have v3 := (v1.grow g3).rv' g3.wf
  refine ⟨_, _, _, _, _, ld5 m3, hF.print (h0.trans g03) v3 (by decide) (by decide) fun S4 g4 => ?_⟩
  rw [print_a]
  have g04 := g03.trans g4
  refine ParsesJ.at_ hF.parse g4.wf (hG.upd g04 (by simp)) parse_b fun lv2 nv2 F2 S5 g5 v5 => copy_mk g5.wf v5.ones.1 v5.ones.2 fun S7 g7 m7 => ?_
  have g07 := (g04.trans g5).trans g7
  refine ParsesJ.at_ hF.parse g7.wf (hG.upd g07 (by simp)) parse_c fun lv3 nv3 F3 S8 g8 v8 => copy_mk g8.wf v8.ones.1 v8.ones.2 fun S10 g10 m10 => ?_
  have g010 := (g07.trans g8).trans g10
  refine hF.print (v := .mk 5 0 [10, 34, 255] [] []) (h0.trans g010) (RV.nil _ _ _ _ _) (by decide) (by decide) fun S11 g11 => ?_
  rw [print_b]
  have g311 := ((((g4.trans g5).trans g7).trans g8).trans g10).trans g11
  have g011 := g03.trans g311
  refine ⟨_, _, _, _, _, ld5 (Grow.get g311 m3), hF.get (name := [97]) g11.wf (v3.grow g311 g311.le) (fun e => by cases e) fun w lw nw S12 e g12 r12 => ?_⟩
  obtain rfl : w = .mk 6 0 [] [.mk 4 1 [] [] [], .mk 4 (-2) [] [] []] [] := by
    have : getJ (.mk 7 0 [] [.mk 6 0 [] [.mk 4 1 [] [] [], .mk 4 (-2) [] [] []] []] [[97]]) [97] = some (.mk 6 0 [] [.mk 4 1 [] [] [], .mk 4 (-2) [] [] []] []) := by rfl
    rw [this] at e
    exact (Option.some.inj e).symm
  refine copy_mk g12.wf r12.ones.1 r12.ones.2 fun S14 g14 m14 => ?_
  have r14 := r12.grow g14 g14.le
  obtain ⟨es, r14⟩ := r14.at_
  refine ifC_tt rfl (ifC_tt rfl (ifC_tt rfl (ifC_tt rfl (ifC_tt rfl (ifC_tt rfl (ifC_tt rfl (ifC_tt rfl (ifS_mk (ld m14 rfl) ⟨_, r14.len, ?_⟩))))))))
  exact hk S14 ((g011.trans g12).trans g14)

end Go.Th.L
end

section
/- json's laws: texts parsed. -/
set_option linter.unusedSimpArgs false
set_option linter.unusedVariables false
set_option maxHeartbeats 1000000
namespace Go.Th.L
open Go Go.Th Go.Th.Pure
variable {P : Program} {N : Nat → Nat}

end Go.Th.L
end

section
/- json, plainly: more text behind a value. -/
set_option linter.unusedSimpArgs false
set_option linter.unusedVariables false
namespace Go.Th.Pure
open Go

end Go.Th.Pure
end

section
/- json, plainly: blanks around a value; two values as a list. -/
set_option linter.unusedSimpArgs false
set_option linter.unusedVariables false
namespace Go.Th.Pure
open Go

end Go.Th.Pure
end

section
/- json, plainly: what is printed is parsed as itself. -/
set_option linter.unusedSimpArgs false
set_option linter.unusedVariables false
namespace Go.Th.Pure
open Go

end Go.Th.Pure
end

section
/- json, plainly: how many parts what is read has. -/
set_option linter.unusedSimpArgs false
set_option linter.unusedVariables false
namespace Go.Th.Pure
open Go

theorem partss_snoc (v : JV) : ∀ l, partssJ (l ++ [v]) = partssJ l + partsJ v
  | [] => by simp [partssJ]
  | w :: l => by simp only [List.cons_append, partssJ, partss_snoc v l]; omega
theorem sumL_snoc (t : Bs8) : ∀ l, sumL (l ++ [t]) = sumL l + t.length
  | [] => by simp [sumL]
  | w :: l => by simp only [List.cons_append, sumL, sumL_snoc t l]; omega
mutual
theorem deep_parts : ∀ v : JV, deepJ v ≤ partsJ v
  | .mk so n t l ns => by
    have := deeps_parts l
    rw [deepJ, partsJ]
    split <;> omega
theorem deeps_parts : ∀ l : List JV, deepsJ l ≤ partssJ l
  | [] => by simp [deepsJ]
  | v :: l => by
    have := deep_parts v
    have := deeps_parts l
    rw [deepsJ, partssJ]
    omega
end

end Go.Th.Pure
end

section
/- json's laws: how many parts a value has. -/
set_option linter.unusedSimpArgs false
set_option linter.unusedVariables false
set_option maxHeartbeats 1000000
namespace Go.Th.L
open Go Go.Th Go.Th.Pure
variable {P : Program} {N : Nat → Nat}

theorem fits_at {v : JV} (h : allJ fits1 v = true) : v.text.length ≤ 140737488355328 ∧ (∀ t ∈ v.names, t.length ≤ 140737488355328) ∧ ∀ w ∈ v.list, allJ fits1 w = true := by
  obtain ⟨h1, h2⟩ := all_at h
  simp only [fits1, Bool.and_eq_true, decide_eq_true_eq, List.all_eq_true] at h1
  exact ⟨h1.1, h1.2, h2⟩
theorem sumL_take {l : List Bs8} {j : Nat} (hj : j < l.length) : sumL (l.take (j + 1)) = sumL (l.take j) + l[j].length := by
  rw [← List.take_append_getElem hj, sumL_snoc]
theorem partss_take {l : List JV} {j : Nat} (hj : j < l.length) : partssJ (l.take (j + 1)) = partssJ (l.take j) + partsJ l[j] := by
  rw [← List.take_append_getElem hj, partss_snoc]

def PartsOk (P : Program) (N : Nat → Nat) (z : Nat) : Prop := ∀ {S : St} {v : JV} {lv nv : V} {n w : Nat} {K : Int → St → Prop}, S.Wf → RV S S.next v lv nv → SizeOf.sizeOf v < z → allJ fits1 v = true → n ≤ 131072 → w ≤ 2001 →
  (∀ (r : Nat) S', Grow S S' → (r ≤ 131072 → r = n + partsJ v) → K (r : Nat) S') → CallA P (N Fn.law20_parts) [.agg (vcells v lv nv), .int .i64 (n : Nat), .int .i64 (w : Nat)] S (retT [.one (.int .i64)] K)

theorem law20_parts.ok (hF : law20_parts.Ok P N) (z : Nat) : PartsOk P N z := by
  induction z with
  | zero =>
    intro S v lv nv n w K _ _ h
    exact absurd h (Nat.not_lt_zero _)
  | succ z ih =>
    intro S v lv nv n w K hw hv hz hfit hn hww hk
    refine law20_parts.run hF (newS_mk hw fun S1 g1 m1 n1 => ?_)
    obtain ⟨es, hv⟩ := hv.at_
    have v1 := hv.grow g1 g1.le
    obtain ⟨ft, fn, fl⟩ := fits_at hfit
    have hnl := hv.nle
    refine ifC_dec (fun h => hk 131073 S1 g1 (fun h => by omega)) fun h => ?_
    have hw2 : w ≤ 2000 := by omega
    refine setI_mk (n := ((n + 1 : Nat) : Int)) (wrap_nat (by omega)) ⟨v.text, ld m1 rfl, setI_mk (n := ((n + 1 + v.text.length : Nat) : Int)) (by rw [IntKind.wrap_i64]; omega) (ifS_mk (ld m1 rfl) ⟨_, v1.nlen, setI_mk (n := ((n + 1 + v.text.length + v.names.length : Nat) : Int)) (by rw [IntKind.wrap_i64]; omega) ?_⟩)⟩
    rw [partsJ_eq] at hk
    refine Join1.mid (fun x S' => S1 = S' ∧ ∃ r : Nat, x = r ∧ r ≤ 4800000000000000000 ∧ (r ≤ 131072 → r = n + 1 + v.text.length + v.names.length + sumL v.names)) ?_ ?_
    · refine Loop2.ind (fun m x y S' => S1 = S' ∧ ∃ (r j : Nat), x = r ∧ y = j ∧ j ≤ v.names.length ∧ m = v.names.length - j ∧ r ≤ 4800000000000000000 ∧ r = n + 1 + v.text.length + v.names.length + sumL (v.names.take j)) v.names.length ⟨rfl, _, 0, rfl, rfl, Nat.zero_le _, rfl, by omega, by simp [sumL]⟩ ?_
      rintro m _ _ _ ⟨rfl, r, j, rfl, rfl, hj, rfl, hr, hreq⟩
      have hle : sumL (v.names.take j) ≤ sumL v.names := by
        have : sumL v.names = sumL (v.names.take j) + sumL (v.names.drop j) := by
          have app : ∀ (a b : List Bs8), sumL (a ++ b) = sumL a + sumL b := by
            intro a b
            induction a with
            | nil => simp [sumL]
            | cons t a ih => simp only [List.cons_append, sumL, ih]; omega
          rw [← app, List.take_append_drop]
        omega
      refine Join0.mid (fun S' => S1 = S' ∧ j < v.names.length ∧ r ≤ 131072) ?_ ?_
      · refine ifS_mk (ld m1 rfl) ⟨_, v1.nlen, ifC_dec (fun h => ifC_dec (fun h' => ⟨rfl, by omega, by omega⟩) fun h' => ⟨rfl, r, rfl, hr, fun h => by omega⟩) fun h => ⟨rfl, r, rfl, hr, fun _ => ?_⟩⟩
        have : j = v.names.length := by omega
        subst this
        rw [List.take_length] at hreq
        exact hreq
      rintro _ ⟨rfl, hj2, hr2⟩
      have := fn _ (List.getElem_mem hj2)
      refine ifS_mk (ld m1 rfl) (ifS_mk (v1.nidx hj2) ⟨_, v1.name hj2, setI_mk (n := ((r + v.names[j].length : Nat) : Int)) (by rw [IntKind.wrap_i64]; omega) (setI_mk (n := ((j + 1 : Nat) : Int)) (wrap_next hj2 hv.nle) ⟨v.names.length - (j + 1), by omega, rfl, _, j + 1, rfl, rfl, hj2, rfl, by omega, by rw [sumL_take hj2]; omega⟩)⟩)
    rintro _ _ ⟨rfl, r0, rfl, hr0, he0⟩
    refine Loop2.ind (fun m x y S' => ∃ (r j : Nat), x = r ∧ y = j ∧ j ≤ v.list.length ∧ m = v.list.length - j ∧ Grow S1 S' ∧ (r ≤ 131072 → r = n + (1 + v.text.length + v.names.length + sumL v.names) + partssJ (v.list.take j))) v.list.length ⟨r0, 0, rfl, rfl, Nat.zero_le _, rfl, Upd.refl g1.wf _, fun h => by rw [List.take_zero, partssJ, he0 h]; omega⟩ ?_
    rintro m _ _ S5 ⟨r, j, rfl, rfl, hj, rfl, g, hr⟩
    have v5 := v1.grow g g.le
    have m5 := g.get m1
    refine Join0.mid (fun S' => S5 = S' ∧ j < v.list.length ∧ r ≤ 131072) ?_ ?_
    · refine ifS_mk (ld m5 rfl) ⟨_, v5.len, ifC_dec (fun h => ifC_dec (fun h' => ⟨rfl, by omega, by omega⟩) fun h' => hk r S5 (g1.trans g) fun h => by omega) fun h => hk r S5 (g1.trans g) fun h' => ?_⟩
      have : j = v.list.length := by omega
      subst this
      rw [List.take_length] at hr
      have := hr h'
      omega
    rintro _ ⟨rfl, hj2, hr2⟩
    obtain ⟨lw, nw, e, rr⟩ := v5.elt hj2
    have hm := List.getElem_mem hj2
    refine ifS_mk (ld m5 rfl) (ifS_mk (v5.idx hj2) ⟨_, _, _, _, _, e, setI_mk (n := ((w + 1 : Nat) : Int)) (wrap_nat (by omega)) (ih g.wf rr (by have := JV.list_lt hm; omega) (fl _ hm) hr2 (by omega) fun r' S7 g7 hr' => ?_)⟩)
    refine setI_mk (n := ((j + 1 : Nat) : Int)) (wrap_next hj2 hv.le) ⟨v.list.length - (j + 1), by omega, r', j + 1, rfl, rfl, hj2, rfl, g.trans g7, fun h => ?_⟩
    rw [partss_take hj2, hr' h, hr hr2]
    omega

theorem law20_wide.any (hF : law20_wide.Ok P N) (z : Nat) : ∀ {S : St} {v : JV} {lv nv : V} {K : Bool → St → Prop}, S.Wf → RV S S.next v lv nv → SizeOf.sizeOf v < z → (∀ b S', Grow S S' → K b S') → CallA P (N Fn.law20_wide) [.agg (vcells v lv nv)] S (retT [.one .bool] K) := by
  induction z with
  | zero =>
    intro S v lv nv K _ _ h
    exact absurd h (Nat.not_lt_zero _)
  | succ z ih =>
    intro S v lv nv K hw hv hz hk
    refine law20_wide.run hF (newS_mk hw fun S1 g1 m1 n1 => ?_)
    obtain ⟨es, hv⟩ := hv.at_
    have v1 := hv.grow g1 g1.le
    refine ifS_mk (ld m1 rfl) ⟨_, v1.nlen, ifC_dec (fun _ => hk true S1 g1) fun _ => ?_⟩
    refine Loop1.ind (fun m x S' => ∃ j : Nat, x = j ∧ j ≤ v.list.length ∧ m = v.list.length - j ∧ Grow S1 S') v.list.length ⟨0, rfl, Nat.zero_le _, rfl, Upd.refl g1.wf _⟩ ?_
    rintro m _ S5 ⟨j, rfl, hj, rfl, g⟩
    have v5 := v1.grow g g.le
    have m5 := g.get m1
    refine ifS_mk (ld m5 rfl) ⟨_, v5.len, ifC_dec (fun h => ?_) fun _ => hk false S5 (g1.trans g)⟩
    have hj2 : j < v.list.length := by omega
    obtain ⟨lw, nw, e, rr⟩ := v5.elt hj2
    refine ifS_mk (ld m5 rfl) (ifS_mk (v5.idx hj2) ⟨_, _, _, _, _, e, ih g.wf rr (by have := JV.list_lt (List.getElem_mem hj2); omega) fun b S6 g6 => ifC_tt_ff (fun _ => hk true S6 (g1.trans (g.trans g6))) fun _ => ?_⟩)
    exact setI_mk (n := ((j + 1 : Nat) : Int)) (wrap_next hj2 hv.le) ⟨v.list.length - (j + 1), by omega, j + 1, rfl, hj2, rfl, g.trans g6⟩

theorem law20_big.spec (hF : law20_big.Ok P N) (hP : law20_parts.Ok P N) (hW : law20_wide.Ok P N) {S : St} (hw : S.Wf) {v : JV} {lv nv : V} (hv : RV S S.next v lv nv) (hf : allJ fits1 v = true) {K : Bool → St → Prop} (hk : ∀ b S', Grow S S' → (b = false → partsJ v ≤ 131072) → K b S') : CallA P (N Fn.law20_big) [.agg (vcells v lv nv)] S (retT [.one .bool] K) := by
  refine law20_big.run hF (newS_mk hw fun S1 g1 m1 n1 => ⟨_, _, _, _, _, ld5 m1, law20_parts.ok hP _ (n := 0) (w := 0) g1.wf (hv.grow g1 g1.le) (Nat.lt_succ_self _) hf (by omega) (by omega) fun r S2 g2 hr => ?_⟩)
  refine ifC_dec (fun h => hk true S2 (g1.trans g2) fun h => by cases h) fun h => ⟨_, _, _, _, _, ld5 (g2.get m1), law20_wide.any hW _ g2.wf (hv.grow (g1.trans g2) (g1.trans g2).le) (Nat.lt_succ_self _) fun b S3 g3 => hk b S3 ((g1.trans g2).trans g3) fun _ => ?_⟩
  have := hr (by omega)
  omega

end Go.Th.L
end

section
/- json's reference: numbers and texts printed. -/
set_option linter.unusedSimpArgs false
set_option linter.unusedVariables false
set_option maxHeartbeats 1000000
namespace Go.Th.L
open Go Go.Th Go.Th.Pure
variable {P : Program} {N : Nat → Nat}

theorem dig_slice (d : Nat) (h : d < 10) : sliceStrV (V.str ([48, 49, 50, 51, 52, 53, 54, 55, 56, 57] : List UInt8)) (some (V.int .i64 ((d : Nat) : Int))) (some (V.int .i64 ((d + 1 : Nat) : Int))) = some (V.str [UInt8.ofNat (48 + d)]) := by
  rcases (by omega : d = 0 ∨ d = 1 ∨ d = 2 ∨ d = 3 ∨ d = 4 ∨ d = 5 ∨ d = 6 ∨ d = 7 ∨ d = 8 ∨ d = 9) with rfl | rfl | rfl | rfl | rfl | rfl | rfl | rfl | rfl | rfl <;> rfl
theorem ref20_digits.spec (hF : ref20_digits.Ok P N) {S : St} {n : Nat} (hn : n ≤ 999999999999999) {K : Bs8 → St → Prop} (hk : K (Lib.decDigits n) S) : CallA P (N Fn.ref20_digits) [.int .i64 (n : Nat)] S (retT [.one .str] K) := by
  refine ref20_digits.run hF ?_
  -- what is left, and what has been laid
  refine Loop2.ind (fun m x s S' => S = S' ∧ ∃ u : Nat, x = u ∧ u ≤ 999999999999999 ∧ s.length ≤ 100 ∧ s.length + Lib.nDigits u ≤ 100 + (if u = 0 then 1 else 0) ∧ ((s = [] ∧ u = n ∧ m = n + 1) ∨ (s ≠ [] ∧ m = u ∧ Lib.decDigits n = (if u = 0 then [] else Lib.decDigits u) ++ s))) (n + 1) ⟨rfl, n, rfl, hn, by simp, by have := small_pow (n := n) (k := 15) (by omega) (by omega); simp only [List.length_nil]; omega, .inl ⟨rfl, rfl, rfl⟩⟩ ?_
  rintro m _ s _ ⟨rfl, u, rfl, hu, hs1, hs2, hcase⟩
  refine Join0.mid (fun S' => S = S' ∧ (s = [] ∨ 0 < u)) ?_ ?_
  · refine ifC_dec (fun h => ⟨rfl, .inl h⟩) fun h => ifC_dec (fun h' => ⟨rfl, .inr (by omega)⟩) fun h' => ?_
    rcases hcase with ⟨e, _⟩ | ⟨_, _, e⟩
    · exact absurd e h
    · have : u = 0 := by omega
      rw [if_pos this, List.nil_append] at e
      rw [e] at hk
      exact hk
  rintro _ ⟨rfl, hgo⟩
  have hm : Int.tmod ((u : Nat) : Int) 10 = ((u % 10 : Nat) : Int) := by
    rw [Int.tmod_eq_emod_of_nonneg (by omega)]; omega
  have hq : Int.tdiv ((u : Nat) : Int) 10 = ((u / 10 : Nat) : Int) := by
    rw [Int.tdiv_eq_ediv_of_nonneg (by omega)]; omega
  have hml : u % 10 < 10 := Nat.mod_lt _ (by omega)
  have hnd : Lib.nDigits u = (if u < 10 then 1 else Lib.nDigits (u / 10) + 1) := by
    split
    · rename_i h; exact Lib.nDigits_small h
    · rename_i h; exact Lib.nDigits_big h
  have hnp := Lib.nDigits_pos (u / 10)
  have hsl : s.length + Lib.nDigits u ≤ 100 := by
    rcases hcase with ⟨rfl, rfl, _⟩ | ⟨hne, _, _⟩
    · have := small_pow (n := u) (k := 15) (by omega) (by omega)
      simp only [List.length_nil]
      omega
    · have hu0 : u ≠ 0 := by
        rcases hgo with h | h
        · exact absurd h hne
        · omega
      rw [if_neg hu0] at hs2
      exact hs2
  refine ⟨by decide, setI_mk (n := ((u % 10 : Nat) : Int)) hm ⟨by decide, setI_mk (n := ((u % 10 : Nat) : Int)) hm (setI_mk (n := ((u % 10 + 1 : Nat) : Int)) (wrap_nat (by omega)) ⟨_, dig_slice _ hml, by simp; omega, by decide, setI_mk (n := ((u / 10 : Nat) : Int)) (by rw [hq, IntKind.wrap_i64]; omega) ?_⟩)⟩⟩
  have hdec : Lib.decDigits u = (if u / 10 = 0 then [] else Lib.decDigits (u / 10)) ++ [UInt8.ofNat (48 + u % 10)] := by
    by_cases h : u < 10
    · rw [Lib.decDigits, dif_pos h, if_pos (by omega), Nat.mod_eq_of_lt h]; rfl
    · rw [Lib.decDigits, dif_neg h, if_neg (by omega)]
  have h10 : Lib.nDigits 0 = 1 := Lib.nDigits_small (by omega)
  refine ⟨u / 10, ?_, rfl, u / 10, rfl, by omega, ?_, ?_, .inr ⟨by simp, rfl, ?_⟩⟩
  · rcases hcase with ⟨_, _, rfl⟩ | ⟨hne0, rfl, _⟩
    · omega
    · rcases hgo with h | h
      · exact absurd h hne0
      · omega
  · simp only [List.length_append, List.length_cons, List.length_nil]
    have := Lib.nDigits_pos u
    omega
  · simp only [List.length_append, List.length_cons, List.length_nil]
    rcases hcase with ⟨rfl, rfl, _⟩ | ⟨hne, _, _⟩
    · have := small_pow (n := u / 10) (k := 15) (by omega) (by omega)
      simp only [List.length_nil]
      omega
    · have hu0 : u ≠ 0 := by
        rcases hgo with h | h
        · exact absurd h hne
        · omega
      rw [if_neg hu0] at hs2
      split at hnd
      · rename_i h
        have : u / 10 = 0 := by omega
        rw [this, h10, if_pos rfl]
        omega
      · split <;> omega
  · rcases hcase with ⟨rfl, rfl, _⟩ | ⟨hne, _, e⟩
    · rw [hdec]; simp
    · have hu0 : u ≠ 0 := by
        rcases hgo with h | h
        · exact absurd h hne
        · omega
      rw [e, if_neg hu0, hdec]; simp

theorem ref20_Number.spec (hF : ref20_Number.Ok P N) (hD : ref20_digits.Ok P N) {S : St} {n : Int} (h1 : n ≤ 999999999999999) (h2 : -999999999999999 ≤ n) {K : Bs8 → St → Prop} (hk : K (Lib.itoa n) S) : CallA P (N Fn.ref20_Number) [.int .i64 n] S (retT [.one .str] K) := by
  unfold Lib.itoa at hk
  have hlen : ∀ u : Nat, u ≤ 999999999999999 → (Lib.decDigits u).length ≤ 15 := fun u hu => by rw [dec_len]; exact small_pow (by omega) (by omega)
  refine ref20_Number.run hF (ifC_dec (fun h => ?_) fun h => ?_)
  · rw [if_pos h] at hk
    refine setI_mk (n := ((n.natAbs : Nat) : Int)) (by rw [IntKind.wrap_i64]; omega) (ref20_digits.spec hD (by omega) ⟨?_, hk⟩)
    have := hlen n.natAbs (by omega)
    simp; omega
  · rw [if_neg h] at hk
    have e : n = ((n.toNat : Nat) : Int) := by omega
    rw [e]
    exact ref20_digits.spec hD (by omega) hk

theorem quoteB_unf (c : UInt8) : quoteB c = if c = 34 ∨ c = 92 then [92, c] else if 32 ≤ c.toNat ∧ c.toNat ≤ 126 then [c] else [92, 117, 48, 48, hexD.getD (c.toNat / 16) 0, hexD.getD (c.toNat % 16) 0] := rfl

theorem ref20_quoted.spec (hF : ref20_quoted.Ok P N) {S : St} (hw : S.Wf) {s : Bs8} (hl : s.length ≤ 1048576) {K : Bs8 → St → Prop} (hk : ∀ S', Grow S S' → K (quoteJ s) S') : CallA P (N Fn.ref20_quoted) [.str s] S (retT [.one .str] K) := by
  refine ref20_quoted.run hF (newS_mk hw fun S1 g1 m1 n1 => ?_)
  have a1 : Acc S1 S.next 1 (V.slice S.next 0 1 1 1 true) 1 (bytesV [34]) := by
    refine ⟨⟨by omega, rfl, .inr ⟨_, _, _, _, rfl, Nat.le_refl _, ?_⟩⟩, rfl, fun i hi => ?_, ⟨_, m1, by simp⟩⟩
    · rw [St.loads_of m1 (by simp)]; rfl
    · simp only [V.block, List.mem_singleton] at hi
      rw [hi]; exact ⟨Nat.le_refl _, _, m1⟩
  refine Loop2.ind (fun m x y S' => ∃ j : Nat, y = j ∧ j ≤ s.length ∧ m = s.length - j ∧ Grow S S' ∧ Acc S' S.next 1 x (34 :: (s.take j).flatMap quoteB).length (bytesV (34 :: (s.take j).flatMap quoteB))) s.length ⟨0, rfl, Nat.zero_le _, rfl, g1, by simpa using a1⟩ ?_
  rintro m x _ S2 ⟨j, rfl, hj, rfl, g2, a2⟩
  have hqt : ((s.take j).flatMap quoteB).length ≤ 6 * s.length := Nat.le_trans (quote_len _) (by rw [List.length_take]; omega)
  have app : ∀ {bs : Bs8} {S6 : St} {K : V → St → Prop}, bs ≠ [] → bs.length ≤ 6 → Grow S2 S6 → (∀ x' S8, Grow S S8 → Acc S8 S.next 1 x' (34 :: (s.take j).flatMap quoteB ++ bs).length (bytesV (34 :: (s.take j).flatMap quoteB ++ bs)) → K x' S8) →
      newS S6 (.cells (bytesV bs) true) fun S7 => ifP (appV S7 1 1 x (V.slice S6.next 0 bs.length bs.length 1 true)) K := by
    intro bs S6 K hne hl6 g6 hk
    refine newS_mk g6.wf fun S7 g7 m7 n7 => ?_
    have a7 := (a2.upd g6 (by simp)).upd g7 (by simp)
    have hs : srcV 1 S7 (.slice S6.next 0 bs.length bs.length 1 true) = some (bs.length, bytesV bs) := by
      simp only [srcV, if_true]
      rw [St.loads_of m7 (by rw [bytesV_length]; omega)]
      simp [bytesV_length, List.take_of_length_le]
    have hle := (g2.trans g6).le
    have hle7 := g7.le
    obtain ⟨x', S8, q1, a8, u8, t8⟩ := a7.app g7.wf (by omega) hs (by rw [bytesV_length]; omega) (by simp [bytesV, V.one]) (bytes := 1) (by simp only [List.length_cons]; omega) (by simp only [List.length_cons]; omega)
    refine ifP_mk q1 (hk x' S8 ?_ ?_)
    · exact (((g2.trans g6).trans g7)).after u8 fun i hi => .inl (a2.own i hi).1
    · rw [List.length_append, bytesV_append]; exact a8
  refine ifC_dec (fun hx => ?_) fun hx => ?_
  · have hj : j < s.length := by omega
    have hft := flat_take hj
    have next : ∀ {x' : V} {S8 : St}, Grow S S8 → Acc S8 S.next 1 x' (34 :: (s.take j).flatMap quoteB ++ quoteB s[j]).length (bytesV (34 :: (s.take j).flatMap quoteB ++ quoteB s[j])) → setI (IntKind.i64.wrap (((j : Nat) : Int) + (1 : Int))) fun y => ∃ m, m < s.length - j ∧ ∃ j : Nat, y = j ∧ j ≤ s.length ∧ m = s.length - j ∧ Grow S S8 ∧ Acc S8 S.next 1 x' (34 :: (s.take j).flatMap quoteB).length (bytesV (34 :: (s.take j).flatMap quoteB)) := by
      intro x' S8 g8 a8
      refine setI_mk (n := ((j + 1 : Nat) : Int)) (wrap_nat (by omega)) ⟨s.length - (j + 1), by omega, j + 1, rfl, hj, rfl, g8, ?_⟩
      rw [hft]
      exact a8
    refine ⟨_, idx_str hj, ?_⟩
    rw [quoteB_unf] at next
    generalize s[j] = c at *
    have hc := c.toNat_lt
    refine Join1.mid (fun b S' => S2 = S' ∧ b = decide (c = 34 ∨ c = 92)) ?_ ?_
    · refine ifC_dec (fun h => ⟨rfl, ?_⟩) fun h => ⟨rfl, ?_⟩
      · rw [(byte_int c 34 (by omega)).mp h]; rfl
      · have e1 : c ≠ 34 := fun e => h ((byte_int c 34 (by omega)).mpr e)
        simp only [e1, false_or, decide_eq_decide]
        exact byte_int c 92 (by omega)
    rintro _ _ ⟨rfl, rfl⟩
    refine ifC_dec (fun h => ?_) fun h => ?_
    · rw [if_pos h] at next
      exact app (bs := [92, c]) (by simp) (by simp) (Upd.refl g2.wf _) fun x' S8 g8 a8 => next g8 a8
    rw [if_neg h] at next
    refine Join1.mid (fun b S' => S2 = S' ∧ b = decide (32 ≤ c.toNat ∧ c.toNat ≤ 126)) ?_ ?_
    · refine ifC_dec (fun h => ⟨rfl, ?_⟩) fun h => ⟨rfl, ?_⟩
      · rw [decide_eq_decide]; omega
      · rw [eq_comm, decide_eq_false_iff_not]; omega
    rintro _ _ ⟨rfl, rfl⟩
    refine ifC_dec (fun h2 => ?_) fun h2 => ?_
    · rw [if_pos h2] at next
      exact app (bs := [c]) (by simp) (by simp) (Upd.refl g2.wf _) fun x' S8 g8 a8 => next g8 a8
    · rw [if_neg h2] at next
      have e1 : Int.tdiv ((c.toNat : Nat) : Int) 16 = ((c.toNat / 16 : Nat) : Int) := by rw [Int.tdiv_eq_ediv_of_nonneg (by omega)]; omega
      have e2 : Int.tmod ((c.toNat : Nat) : Int) 16 = ((c.toNat % 16 : Nat) : Int) := by rw [Int.tmod_eq_emod_of_nonneg (by omega)]; omega
      refine ⟨by decide, setI_mk (n := ((c.toNat / 16 : Nat) : Int)) (by rw [e1]; exact u8_bits (by omega)) ⟨_, idx_hex (by omega), by decide, setI_mk (n := ((c.toNat % 16 : Nat) : Int)) e2 ⟨_, idx_hex (by omega), ?_⟩⟩⟩
      exact app (bs := [92, 117, 48, 48, hexD.getD (c.toNat / 16) 0, hexD.getD (c.toNat % 16) 0]) (by simp) (by simp) (Upd.refl g2.wf _) fun x' S8 g8 a8 => next g8 a8
  · have hj : j = s.length := by omega
    subst hj
    rw [List.take_length] at app
    refine app (bs := [34]) (by simp) (by simp) (Upd.refl g2.wf _) fun x' S8 g8 a8 => ⟨_, bytes_str (SlAt.bytes a8.at_), ?_⟩
    have : quoteJ s = 34 :: s.flatMap quoteB ++ [34] := rfl
    rw [← this]
    exact hk S8 g8

end Go.Th.L
end

section
/- json's reference: values printed, names looked up. -/
set_option linter.unusedSimpArgs false
set_option linter.unusedVariables false
set_option maxHeartbeats 1000000
namespace Go.Th.Pure
open Go
theorem partss_mem {w : JV} : ∀ {l : List JV}, w ∈ l → partsJ w ≤ partssJ l
  | v :: l, h => by
    rw [partssJ]
    rcases List.mem_cons.mp h with rfl | h
    · omega
    · have := partss_mem h; omega
theorem sumL_mem {t : Bs8} : ∀ {l : List Bs8}, t ∈ l → t.length ≤ sumL l
  | v :: l, h => by
    rw [sumL]
    rcases List.mem_cons.mp h with rfl | h
    · omega
    · have := sumL_mem h; omega
end Go.Th.Pure
namespace Go.Th.L
open Go Go.Th Go.Th.Pure
variable {P : Program} {N : Nat → Nat}

structure RefTextF (P : Program) (N : Nat → Nat) : Prop where
  text : ref20_text.Ok P N
  quoted : ref20_quoted.Ok P N
  number : ref20_Number.Ok P N
  digits : ref20_digits.Ok P N

theorem ref20_text.spec (hF : RefTextF P N) (n : Nat) : ∀ {S : St} {v : JV} {lv nv : V} {K : Bs8 → St → Prop}, S.Wf → RV S S.next v lv nv → allJ form1 v = true → allJ small1 v = true → SizeOf.sizeOf v < n → partsJ v ≤ 1048576 → (∀ S', Grow S S' → K (layJ v) S') → CallA P (N Fn.ref20_text) [.agg (vcells v lv nv)] S (retT [.one .str] K) := by
  induction n with
  | zero =>
    intro S v lv nv K _ _ _ _ h
    exact absurd h (Nat.not_lt_zero _)
  | succ n ih =>
    intro S v lv nv K hw hv hf hs hn hp hk
    refine ref20_text.run hF.text (newS_mk hw fun S1 g1 m1 n1 => ?_)
    obtain ⟨es, hv⟩ := hv.at_
    have v1 := hv.grow g1 g1.le
    obtain ⟨f1, ff⟩ := all_at hf
    obtain ⟨s1, sf⟩ := all_at hs
    have hll := lay_len v hs
    rw [form1_iff] at f1
    simp only [small1, Bool.and_eq_true] at s1
    have s1 : v.num ≤ 999999999999999 ∧ -999999999999999 ≤ v.num := ⟨of_decide_eq_true s1.1, of_decide_eq_true s1.2⟩
    have hpe := partsJ_eq v
    rw [layJ_eq] at hk hll
    refine ⟨v.sort, ld m1 rfl, ifC_dec (fun h => ?_) fun x1 => ifC_dec (fun h => ?_) fun x2 => ifC_dec (fun h => ?_) fun x3 => ifC_dec (fun h => ?_) fun x4 => ifC_dec (fun h => ?_) fun x5 => ?_⟩
    · rw [if_pos h] at hk; exact hk S1 g1
    · rw [if_neg x1, if_pos h] at hk; exact hk S1 g1
    · rw [if_neg x1, if_neg x2, if_pos h] at hk; exact hk S1 g1
    · rw [if_neg x1, if_neg x2, if_neg x3, if_pos h] at hk
      exact ⟨v.num, ld m1 rfl, ref20_Number.spec hF.number hF.digits s1.1 s1.2 (hk S1 g1)⟩
    · rw [if_neg x1, if_neg x2, if_neg x3, if_neg x4, if_pos h] at hk
      exact ⟨v.text, ld m1 rfl, ref20_quoted.spec hF.quoted g1.wf (by omega) fun S' g' => hk S' (g1.trans g')⟩
    rw [if_neg x1, if_neg x2, if_neg x3, if_neg x4, if_neg x5] at hk hll
    have h67 : v.sort = 6 ∨ v.sort = 7 := by omega
    simp only [List.length_cons, List.length_append, List.length_nil] at hll
    refine Loop2.ind (fun m x y S' => ∃ j : Nat, y = j ∧ j ≤ v.list.length ∧ m = v.list.length - j ∧ Grow S1 S' ∧ x = laysJ (decide (v.sort = 7)) true (v.list.take j) v.names) v.list.length ⟨0, rfl, Nat.zero_le _, rfl, Upd.refl g1.wf _, by rw [List.take_zero, laysJ]⟩ ?_
    rintro m _ _ S4 ⟨j, rfl, hj, rfl, g4, rfl⟩
    have v4 := v1.grow g4 g4.le
    have m4 := g4.get m1
    have hle := lays_le (decide (v.sort = 7)) v.list v.names j
    refine ifS_mk (ld m4 rfl) ⟨_, v4.len, ifC_dec (fun hx => ?_) fun hx => ?_⟩
    · have hj : j < v.list.length := by omega
      have hle1 := lays_le (decide (v.sort = 7)) v.list v.names (j + 1)
      have htk := lays_take (named := decide (v.sort = 7)) (ns := v.names) hj
      rw [htk, List.length_append] at hle1
      have hm := List.getElem_mem hj
      have hpm := partss_mem hm
      -- done with the element
      have next : ∀ {S8 : St}, Grow S1 S8 → setI (IntKind.i64.wrap (((j : Nat) : Int) + (1 : Int))) fun y => ∃ m, m < v.list.length - j ∧ ∃ j' : Nat, y = j' ∧ j' ≤ v.list.length ∧ m = v.list.length - j' ∧ Grow S1 S8 ∧ laysJ (decide (v.sort = 7)) true (v.list.take j) v.names ++ pieceJ (decide (v.sort = 7)) j v.list[j] v.names = laysJ (decide (v.sort = 7)) true (v.list.take j') v.names := by
        intro S8 g8
        exact setI_mk (n := ((j + 1 : Nat) : Int)) (wrap_next hj hv.le) ⟨v.list.length - (j + 1), by omega, j + 1, rfl, hj, rfl, g8, htk.symm⟩
      unfold pieceJ at next hle1
      generalize laysJ (decide (v.sort = 7)) true (v.list.take j) v.names = A at *
      refine Join1.mid (fun x S' => S4 = S' ∧ x = A ++ (if j = 0 then [] else [44])) ?_ ?_
      · refine ifC_dec (fun h => ?_) fun h => ?_
        · rw [if_neg (by omega)]
          exact ⟨by simp; omega, rfl, rfl⟩
        · rw [if_pos (by omega)]
          exact ⟨rfl, by simp⟩
      rintro _ _ ⟨rfl, rfl⟩
      have hlB : ((if j = 0 then [] else [44] : Bs8)).length ≤ 1 := by split <;> simp
      generalize hsep : (if j = 0 then [] else [44] : Bs8) = sep at *
      rw [List.length_append, List.length_append] at hle1
      refine Join1.mid (fun x S' => Grow S4 S' ∧ x = (A ++ sep) ++ (if (decide (v.sort = 7)) = true then quoteJ (v.names.getD j []) ++ [58] else [])) ?_ ?_
      · refine ⟨v.sort, ld m4 rfl, ifC_dec (fun h => ?_) fun h => ?_⟩
        · have hjn : j < v.names.length := by have := f1.2.2.2.2.2.1 h; omega
          have hgd : v.names.getD j [] = v.names[j] := by simp [hjn]
          have hnm := sumL_mem (List.getElem_mem hjn)
          have hq := quoteJ_len v.names[j]
          rw [if_pos (by simpa using h), hgd]
          refine ifS_mk (ld m4 rfl) (ifS_mk (v4.nidx hjn) ⟨_, v4.name hjn, ref20_quoted.spec hF.quoted g4.wf (by omega) fun S7 g7 => ⟨by rw [List.length_append]; omega, by simp only [List.length_append, List.length_cons, List.length_nil]; omega, g7, by simp⟩⟩)
        · rw [if_neg (by simpa using h)]
          exact ⟨Upd.refl g4.wf _, by simp⟩
      rintro _ S6 ⟨g6, rfl⟩
      have v6 := v4.grow g6 g6.le
      have m6 := Grow.get g6 m4
      obtain ⟨lw, nw, ee, rr⟩ := v6.elt hj
      refine ifS_mk (ld m6 rfl) (ifS_mk (v6.idx hj) ⟨_, _, _, _, _, ee, ih g6.wf rr (ff _ hm) (sf _ hm) (by have := JV.list_lt hm; omega) (by omega) fun S8 g8 => ⟨?_, ?_⟩⟩)
      · rw [List.length_append, List.length_append]; omega
      · have := next ((g4.trans g6).trans g8)
        simpa only [List.append_assoc] using this
    · have hj : j = v.list.length := by omega
      subst hj
      rw [List.take_length]
      refine ⟨v.sort, ld m4 rfl, ifC_dec (fun h => ?_) fun h => ?_⟩
      · rw [if_pos h, if_pos h] at hk
        refine ⟨by simp only [List.length_cons, List.length_nil]; omega, by simp only [List.length_append, List.length_cons, List.length_nil]; omega, ?_⟩
        have := hk S4 (g1.trans g4)
        simpa using this
      · rw [if_neg h, if_neg h] at hk
        refine ⟨by simp only [List.length_cons, List.length_nil]; omega, by simp only [List.length_append, List.length_cons, List.length_nil]; omega, ?_⟩
        have := hk S4 (g1.trans g4)
        simpa using this

theorem ref20_Print.spec (hF : ref20_Print.Ok P N) (hC : RefCheckF P N) (hT : RefTextF P N) {S : St} (hw : S.Wf) {v : JV} {lv nv : V} (hv : RV S S.next v lv nv) (hp : partsJ v ≤ 1048576) {K : Bs8 → Int → St → Prop} (hk : ∀ S', Grow S S' → K (printJ v).1 (printJ v).2 S') :
    CallA P (N Fn.ref20_Print) [.agg (vcells v lv nv)] S (retT [.one .str, .one (.int .i64)] K) := by
  have hd := deep_parts v
  refine ref20_Print.run hF (newS_mk hw fun S1 g1 m1 n1 => ⟨_, _, _, _, _, ld5 m1, ref20_Check.spec hC g1.wf (hv.grow g1 g1.le) (by omega) fun S2 g2 => ?_⟩)
  have g02 := g1.trans g2
  have v2 := hv.grow g02 g02.le
  unfold printJ at hk
  refine ifC_ndec (fun hc => ?_) fun hc => ?_
  · rw [if_neg hc] at hk
    exact hk S2 g02
  rw [if_pos hc] at hk
  obtain ⟨c1, _, c2, _, _⟩ := check_zero hc
  refine ⟨_, _, _, _, _, ld5 (g2.get m1), ref20_text.spec hT _ g2.wf v2 c1 c2 (Nat.lt_succ_self _) hp fun S3 g3 => ifC_dec (fun h => ?_) fun h => ?_⟩
  · rw [if_pos (by omega)] at hk
    exact hk S3 (g02.trans g3)
  · rw [if_neg (by omega)] at hk
    exact hk S3 (g02.trans g3)

theorem ref20_Get.spec (hF : ref20_Get.Ok P N) : GetsJ P (N Fn.ref20_Get) := by
  intro S v lv nv name K hw hv h0 h1
  obtain ⟨es, hv⟩ := hv.at_
  refine ref20_Get.run hF (newS_mk hw fun S1 g1 m1 n1 => newS_mk g1.wf fun S2 g2 m2 n2 => ?_)
  have g02 := g1.trans g2
  have v2 := hv.grow g02 g02.le
  have p2 := g2.get m1
  have up : ∀ {S'}, Upd [S1.next] S2 S' → Grow S S' := fun u => g02.after u fun j hj => .inl (by rw [List.mem_singleton.mp hj]; exact g1.le)
  refine Join0.mid (fun S' => S2 = S' ∧ getJ v name = none) ?_ ?_
  · refine Loop1.ind (fun m x S' => S2 = S' ∧ ∃ j : Nat, x = j ∧ j ≤ v.names.length ∧ j ≤ v.list.length ∧ m = v.names.length - j ∧ ∀ k (hk : k < j) (hk2 : k < v.names.length), v.names[k] ≠ name) v.names.length ⟨rfl, 0, rfl, Nat.zero_le _, Nat.zero_le _, rfl, fun k hk => absurd hk (Nat.not_lt_zero _)⟩ ?_
    rintro m _ _ ⟨rfl, j, rfl, hj, hjl, rfl, hne⟩
    refine Join0.mid (fun S' => S2 = S' ∧ j < v.names.length ∧ j < v.list.length ∧ v.sort = 7) ?_ ?_
    · refine ifS_mk (ld p2 rfl) ⟨_, v2.nlen, ifC_dec (fun h => ifS_mk (ld p2 rfl) ⟨_, v2.len, ifC_dec (fun h' => ⟨v.sort, ld p2 rfl, ifC_dec (fun h7 => ⟨rfl, by omega, by omega, h7⟩) fun h7 => ⟨rfl, ?_⟩⟩) fun h' => ⟨rfl, ?_⟩⟩) fun h => ⟨rfl, ?_⟩⟩
      · unfold getJ; rw [if_neg h7]
      · unfold getJ
        split
        · cases hi : v.names.findIdx? (fun t => decide (t = name)) with
          | none => rfl
          | some i =>
            rw [Option.bind_some]
            obtain ⟨hlt, hpi, _⟩ := List.findIdx?_eq_some_iff_getElem.mp hi
            refine List.getElem?_eq_none ?_
            rcases Nat.lt_or_ge i j with h'' | h''
            · exact absurd (by simpa using hpi) (hne i h'' hlt)
            · omega
        · rfl
      · unfold getJ
        split
        · rw [findIdx_none fun k hk => hne k (by omega) hk]; rfl
        · rfl
    rintro _ ⟨rfl, hj1, hj2, h7⟩
    refine ifS_mk (ld p2 rfl) (ifS_mk (v2.nidx hj1) ⟨_, v2.name hj1, ifC_dec (fun he => ?_) fun he => ?_⟩)
    · have hg : getJ v name = some v.list[j] := by
        unfold getJ
        rw [if_pos h7, findIdx_some hj1 (fun k hk => hne k hk (by omega)) he, Option.bind_some, List.getElem?_eq_getElem hj2]
      obtain ⟨lw, nw, e, r⟩ := v2.elt hj2
      have o := r.ones
      refine ifS_mk (ld p2 rfl) (ifS_mk (v2.idx hj2) ⟨_, _, _, _, _, e, fin_mk g2.wf m2 o.1 o.2 fun S' u => ?_⟩)
      have v' := hv.grow (up u) (up u).le
      obtain ⟨lw2, nw2, e2, r2⟩ := v'.elt hj2
      have hjs : j < es.length := by rw [RVs.length hv.rs]; exact hj2
      have e3 := v2.sl.getN (j := j) hjs (by omega)
      have e4 := v'.sl.getN (j := j) hjs (by omega)
      rw [e] at e3
      rw [e2, ← e3] at e4
      simp only [vcells, Option.some.injEq, V.agg.injEq, List.cons.injEq, and_true, true_and] at e4
      rw [e4.1, e4.2] at r2
      exact h1 _ lw nw S' hg (up u) r2
    · refine setI_mk (n := ((j + 1 : Nat) : Int)) (wrap_next hj1 hv.nle) ⟨v.names.length - (j + 1), by omega, rfl, j + 1, rfl, hj1, hj2, rfl, fun k hk hk2 => ?_⟩
      by_cases hkj : k = j
      · subst hkj; exact he
      · exact hne k (by omega) hk2
  rintro _ ⟨rfl, hg⟩
  exact fin_mk g2.wf m2 rfl rfl fun S' u => h0 hg S' (up u)

end Go.Th.L
end

section
/- json's laws: a value copied; printing and looking names up. -/
set_option linter.unusedSimpArgs false
set_option linter.unusedVariables false
set_option maxHeartbeats 1000000
namespace Go.Th.L
open Go Go.Th Go.Th.Pure
variable {P : Program} {N : Nat → Nat}

theorem law20_copied.spec (hF : law20_copied.Ok P N) (n : Nat) : ∀ {S : St} {v : JV} {lv nv : V} {K : Int → Int → Bs8 → V → V → St → Prop}, S.Wf → RV S S.next v lv nv → SizeOf.sizeOf v < n → partsJ v ≤ 131072 →
    (∀ lw nw F S', Grow S S' → VAt S' S.next v lw nw F → K v.sort v.num v.text lw nw S') → CallA P (N Fn.law20_copied) [.agg (vcells v lv nv)] S (retT [.agg [.int .i64, .int .i64, .str, .any, .any]] K) := by
  induction n with
  | zero =>
    intro S v lv nv K _ _ h
    exact absurd h (Nat.not_lt_zero _)
  | succ n ih =>
    intro S v lv nv K hw hv hn hp hk
    refine law20_copied.run hF (newS_mk hw fun S1 g1 m1 n1 => newS_mk g1.wf fun S2 g2 m2 n2 => ?_)
    obtain ⟨es0, hv⟩ := hv.at_
    have g02 := g1.trans g2
    have v2 := hv.grow g02 g02.le
    have p2 := g2.get m1
    have hpe := partsJ_eq v
    have hll : v.list.length ≤ 131072 := by
      have : ∀ l : List JV, l.length ≤ partssJ l := by
        intro l
        induction l with
        | nil => simp
        | cons w l ih => have := partsJ_eq w; rw [partssJ, List.length_cons]; omega
      have := this v.list
      omega
    refine Loop2.ind (fun m x y S' => ∃ (j : Nat) (es : List (List V)) (F : List Nat), y = j ∧ j ≤ v.list.length ∧ m = v.list.length - j ∧ Grow S2 S' ∧ LAt S' S2.next (v.list.take j) [] x .nilSlice es F) v.list.length ⟨0, [], [], rfl, Nat.zero_le _, rfl, Upd.refl g2.wf _, LAt.nil _ _⟩ ?_
    rintro m x _ S3 ⟨j, es, F, rfl, hj, rfl, g3, a3⟩
    have v3 := v2.grow g3 g3.le
    have p3 := g3.get p2
    have q3 := g3.get m2
    have hlt : S.next < S2.next ∧ S1.next < S2.next := by omega
    refine ifS_mk (ld p3 rfl) ⟨_, v3.len, ifC_dec (fun hx => ?_) fun hx => ?_⟩
    · have hj : j < v.list.length := by omega
      obtain ⟨lw, nw, ee, rr⟩ := v3.elt hj
      have hm := List.getElem_mem hj
      have hpm := partss_mem hm
      refine ifS_mk (ld p3 rfl) (ifS_mk (v3.idx hj) ⟨_, _, _, _, _, ee, ih g3.wf rr (by have := JV.list_lt hm; omega) (by omega) fun lx nx G S4 g4 v4 => copy_mk g4.wf v4.ones.1 v4.ones.2 fun S6 g6 m6 => ⟨_, _, _, _, _, ld5 m6, newS_mk g6.wf fun S7 g7 m7 n7 => ?_⟩⟩)
      have g37 := (g4.trans g6).trans g7
      have a7 := a3.grow g37
      have hG : ∀ i ∈ G, i ∉ x.block ∧ i ∉ V.block .nilSlice := fun i hi => by
        have := (VAt.own _ v4 i hi).1
        refine ⟨fun hm' => ?_, by simp [V.block]⟩
        obtain ⟨_, cs, hcs⟩ := a3.a.own i hm'
        have := g3.wf.lt hcs
        omega
      refine a7.addv g7.wf (by have := g3.le; have := g37.le; omega) (VAt.below g3.le _ ((v4.grow g6).grow g7)) hG m7 (by rw [List.length_take]; omega) fun x' S8 u8 a8 => ?_
      refine setI_mk (n := ((j + 1 : Nat) : Int)) (wrap_next hj hv.le) ⟨v.list.length - (j + 1), by omega, j + 1, es ++ [vcells v.list[j] lx nx], F ++ G, rfl, hj, rfl, ?_, ?_⟩
      · exact (g3.trans g37).after u8 fun i hi => .inl (a7.a.own i hi).1
      · rw [← List.take_append_getElem hj]
        exact a8
    · have hj : j = v.list.length := by omega
      subst hj
      rw [List.take_length] at a3
      refine ifS_mk (ld p3 rfl) ?_
      obtain ⟨x27, S9, q1, a9, u9, t9⟩ := (Acc.nil S3 S2.next 1).app g3.wf g3.le v3.nm.src (by simp) (by simp [List.all_eq_true, V.one]) (bytes := 16) (by omega) (by have := hv.nle; omega)
      refine ifP_mk q1 ?_
      have g9 : Grow S3 S9 := u9.mono (by simp [V.block])
      have l9 := a3.grow g9
      have nn : LAt S9 S2.next v.list v.names x x27 es F := by
        refine ⟨l9.a, ?_, l9.e, fun i hi => ⟨(l9.d1 i hi).1, fun hm => ?_⟩, fun i hi hm => ?_⟩
        · simpa using a9
        · rcases t9 i hm with h | h
          · simp [V.block] at h
          · obtain ⟨_, cs, hcs⟩ := a3.a.own i hi
            have := g3.wf.lt hcs
            omega
        · rcases t9 i hi with h | h
          · simp [V.block] at h
          · obtain ⟨_, cs, hcs⟩ := EAt.own _ a3.e i hm
            have := g3.wf.lt hcs
            omega
      have ox := Acc.one nn.a
      have on := Acc.one nn.n
      have cx := Acc.cell nn.a
      have cn := Acc.cell nn.n
      refine st_mk g9.wf (g9.get p3) (by rw [cx]; rfl) (by rw [cx]; simp) (by rw [cx]; simp [ox]) fun S10 u10 m10 n10 => ?_
      rw [cx] at m10
      refine st_mk u10.wf m10 (by rw [cn]; rfl) (by rw [cn]; simp [over]) (by rw [cn]; simp [on]) fun S11 u11 m11 n11 => ?_
      rw [cn] at m11
      have m11 : S11.get S.next = some (.cells (vcells v x x27) true) := m11
      have hD : ∀ i ∈ [S.next], i < S2.next := fun i hi => by rw [List.mem_singleton.mp hi]; exact hlt.1
      have l11 := (nn.upd u10 hD).upd u11 hD
      have q11 : S11.get S1.next = some (.cells slotJ0 true) := u11.get (u10.get (g9.get q3) (by simp; omega)) (by simp; omega)
      refine ⟨_, _, _, _, _, ld5 m11, fin_mk u11.wf q11 ox on fun S12 u12 => ?_⟩
      have gA : Grow S S12 := (((g02.trans (g3.trans g9)).after u10 fun i hi => .inl (by rw [List.mem_singleton.mp hi]; exact Nat.le_refl _)).after u11 fun i hi => .inl (by rw [List.mem_singleton.mp hi]; exact Nat.le_refl _)).after u12 fun i hi => .inl (by rw [List.mem_singleton.mp hi]; exact g1.le)
      have hv12 := (l11.upd u12 fun i hi => by rw [List.mem_singleton.mp hi]; exact hlt.2).vat v.sort v.num v.text
      rw [JV.eta] at hv12
      exact hk x x27 _ S12 gA (VAt.below g02.le _ hv12)

structure PrintsF (P : Program) (N : Nat → Nat) : Prop where
  law : law20_JsonPrints.Ok P N
  big : law20_big.Ok P N
  parts : law20_parts.Ok P N
  wide : law20_wide.Ok P N
  copied : law20_copied.Ok P N
  same : ref20_Same.Ok P N
  check : CheckF P N
  rcheck : RefCheckF P N
  rtext : RefTextF P N
  rprint : ref20_Print.Ok P N
  rget : ref20_Get.Ok P N

theorem law20_JsonPrints.spec {gs : List Nat} {S : St} (hw : S.Wf) (hA : Awake20F P N gs S) (hF : PrintsF P N) (hG : GV gs S) {v : JV} {lv nv : V} (hv : RV S S.next v lv nv) (hf : allJ fits1 v = true) {t : Bs8} {K : Bool → St → Prop} (hk : ∀ S', K true S') :
    CallA P (N Fn.law20_JsonPrints) [.agg (vcells v lv nv), .str t] S (retT [.one .bool] K) := by
  refine law20_JsonPrints.run hF.law (newS_mk hw fun S1 g1 m1 n1 => ?_)
  refine Join0.mid (fun S' => Grow S1 S' ∧ partsJ v ≤ 131072) ?_ ?_
  · refine ⟨_, _, _, _, _, ld5 m1, law20_big.spec hF.big hF.parts hF.wide g1.wf (hv.grow g1 g1.le) hf fun b S3 g3 hb => ifC_tt_ff (fun _ => hk S3) fun h => ifC_dec (fun _ => hk S3) fun _ => ⟨g3, hb h⟩⟩
  rintro S2 ⟨g2, hparts⟩
  have g02 := g1.trans g2
  have m2 := Grow.get g2 m1
  have v2 := hv.grow g02 g02.le
  have hdp := deep_parts v
  refine ⟨_, _, _, _, _, ld5 m2, law20_copied.spec hF.copied _ g2.wf v2 (Nat.lt_succ_self _) hparts fun lw nw F S4 g4 v4 => copy_mk g4.wf v4.ones.1 v4.ones.2 fun S6 g6 m6 => ?_⟩
  have g06 := g02.trans (g4.trans g6)
  have r6 := (v4.grow g6).rv' g6.wf
  refine ⟨_, _, _, _, _, ld5 m6, hA.print g06 r6 (by omega) (by omega) fun S7 g7 => ⟨_, _, _, _, _, ld5 (g7.get m6), json_Check.spec hF.check g7.wf (r6.grow g7 g7.le) (by omega) fun S8 g8 => ?_⟩⟩
  have g68 := g7.trans g8
  have m8 := Grow.get g68 m6
  -- what a name has, is told, and copied
  have rest : ∀ {S9 : St} {w : JV} {lx nx : V} {ok : Bool}, Grow S8 S9 → RV S9 S9.next w lx nx → (ok = true → getJ v t = some w) → (ok = false → getJ v t = none ∧ w = jnil) →
      newS S9 (.cells [(V.int .i64 0), (V.int .i64 0), (V.str ([] : List UInt8)), V.nilSlice, V.nilSlice] true) fun S10 =>
   ifS (storeV S10 5 (V.ptr S9.next 0) (V.agg [(V.int .i64 w.sort), (V.int .i64 w.num), (V.str w.text), lx, nx])) fun S11 =>
   ∃ x38_a x38_b : Int, ∃ x38_c : List UInt8, ∃ x38_d x38_e : V, loadNV S11 5 (V.ptr S.next 0) = some (V.agg [(V.int .i64 x38_a), (V.int .i64 x38_b), (V.str x38_c), x38_d, x38_e]) ∧
   CallA P (N Fn.ref20_Print) [(V.agg [(V.int .i64 x38_a), (V.int .i64 x38_b), (V.str x38_c), x38_d, x38_e])] S11 (retT [(.one .str), (.one (.int .i64))] fun (x39a : List UInt8) (x39b : Int) (S12 : St) =>
   ∃ x43_a x43_b : Int, ∃ x43_c : List UInt8, ∃ x43_d x43_e : V, loadNV S12 5 (V.ptr S.next 0) = some (V.agg [(V.int .i64 x43_a), (V.int .i64 x43_b), (V.str x43_c), x43_d, x43_e]) ∧
   CallA P (N Fn.ref20_Get) [(V.agg [(V.int .i64 x43_a), (V.int .i64 x43_b), (V.str x43_c), x43_d, x43_e]), (V.str t)] S12 (retT [(.agg [(.int .i64), (.int .i64), .str, .any, .any]), (.one .bool)] fun (x45a_a : Int) (x45a_b : Int) (x45a_c : List UInt8) (x45a_d : V) (x45a_e : V) (x45b : Bool) (S13 : St) =>
   newS S13 (.cells [(V.int .i64 0), (V.int .i64 0), (V.str ([] : List UInt8)), V.nilSlice, V.nilSlice] true) fun S14 =>
   ifS (storeV S14 5 (V.ptr S13.next 0) (V.agg [(V.int .i64 x45a_a), (V.int .i64 x45a_b), (V.str x45a_c), x45a_d, x45a_e])) fun S15 =>
   CallA P (N Fn.law20_awake) [] S15 (retT [(.one .bool)] fun (x48 : Bool) (S16 : St) =>
   ifC x48
   (ifC (decide ((printJ v).1 = x39a))
   (ifC (decide ((printJ v).2 = x39b))
   (∃ x61_a x61_b : Int, ∃ x61_c : List UInt8, ∃ x61_d x61_e : V, loadNV S16 5 (V.ptr S.next 0) = some (V.agg [(V.int .i64 x61_a), (V.int .i64 x61_b), (V.str x61_c), x61_d, x61_e]) ∧
   CallA P (N Fn.ref20_Check) [(V.agg [(V.int .i64 x61_a), (V.int .i64 x61_b), (V.str x61_c), x61_d, x61_e])] S16 (retT [(.one (.int .i64))] fun (x62 : Int) (S17 : St) =>
   ifC (decide (checkJ v = x62))
   (ifC (ok == x45b)
   (∃ x71_a x71_b : Int, ∃ x71_c : List UInt8, ∃ x71_d x71_e : V, loadNV S17 5 (V.ptr S9.next 0) = some (V.agg [(V.int .i64 x71_a), (V.int .i64 x71_b), (V.str x71_c), x71_d, x71_e]) ∧
   ∃ x72_a x72_b : Int, ∃ x72_c : List UInt8, ∃ x72_d x72_e : V, loadNV S17 5 (V.ptr S13.next 0) = some (V.agg [(V.int .i64 x72_a), (V.int .i64 x72_b), (V.str x72_c), x72_d, x72_e]) ∧
   CallA P (N Fn.ref20_Same) [(V.agg [(V.int .i64 x71_a), (V.int .i64 x71_b), (V.str x71_c), x71_d, x71_e]), (V.agg [(V.int .i64 x72_a), (V.int .i64 x72_b), (V.str x72_c), x72_d, x72_e])] S17 (retT [(.one .bool)] fun (x73 : Bool) (S18 : St) =>
   ifC x73
   (∃ x76_a x76_b : Int, ∃ x76_c : List UInt8, ∃ x76_d x76_e : V, loadNV S18 5 (V.ptr S4.next 0) = some (V.agg [(V.int .i64 x76_a), (V.int .i64 x76_b), (V.str x76_c), x76_d, x76_e]) ∧
   ∃ x77_a x77_b : Int, ∃ x77_c : List UInt8, ∃ x77_d x77_e : V, loadNV S18 5 (V.ptr S.next 0) = some (V.agg [(V.int .i64 x77_a), (V.int .i64 x77_b), (V.str x77_c), x77_d, x77_e]) ∧
   CallA P (N Fn.ref20_Same) [(V.agg [(V.int .i64 x76_a), (V.int .i64 x76_b), (V.str x76_c), x76_d, x76_e]), (V.agg [(V.int .i64 x77_a), (V.int .i64 x77_b), (V.str x77_c), x77_d, x77_e])] S18 (retT [(.one .bool)] fun (x78 : Bool) (S19 : St) =>
   K x78 S19))
   (K false S18)))
   (K false S17))
   (K false S17)))
   (K false S16))
   (K false S16))
   (K false S16)))) := by
    intro S9 w lx nx ok g9 rw9 hok1 hok0
    refine copy_mk g9.wf rw9.ones.1 rw9.ones.2 fun S11 g11 m11 => ?_
    have g09 := (g06.trans g68).trans g9
    have g911 := g11
    have g011 := g09.trans g11
    have gv2 := (g4.trans g6).trans ((g68.trans g9).trans g11)
    have m11v := Grow.get gv2 m2
    have v11 := v2.grow gv2 gv2.le
    refine ⟨_, _, _, _, _, ld5 m11v, ref20_Print.spec hF.rprint hF.rcheck hF.rtext g11.wf v11 (by omega) fun S12 g12 => ⟨_, _, _, _, _, ld5 (g12.get m11v), ?_⟩⟩
    have v12 := v11.grow g12 g12.le
    -- behind the reference's answer
    have last : ∀ {S13 : St} {u : JV} {ly ny : V} {ok2 : Bool}, Grow S12 S13 → RV S13 S13.next u ly ny → ok = ok2 → w = u → newS S13 (.cells [(V.int .i64 0), (V.int .i64 0), (V.str ([] : List UInt8)), V.nilSlice, V.nilSlice] true) fun S14 =>
   ifS (storeV S14 5 (V.ptr S13.next 0) (V.agg [(V.int .i64 u.sort), (V.int .i64 u.num), (V.str u.text), ly, ny])) fun S15 =>
   CallA P (N Fn.law20_awake) [] S15 (retT [(.one .bool)] fun (x48 : Bool) (S16 : St) =>
   ifC x48
   (ifC (decide ((printJ v).1 = (printJ v).1))
   (ifC (decide ((printJ v).2 = (printJ v).2))
   (∃ x61_a x61_b : Int, ∃ x61_c : List UInt8, ∃ x61_d x61_e : V, loadNV S16 5 (V.ptr S.next 0) = some (V.agg [(V.int .i64 x61_a), (V.int .i64 x61_b), (V.str x61_c), x61_d, x61_e]) ∧
   CallA P (N Fn.ref20_Check) [(V.agg [(V.int .i64 x61_a), (V.int .i64 x61_b), (V.str x61_c), x61_d, x61_e])] S16 (retT [(.one (.int .i64))] fun (x62 : Int) (S17 : St) =>
   ifC (decide (checkJ v = x62))
   (ifC (ok == ok2)
   (∃ x71_a x71_b : Int, ∃ x71_c : List UInt8, ∃ x71_d x71_e : V, loadNV S17 5 (V.ptr S9.next 0) = some (V.agg [(V.int .i64 x71_a), (V.int .i64 x71_b), (V.str x71_c), x71_d, x71_e]) ∧
   ∃ x72_a x72_b : Int, ∃ x72_c : List UInt8, ∃ x72_d x72_e : V, loadNV S17 5 (V.ptr S13.next 0) = some (V.agg [(V.int .i64 x72_a), (V.int .i64 x72_b), (V.str x72_c), x72_d, x72_e]) ∧
   CallA P (N Fn.ref20_Same) [(V.agg [(V.int .i64 x71_a), (V.int .i64 x71_b), (V.str x71_c), x71_d, x71_e]), (V.agg [(V.int .i64 x72_a), (V.int .i64 x72_b), (V.str x72_c), x72_d, x72_e])] S17 (retT [(.one .bool)] fun (x73 : Bool) (S18 : St) =>
   ifC x73
   (∃ x76_a x76_b : Int, ∃ x76_c : List UInt8, ∃ x76_d x76_e : V, loadNV S18 5 (V.ptr S4.next 0) = some (V.agg [(V.int .i64 x76_a), (V.int .i64 x76_b), (V.str x76_c), x76_d, x76_e]) ∧
   ∃ x77_a x77_b : Int, ∃ x77_c : List UInt8, ∃ x77_d x77_e : V, loadNV S18 5 (V.ptr S.next 0) = some (V.agg [(V.int .i64 x77_a), (V.int .i64 x77_b), (V.str x77_c), x77_d, x77_e]) ∧
   CallA P (N Fn.ref20_Same) [(V.agg [(V.int .i64 x76_a), (V.int .i64 x76_b), (V.str x76_c), x76_d, x76_e]), (V.agg [(V.int .i64 x77_a), (V.int .i64 x77_b), (V.str x77_c), x77_d, x77_e])] S18 (retT [(.one .bool)] fun (x78 : Bool) (S19 : St) =>
   K x78 S19))
   (K false S18)))
   (K false S17))
   (K false S17)))
   (K false S16))
   (K false S16))
   (K false S16)) := by
      rintro S13 u ly ny ok2 g13 r13 rfl rfl
      refine copy_mk g13.wf r13.ones.1 r13.ones.2 fun S15 g15 m15 => ?_
      have g015 := g011.trans ((g12.trans g13).trans g15)
      refine law20_awake.spec hA g015 (hG.upd g015 (by simp)) fun S16 g16 => ifC_tt rfl (ifC_tt (decide_eq_true rfl) (ifC_tt (decide_eq_true rfl) ?_))
      have g1116 := ((g12.trans g13).trans g15).trans g16
      have m16v := Grow.get g1116 m11v
      have v16 := v11.grow g1116 g1116.le
      refine ⟨_, _, _, _, _, ld5 m16v, ref20_Check.spec hF.rcheck g16.wf v16 (by omega) fun S17 g17 => ifC_tt (decide_eq_true rfl) (ifC_tt (by simp) ?_)⟩
      have g1117 := g1116.trans g17
      have g1517 := g16.trans g17
      have gw := g11.trans g1117
      refine ⟨_, _, _, _, _, ld5 (Grow.get g1117 m11), _, _, _, _, _, ld5 (Grow.get g1517 m15), ref20_Same.same hF.same _ g17.wf (rw9.grow gw gw.le) (r13.grow (g15.trans g1517) (g15.trans g1517).le) (Nat.lt_succ_self _) fun b S18 hb g18 => ifC_tt (hb.mpr rfl) ?_⟩
      have gz := ((g68.trans g9).trans gw).trans g18
      have gzv := g1117.trans g18
      exact ⟨_, _, _, _, _, ld5 (Grow.get gz m6), _, _, _, _, _, ld5 (Grow.get gzv m11v), ref20_Same.same hF.same _ g18.wf (r6.grow gz gz.le) (v11.grow gzv gzv.le) (Nat.lt_succ_self _) fun b S19 hb g19 => by
        have : b = true := hb.mpr rfl
        rw [this]; exact hk S19⟩
    refine ref20_Get.spec hF.rget g12.wf v12 (fun e S13 g13 => ?_) fun u ly ny S13 e g13 r13 => ?_
    · have h0 : ok = false := by
        cases h : ok with
        | false => rfl
        | true => have := hok1 h; rw [e] at this; cases this
      exact last (u := jnil) g13 (RV.nil _ _ 0 0 []) h0 (hok0 h0).2
    · have h0 : ok = true := by
        cases h : ok with
        | true => rfl
        | false => have := (hok0 h).1; rw [e] at this; cases this
      exact last g13 r13 h0 (Option.some.inj ((hok1 h0).symm.trans e))
  refine ⟨_, _, _, _, _, ld5 m8, hA.get g8.wf (r6.grow g68 g68.le) (fun e S9 g9 => ?_) fun w lx nx S9 e g9 r9 => ?_⟩
  · exact rest (w := jnil) (ok := false) g9 (RV.nil _ _ 0 0 []) (fun h => by cases h) (fun _ => ⟨e, rfl⟩)
  · exact rest (ok := true) g9 r9 (fun _ => e) (fun h => by cases h)

end Go.Th.L
end
