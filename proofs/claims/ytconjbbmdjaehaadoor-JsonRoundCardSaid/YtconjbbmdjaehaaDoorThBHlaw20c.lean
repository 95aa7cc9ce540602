/- What the row of one statement stands on: a store, abstract code, functions of the program and their laws (ThHjson17, ThHjson18, ThHjson19, ThHjson20, ThHjson21, ThHjson22, ThHlaw20a, ThHlaw20b, ThHjson23, ThHjson24, ThPjson9, ThPjson10, ThPjson11, ThHlaw20d, ThHlaw20e, ThHlaw20c). -/
import Derived.Test.YtconjbbmdjaehaaDoorThBPjson8
import Derived.Test.YtconjbbmdjaehaaDoorThBGstringsLen
import Derived.Test.YtconjbbmdjaehaaDoorThBQ12
import Derived.Test.YtconjbbmdjaehaaDoorThBPjson7
import Derived.Test.YtconjbbmdjaehaaDoorThBO7

section
/- json: what a value must be. -/
set_option linter.unusedSimpArgs false
set_option linter.unusedVariables false
set_option maxHeartbeats 1000000
namespace Go.Th.L
open Go Go.Th Go.Th.Pure
variable {P : Program} {N : Nat → Nat}

structure CheckF (P : Program) (N : Nat → Nat) : Prop where
  check : json_Check.Ok P N
  all : json_all.Ok P N
  all1 : json_all_1.Ok P N
  cont : slices_ContainsFunc_Lapi_Value.Ok P N
  index : slices_IndexFunc_Lapi_Value.Ok P N
  formed : json_formed.Ok P N
  deep : json_deep.Ok P N
  c1 : json_Check_1.Ok P N
  c2 : json_Check_2.Ok P N
  c3 : json_Check_3.Ok P N
  canall : canEnter P (N Fn.json_all_1) = true
  canf : canEnter P (N Fn.json_formed) = true
  can1 : canEnter P (N Fn.json_Check_1) = true
  can2 : canEnter P (N Fn.json_Check_2) = true
  can3 : canEnter P (N Fn.json_Check_3) = true

theorem json_all.asks (hF : CheckF P N) {f : FuncId} {q : JV → Bool} (hf : ∀ n, AsksJ P f q n) (hcan : canEnter P f = true) (n : Nat) : ∀ {S : St} {v : JV} {lv nv : V} {K : Bool → St → Prop}, S.Wf → RV S S.next v lv nv → SizeOf.sizeOf v < n → (∀ S', Grow S S' → K (allJ q v) S') →
    CallA P (N Fn.json_all) [.agg (vcells v lv nv), .func (.func f) [] []] S (retT [.one .bool] K) := by
  induction n with
  | zero =>
    intro S v lv nv K _ _ h
    exact absurd h (Nat.not_lt_zero _)
  | succ n ih =>
    intro S v lv nv K hw hv hn hk
    refine json_all.run hF.all (newS_mk hw fun S1 g1 m1 n1 => newS_mk g1.wf fun S2 g2 m2 n2 => ?_)
    rw [allJ_eq] at hk
    obtain ⟨es, hv⟩ := hv.at_
    have g02 := g1.trans g2
    have v2 := hv.grow g02 g02.le
    refine ifS_mk (a := .func (.func f) [] []) (ld m2 rfl) ⟨_, _, _, _, _, ld5 (g2.get m1), ifS_mk (callee_mk hcan) (hf _ g2.wf v2.rv (Nat.lt_succ_self _) fun S3 g3 => ?_)⟩
    have g03 := g02.trans g3
    have v3 := v2.grow g3 g3.le
    refine ifC_tt_ff (fun hq => ?_) fun hq => by rw [hq] at hk; exact hk S3 g03
    rw [hq] at hk
    refine ifS_mk (ld (g3.get (g2.get m1)) rfl) (slices_ContainsFunc_Lapi_Value.run hF.cont (slices_IndexFunc_Lapi_Value.run hF.index ⟨_, v3.len, ?_⟩))
    refine Loop1.ind (fun m x S' => ∃ j : Nat, x = j ∧ j ≤ v.list.length ∧ m = v.list.length - j ∧ Grow S3 S' ∧ (v.list.take j).all (allJ q) = true) v.list.length ⟨0, rfl, Nat.zero_le _, rfl, Upd.refl g3.wf _, rfl⟩ ?_
    rintro m _ S4 ⟨j, rfl, hj, rfl, g4, ha⟩
    have v4 := v3.grow g4 g4.le
    refine ifC_dec (fun hx => ?_) fun hx => ?_
    · have hj : j < v.list.length := by omega
      obtain ⟨lw, nw, e, r⟩ := v4.elt hj
      refine ifS_mk (v4.idx hj) ⟨_, _, _, _, _, e, ifS_mk (callee_mk hF.canall) (json_all_1.run hF.all1 (newS_mk g4.wf fun S5 g5 m5 n5 => ⟨_, _, _, _, _, ld5 m5, ?_⟩))⟩
      refine ifS_mk (a := .func (.func f) [] []) (ld (g5.get (g4.get (g3.get m2))) rfl) (ih g5.wf (r.grow g5 g5.le) (by have := JV.list_lt (List.getElem_mem hj); omega) fun S6 g6 => ?_)
      have g46 := g4.trans (g5.trans g6)
      cases hq2 : allJ q v.list[j] with
      | false =>
        have := hk S6 (g03.trans g46)
        rw [all_false hj hq2] at this
        refine ifC_tt rfl ?_
        have h0 : decide ((0 : Int) ≤ ((j : Nat) : Int)) = true := by simp
        show K (!decide ((0 : Int) ≤ ((j : Nat) : Int))) S6
        rw [h0]
        exact this
      | true => exact ifC_ff rfl (setI_mk (n := ((j + 1 : Nat) : Int)) (wrap_next hj hv.le) ⟨v.list.length - (j + 1), by omega, j + 1, rfl, hj, rfl, g46, all_take hj ha hq2⟩)
    · have hj : j = v.list.length := by omega
      subst hj
      rw [List.take_length] at ha
      have := hk S4 (g03.trans g4)
      rw [ha] at this
      exact this

theorem json_formed.asks1 (hF : json_formed.Ok P N) (n : Nat) : AsksJ P (N Fn.json_formed) form1 n := by
  intro S v lv nv K hw hv hn hk
  refine json_formed.run hF (newS_mk hw fun S1 g1 m1 n1 => ⟨_, _, _, _, _, ld5 m1, newS_mk g1.wf fun S2 g2 m2 n2 => ?_⟩)
  obtain ⟨es, hv⟩ := hv.at_
  have o1 := hv.ones
  have lc : ∀ {k m : Nat} {x : V} {cs : List V}, SlAt S k x m cs → x.cells = [x] := fun h => h.cells1
  refine st_mk g2.wf m2 (by simp [V.cells]) (by simp [V.cells]) (by simp only [V.cells, List.all_cons, List.all_nil, o1.1, o1.2]; rfl) fun S3 u3 m3 n3 => ?_
  have g03 : Grow S S3 := (g1.trans g2).after u3 fun j hj => .inl (by rw [List.mem_singleton.mp hj]; have := g1.le; omega)
  have hne : S.next ≠ S1.next := by omega
  have c3 : S3.get S.next = some (.cells (vcells v lv nv) true) := u3.get (g2.get m1) (by simp; omega)
  have m3 : S3.get S1.next = some (.cells (vcells v lv nv) true) := m3
  have v3 := hv.grow g03 g03.le
  have tail : ∀ {S4 : St} {m0 : Int} {t0 : Bs8} {l0 n0 : V} {ll nn : Nat}, Grow S S4 → S4.get S1.next = some (.cells [.int .i64 v.sort, .int .i64 m0, .str t0, l0, n0] true) → lenV S4 2 l0 = some (.int .i64 (ll : Nat)) → lenV S4 2 n0 = some (.int .i64 (nn : Nat)) →
      K (decide (m0 = 0) && decide (t0 = []) && decide (ll = 0) && decide (nn = 0)) S4 → ∃ x32 : Int, loadV S4 (V.ptr S1.next 1) = some (V.int .i64 x32) ∧
   ifC (decide (x32 = (0 : Int)))
   (∃ x36 : List UInt8, loadV S4 (V.ptr S1.next 2) = some (V.str x36) ∧
   ifC (decide (x36 = ([] : List UInt8)))
   (ifS (loadV S4 (V.ptr S1.next 3)) fun x41 =>
   ∃ x42 : Int, lenV S4 2 x41 = some (V.int .i64 x42) ∧
   ifC (decide (x42 = (0 : Int)))
   (ifS (loadV S4 (V.ptr S1.next 4)) fun x47 =>
   ∃ x48 : Int, lenV S4 2 x47 = some (V.int .i64 x48) ∧
   K (decide (x48 = (0 : Int))) S4)
   (K false S4))
   (K false S4))
   (K false S4) := by
    intro S4 m0 t0 l0 n0 ll nn g4 c4 e1 e2 hk
    refine ⟨m0, ld c4 rfl, ifC_dec (fun hx => ⟨t0, ld c4 rfl, ifC_dec (fun hy => ifS_mk (ld c4 rfl) ⟨_, e1, ifC_dec (fun hz => ifS_mk (ld c4 rfl) ⟨_, e2, ?_⟩) fun hz => ?_⟩) fun hy => ?_⟩) fun hx => ?_⟩
    · have hz' : ll = 0 := by omega
      rw [hx, hy, hz'] at hk
      have : decide (((nn : Nat) : Int) = 0) = decide (nn = 0) := by rw [decide_eq_decide]; omega
      rw [this]
      simpa using hk
    · have hz' : ll ≠ 0 := by omega
      simpa [hz'] using hk
    · simpa [hy] using hk
    · simpa [hx] using hk
  have nil0 : ∀ {S4 : St}, lenV S4 2 V.nilSlice = some (.int .i64 ((0 : Nat) : Int)) := rfl
  have up : ∀ {S4 : St}, Upd [S1.next] S3 S4 → Grow S S4 := fun u => g03.after u fun j hj => .inl (by rw [List.mem_singleton.mp hj]; have := g1.le; omega)
  refine Join0.mid (fun S' => ∃ m0 t0 l0 n0, ∃ ll nn : Nat, Grow S S' ∧ S'.get S1.next = some (.cells [.int .i64 v.sort, .int .i64 m0, .str t0, l0, n0] true) ∧ lenV S' 2 l0 = some (.int .i64 (ll : Nat)) ∧ lenV S' 2 n0 = some (.int .i64 (nn : Nat)) ∧ form1 v = (decide (m0 = 0) && decide (t0 = []) && decide (ll = 0) && decide (nn = 0))) ?_ ?_
  · refine ⟨v.sort, ld c3 rfl, Join1.mid (fun b S' => S3 = S' ∧ b = decide (v.sort = 1 ∨ v.sort = 2 ∨ v.sort = 3)) ?_ ?_⟩
    · refine ifC_dec (fun hx => ⟨rfl, by simp [hx]⟩) fun hx => ifC_dec (fun hy => ⟨rfl, by simp [hy]⟩) fun hy => ⟨rfl, by simp [hx, hy]⟩
    rintro _ _ ⟨rfl, rfl⟩
    have fin : ∀ {m0 : Int} {t0 : Bs8} {ll nn : Nat}, ((1 ≤ v.sort ∧ v.sort ≤ 7 ∧ (v.sort = 4 ∨ v.num = 0) ∧ (v.sort = 5 ∨ v.text = []) ∧ (v.sort = 6 ∨ v.sort = 7 ∨ v.list.length = 0) ∧ (v.sort = 7 → v.names.length = v.list.length) ∧ (v.sort ≠ 7 → v.names.length = 0)) ↔ (m0 = 0 ∧ t0 = [] ∧ ll = 0 ∧ nn = 0)) → form1 v = (decide (m0 = 0) && decide (t0 = []) && decide (ll = 0) && decide (nn = 0)) := by
      intro m0 t0 ll nn h
      rw [Bool.eq_iff_iff, form1_iff, h]
      simp [and_assoc]
    refine ifC_dec (fun hx => ?_) fun hx => ?_
    · refine ⟨v.num, v.text, lv, nv, _, _, g03, m3, v3.len, v3.nlen, fin ?_⟩
      have e5 : v.sort ≠ 5 := by omega
      have e7 : v.sort ≠ 7 := by omega
      have e6 : v.sort ≠ 6 := by omega
      have e4 : v.sort ≠ 4 := by omega
      simp only [e5, e7, e6, e4, false_or, false_imp_iff, true_imp_iff, true_and, ne_eq, not_false_eq_true]
      constructor
      · rintro ⟨_, _, h⟩; exact h
      · intro h; exact ⟨by omega, by omega, h⟩
    refine ifC_dec (fun h4 => ?_) fun h4 => ?_
    · refine st_mk g03.wf m3 (by rfl) (by simp [V.cells, vcells]) (by rfl) fun S6 u6 m6 n6 => ?_
      have g6 := up u6
      have v6 := hv.grow g6 g6.le
      refine ⟨0, v.text, lv, nv, _, _, g6, m6, v6.len, v6.nlen, fin ?_⟩
      simp [h4]
    refine ifC_dec (fun h5 => ?_) fun h5 => ?_
    · refine st_mk g03.wf m3 (by rfl) (by simp [V.cells, vcells]) (by rfl) fun S6 u6 m6 n6 => ?_
      have g6 := up u6
      have v6 := hv.grow g6 g6.le
      refine ⟨v.num, [], lv, nv, _, _, g6, m6, v6.len, v6.nlen, fin ?_⟩
      simp [h5]
    refine ifC_dec (fun h6 => ?_) fun h6 => ?_
    · refine st_mk g03.wf m3 (by rfl) (by simp [V.cells, vcells]) (by rfl) fun S6 u6 m6 n6 => ?_
      have g6 := up u6
      have v6 := hv.grow g6 g6.le
      refine ⟨v.num, v.text, .nilSlice, nv, 0, _, g6, m6, nil0, v6.nlen, fin ?_⟩
      simp [h6]
    refine ifC_dec (fun h7 => ?_) fun h7 => ?_
    · refine ifS_mk (ld c3 rfl) ⟨_, v3.nlen, ifS_mk (ld c3 rfl) ⟨_, v3.len, ifC_ndec (fun hne => ?_) fun heq => ?_⟩⟩
      · have := hk S3 g03
        have hf : form1 v = false := by rw [← Bool.not_eq_true, form1_iff]; intro h; have := h.2.2.2.2.2.1 h7; omega
        rw [hf] at this
        exact this
      · refine st_mk g03.wf m3 (by rfl) (by simp [V.cells, vcells]) (by rfl) fun S6 u6 m6 n6 => st_mk u6.wf m6 (by rfl) (by simp [V.cells, vcells, over]) (by rfl) fun S8 u8 m8 n8 => ?_
        have g8 := up (u6.trans u8)
        refine ⟨v.num, v.text, .nilSlice, .nilSlice, 0, 0, g8, m8, nil0, nil0, fin ?_⟩
        have : v.names.length = v.list.length := by omega
        simp [h7, this]
    · have := hk S3 g03
      have hf : form1 v = false := by rw [← Bool.not_eq_true, form1_iff]; intro h; omega
      rw [hf] at this
      exact this
  · rintro S4 ⟨m0, t0, l0, n0, ll, nn, g4, c4, e1, e2, hf⟩
    refine tail g4 c4 e1 e2 ?_
    rw [← hf]
    exact hk S4 g4

theorem json_deep.deeps (hF : json_deep.Ok P N) (n : Nat) : DeepsJ P (N Fn.json_deep) n := by
  induction n with
  | zero =>
    intro S v lv nv K _ _ h
    exact absurd h (Nat.not_lt_zero _)
  | succ n ih =>
    intro S v lv nv K hw hv hn hd hk
    refine json_deep.run hF (newS_mk hw fun S1 g1 m1 n1 => ?_)
    obtain ⟨es, hv⟩ := hv.at_
    have v1 := hv.grow g1 g1.le
    rw [deepJ_eq] at hk hd
    refine Join0.mid (fun S' => S1 = S' ∧ (v.sort = 6 ∨ v.sort = 7)) ?_ ?_
    · refine ⟨v.sort, ld m1 rfl, ifC_ndec (fun hx => ⟨v.sort, ld m1 rfl, ifC_ndec (fun hy => ?_) fun hy => ⟨rfl, .inr hy⟩⟩) fun hx => ⟨rfl, .inl hx⟩⟩
      rw [if_neg (by omega)] at hk
      exact hk S1 g1
    rintro _ ⟨rfl, hs⟩
    rw [if_pos hs] at hk hd
    refine ifS_mk (ld m1 rfl) ⟨_, v1.len, ?_⟩
    refine Loop2.ind (fun m y x S' => ∃ j : Nat, x = j ∧ j ≤ v.list.length ∧ m = v.list.length - j ∧ Grow S1 S' ∧ y = (deepsJ (v.list.take j) : Nat)) v.list.length ⟨0, rfl, Nat.zero_le _, rfl, Upd.refl g1.wf _, by rw [List.take_zero, deepsJ]; rfl⟩ ?_
    rintro m _ _ S3 ⟨j, rfl, hj, rfl, g, rfl⟩
    have h3 := v1.grow g g.le
    refine ifC_dec (fun hx => ?_) fun hx => ?_
    · have hj : j < v.list.length := by omega
      obtain ⟨lw, nw, e, r⟩ := h3.elt hj
      have hm := List.getElem_mem hj
      obtain ⟨es2, r2⟩ := r.at_
      refine ifS_mk (h3.idx hj) ⟨_, _, _, _, _, e, newS_mk g.wf fun S4 g4 m4 n4 => st_mk g4.wf m4 (by simp [V.cells]) (by simp [V.cells]) (by simp only [V.cells, List.all_cons, List.all_nil, r2.ones.1, r2.ones.2]; rfl) fun S5 u5 m5 n5 => ?_⟩
      have g35 : Grow S3 S5 := g4.after u5 fun j hj => .inl (by rw [List.mem_singleton.mp hj]; exact Nat.le_refl _)
      refine ⟨_, _, _, _, _, ld5 (v := v.list[j]) m5, ih g35.wf (r.grow g35 (by have := g1.le; have := g.le; have := g35.le; omega)) (by have := JV.list_lt hm; omega) (by have := deepsJ_le hm; omega) fun S6 g6 => ?_⟩
      exact setI_mk (n := ((j + 1 : Nat) : Int)) (wrap_next hj hv.le) ⟨v.list.length - (j + 1), by omega, j + 1, rfl, hj, rfl, g.trans (g35.trans g6), by rw [goMax_nat, deepsJ_take hj]⟩
    · have hj : j = v.list.length := by omega
      subst hj
      rw [List.take_length]
      exact setI_mk (n := ((deepsJ v.list + 1 : Nat) : Int)) (wrap_nat (by omega)) (hk S3 (g1.trans g))

end Go.Th.L
end

section
/- json: what a value must be, all together. -/
set_option linter.unusedSimpArgs false
set_option linter.unusedVariables false
set_option maxHeartbeats 1000000
namespace Go.Th.L
open Go Go.Th Go.Th.Pure
variable {P : Program} {N : Nat → Nat}

theorem mem_take_succ {l : List Bs8} {j : Nat} (hj : j < l.length) {t : Bs8} : t ∈ l.take (j + 1) ↔ t ∈ l.take j ∨ t = l[j] := by
  rw [← List.take_append_getElem hj, List.mem_append, List.mem_singleton]

theorem json_Check_1.asks (hF : json_Check_1.Ok P N) (n : Nat) : AsksJ P (N Fn.json_Check_1) small1 n := by
  intro S v lv nv K hw hv hn hk
  refine json_Check_1.run hF (newS_mk hw fun S1 g1 m1 n1 => ⟨v.num, ld m1 rfl, ifC_dec (fun hx => ⟨v.num, ld m1 rfl, ?_⟩) fun hx => ?_⟩)
  · have := hk S1 g1
    unfold small1 at this
    rw [decide_eq_true hx, Bool.true_and] at this
    exact this
  · have := hk S1 g1
    unfold small1 at this
    rw [decide_eq_false hx, Bool.false_and] at this
    exact this

theorem json_Check_2.asks (hF : json_Check_2.Ok P N) (n : Nat) : AsksJ P (N Fn.json_Check_2) few1 n := by
  intro S v lv nv K hw hv hn hk
  obtain ⟨es, hv⟩ := hv.at_
  refine json_Check_2.run hF (newS_mk hw fun S1 g1 m1 n1 => ifS_mk (ld m1 rfl) ⟨_, (hv.grow g1 g1.le).len, ?_⟩)
  have := hk S1 g1
  unfold few1 at this
  have e : decide (((v.list.length : Nat) : Int) ≤ 1024) = decide (v.list.length ≤ 1024) := by rw [decide_eq_decide]; omega
  rw [e]
  exact this

theorem json_Check_3.asks (hF : json_Check_3.Ok P N) (n : Nat) : AsksJ P (N Fn.json_Check_3) unlike1 n := by
  intro S v lv nv K hw hv hn hk
  obtain ⟨es, hv⟩ := hv.at_
  refine json_Check_3.run hF (newS_mk hw fun S1 g1 m1 n1 => newS_mk g1.wf fun S2 g2 m2 n2 => ?_)
  have g02 := g1.trans g2
  have v2 := hv.grow g02 g02.le
  refine ifS_mk (ld (g2.get m1) rfl) ⟨_, v2.nlen, ?_⟩
  refine Loop1.ind (fun m x S' => ∃ (j : Nat) (l : List (Nm × V)), x = j ∧ j ≤ v.names.length ∧ m = v.names.length - j ∧ Grow S S' ∧ NamesAt S' S1.next l ∧ RVat S' S'.next v lv nv es ∧ (v.names.take j).Nodup ∧ (∀ t, (lkK l t = some (.bool true) ∧ t ∈ v.names.take j) ∨ (lkK l t = none ∧ t ∉ v.names.take j))) v.names.length ⟨0, [], rfl, Nat.zero_le _, rfl, g02, NamesAt.new (S := S2) m2, v2, by simp, fun t => .inr ⟨rfl, by simp⟩⟩ ?_
  rintro m _ S3 ⟨j, l, rfl, hj, rfl, g, hn, v3, hd, hl⟩
  refine ifC_dec (fun hx => ?_) fun hx => ?_
  · have hj : j < v.names.length := by omega
    refine ifS_mk (v3.nidx hj) ⟨_, v3.name hj, ?_⟩
    have hlk := names_lookup hn (.bool false) false v.names[j]
    rcases hl v.names[j] with ⟨h1, h2⟩ | ⟨h1, h2⟩
    · rw [h1] at hlk
      refine ⟨true, hlk, ifC_tt rfl ?_⟩
      have hu : unlike1 v = false := by
        simp only [unlike1, decide_eq_false_iff_not]
        intro hd
        exact ((nodup_take hj).mp (hd.sublist (List.take_sublist _ _))).2 h2
      have := hk S3 g
      rw [hu] at this
      exact this
    · rw [h1] at hlk
      refine ⟨false, hlk, ifC_ff rfl (names_upd g.wf hn _ _ fun S4 h4 u4 n4 => ?_)⟩
      refine setI_mk (n := ((j + 1 : Nat) : Int)) (wrap_next hj hv.nle) ⟨v.names.length - (j + 1), by omega, j + 1, _, rfl, hj, rfl, ?_, h4, ?_, (nodup_take hj).mpr ⟨hd, h2⟩, fun t => ?_⟩
      · exact g.after u4 fun i hi => .inl (by rw [List.mem_singleton.mp hi]; exact g1.le)
      · exact (hv.upd (g.after u4 fun i hi => .inl (by rw [List.mem_singleton.mp hi]; exact g1.le)) (by simp) (by rw [n4]; exact g.le))
      · rw [lkK_cons]
        by_cases ht : v.names[j] = t
        · subst ht
          rw [if_pos rfl]
          refine .inl ⟨rfl, ?_⟩
          exact (mem_take_succ hj).mpr (.inr rfl)
        · rw [if_neg ht]
          have hdr : lkK (dropK l v.names[j]) t = lkK l t := by
            unfold lkK dropK
            rw [List.find?_filter]
            congr 2
            funext p
            by_cases hp : p.1 = t
            · have : p.1 ≠ v.names[j] := fun e => ht (e ▸ hp)
              simp [hp]; exact fun e => ht e.symm
            · simp [hp]
          have hm : t ∈ v.names.take (j + 1) ↔ t ∈ v.names.take j := by
            rw [mem_take_succ hj]
            exact ⟨fun h => h.elim id fun e => absurd e.symm ht, .inl⟩
          rw [hdr, hm]
          exact hl t
  · have hj : j = v.names.length := by omega
    subst hj
    rw [List.take_length] at hd
    have := hk S3 g
    have hu : unlike1 v = true := by simp only [unlike1, decide_eq_true_eq]; exact hd
    rw [hu] at this
    exact this

theorem json_Check.spec (hF : CheckF P N) : ChecksJ P (N Fn.json_Check) := by
  intro S v lv nv K hw hv hd hk
  refine json_Check.run hF.check (newS_mk hw fun S1 g1 m1 n1 => ?_)
  have v1 := hv.grow g1 g1.le
  unfold checkJ at hk
  refine ⟨_, _, _, _, _, ld5 m1, json_all.asks hF (json_formed.asks1 hF.formed) hF.canf _ g1.wf v1 (Nat.lt_succ_self _) fun S2 g2 => ?_⟩
  refine ifC_nb (fun h => ?_) fun h => ?_
  · rw [if_pos h] at hk
    exact hk S2 (g1.trans g2)
  rw [if_neg (by rw [h]; simp)] at hk
  have v2 := v1.grow g2 g2.le
  refine ⟨_, _, _, _, _, ld5 (g2.get m1), json_deep.deeps hF.deep _ g2.wf v2 (Nat.lt_succ_self _) hd fun S3 g3 => ?_⟩
  refine ifC_dec (fun h => ?_) fun h => ?_
  · rw [if_pos (by omega)] at hk
    exact hk S3 ((g1.trans g2).trans g3)
  rw [if_neg (by omega)] at hk
  have v3 := v2.grow g3 g3.le
  refine ⟨_, _, _, _, _, ld5 (g3.get (g2.get m1)), json_all.asks hF (json_Check_1.asks hF.c1) hF.can1 _ g3.wf v3 (Nat.lt_succ_self _) fun S4 g4 => ?_⟩
  refine ifC_nb (fun h => ?_) fun h => ?_
  · rw [if_pos h] at hk
    exact hk S4 (((g1.trans g2).trans g3).trans g4)
  rw [if_neg (by rw [h]; simp)] at hk
  have v4 := v3.grow g4 g4.le
  refine ⟨_, _, _, _, _, ld5 (g4.get (g3.get (g2.get m1))), json_all.asks hF (json_Check_2.asks hF.c2) hF.can2 _ g4.wf v4 (Nat.lt_succ_self _) fun S5 g5 => ?_⟩
  have g05 := (((g1.trans g2).trans g3).trans g4).trans g5
  refine ifC_nb (fun h => ?_) fun h => ?_
  · rw [if_pos h] at hk
    exact hk S5 g05
  rw [if_neg (by rw [h]; simp)] at hk
  have v5 := v4.grow g5 g5.le
  refine ⟨_, _, _, _, _, ld5 (g5.get (g4.get (g3.get (g2.get m1)))), json_all.asks hF (json_Check_3.asks hF.c3) hF.can3 _ g5.wf v5 (Nat.lt_succ_self _) fun S6 g6 => ?_⟩
  refine ifC_nb (fun h => ?_) fun h => ?_
  · rw [if_pos h] at hk
    exact hk S6 (g05.trans g6)
  · rw [if_neg (by rw [h]; simp)] at hk
    exact hk S6 (g05.trans g6)

end Go.Th.L
end

section
/- json: a text parsed. -/
set_option linter.unusedSimpArgs false
set_option linter.unusedVariables false
set_option maxHeartbeats 1000000
namespace Go.Th.L
open Go Go.Th Go.Th.Pure
variable {P : Program} {N : Nat → Nat}

structure ParseF (P : Program) (N : Nat → Nat) (gs : List Nat) : Prop where
  r : ReadF P N gs
  c : CheckF P N
  parse : json_Parse.Ok P N
  parse1 : json_Parse_1.Ok P N
  can : canEnter P (N Fn.json_Parse_1) = true

theorem json_Parse_1.bad (hF : json_Parse_1.Ok P N) {S : St} (hw : S.Wf) {p q : Nat} (hne : p ≠ q) {cs : List V} {x : V} (hc : S.get p = some (.cells cs true)) (hl : cs.length = 5) (hx : S.get q = some (.cells [x] true)) {R : St → Prop}
    (hk : ∀ S', Upd [p, q] S S' → S'.get p = some (.cells (vcells jnil .nilSlice .nilSlice) true) → S'.get q = some (.cells [.int .i64 200] true) → R S') : panD P [(N Fn.json_Parse_1, [.ptr p 0, .ptr q 0])] R (wrongV N) S := by
  unfold panD
  simp only [leaveX]
  refine CallD.mono (json_Parse_1.run (pv := some (wrongV N)) (K := R) hF ⟨false, rfl, ifC_tt rfl ⟨?_, ?_⟩⟩) ?_
  · simp [assertV, wrongV]
  · refine st_mk hw hc (by simp [V.cells]) (by simp [V.cells, hl]) (by simp [V.cells, V.one]) fun S1 u1 m1 n1 => st_mk u1.wf (u1.get hx (by simp; omega)) (by simp [V.cells]) (by simp [V.cells]) (by simp [V.cells, V.one]) fun S2 u2 m2 n2 => hk S2 ?_ ?_ ?_
    · exact (u1.mono fun j hj => .inl (by simp at hj; simp [hj])).trans (u2.mono fun j hj => .inl (by simp at hj; simp [hj]))
    · have : over cs 0 (V.cells (.agg [(V.int .i64 0), (V.int .i64 0), (V.str ([] : List UInt8)), V.nilSlice, V.nilSlice])) = vcells jnil .nilSlice .nilSlice := by
        match cs, hl with
        | [_, _, _, _, _], _ => rfl
      rw [this] at m1
      exact u2.get m1 (by simp; omega)
    · rw [m2]; rfl
  · rintro b S' ⟨rfl, h⟩
    exact ifC_tt rfl h

theorem json_Parse_1.good (hF : json_Parse_1.Ok P N) {S : St} {p q : Nat} {Q : Bool → St → Prop} (hk : Q false S) : CallD P (N Fn.json_Parse_1) [.ptr p 0, .ptr q 0] none S Q :=
  CallD.mono (json_Parse_1.run (pv := none) (K := fun S' => S' = S) hF ⟨true, rfl, ifC_ff rfl rfl⟩) (by rintro b S' ⟨rfl, rfl⟩; exact hk)

def ParsesJ (P : Program) (f : FuncId) (gs : List Nat) : Prop := ∀ {S : St} {s : Bs8} {K : Int → Int → Bs8 → V → V → Int → St → Prop}, S.Wf → GV gs S →
  (∀ lv nv F S', Grow S S' → VAt S' S.next (parseJ s).1 lv nv F → K (parseJ s).1.sort (parseJ s).1.num (parseJ s).1.text lv nv (parseJ s).2 S') → CallA P f [.str s] S (retT [.agg [.int .i64, .int .i64, .str, .any, .any], .one (.int .i64)] K)

theorem json_Parse.spec {gs : List Nat} (hF : ParseF P N gs) : ParsesJ P (N Fn.json_Parse) gs := by
  intro S s K hw hG hk
  refine json_Parse.run hF.parse (newS_mk hw fun S1 g1 m1 n1 => newS_mk g1.wf fun S2 g2 m2 n2 => ?_)
  have g02 := g1.trans g2
  have p2 := g2.get m1
  have hne : S.next ≠ S1.next := by omega
  have fin : ∀ {S' : St} {v : JV} {lv nv : V} {F : List Nat} {c : Int}, parseJ s = (v, c) → Upd [] S S' → VAt S' S.next v lv nv F → S'.get S.next = some (.cells (vcells v lv nv) true) → S'.get S1.next = some (.cells [.int .i64 c] true) →
      ∃ xa xb : Int, ∃ xc : List UInt8, ∃ xd xe : V, cellNV S' 5 (V.ptr S.next 0) = some (V.agg [(V.int .i64 xa), (V.int .i64 xb), (V.str xc), xd, xe]) ∧ ∃ xr : Int, cell1V S' (V.ptr S1.next 0) = some (V.int .i64 xr) ∧ K xa xb xc xd xe xr S' := by
    intro S' v lv nv F c e u hv c0 c1
    have := hk lv nv F S' u (by rw [e]; exact hv)
    rw [e] at this
    exact ⟨_, _, _, _, _, ldC c0 (by simp [vcells]) rfl, _, ldC1 c1 rfl, this⟩
  have nil : ∀ {S' : St}, VAt S' S.next jnil .nilSlice .nilSlice [] := fun {S'} => VAt.nil S' S.next 0 0 []
  refine ifC_dec (fun hl => ?_) fun hl => ?_
  · refine st_mk g2.wf p2 (by simp [V.cells]) (by simp [V.cells]) (by simp [V.cells, V.one]) fun S3 u3 m3 n3 => st_mk u3.wf (u3.get m2 (by simp; omega)) (by simp [V.cells]) (by simp [V.cells]) (by simp [V.cells, V.one]) fun S4 u4 m4 n4 => ?_
    refine fin (v := jnil) (c := 2) (by unfold parseJ; rw [if_pos (by omega)]) ?_ nil (u4.get m3 (by simp; omega)) m4
    exact (g02.after u3 fun j hj => .inl (by rw [List.mem_singleton.mp hj]; exact Nat.le_refl _)).after u4 fun j hj => .inl (by rw [List.mem_singleton.mp hj]; exact g1.le)
  have hl : s.length ≤ 16384 := by omega
  have hb := blanks_le s
  refine ifS_mk (a := (N Fn.json_Parse_1, [.ptr S.next 0, .ptr S1.next 0])) (by unfold calleeD; exact if_pos hF.can) (newS_mk g2.wf fun S5 g5 m5 n5 => ?_)
  have g05 := g02.trans g5
  have up : ∀ {S' : St}, Upd [S2.next] S5 S' → Upd [] S S' := fun u => g05.after u fun j hj => .inl (by rw [List.mem_singleton.mp hj]; exact g02.le)
  have up3 : ∀ {S' S'' : St}, Upd [] S S' → Upd [S.next, S1.next] S' S'' → Upd [] S S'' := fun u u' => u.after u' fun j hj => .inl (by
    simp only [List.mem_cons, List.not_mem_nil, or_false] at hj
    rcases hj with rfl | rfl
    · exact Nat.le_refl _
    · exact g1.le)
  -- where something is thrown
  have bad : ∀ {S' : St} {cs : List V}, parseJ s = (jnil, 200) → Upd [] S S' → S'.get S.next = some (.cells cs true) → cs.length = 5 → S'.get S1.next = some (.cells [.int .i64 0] true) → ∀ {R : St → Prop},
      (∀ S'', (∃ xa xb : Int, ∃ xc : List UInt8, ∃ xd xe : V, cellNV S'' 5 (V.ptr S.next 0) = some (V.agg [(V.int .i64 xa), (V.int .i64 xb), (V.str xc), xd, xe]) ∧ ∃ xr : Int, cell1V S'' (V.ptr S1.next 0) = some (V.int .i64 xr) ∧ K xa xb xc xd xe xr S'') → R S'') → panD P [(N Fn.json_Parse_1, [.ptr S.next 0, .ptr S1.next 0])] R (wrongV N) S' := by
    intro S' cs e u c0 hcl c1 R hR
    exact json_Parse_1.bad hF.parse1 u.wf hne c0 hcl c1 fun S'' u2 d0 d1 => hR S'' (fin e (up3 u u2) nil d0 d1)
  have e0 : parseJ s = match pvJ (blanksJ s) with
    | none => (jnil, 200)
    | some (v, r) => if blanksJ r = [] then if checkJ v = 0 then (v, 0) else (jnil, checkJ v) else (jnil, 200) := by
    unfold parseJ; rw [if_neg (by omega)]; rfl
  have c05 : ∀ {S' : St}, Upd [S2.next] S5 S' → S'.get S.next = some (.cells [(V.int .i64 0), (V.int .i64 0), (V.str ([] : List UInt8)), V.nilSlice, V.nilSlice] true) ∧ S'.get S1.next = some (.cells [.int .i64 0] true) := fun u =>
    ⟨u.get (g5.get p2) (by simp; omega), u.get (g5.get m2) (by simp; omega)⟩
  refine CallA.np (json_reading_blanks.spec hF.r.o.blanks hF.r.o.trim g5.wf (s := s) m5 fun S6 u6 l6 n6 => ?_)
  have gv6 : GV gs S6 := (hG.upd g05 (by simp)).left u6 m5
  refine json_reading_value.ok hF.r ((blanksJ s).length + 1) u6.wf gv6 l6 (by omega) (by omega) (fun e S7 u7 => ?_) fun v r lv nv F e S8 u8 l8 v8 => ?_
  · have c := c05 (u6.trans u7)
    refine bad ?_ (up (u6.trans u7)) c.1 rfl c.2 fun S'' h => h
    rw [e0, e]
  have hr := (left_len _).1 e
  have hd := deep_text e
  have u58 := u6.trans u8
  have c8 := c05 u58
  have o8 := v8.ones
  refine st_mk u8.wf c8.1 (by simp [V.cells]) (by simp [V.cells]) (by simp only [V.cells, List.all_cons, List.all_nil, o8.1, o8.2]; rfl) fun S10 u10 m10 n10 => ?_
  have m10 : S10.get S.next = some (.cells (vcells v lv nv) true) := m10
  have g010 : Upd [] S S10 := (up u58).after u10 fun j hj => .inl (by rw [List.mem_singleton.mp hj]; exact Nat.le_refl _)
  have hS6 : S5.next ≤ S6.next := u6.le
  have v10 : VAt S10 S.next v lv nv F := VAt.below (by have := g05.le; omega) v (VAt.keep u10 v v8 fun j hj hm => by rw [List.mem_singleton.mp hj] at hm; have := (VAt.own v v8 _ hm).1; have := g1.le; have := g02.le; omega)
  have hF10 : ∀ j ∈ F, S6.next ≤ j := fun j hj => (VAt.own v v8 j hj).1
  have l10 : LeftAt S10 S2.next r := u10.get l8 (by simp; omega)
  have q10 : S10.get S1.next = some (.cells [.int .i64 0] true) := u10.get c8.2 (by simp; omega)
  refine CallA.np (json_reading_blanks.spec hF.r.o.blanks hF.r.o.trim u10.wf l10 fun S11 u11 l11 n11 => ⟨rfl, blanksJ r, ld l11 rfl, ?_⟩)
  have g011 : Upd [] S S11 := g010.after u11 fun j hj => .inl (by rw [List.mem_singleton.mp hj]; exact g02.le)
  have p11 : S11.get S.next = some (.cells (vcells v lv nv) true) := u11.get m10 (by simp; omega)
  have q11 : S11.get S1.next = some (.cells [.int .i64 0] true) := u11.get q10 (by simp; omega)
  have v11 : VAt S11 S.next v lv nv F := VAt.keep u11 v v10 fun j hj hm => by rw [List.mem_singleton.mp hj] at hm; have := hF10 _ hm; omega
  refine json_is.spec hF.r.o.is (fun hb => ?_) fun hb => ?_
  · refine bad ?_ g011 p11 rfl q11 fun S'' h => h
    rw [e0, e]
    simp only
    rw [if_neg (by simpa using hb)]
  have e1 : parseJ s = if checkJ v = 0 then (v, 0) else (jnil, checkJ v) := by
    rw [e0, e]
    simp only
    rw [if_pos (by simpa using hb)]
  refine ⟨_, _, _, _, _, ld5 p11, CallA.np (json_Check.spec hF.c u11.wf (VAt.rv v v11 fun j hj => by obtain ⟨_, _, h⟩ := VAt.own v v11 j hj; exact u11.wf.lt h) (by omega) fun S15 g15 => ?_)⟩
  have p15 := g15.get p11
  have q15 := g15.get q11
  have g015 : Upd [] S S15 := g011.trans g15
  have v15 := v11.grow g15
  refine ifC_ndec (fun hc => ?_) fun hc => ?_
  · rw [if_neg hc] at e1
    refine st_mk g15.wf p15 (by simp [V.cells]) (by simp [V.cells, vcells]) (by simp [V.cells, V.one]) fun S17 u17 m17 n17 => st_mk u17.wf (u17.get q15 (by simp; omega)) (by simp [V.cells]) (by simp [V.cells]) (by simp [V.cells, V.one]) fun S18 u18 m18 n18 => ?_
    refine json_Parse_1.good hF.parse1 (fin e1 ?_ nil (u18.get m17 (by simp; omega)) m18)
    exact (g015.after u17 fun j hj => .inl (by rw [List.mem_singleton.mp hj]; exact Nat.le_refl _)).after u18 fun j hj => .inl (by rw [List.mem_singleton.mp hj]; exact g1.le)
  · rw [if_pos hc] at e1
    refine ⟨_, _, _, _, _, ld5 p15, ?_⟩
    refine st_mk g15.wf p15 (by simp [V.cells]) (by simp [V.cells, vcells]) (by simp only [V.cells, List.all_cons, List.all_nil, o8.1, o8.2]; rfl) fun S20 u20 m20 n20 => st_mk u20.wf (u20.get q15 (by simp; omega)) (by simp [V.cells]) (by simp [V.cells]) (by simp [V.cells, V.one]) fun S21 u21 m21 n21 => ?_
    refine json_Parse_1.good hF.parse1 (fin (F := F) e1 ?_ ?_ (u21.get m20 (by simp; omega)) m21)
    · exact (g015.after u20 fun j hj => .inl (by rw [List.mem_singleton.mp hj]; exact Nat.le_refl _)).after u21 fun j hj => .inl (by rw [List.mem_singleton.mp hj]; exact g1.le)
    · refine VAt.keep u21 v (VAt.keep u20 v v15 fun j hj hm => ?_) fun j hj hm => ?_
      · rw [List.mem_singleton.mp hj] at hm; have := hF10 _ hm; have := g1.le; have := g02.le; omega
      · rw [List.mem_singleton.mp hj] at hm; have := hF10 _ hm; have := g1.le; have := g02.le; omega

end Go.Th.L
end

section
/- json: a text quoted into a builder. -/
set_option linter.unusedSimpArgs false
set_option linter.unusedVariables false
set_option maxHeartbeats 1000000
namespace Go.Th.L
open Go Go.Th Go.Th.Pure
variable {P : Program} {N : Nat → Nat}

structure WIn (T e : TypeId) (S : St) (b : Nat) (g0 : List Nat) (S' : St) (g : List Nat) (acc : Bs8) (xs : List (Nat × Blk)) : Prop where
  sb : SbAt T e S' b g acc
  u : Upd (b :: g0) S S'
  new : ∀ j ∈ g, j ∈ g0 ∨ S.next ≤ j
  keep : ∀ p ∈ xs, S'.get p.1 = some p.2 ∧ p.1 ∉ g ∧ p.1 ≠ b
section
variable {T e : TypeId} {S S' S2 : St} {b : Nat} {g0 g g2 : List Nat} {acc acc2 : Bs8} {xs : List (Nat × Blk)}
theorem WIn.start (hw : S.Wf) (h : SbAt T e S b g acc) : WIn T e S b g S g acc [] := ⟨h, Upd.refl hw _, fun j hj => .inl hj, by simp⟩
theorem WIn.write (h : WIn T e S b g0 S' g acc xs) (k : SbAt T e S2 b g2 acc2) (u : Upd (b :: g) S' S2) (n : ∀ j ∈ g2, j ∈ g ∨ S'.next ≤ j) : WIn T e S b g0 S2 g2 acc2 xs := by
  have hle := h.u.le
  refine ⟨k, h.u.after u fun j hj => ?_, fun j hj => ?_, fun p hp => ?_⟩
  · rcases List.mem_cons.mp hj with rfl | hj
    · exact .inr (by simp)
    · rcases h.new j hj with h' | h'
      · exact .inr (by simp [h'])
      · exact .inl h'
  · rcases n j hj with h' | h'
    · exact h.new j h'
    · exact .inr (by omega)
  · obtain ⟨a1, a2, a3⟩ := h.keep p hp
    refine ⟨u.get a1 (by simp [a2, a3]), fun hm => ?_, a3⟩
    rcases n _ hm with h' | h'
    · exact a2 h'
    · have := h.u.wf.lt a1; omega
theorem WIn.new_ (h : WIn T e S b g0 S' g acc xs) {bk : Blk} (gr : Grow S' S2) (m : S2.get S'.next = some bk) (hb : b < S'.next) (hg : ∀ j ∈ g, j < S'.next) : WIn T e S b g0 S2 g acc ((S'.next, bk) :: xs) := by
  refine ⟨h.sb.upd gr (by simp) (by simp), h.u.trans (gr.mono (by simp)), h.new, fun p hp => ?_⟩
  rcases List.mem_cons.mp hp with rfl | hp
  · exact ⟨m, fun hm => by have := hg _ hm; simp only at this; omega, fun e => by simp only at e; omega⟩
  · obtain ⟨a1, a2, a3⟩ := h.keep p hp
    exact ⟨gr.get a1, a2, a3⟩
theorem WIn.lt (h : WIn T e S b g0 S' g acc xs) : b < S'.next ∧ ∀ j ∈ g, j < S'.next := by
  rcases h.sb with ⟨rfl, h2, p, h3, h4⟩ | ⟨k, c, rfl, h2, h3, h4, h5, h6⟩
  · exact ⟨h.u.wf.lt h4, by simp⟩
  · exact ⟨h.u.wf.lt h4, fun j hj => by rw [List.mem_singleton.mp hj]; exact h.u.wf.lt h5⟩
theorem WIn.more (h : WIn T e S b g0 S' g acc xs) {ys : List (Nat × Blk)} (hy : ∀ p ∈ ys, p ∈ xs) : WIn T e S b g0 S' g acc ys := ⟨h.sb, h.u, h.new, fun p hp => h.keep p (hy p hp)⟩
end

def QuoteOk (P : Program) (N : Nat → Nat) (T e : TypeId) : Prop := ∀ {S : St} {b : Nat} {g : List Nat} {acc s : Bs8} {K : St → Prop}, S.Wf → SbAt T e S b g acc → acc.length + (quoteJ s).length ≤ 70368744177664 → s.length ≤ 70368744177664 →
  (∀ S' g', SbAt T e S' b g' (acc ++ quoteJ s) → Upd (b :: g) S S' → (∀ j ∈ g', j ∈ g ∨ S.next ≤ j) → K S') → CallA P (N Fn.json_quote) [.ptr b 0, .str s] S (retT [] K)

theorem idx_hex {n : Nat} (h : n < 16) : idxStrV (V.str ([48, 49, 50, 51, 52, 53, 54, 55, 56, 57, 97, 98, 99, 100, 101, 102] : List UInt8)) (V.int .u8 ((n : Nat) : Int)) = some (V.int .u8 (((hexD.getD n 0).toNat : Nat) : Int)) := by
  have : n = 0 ∨ n = 1 ∨ n = 2 ∨ n = 3 ∨ n = 4 ∨ n = 5 ∨ n = 6 ∨ n = 7 ∨ n = 8 ∨ n = 9 ∨ n = 10 ∨ n = 11 ∨ n = 12 ∨ n = 13 ∨ n = 14 ∨ n = 15 := by omega
  rcases this with rfl | rfl | rfl | rfl | rfl | rfl | rfl | rfl | rfl | rfl | rfl | rfl | rfl | rfl | rfl | rfl <;> rfl
theorem and15 (n : Nat) (h : n < 256) : intBits .and .u8 ((n : Nat) : Int) (15 : Int) = ((n % 16 : Nat) : Int) := by
  have : ∀ m : Fin 256, intBits .and .u8 ((m.val : Nat) : Int) (15 : Int) = ((m.val % 16 : Nat) : Int) := by decide +kernel
  exact this ⟨n, h⟩
theorem shr4 (n : Nat) : Int.fdiv ((n : Nat) : Int) (2 ^ (min (Int.toNat (4 : Int)) (IntKind.bits .u8))) = ((n / 16 : Nat) : Int) := by
  show Int.fdiv ((n : Nat) : Int) 16 = _
  rw [Int.fdiv_eq_ediv_of_nonneg _ (by omega)]
  omega
theorem flat_take {s : Bs8} {j : Nat} (hj : j < s.length) : (s.take (j + 1)).flatMap quoteB = (s.take j).flatMap quoteB ++ quoteB s[j] := by
  rw [← List.take_append_getElem hj, List.flatMap_append]
  simp
theorem flat_le (s : Bs8) (j : Nat) : ((s.take j).flatMap quoteB).length ≤ (s.flatMap quoteB).length := by
  have e : s.flatMap quoteB = (s.take j).flatMap quoteB ++ (s.drop j).flatMap quoteB := by rw [← List.flatMap_append, List.take_append_drop]
  rw [e, List.length_append]
  omega

theorem json_quote.spec (hF : json_quote.Ok P N) {T e : TypeId} (hB : SbOk P T e (N Fn.strings_Builder_WriteByte) (N Fn.strings_Builder_WriteString) (N Fn.strings_Builder_String)) : QuoteOk P N T e := by
  intro S b g acc s K hw hs hl hsl hk
  have hq : (quoteJ s).length = (s.flatMap quoteB).length + 2 := by unfold quoteJ; rw [List.length_cons, List.length_append, List.length_singleton]
  refine json_quote.run hF (hB.writeByte hw hs (by omega) 34 fun S1 g1 k1 u1 t1 => newS_mk u1.wf fun S2 r2 m2 n2 => ?_)
  have w1 := (WIn.start hw hs).write k1 u1 t1
  have w2 := w1.new_ r2 m2 w1.lt.1 w1.lt.2
  have sl : ∀ {S' : St}, S'.get S1.next = some (.cells (bytesV s) false) → SlAt S' 1 (V.slice S1.next 0 s.length s.length 1 false) s.length (bytesV s) := by
    intro S' h
    refine ⟨by omega, by rw [bytesV_length]; omega, .inr ⟨_, _, _, _, rfl, Nat.le_refl _, ?_⟩⟩
    rw [St.loads_of h (by rw [bytesV_length]; omega)]
    simp [bytesV_length, List.take_of_length_le]
  refine ⟨_, (sl m2).len, ?_⟩
  refine Loop1.ind (fun m x S' => ∃ (j : Nat) (g' : List Nat), x = j ∧ j ≤ s.length ∧ m = s.length - j ∧ WIn T e S b g S' g' (acc ++ (34 :: (s.take j).flatMap quoteB)) [(S1.next, .cells (bytesV s) false)]) s.length ⟨0, g1, rfl, Nat.zero_le _, rfl, by simpa using w2⟩ ?_
  rintro m _ S3 ⟨j, g3, rfl, hj, rfl, w3⟩
  have l3 := (w3.keep (S1.next, .cells (bytesV s) false) (by simp)).1
  have hfl := flat_le s j
  refine ifC_dec (fun hx => ?_) fun hx => ?_
  · have hj : j < s.length := by omega
    have hft := flat_take hj
    have hfl1 := flat_le s (j + 1)
    have hqb := quoteB_len s[j]
    rw [hft, List.length_append] at hfl1
    refine ifS_mk ((sl l3).idx hj) ⟨((s[j].toNat : Nat) : Int), ?_, ?_⟩
    · rw [(sl l3).load hj (by omega)]
      simp [bytesV, hj]
    have again : ∀ {S8 : St} {g8 : List Nat}, WIn T e S b g S8 g8 (acc ++ (34 :: (s.take j).flatMap quoteB) ++ quoteB s[j]) [(S1.next, .cells (bytesV s) false)] → setI (IntKind.i64.wrap (((j : Nat) : Int) + (1 : Int))) fun x49 => ∃ m, m < s.length - j ∧ ∃ (j : Nat) (g' : List Nat), x49 = j ∧ j ≤ s.length ∧ m = s.length - j ∧ WIn T e S b g S8 g' (acc ++ (34 :: (s.take j).flatMap quoteB)) [(S1.next, .cells (bytesV s) false)] := by
      intro S8 g8 w8
      refine setI_mk (n := ((j + 1 : Nat) : Int)) (wrap_nat (by omega)) ⟨s.length - (j + 1), by omega, j + 1, g8, rfl, hj, rfl, ?_⟩
      rw [hft]
      simpa using w8
    have hal : (acc ++ (34 :: (s.take j).flatMap quoteB)).length + (quoteB s[j]).length ≤ 140737488355328 := by
      rw [List.length_append, List.length_cons]; omega
    generalize hA : acc ++ (34 :: (s.take j).flatMap quoteB) = A at w3 again hal
    generalize s[j] = c at *
    refine Join1.mid (fun x S' => S3 = S' ∧ x = decide (c = 34 ∨ c = 92)) ?_ ?_
    · refine ifC_dec (fun h => ⟨rfl, ?_⟩) fun h => ⟨rfl, ?_⟩
      · rw [(byte_int c 34 (by omega)).mp h]; rfl
      · have e1 : c ≠ 34 := fun e => h ((byte_int c 34 (by omega)).mpr e)
        simp only [e1, false_or, decide_eq_decide]
        exact byte_int c 92 (by omega)
    rintro _ _ ⟨rfl, rfl⟩
    refine ifC_dec (fun h => ?_) fun h => ?_
    · have e1 : quoteB c = [92, c] := by unfold quoteB; rw [if_pos h]
      rw [e1] at again hal
      simp only [List.length_cons, List.length_nil] at hal
      refine hB.writeByte w3.u.wf w3.sb (by omega) 92 fun S5 g5 k5 u5 t5 => ?_
      have w5 := w3.write k5 u5 t5
      refine hB.writeByte w5.u.wf w5.sb (by rw [List.length_append]; simp only [List.length_cons, List.length_nil]; omega) c fun S6 g6 k6 u6 t6 => again (g8 := g6) ?_
      have w6 := w5.write k6 u6 t6
      simpa using w6
    refine Join1.mid (fun x S' => S3 = S' ∧ x = decide (32 ≤ c.toNat ∧ c.toNat ≤ 126)) ?_ ?_
    · refine ifC_dec (fun h => ⟨rfl, ?_⟩) fun h => ⟨rfl, ?_⟩
      · rw [decide_eq_decide]; omega
      · rw [eq_comm, decide_eq_false_iff_not]; omega
    rintro _ _ ⟨rfl, rfl⟩
    refine ifC_dec (fun h2 => ?_) fun h2 => ?_
    · have e1 : quoteB c = [c] := by unfold quoteB; rw [if_neg h, if_pos h2]
      rw [e1] at again hal
      simp only [List.length_cons, List.length_nil] at hal
      exact hB.writeByte w3.u.wf w3.sb (by omega) c fun S5 g5 k5 u5 t5 => again (w3.write k5 u5 t5)
    · have e1 : quoteB c = [92, 117, 48, 48, hexD.getD (c.toNat / 16) 0, hexD.getD (c.toNat % 16) 0] := by unfold quoteB; rw [if_neg h, if_neg h2]
      rw [e1] at again hal
      simp only [List.length_cons, List.length_nil] at hal
      have hc := c.toNat_lt
      refine hB.writeString w3.u.wf w3.sb (by decide) (by simp only [List.length_cons, List.length_nil]; omega) fun S9 g9 k9 u9 t9 => ?_
      have w9 := w3.write k9 u9 t9
      refine ⟨by decide, setI_mk (n := ((c.toNat / 16 : Nat) : Int)) (shr4 _) ⟨_, idx_hex (by omega), hB.writeByte w9.u.wf w9.sb (by rw [List.length_append]; simp only [List.length_cons, List.length_nil]; omega) _ fun S10 g10 k10 u10 t10 => ?_⟩⟩
      have w10 := w9.write k10 u10 t10
      refine setI_mk (n := ((c.toNat % 16 : Nat) : Int)) (and15 _ (by omega)) ⟨_, idx_hex (by omega), hB.writeByte w10.u.wf w10.sb (by rw [List.length_append, List.length_append]; simp only [List.length_cons, List.length_nil]; omega) _ fun S11 g11 k11 u11 t11 => again (g8 := g11) ?_⟩
      have w11 := w10.write k11 u11 t11
      simpa using w11
  · have hj : j = s.length := by omega
    subst hj
    rw [List.take_length] at w3
    refine hB.writeByte w3.u.wf w3.sb (by rw [List.length_append, List.length_cons]; omega) 34 fun S12 g12 k12 u12 t12 => ?_
    have w12 := w3.write k12 u12 t12
    refine hk S12 g12 ?_ w12.u w12.new
    have := w12.sb
    unfold quoteJ
    simpa using this

end Go.Th.L
end

section
/- json: a value laid into a builder, and printed. -/
set_option linter.unusedSimpArgs false
set_option linter.unusedVariables false
set_option maxHeartbeats 1000000
namespace Go.Th.Pure
open Go
theorem lays_app (named : Bool) (l2 : List JV) : ∀ (first : Bool) (l1 : List JV) (ns : List Bs8), laysJ named first (l1 ++ l2) ns = laysJ named first l1 ns ++ laysJ named (first && l1.isEmpty) l2 (ns.drop l1.length)
  | first, [], ns => by simp [laysJ]
  | first, v :: l1, ns => by
    simp only [List.cons_append, laysJ, lays_app named l2 false l1 ns.tail, List.isEmpty_cons, Bool.and_false, Bool.false_and, List.length_cons, List.append_assoc]
    cases ns <;> simp
theorem lays_le (named : Bool) (l : List JV) (ns : List Bs8) (j : Nat) : (laysJ named true (l.take j) ns).length ≤ (laysJ named true l ns).length := by
  have := lays_app named (l.drop j) true (l.take j) ns
  rw [List.take_append_drop] at this
  rw [this, List.length_append]
  omega
theorem le_quote (s : Bs8) : s.length ≤ (quoteJ s).length := by
  have : ∀ s : Bs8, s.length ≤ (s.flatMap quoteB).length := by
    intro s
    induction s with
    | nil => simp
    | cons c s ih =>
      have e : ((c :: s).flatMap quoteB).length = (quoteB c).length + (s.flatMap quoteB).length := by rw [List.flatMap_cons, List.length_append]
      have := quoteB_len c
      rw [e, List.length_cons]
      omega
  have := this s
  unfold quoteJ
  rw [List.length_cons, List.length_append]
  omega
end Go.Th.Pure
namespace Go.Th.L
open Go Go.Th Go.Th.Pure
variable {P : Program} {N : Nat → Nat}

def ItoaJ (P : Program) (f : FuncId) (S0 : St) : Prop := ∀ {n : Int} {S : St} {K : Bs8 → St → Prop}, Grow S0 S → -999999999999999 ≤ n → n ≤ 999999999999999 → K (Lib.itoa n) S → CallA P f [.int .i64 n] S (retT [.one .str] K)

def LayOk (P : Program) (N : Nat → Nat) (T e : TypeId) (S0 : St) (n : Nat) : Prop := ∀ {S : St} {b B : Nat} {g : List Nat} {acc : Bs8} {v : JV} {lv nv : V} {K : St → Prop}, Grow S0 S → S0.next ≤ b → (∀ j ∈ g, S0.next ≤ j) → SbAt T e S b g acc → RV S B v lv nv → B ≤ b → (∀ j ∈ g, B ≤ j) →
  allJ form1 v = true → allJ small1 v = true → SizeOf.sizeOf v < n → acc.length + (layJ v).length ≤ 70368744177664 →
  (∀ S' g', SbAt T e S' b g' (acc ++ layJ v) → Upd (b :: g) S S' → (∀ j ∈ g', j ∈ g ∨ S.next ≤ j) → K S') → CallA P (N Fn.json_lay) [.ptr b 0, .agg (vcells v lv nv)] S (retT [] K)

theorem all_at {q : JV → Bool} {v : JV} (h : allJ q v = true) : q v = true ∧ ∀ w ∈ v.list, allJ q w = true := by
  rw [allJ_eq, Bool.and_eq_true, List.all_eq_true] at h
  exact h

theorem json_lay.ok (hF : json_lay.Ok P N) {T e : TypeId} {S0 : St} (hB : SbOk P T e (N Fn.strings_Builder_WriteByte) (N Fn.strings_Builder_WriteString) (N Fn.strings_Builder_String)) (hQ : QuoteOk P N T e) (hI : ItoaJ P (N Fn.strconv_Itoa) S0) (n : Nat) : LayOk P N T e S0 n := by
  induction n with
  | zero =>
    intro S b B g acc v lv nv K _ _ _ _ _ _ _ _ _ h
    exact absurd h (Nat.not_lt_zero _)
  | succ n ih =>
    intro S b B g acc v lv nv K h0 hb0 hg0 hs hv hbB hgB hf hsm hn hl hk
    have hw := h0.wf
    refine json_lay.run hF (newS_mk hw fun S1 r1 m1 n1 => ?_)
    have wS := WIn.start hw hs
    have w1 := wS.new_ r1 m1 wS.lt.1 wS.lt.2
    have hBS : B < S.next := Nat.lt_of_le_of_lt hbB wS.lt.1
    obtain ⟨es, hv⟩ := hv.at_
    obtain ⟨f1, ff⟩ := all_at hf
    obtain ⟨s1, sf⟩ := all_at hsm
    rw [form1_iff] at f1
    simp only [small1, Bool.and_eq_true] at s1
    have s1 : v.num ≤ 999999999999999 ∧ -999999999999999 ≤ v.num := ⟨of_decide_eq_true s1.1, of_decide_eq_true s1.2⟩
    rw [layJ_eq] at hl hk
    have grow0 : ∀ {S' : St}, Upd (b :: g) S S' → Grow S0 S' := fun u => h0.after u fun j hj => .inl (by
      rcases List.mem_cons.mp hj with rfl | hj
      · exact hb0
      · exact hg0 j hj)
    -- one write, and done
    have one : ∀ {S2 : St} {s : Bs8}, Grow S1 S2 → s ≠ [] → acc.length + s.length ≤ 70368744177664 → (∀ S' g', SbAt T e S' b g' (acc ++ s) → Upd (b :: g) S S' → (∀ j ∈ g', j ∈ g ∨ S.next ≤ j) → K S') → CallA P (N Fn.strings_Builder_WriteString) [.ptr b 0, .str s] S2 (retT [.one (.int .i64), .one .any] fun _ _ S' => K S') := by
      intro S2 s r2 hne hl hk
      have w2 : WIn T e S b g S2 g acc [] := ⟨w1.sb.upd r2 (by simp) (by simp), w1.u.trans (r2.mono (by simp)), w1.new, by simp⟩
      refine hB.writeString w2.u.wf w2.sb hne (by omega) fun S' g' k u t => ?_
      have w3 := w2.write k u t
      exact hk S' g' w3.sb w3.u w3.new
    refine ⟨v.sort, ld m1 rfl, ifC_dec (fun h => ?_) fun x1 => ifC_dec (fun h => ?_) fun x2 => ifC_dec (fun h => ?_) fun x3 => ifC_dec (fun h => ?_) fun x4 => ifC_dec (fun h => ?_) fun x5 => ?_⟩
    · rw [if_pos h] at hl hk
      exact one (Upd.refl r1.wf _) (by decide) hl hk
    · rw [if_neg x1, if_pos h] at hl hk
      exact one (Upd.refl r1.wf _) (by decide) hl hk
    · rw [if_neg x1, if_neg x2, if_pos h] at hl hk
      exact one (Upd.refl r1.wf _) (by decide) hl hk
    · rw [if_neg x1, if_neg x2, if_neg x3, if_pos h] at hl hk
      refine ⟨v.num, ld m1 rfl, hI (h0.trans r1) s1.2 s1.1 (one (Upd.refl r1.wf _) ?_ hl hk)⟩
      unfold Lib.itoa
      split
      · simp
      · intro e
        have h1 := dec_len v.num.toNat
        rw [e] at h1
        have h2 := Lib.nDigits_pos v.num.toNat
        simp at h1; omega
    · rw [if_neg x1, if_neg x2, if_neg x3, if_neg x4, if_pos h] at hl hk
      have := le_quote v.text
      refine ⟨v.text, ld m1 rfl, hQ r1.wf w1.sb (by omega) (by omega) fun S' g' k u t => ?_⟩
      have w3 := w1.write k u t
      exact hk S' g' w3.sb w3.u w3.new
    rw [if_neg x1, if_neg x2, if_neg x3, if_neg x4, if_neg x5] at hl hk
    have h67 : v.sort = 6 ∨ v.sort = 7 := by omega
    refine Join1.mid (fun x S' => S1 = S' ∧ x = [(if v.sort = 7 then 123 else 91 : UInt8), (if v.sort = 7 then 125 else 93 : UInt8)]) ?_ ?_
    · refine ⟨v.sort, ld m1 rfl, ifC_dec (fun h => ⟨rfl, ?_⟩) fun h => ⟨rfl, ?_⟩⟩
      · rw [if_pos h, if_pos h]
      · rw [if_neg h, if_neg h]
    rintro _ _ ⟨rfl, rfl⟩
    generalize hop : (if v.sort = 7 then 123 else 91 : UInt8) = op at *
    generalize hcl : (if v.sort = 7 then 125 else 93 : UInt8) = cl at *
    simp only [List.length_cons, List.length_append, List.length_nil] at hl
    refine ⟨_, idx_str (s := [op, cl]) (j := 0) (by simp), hB.writeByte r1.wf w1.sb (by omega) op fun S9 g9 k9 u9 t9 => ?_⟩
    have w9 := w1.write k9 u9 t9
    have hD : ∀ j ∈ b :: g, B ≤ j := fun j hj => by
      rcases List.mem_cons.mp hj with rfl | hj
      · exact hbB
      · exact hgB j hj
    have cellS : ∀ {S' g' acc' xs}, WIn T e S b g S' g' acc' ((S.next, .cells (vcells v lv nv) true) :: xs) → S'.get S.next = some (.cells (vcells v lv nv) true) := fun h => (h.keep (S.next, .cells (vcells v lv nv) true) (by simp)).1
    have w9 : WIn T e S b g S9 g9 (acc ++ [op]) [(S.next, .cells (vcells v lv nv) true)] := w9
    have v9 := hv.upd w9.u hD (Nat.le_refl _)
    refine ifS_mk (ld (cellS w9) rfl) ⟨_, v9.len, ?_⟩
    refine Loop1.ind (fun m x S' => ∃ (j : Nat) (g' : List Nat), x = j ∧ j ≤ v.list.length ∧ m = v.list.length - j ∧ WIn T e S b g S' g' (acc ++ (op :: laysJ (decide (v.sort = 7)) true (v.list.take j) v.names)) [(S.next, .cells (vcells v lv nv) true)]) v.list.length ⟨0, g9, rfl, Nat.zero_le _, rfl, by rw [List.take_zero, laysJ]; exact w9⟩ ?_
    rintro m _ S10 ⟨j, g10, rfl, hj, rfl, w10⟩
    have v10 := hv.upd w10.u hD (Nat.le_refl _)
    have hle := lays_le (decide (v.sort = 7)) v.list v.names j
    refine ifC_dec (fun hx => ?_) fun hx => ?_
    · have hj : j < v.list.length := by omega
      have hle1 := lays_le (decide (v.sort = 7)) v.list v.names (j + 1)
      have htk := lays_take (named := decide (v.sort = 7)) (ns := v.names) hj
      rw [htk, List.length_append] at hle1
      obtain ⟨lw, nw, ee, rr⟩ := v10.elt hj
      have oo : lw.one = true ∧ nw.one = true := by obtain ⟨es2, r2⟩ := rr.at_; exact r2.ones
      refine ifS_mk (v10.idx hj) ⟨_, _, _, _, _, ee, newS_mk w10.u.wf fun S11 r11 m11 n11 => st_mk r11.wf m11 (by simp [V.cells]) (by simp [V.cells]) (by simp only [V.cells, List.all_cons, List.all_nil, oo.1, oo.2]; rfl) fun S12 u12 m12 n12 => ?_⟩
      have g1012 : Grow S10 S12 := r11.after u12 fun i hi => .inl (by rw [List.mem_singleton.mp hi]; exact Nat.le_refl _)
      have w12 : WIn T e S b g S12 g10 (acc ++ (op :: laysJ (decide (v.sort = 7)) true (v.list.take j) v.names)) [(S10.next, .cells (vcells v.list[j] lw nw) true), (S.next, .cells (vcells v lv nv) true)] := w10.new_ g1012 m12 w10.lt.1 w10.lt.2
      have hA : (acc ++ (op :: laysJ (decide (v.sort = 7)) true (v.list.take j) v.names)).length = acc.length + 1 + (laysJ (decide (v.sort = 7)) true (v.list.take j) v.names).length := by
        rw [List.length_append, List.length_cons]; omega
      have hnext : acc ++ (op :: laysJ (decide (v.sort = 7)) true (v.list.take (j + 1)) v.names) = (acc ++ (op :: laysJ (decide (v.sort = 7)) true (v.list.take j) v.names)) ++ pieceJ (decide (v.sort = 7)) j v.list[j] v.names := by rw [htk]; simp
      generalize hA0 : acc ++ (op :: laysJ (decide (v.sort = 7)) true (v.list.take j) v.names) = A at *
      have hpl : A.length + (pieceJ (decide (v.sort = 7)) j v.list[j] v.names).length ≤ 70368744177664 := by omega
      unfold pieceJ at hpl hnext
      refine Join0.mid (fun S' => ∃ g', WIn T e S b g S' g' (A ++ (if j = 0 then [] else [44])) [(S10.next, .cells (vcells v.list[j] lw nw) true), (S.next, .cells (vcells v lv nv) true)]) ?_ ?_
      · refine ifC_dec (fun h => ?_) fun h => ?_
        · rw [if_neg (by omega)] at hpl ⊢
          simp only [List.length_append, List.length_cons] at hpl
          exact hB.writeByte w12.u.wf w12.sb (by omega) 44 fun S14 g14 k14 u14 t14 => ⟨g14, w12.write k14 u14 t14⟩
        · rw [if_pos (by omega)]
          exact ⟨g10, by simpa using w12⟩
      rintro S13 ⟨g13, w13⟩
      have hlB : ((if j = 0 then [] else [44] : Bs8)).length ≤ 1 := by split <;> simp
      have hA2 : (A ++ (if j = 0 then [] else [44])).length = A.length + ((if j = 0 then [] else [44] : Bs8)).length := List.length_append
      rw [List.length_append] at hpl
      have hnext2 : acc ++ (op :: laysJ (decide (v.sort = 7)) true (v.list.take (j + 1)) v.names) = (A ++ (if j = 0 then [] else [44])) ++ ((if (decide (v.sort = 7)) = true then quoteJ (v.names.getD j []) ++ [58] else []) ++ layJ v.list[j]) := by rw [hnext]; simp
      generalize (if j = 0 then [] else [44] : Bs8) = sep at *
      generalize A ++ sep = A2 at *
      refine Join0.mid (fun S' => ∃ g', WIn T e S b g S' g' (A2 ++ (if (decide (v.sort = 7)) = true then quoteJ (v.names.getD j []) ++ [58] else [])) [(S10.next, .cells (vcells v.list[j] lw nw) true), (S.next, .cells (vcells v lv nv) true)]) ?_ ?_
      · have c13 := (w13.keep (S.next, .cells (vcells v lv nv) true) (by simp)).1
        have v13 := hv.upd w13.u hD (Nat.le_refl _)
        refine ⟨v.sort, ld c13 rfl, ifC_dec (fun h => ?_) fun h => ?_⟩
        · have hjn : j < v.names.length := by have := f1.2.2.2.2.2.1 h; omega
          rw [if_pos (by simpa using h)] at hpl ⊢
          have hgd : v.names.getD j [] = v.names[j] := by simp [hjn]
          rw [hgd] at hpl ⊢
          simp only [List.length_append, List.length_cons, List.length_nil] at hpl
          have := le_quote v.names[j]
          refine ifS_mk (ld c13 rfl) (ifS_mk (v13.nidx hjn) ⟨_, v13.name hjn, hQ w13.u.wf w13.sb (by omega) (by omega) fun S16 g16 k16 u16 t16 => ?_⟩)
          have w16 := w13.write k16 u16 t16
          refine hB.writeByte w16.u.wf w16.sb (by rw [List.length_append]; omega) 58 fun S17 g17 k17 u17 t17 => ⟨g17, ?_⟩
          have := w16.write k17 u17 t17
          simpa using this
        · rw [if_neg (by simpa using h)]
          exact ⟨g13, by simpa using w13⟩
      rintro S15 ⟨g15, w15⟩
      have hnext3 : acc ++ (op :: laysJ (decide (v.sort = 7)) true (v.list.take (j + 1)) v.names) = (A2 ++ (if (decide (v.sort = 7)) = true then quoteJ (v.names.getD j []) ++ [58] else [])) ++ layJ v.list[j] := by rw [hnext2]; simp
      rw [List.length_append] at hpl
      generalize (if (decide (v.sort = 7)) = true then quoteJ (v.names.getD j []) ++ [58] else [] : Bs8) = nm at *
      have hm := List.getElem_mem hj
      have u15 := w15.u
      have n15 := w15.new
      refine ⟨_, _, _, _, _, ld5 (w15.keep (S10.next, .cells (vcells v.list[j] lw nw) true) (by simp)).1, ih (B := B) (grow0 u15) hb0 (fun i hi => ?_) w15.sb ?_ hbB (fun i hi => ?_) (ff _ hm) (sf _ hm) (by have := JV.list_lt hm; omega) (by rw [List.length_append]; omega) fun S18 g18 k18 u18 t18 => ?_⟩
      · rcases n15 i hi with h' | h'
        · exact hg0 i h'
        · have := h0.le; omega
      · have v15 := hv.upd w15.u hD (Nat.le_refl _)
        obtain ⟨lw2, nw2, ee2, rr2⟩ := v15.elt hj
        have hj2 : j < es.length := by rw [RVs.length hv.rs]; exact hj
        obtain ⟨lw3, nw3, e3, r3⟩ := RVs.get v15.rs hj hj2
        have e4 := v10.sl.getN (j := j) hj2 (by omega)
        rw [ee, e3] at e4
        simp only [vcells, Option.some.injEq, V.agg.injEq, List.cons.injEq, and_true, true_and] at e4
        rw [e4.1, e4.2]
        exact r3
      · rcases n15 i hi with h' | h'
        · exact hgB i h'
        · omega
      · have w18 := w15.write k18 u18 t18
        refine setI_mk (n := ((j + 1 : Nat) : Int)) (wrap_next hj hv.le) ⟨v.list.length - (j + 1), by omega, j + 1, g18, rfl, hj, rfl, ?_⟩
        rw [hnext3]
        exact w18.more fun p hp => by simp at hp ⊢; exact .inr hp
    · have hj : j = v.list.length := by omega
      subst hj
      rw [List.take_length] at w10
      refine ⟨_, idx_str (s := [op, cl]) (j := 1) (by simp), hB.writeByte w10.u.wf w10.sb (by rw [List.length_append, List.length_cons]; omega) cl fun S19 g19 k19 u19 t19 => ?_⟩
      have w19 := w10.write k19 u19 t19
      refine hk S19 g19 ?_ w19.u w19.new
      have := w19.sb
      simpa using this

end Go.Th.L
end

section
/- json: printing, and names looked up. -/
set_option linter.unusedSimpArgs false
set_option linter.unusedVariables false
set_option maxHeartbeats 1000000
namespace Go.Th.Pure
open Go
theorem check_zero {v : JV} (h : checkJ v = 0) : allJ form1 v = true ∧ deepJ v ≤ 8 ∧ allJ small1 v = true ∧ allJ few1 v = true ∧ allJ unlike1 v = true := by
  unfold checkJ at h
  split at h
  · cases h
  split at h
  · cases h
  split at h
  · cases h
  split at h
  · cases h
  split at h
  · cases h
  · rename_i h1 h2 h3 h4 h5
    exact ⟨by simpa using h1, by omega, by simpa using h3, by simpa using h4, by simpa using h5⟩
def getJ (v : JV) (name : Bs8) : Option JV := if v.sort = 7 then (v.names.findIdx? fun t => decide (t = name)).bind fun j => v.list[j]? else none
end Go.Th.Pure
namespace Go.Th.L
open Go Go.Th Go.Th.Pure
variable {P : Program} {N : Nat → Nat}

structure PrintF (P : Program) (N : Nat → Nat) : Prop where
  c : CheckF P N
  print : json_Print.Ok P N
  lay : json_lay.Ok P N
  quote : json_quote.Ok P N
  len : strings_Builder_Len.Ok P N
  sb : ∃ e, SbOk P (N Fn.ty_strings_Builder) e (N Fn.strings_Builder_WriteByte) (N Fn.strings_Builder_WriteString) (N Fn.strings_Builder_String)

def PrintsJ (P : Program) (f : FuncId) (S0 : St) : Prop := ∀ {S : St} {v : JV} {lv nv : V} {K : Bs8 → Int → St → Prop}, Grow S0 S → RV S S.next v lv nv → deepJ v ≤ 4611686018427387904 → 40 * partsJ v ≤ 70368744177664 → (∀ S', Grow S S' → K (printJ v).1 (printJ v).2 S') →
  CallA P f [.agg (vcells v lv nv)] S (retT [.one .str, .one (.int .i64)] K)

theorem json_Print.spec (hF : PrintF P N) {S0 : St} (hI : ItoaJ P (N Fn.strconv_Itoa) S0) : PrintsJ P (N Fn.json_Print) S0 := by
  intro S v lv nv K h0 hv hd hp hk
  obtain ⟨e, hB⟩ := hF.sb
  refine json_Print.run hF.print (newS_mk h0.wf fun S1 g1 m1 n1 => ⟨_, _, _, _, _, ld5 m1, json_Check.spec hF.c g1.wf (hv.grow g1 g1.le) hd fun S2 g2 => ?_⟩)
  have g02 := g1.trans g2
  have v2 := hv.grow g02 g02.le
  unfold printJ at hk
  refine ifC_ndec (fun hc => ?_) fun hc => ?_
  · rw [if_neg hc] at hk
    exact hk S2 g02
  rw [if_pos hc] at hk
  obtain ⟨c1, _, c2, _, _⟩ := check_zero hc
  refine newS_mk g2.wf fun S3 g3 m3 n3 => ?_
  have g03 := g02.trans g3
  have hll := lay_len v c2
  refine ⟨_, _, _, _, _, ld5 (g3.get (g2.get m1)), json_lay.ok hF.lay hB (json_quote.spec hF.quote hB) hI (SizeOf.sizeOf v + 1) (B := S2.next) (b := S2.next) (g := []) (acc := []) (h0.trans g03) (Nat.le_trans h0.le g02.le) (by simp) (SbAt.fresh m3) (v2.grow g3 (Nat.le_refl _)) (Nat.le_refl _) (by simp) c1 c2 (Nat.lt_succ_self _) (by simp; omega) fun S4 g' k4 u4 t4 => ?_⟩
  have g04 : Grow S S4 := g03.after u4 fun j hj => .inl (by simp only [List.mem_cons, List.not_mem_nil, or_false] at hj; rw [hj]; exact g02.le)
  rw [List.nil_append] at k4
  obtain ⟨x, l1, l2⟩ := k4.len
  refine strings_Builder_Len.run hF.len ⟨rfl, ifS_mk (a := .ptr S2.next 1) rfl (ifS_mk l1 ⟨_, l2, ?_⟩)⟩
  refine ifC_dec (fun h => ?_) fun h => ?_
  · rw [if_pos (by omega)] at hk
    exact hk S4 g04
  · rw [if_neg (by omega)] at hk
    refine hB.string u4.wf k4 fun S6 u6 => hk S6 (g04.after u6 fun j hj => .inl ?_)
    rcases List.mem_cons.mp hj with rfl | hj
    · exact g02.le
    · rcases t4 j hj with h' | h'
      · cases h'
      · have := g03.le; omega

def GetsJ (P : Program) (f : FuncId) : Prop := ∀ {S : St} {v : JV} {lv nv : V} {name : Bs8} {K : Int → Int → Bs8 → V → V → Bool → St → Prop}, S.Wf → RV S S.next v lv nv → (getJ v name = none → ∀ S', Grow S S' → K 0 0 [] .nilSlice .nilSlice false S') →
  (∀ w lw nw S', getJ v name = some w → Grow S S' → RV S' S'.next w lw nw → K w.sort w.num w.text lw nw true S') → CallA P f [.agg (vcells v lv nv), .str name] S (retT [.agg [.int .i64, .int .i64, .str, .any, .any], .one .bool] K)

theorem findIdx_none {l : List Bs8} {name : Bs8} (h : ∀ k (hk : k < l.length), l[k] ≠ name) : l.findIdx? (fun t => decide (t = name)) = none := by
  rw [List.findIdx?_eq_none_iff]
  intro t ht
  obtain ⟨k, hk, rfl⟩ := List.getElem_of_mem ht
  simpa using h k hk
theorem findIdx_some {l : List Bs8} {name : Bs8} {j : Nat} (hj : j < l.length) (h : ∀ k (hk : k < j), l[k]'(by omega) ≠ name) (he : l[j] = name) : l.findIdx? (fun t => decide (t = name)) = some j := by
  rw [List.findIdx?_eq_some_iff_getElem]
  exact ⟨hj, by simpa using he, fun k hk => by simpa using h k hk⟩

theorem slices_Index_Lstring.spec (hF : slices_Index_Lstring.Ok P N) {S : St} (hw : S.Wf) {nv : V} {ns : List Bs8} {name : Bs8} (h : SlAt S 1 nv ns.length (ns.map V.str)) {K : Int → St → Prop}
    (hk : K (match ns.findIdx? fun t => decide (t = name) with
      | some j => ((j : Nat) : Int)
      | none => -1) S) : CallA P (N Fn.slices_Index_Lstring) [nv, .str name] S (retT [.one (.int .i64)] K) := by
  have hle := h.le
  refine slices_Index_Lstring.run hF ⟨_, h.len, Loop1.ind (fun m x S' => S = S' ∧ ∃ j : Nat, x = j ∧ j ≤ ns.length ∧ m = ns.length - j ∧ ∀ k (hk : k < j) (hk2 : k < ns.length), ns[k] ≠ name) ns.length ⟨rfl, 0, rfl, Nat.zero_le _, rfl, fun k hk => absurd hk (Nat.not_lt_zero _)⟩ ?_⟩
  rintro m _ _ ⟨rfl, j, rfl, hj, rfl, hne⟩
  refine ifC_dec (fun hx => ?_) fun hx => ?_
  · have hj : j < ns.length := by omega
    refine ifS_mk (h.idx hj) ⟨ns[j], by rw [h.load hj (by omega)]; simp [hj], ifC_dec (fun he => ?_) fun he => ?_⟩
    · rw [findIdx_some hj (fun k hk => hne k hk (by omega)) he.symm] at hk
      exact hk
    · refine setI_mk (n := ((j + 1 : Nat) : Int)) (wrap_next hj hle) ⟨ns.length - (j + 1), by omega, rfl, j + 1, rfl, hj, rfl, fun k hk hk2 => ?_⟩
      by_cases hkj : k = j
      · subst hkj; exact fun e => he e.symm
      · exact hne k (by omega) hk2
  · rw [findIdx_none fun k hk => hne k (by omega) hk] at hk
    exact hk

theorem json_Get.spec (hF : json_Get.Ok P N) (hX : slices_Index_Lstring.Ok P N) : GetsJ P (N Fn.json_Get) := by
  intro S v lv nv name K hw hv h0 h1
  obtain ⟨es, hv⟩ := hv.at_
  refine json_Get.run hF (newS_mk hw fun S1 g1 m1 n1 => newS_mk g1.wf fun S2 g2 m2 n2 => ?_)
  have g02 := g1.trans g2
  have v2 := hv.grow g02 g02.le
  have p2 := g2.get m1
  refine ifS_mk (ld p2 rfl) (slices_Index_Lstring.spec hX g2.wf v2.nm ?_)
  have up : ∀ {S'}, Upd [S1.next] S2 S' → Grow S S' := fun u => g02.after u fun j hj => .inl (by rw [List.mem_singleton.mp hj]; exact g1.le)
  refine Join1.mid (fun x S' => S2 = S' ∧ (x = true → getJ v name = none) ∧ (x = false → ∃ j : Nat, (v.names.findIdx? fun t => decide (t = name)) = some j ∧ j < v.list.length ∧ v.sort = 7)) ?_ ?_
  · refine ⟨v.sort, ld p2 rfl, ifC_ndec (fun h => ⟨rfl, fun _ => by unfold getJ; rw [if_neg h], fun h => by cases h⟩) fun h => ?_⟩
    cases hi : v.names.findIdx? (fun t => decide (t = name)) with
    | none => exact ifC_tt rfl ⟨rfl, fun _ => by unfold getJ; rw [if_pos h, hi]; rfl, fun h => by cases h⟩
    | some j =>
      refine ifC_ff (by rw [decide_eq_false_iff_not]; simp only; omega) (ifS_mk (ld p2 rfl) ⟨_, v2.len, rfl, fun hx => ?_, fun hx => ⟨j, rfl, ?_, h⟩⟩)
      · unfold getJ
        rw [if_pos h, hi, Option.bind_some]
        have hx := of_decide_eq_true hx
        exact List.getElem?_eq_none (by simp only at hx; omega)
      · have hx := of_decide_eq_false hx
        simp only at hx; omega
  rintro x _ ⟨rfl, hx1, hx0⟩
  refine ifC_tt_ff (fun hx => ?_) fun hx => ?_
  · exact fin_mk g2.wf m2 rfl rfl fun S' u => h0 (hx1 hx) S' (up u)
  · obtain ⟨j, hi, hj, hs⟩ := hx0 hx
    have hg : getJ v name = some v.list[j] := by
      unfold getJ
      rw [if_pos hs, hi, Option.bind_some, List.getElem?_eq_getElem hj]
    rw [hi]
    obtain ⟨lw, nw, e, r⟩ := v2.elt hj
    have o : lw.one = true ∧ nw.one = true := by obtain ⟨es2, r2⟩ := r.at_; exact r2.ones
    refine ifS_mk (ld p2 rfl) (ifS_mk (v2.idx hj) ⟨_, _, _, _, _, e, fin_mk g2.wf m2 o.1 o.2 fun S' u => ?_⟩)
    have v' := hv.grow (up u) (up u).le
    obtain ⟨lw2, nw2, e2, r2⟩ := v'.elt hj
    have hjs : j < es.length := by rw [RVs.length hv.rs]; exact hj
    have e3 := v2.sl.getN (j := j) hjs (by omega)
    have e4 := v'.sl.getN (j := j) hjs (by omega)
    rw [e] at e3
    rw [e2, ← e3] at e4
    simp only [vcells, Option.some.injEq, V.agg.injEq, List.cons.injEq, and_true, true_and] at e4
    rw [e4.1, e4.2] at r2
    exact h1 _ lw nw S' hg (up u) r2

end Go.Th.L
end

section
/- json's laws: the document's examples. -/
set_option linter.unusedSimpArgs false
set_option linter.unusedVariables false
set_option maxHeartbeats 1000000
namespace Go.Th.L
open Go Go.Th Go.Th.Pure
variable {P : Program} {N : Nat → Nat}

theorem parse_a : parseJ [32, 123, 32, 34, 97, 34, 32, 58, 32, 91, 32, 49, 32, 44, 32, 45, 50, 32, 93, 32, 125, 32] = (.mk 7 0 [] [.mk 6 0 [] [.mk 4 1 [] [] [], .mk 4 (-2) [] [] []] []] [[97]], 0) := by rfl
theorem parse_b : parseJ [48, 49] = (jnil, 200) := by rfl
theorem parse_c : parseJ [91, 91, 91, 91, 91, 91, 91, 91, 91, 93, 93, 93, 93, 93, 93, 93, 93, 93] = (jnil, 201) := by rfl
theorem itoa_1 : Lib.itoa 1 = [49] := by
  unfold Lib.itoa
  rw [if_neg (by decide), Lib.decDigits, dif_pos (by decide)]
  rfl
theorem itoa_2 : Lib.itoa (-2) = [45, 50] := by
  unfold Lib.itoa
  rw [if_pos (by decide), Lib.decDigits, dif_pos (by decide)]
  rfl
theorem print_a : printJ (.mk 7 0 [] [.mk 6 0 [] [.mk 4 1 [] [] [], .mk 4 (-2) [] [] []] []] [[97]]) = ([123, 34, 97, 34, 58, 91, 49, 44, 45, 50, 93, 125], 0) := by
  have e : layJ (.mk 7 0 [] [.mk 6 0 [] [.mk 4 1 [] [] [], .mk 4 (-2) [] [] []] []] [[97]]) = [123, 34, 97, 34, 58, 91] ++ (Lib.itoa 1 ++ ([44] ++ (Lib.itoa (-2) ++ [93, 125]))) := by simp [layJ, laysJ, quoteJ, quoteB]
  unfold printJ
  rw [e, itoa_1, itoa_2]
  rfl
theorem print_b : printJ (.mk 5 0 [10, 34, 255] [] []) = ([34, 92, 117, 48, 48, 48, 97, 92, 34, 92, 117, 48, 48, 102, 102, 34], 0) := by rfl

theorem ParsesJ.at_ {f : FuncId} {gs : List Nat} (h : ParsesJ P f gs) {S : St} {s : Bs8} {K : Int → Int → Bs8 → V → V → Int → St → Prop} (hw : S.Wf) (hG : GV gs S) {v : JV} {c : Int} (e : parseJ s = (v, c))
    (hk : ∀ lv nv F S', Grow S S' → VAt S' S.next v lv nv F → K v.sort v.num v.text lv nv c S') : CallA P f [.str s] S (retT [.agg [.int .i64, .int .i64, .str, .any, .any], .one (.int .i64)] K) :=
  h hw hG fun lv nv F S' g hv => by rw [e] at hv ⊢; exact hk lv nv F S' g hv
theorem VAt.rv' {S : St} (hw : S.Wf) {b : Nat} {v : JV} {lv nv : V} {F : List Nat} (h : VAt S b v lv nv F) : RV S S.next v lv nv := VAt.rv v h fun j hj => by obtain ⟨_, _, h⟩ := VAt.own v h j hj; exact hw.lt h
theorem RV.ones {S : St} {B : Nat} {v : JV} {lv nv : V} (h : RV S B v lv nv) : lv.one = true ∧ nv.one = true := by obtain ⟨es, h⟩ := h.at_; exact h.ones
theorem RV.nil (S : St) (B : Nat) (so n : Int) (t : Bs8) : RV S B (.mk so n t [] []) .nilSlice .nilSlice := by
  simp only [RV]
  exact ⟨[], ⟨⟨by decide, by simp, .inl ⟨rfl, rfl⟩⟩, by simp⟩, by simp only [RVs], ⟨by simp, by simp, .inl ⟨rfl, rfl⟩⟩, by simp, by simp⟩

theorem copy_mk {S : St} (hw : S.Wf) {v : JV} {lv nv : V} (h1 : lv.one = true) (h2 : nv.one = true) {K : St → Prop} (hk : ∀ S', Grow S S' → S'.get S.next = some (.cells (vcells v lv nv) true) → K S') :
    newS S (.cells [(V.int .i64 0), (V.int .i64 0), (V.str ([] : List UInt8)), V.nilSlice, V.nilSlice] true) fun S2 => ifS (storeV S2 5 (V.ptr S.next 0) (V.agg [(V.int .i64 v.sort), (V.int .i64 v.num), (V.str v.text), lv, nv])) K :=
  newS_mk hw fun S1 g1 m1 n1 => st_mk g1.wf m1 (by simp [V.cells]) (by simp [V.cells]) (by simp only [V.cells, List.all_cons, List.all_nil, h1, h2]; rfl) fun S2 u2 m2 n2 => hk S2 (g1.after u2 fun j hj => .inl (by rw [List.mem_singleton.mp hj]; exact Nat.le_refl _)) m2

structure Awake20F (P : Program) (N : Nat → Nat) (gs : List Nat) (S0 : St) : Prop where
  parse : ParsesJ P (N Fn.json_Parse) gs
  print : PrintsJ P (N Fn.json_Print) S0
  get : GetsJ P (N Fn.json_Get)
  awake : law20_awake.Ok P N

theorem law20_awake.spec {gs : List Nat} {S0 : St} (hF : Awake20F P N gs S0) {S : St} (h0 : Grow S0 S) (hG : GV gs S) {K : Bool → St → Prop} (hk : ∀ S', Grow S S' → K true S') : CallA P (N Fn.law20_awake) [] S (retT [.one .bool] K) := by
  refine law20_awake.run hF.awake (ParsesJ.at_ hF.parse h0.wf hG parse_a fun lv nv F S1 g1 v1 => ?_)
  have o1 := v1.ones
  refine copy_mk g1.wf o1.1 o1.2 fun S3 g3 m3 => ?_
  have g03 := g1.trans g3
  have v3 := (v1.grow g3).rv' g3.wf
  refine ⟨_, _, _, _, _, ld5 m3, hF.print (h0.trans g03) v3 (by decide) (by decide) fun S4 g4 => ?_⟩
  rw [print_a]
  have g04 := g03.trans g4
  refine ParsesJ.at_ hF.parse g4.wf (hG.upd g04 (by simp)) parse_b fun lv2 nv2 F2 S5 g5 v5 => copy_mk g5.wf v5.ones.1 v5.ones.2 fun S7 g7 m7 => ?_
  have g07 := (g04.trans g5).trans g7
  refine ParsesJ.at_ hF.parse g7.wf (hG.upd g07 (by simp)) parse_c fun lv3 nv3 F3 S8 g8 v8 => copy_mk g8.wf v8.ones.1 v8.ones.2 fun S10 g10 m10 => ?_
  have g010 := (g07.trans g8).trans g10
  refine hF.print (v := .mk 5 0 [10, 34, 255] [] []) (h0.trans g010) (RV.nil _ _ _ _ _) (by decide) (by decide) fun S11 g11 => ?_
  rw [print_b]
  have g311 := ((((g4.trans g5).trans g7).trans g8).trans g10).trans g11
  have g011 := g03.trans g311
  refine ⟨_, _, _, _, _, ld5 (Grow.get g311 m3), hF.get (name := [97]) g11.wf (v3.grow g311 g311.le) (fun e => by cases e) fun w lw nw S12 e g12 r12 => ?_⟩
  obtain rfl : w = .mk 6 0 [] [.mk 4 1 [] [] [], .mk 4 (-2) [] [] []] [] := by
    have : getJ (.mk 7 0 [] [.mk 6 0 [] [.mk 4 1 [] [] [], .mk 4 (-2) [] [] []] []] [[97]]) [97] = some (.mk 6 0 [] [.mk 4 1 [] [] [], .mk 4 (-2) [] [] []] []) := by rfl
    rw [this] at e
    exact (Option.some.inj e).symm
  refine copy_mk g12.wf r12.ones.1 r12.ones.2 fun S14 g14 m14 => ?_
  have r14 := r12.grow g14 g14.le
  obtain ⟨es, r14⟩ := r14.at_
  refine ifC_tt rfl (ifC_tt rfl (ifC_tt rfl (ifC_tt rfl (ifC_tt rfl (ifC_tt rfl (ifC_tt rfl (ifC_tt rfl (ifS_mk (ld m14 rfl) ⟨_, r14.len, ?_⟩))))))))
  exact hk S14 ((g011.trans g12).trans g14)

end Go.Th.L
end

section
/- json's laws: texts parsed. -/
set_option linter.unusedSimpArgs false
set_option linter.unusedVariables false
set_option maxHeartbeats 1000000
namespace Go.Th.L
open Go Go.Th Go.Th.Pure
variable {P : Program} {N : Nat → Nat}

end Go.Th.L
end

section
/- json: a value that comes in as an argument. -/
set_option linter.unusedSimpArgs false
set_option linter.unusedVariables false
set_option maxHeartbeats 1000000
namespace Go.Th.Pure
open Go
def fits1 (v : JV) : Bool := decide (v.text.length ≤ 140737488355328) && v.names.all fun t => decide (t.length ≤ 140737488355328)
end Go.Th.Pure
namespace Go.Th.L
open Go Go.Th Go.Th.Pure

structure ValTy (P : Program) (t ts : TypeId) : Prop where
  one : ∃ q, shOfR P 1 t = some (.agg (.cons 1 Sh.stop q))
  step : ∀ g, shOfR P (g + 2) t = obind (shOfR P g t) fun s => obind (shOfR P g ts) fun u => some (.agg (.cons 1 (.int .i64) (.cons 1 (.int .i64) (.cons 1 .str (.cons 1 (.slice 5 80 s) (.cons 1 (.slice 1 16 u) .nil))))))
  str : ∀ g, shOfR P (g + 1) ts = some .str

theorem RVs.of_all {S : St} {B : Nat} : ∀ (n : Nat) (es : List V), es.length = n * 5 → (∀ m, m < n → ∃ v lv nv, (es.drop (m * 5)).take 5 = vcells v lv nv ∧ RV S B v lv nv ∧ allJ fits1 v = true) → ∃ (l : List JV) (fs : List (List V)), l.length = n ∧ fs.flatten = es ∧ (∀ e ∈ fs, e.length = 5) ∧ fs.length = n ∧ RVs S B l fs ∧ allsJ fits1 l = true
  | 0, es, hl, h => by
    have : es = [] := List.length_eq_zero_iff.mp (by omega)
    subst this
    exact ⟨[], [], rfl, rfl, by simp, rfl, by simp only [RVs], by rw [allsJ]⟩
  | n + 1, es, hl, h => by
    obtain ⟨v, lv, nv, e0, r0, f0⟩ := h 0 (by omega)
    obtain ⟨l, fs, h1, h2, h3, h4, h5, h6⟩ := RVs.of_all n (es.drop 5) (by rw [List.length_drop]; omega) (fun m hm => by
      obtain ⟨v, lv, nv, e, r, f⟩ := h (m + 1) (by omega)
      refine ⟨v, lv, nv, ?_, r, f⟩
      rw [List.drop_drop, show 5 + m * 5 = (m + 1) * 5 by omega]
      exact e)
    rw [Nat.zero_mul, List.drop_zero] at e0
    refine ⟨v :: l, vcells v lv nv :: fs, by simp [h1], ?_, ?_, by simp [h4], ?_, ?_⟩
    · rw [List.flatten_cons, h2, ← e0, List.take_append_drop]
    · intro e he
      rcases List.mem_cons.mp he with rfl | he
      · rfl
      · exact h3 e he
    · simp only [RVs]
      exact ⟨lv, nv, fs, rfl, r0, h5⟩
    · rw [allsJ, f0, h6]; rfl

theorem names_of {S : St} : ∀ (n : Nat) (es : List V), es.length = n * 1 → (∀ m, m < n → Has S .str ((es.drop (m * 1)).take 1)) → ∃ ns : List Bs8, ns.length = n ∧ es = ns.map V.str ∧ ns.all (fun t => decide (t.length ≤ 140737488355328)) = true
  | 0, es, hl, h => ⟨[], rfl, List.length_eq_zero_iff.mp (by omega), rfl⟩
  | n + 1, es, hl, h => by
    have h0 := h 0 (by omega)
    simp only [Has, Nat.zero_mul, List.drop_zero] at h0
    obtain ⟨s, e0, hs⟩ := h0
    obtain ⟨ns, h1, h2, h3⟩ := names_of n (es.drop 1) (by rw [List.length_drop]; omega) (fun m hm => by
      have := h (m + 1) (by omega)
      rw [List.drop_drop, show 1 + m * 1 = (m + 1) * 1 by omega]
      exact this)
    refine ⟨s :: ns, by simp [h1], ?_, ?_⟩
    · rw [List.map_cons, ← h2]
      have := (List.take_append_drop 1 es).symm
      rw [e0] at this
      exact this
    · have : reachBytes = 140737488351232 := rfl
      rw [List.all_cons, h3, Bool.and_true, decide_eq_true_eq]
      omega

theorem val_read {P : Program} {t ts : TypeId} (hT : ValTy P t ts) {S : St} (hw : S.Wf) (g : Nat) : ∀ {sh : Sh} {cs : List V}, shOfR P g t = some sh → Has S sh cs → ∃ v lv nv, cs = vcells v lv nv ∧ RV S S.next v lv nv ∧ allJ fits1 v = true := by
  induction g using Nat.strongRecOn with
  | _ g ih =>
  intro sh cs hs h
  match g, ih, hs with
  | 0, ih, hs =>
    simp only [shOfR, Option.some.injEq] at hs
    subst hs
    exact absurd h not_stop
  | 1, ih, hs =>
    obtain ⟨q, hq⟩ := hT.one
    rw [hq] at hs
    cases hs
    simp only [Has, HasF] at h
    exact absurd h.1 not_stop
  | g + 2, ih, hs =>
    rw [hT.step] at hs
    obtain ⟨s, hs1, hs⟩ := obind_some hs
    obtain ⟨u, hs2, hs⟩ := obind_some hs
    cases hs
    simp only [Has, HasF] at h
    obtain ⟨⟨so, h1, _⟩, ⟨n, h2, _⟩, ⟨tx, h3, htx⟩, ⟨lv, k, es, h4, hsl, _, hel⟩, ⟨nv, k2, ns0, h5, hnl, _, hne⟩, h6⟩ := h
    have hcs : cs = [.int .i64 so, .int .i64 n, .str tx, lv, nv] := by
      have a0 := (List.take_append_drop 1 cs).symm
      have a1 := (List.take_append_drop 1 (cs.drop 1)).symm
      have a2 := (List.take_append_drop 1 ((cs.drop 1).drop 1)).symm
      have a3 := (List.take_append_drop 1 (((cs.drop 1).drop 1).drop 1)).symm
      have a4 := (List.take_append_drop 1 ((((cs.drop 1).drop 1).drop 1).drop 1)).symm
      rw [h5, h6] at a4
      rw [h4, a4] at a3
      rw [h3, a3] at a2
      rw [h2, a2] at a1
      rw [h1, a1] at a0
      exact a0
    obtain ⟨l, fs, l1, l2, l3, l4, l5, l6⟩ := RVs.of_all (S := S) (B := S.next) k es hsl.2.1 (fun m hm => ih g (by omega) hs1 (hel m hm))
    obtain ⟨ns, n1, n2, n3⟩ : ∃ ns : List Bs8, ns.length = k2 ∧ ns0 = ns.map V.str ∧ ns.all (fun t => decide (t.length ≤ 140737488355328)) = true := by
      rcases Nat.eq_zero_or_pos k2 with hz | hz
      · subst hz
        exact ⟨[], rfl, List.length_eq_zero_iff.mp (by have := hnl.2.1; omega), rfl⟩
      · have hu : u = .str := by
          cases g with
          | zero =>
            simp only [shOfR, Option.some.injEq] at hs2
            subst hs2
            exact absurd (hne 0 hz) not_stop
          | succ g =>
            rw [hT.str] at hs2
            cases hs2; rfl
        subst hu
        exact names_of k2 ns0 hnl.2.1 hne
    have hsl' : SlAt S 5 lv k fs.flatten := by rw [l2]; exact hsl
    refine ⟨.mk so n tx l ns, lv, nv, hcs, ?_, ?_⟩
    · simp only [RV]
      refine ⟨fs, ⟨by rw [l4]; exact hsl', l3⟩, l5, by rw [n1, ← n2]; exact hnl, fun hl => ?_, fun hl => ?_⟩
      · have : 0 < k := by rw [← l1]; exact List.length_pos_iff.mpr hl
        exact hsl.block_lt hw (by omega)
      · have : 0 < k2 := by rw [← n1]; exact List.length_pos_iff.mpr hl
        exact hnl.block_lt hw (by omega)
    · rw [allJ, l6, Bool.and_true]
      show (decide (tx.length ≤ 140737488355328) && ns.all fun t => decide (t.length ≤ 140737488355328)) = true
      rw [n3, Bool.and_true, decide_eq_true_eq]
      have : reachBytes = 140737488351232 := rfl
      omega

theorem val_arg {P : Program} {t ts : TypeId} (hT : ValTy P t ts) {S : St} (hw : S.Wf) {g : Nat} {sh : Sh} {a : V} (hs : shOfR P g t = some sh) (h : HasA S sh a) : ∃ v lv nv, a = .agg (vcells v lv nv) ∧ RV S S.next v lv nv ∧ allJ fits1 v = true := by
  have ha : ∃ fs, sh = .agg fs := by
    match g, hs with
    | 0, hs => simp only [shOfR, Option.some.injEq] at hs; exact ⟨_, hs.symm⟩
    | 1, hs =>
      obtain ⟨q, hq⟩ := hT.one
      rw [hq] at hs
      cases hs
      exact ⟨_, rfl⟩
    | g + 2, hs =>
      rw [hT.step] at hs
      obtain ⟨s, hs1, hs⟩ := obind_some hs
      obtain ⟨u, hs2, hs⟩ := obind_some hs
      cases hs
      exact ⟨_, rfl⟩
  obtain ⟨fs, rfl⟩ := ha
  obtain ⟨cs, rfl, h⟩ := h
  obtain ⟨v, lv, nv, rfl, r⟩ := val_read hT hw g hs (by simpa only [Has] using h)
  exact ⟨v, lv, nv, rfl, r⟩

end Go.Th.L
end

section
/- json: the values' type. -/
set_option linter.unusedSimpArgs false
set_option linter.unusedVariables false
namespace Go.Th.L
open Go Go.Th Go.Th.Pure

theorem ValTy.of {P : Program} {t tso ti ts tl tn : TypeId} {fs : Array Field} (hu : P.underlying t = some (.struct fs))
    (hf : ∀ f : TypeId → Option Sh, fsOf P f (P.cellsOf t) 0 fs.toList = obind (f tso) fun a => obind (obind (f ti) fun b => obind (obind (f ts) fun c => obind (obind (f tl) fun d => obind (obind (f tn) fun e => obind (some .nil) fun q => some (.cons 1 e q)) fun q => some (.cons 1 d q)) fun q => some (.cons 1 c q)) fun q => some (.cons 1 b q)) fun q => some (.cons 1 a q))
    (h1 : P.underlying tso = some (.int .i64)) (h2 : P.underlying ti = some (.int .i64)) (h3 : P.underlying ts = some .string) (h4 : P.underlying tl = some (.slice t)) (h5 : P.underlying tn = some (.slice ts)) (c1 : P.cellsOf t = 5) (c2 : P.bytesOf t = 80) (c3 : P.cellsOf ts = 1) (c4 : P.bytesOf ts = 16) : ValTy P t ts := by
  refine ⟨⟨.cons 1 Sh.stop (.cons 1 Sh.stop (.cons 1 Sh.stop (.cons 1 Sh.stop .nil))), ?_⟩, fun g => ?_, fun g => by simp only [shOfR, h3]⟩
  · simp only [shOfR, hu, hf]
    rfl
  · have e1 : shOfR P (g + 1) tso = some (.int .i64) := by simp only [shOfR, h1]
    have e2 : shOfR P (g + 1) ti = some (.int .i64) := by simp only [shOfR, h2]
    have e3 : shOfR P (g + 1) ts = some .str := by simp only [shOfR, h3]
    have e4 : shOfR P (g + 1) tl = obind (shOfR P g t) fun s => some (.slice 5 80 s) := by
      simp only [shOfR, h4, c1, c2]; rfl
    have e5 : shOfR P (g + 1) tn = obind (shOfR P g ts) fun s => some (.slice 1 16 s) := by
      simp only [shOfR, h5, c3, c4]; rfl
    have e0 : shOfR P (g + 2) t = obind (fsOf P (shOfR P (g + 1)) (P.cellsOf t) 0 fs.toList) fun q => some (.agg q) := by
      rw [show g + 2 = (g + 1) + 1 from rfl]
      simp only [shOfR, hu]
    rw [e0, hf, e1, e2, e3, e4, e5]
    cases shOfR P g t <;> cases shOfR P g ts <;> rfl
theorem ValTy.isSome {P : Program} {t ts : TypeId} (h : ValTy P t ts) : ∀ g, (shOfR P g t).isSome = true ∧ (shOfR P g ts).isSome = true := by
  have hs : ∀ g, (shOfR P g ts).isSome = true := by
    intro g
    cases g with
    | zero => rfl
    | succ g => rw [h.str]; rfl
  intro g
  refine ⟨?_, hs g⟩
  induction g using Nat.strongRecOn with
  | _ g ih =>
    match g, ih with
    | 0, ih => rfl
    | 1, ih => obtain ⟨q, hq⟩ := h.one; rw [hq]; rfl
    | g + 2, ih =>
      rw [h.step]
      have a := ih g (by omega)
      have b := hs g
      obtain ⟨x, hx⟩ := Option.isSome_iff_exists.mp a
      obtain ⟨y, hy⟩ := Option.isSome_iff_exists.mp b
      rw [hx, hy]; rfl
theorem ValTy.args {P : Program} {t ts : TypeId} (h : ValTy P t ts) : ∀ u ∈ [t, ts], ∀ g, (shOfR P g u).isSome = true := by
  intro u hu g
  simp only [List.mem_cons, List.not_mem_nil, or_false] at hu
  rcases hu with rfl | rfl
  · exact (h.isSome g).1
  · exact (h.isSome g).2
theorem ValTy.two {P : Program} {t ts : TypeId} (h : ValTy P t ts) {S : St} (hw : S.Wf) {av : List V} (ha : HasAsR P S [t, ts] av) : ∃ v lv nv s, av = [.agg (vcells v lv nv), .str s] ∧ RV S S.next v lv nv ∧ allJ fits1 v = true := by
  simp only [HasAsR] at ha
  obtain ⟨a, _, g, sh, rfl, hs, h1, b, _, g2, sh2, rfl, hs2, h2, rfl⟩ := ha
  obtain ⟨v, lv, nv, rfl, r, f⟩ := val_arg h hw hs h1
  cases g2 with
  | zero =>
    simp only [shOfR, Option.some.injEq] at hs2
    subst hs2
    obtain ⟨cs, _, h2⟩ := h2
    exact absurd (by unfold Sh.stop; simp only [Has]; exact h2) (not_stop (S := S) (cs := cs))
  | succ g2 =>
    rw [h.str] at hs2
    cases hs2
    obtain ⟨s, e, _⟩ := (by simpa only [HasA, Has] using h2 : ∃ s : List UInt8, [b] = [.str s] ∧ s.length ≤ reachBytes)
    cases e
    exact ⟨v, lv, nv, s, rfl, r, f⟩

end Go.Th.L
end

section
/- json, plainly: blanks around a value; two values as a list. -/
set_option linter.unusedSimpArgs false
set_option linter.unusedVariables false
namespace Go.Th.Pure
open Go

theorem parseJ_ok {s : Bs8} {v : JV} (h : parseJ s = (v, 0)) : s.length ≤ 16384 ∧ ∃ r, pvJ (blanksJ s) = some (v, r) ∧ blanksJ r = [] ∧ checkJ v = 0 := by
  unfold parseJ at h
  split at h
  · simp at h
  rename_i hl
  split at h
  · simp at h
  rename_i u r e
  split at h
  · rename_i hb
    split at h
    · rename_i hc
      simp only [Prod.mk.injEq, and_true] at h
      subst h
      exact ⟨by omega, r, e, hb, hc⟩
    · rename_i hc
      simp only [Prod.mk.injEq] at h
      exact absurd h.2 hc
  · simp at h
theorem parseJ_of {s r : Bs8} {v : JV} (e : pvJ (blanksJ s) = some (v, r)) (hb : blanksJ r = []) : parseJ s = if 16384 < s.length then (jnil, 2) else if checkJ v = 0 then (v, 0) else (jnil, checkJ v) := by
  unfold parseJ
  split
  · rfl
  · rw [e]
    simp only
    rw [if_pos hb]
end Go.Th.Pure
end

section
/- json, plainly: what is printed is parsed as itself. -/
set_option linter.unusedSimpArgs false
set_option linter.unusedVariables false
namespace Go.Th.Pure
open Go

theorem comes_self : ∀ (w t : Bs8), comesJ w (w ++ t) = some t
  | [], t => rfl
  | b :: w, t => by simp [comesJ, comes_self w t]
theorem hex_hexD {k : Nat} (h : k < 16) : hexJ (hexD.getD k 0) = some k := by
  rcases (by omega : k = 0 ∨ k = 1 ∨ k = 2 ∨ k = 3 ∨ k = 4 ∨ k = 5 ∨ k = 6 ∨ k = 7 ∨ k = 8 ∨ k = 9 ∨ k = 10 ∨ k = 11 ∨ k = 12 ∨ k = 13 ∨ k = 14 ∨ k = 15) with rfl | rfl | rfl | rfl | rfl | rfl | rfl | rfl | rfl | rfl | rfl | rfl | rfl | rfl | rfl | rfl <;> rfl
theorem char_quote (c : UInt8) (u : Bs8) : charJ (quoteB c ++ u) = some (c, u) := by
  unfold quoteB
  split
  · rename_i h
    have : escJ (c :: u) = some (c, u) := by
      simp only [escJ]
      exact if_pos (by rcases h with h | h <;> simp [h])
    simp only [List.cons_append, List.nil_append, charJ, if_true]
    exact this
  · rename_i h
    split
    · rename_i h2
      have h92 : c ≠ 92 := fun e => h (.inr e)
      simp only [List.cons_append, List.nil_append, charJ]
      rw [if_neg h92, if_pos h2]
    · have hc := c.toNat_lt
      simp only [List.cons_append, List.nil_append, charJ, if_true, escJ]
      simp only [comesJ, if_true, Option.bind_some, digitJ]
      rw [hex_hexD (by omega : c.toNat / 16 < 16), Option.map_some, Option.bind_some]
      simp only
      rw [hex_hexD (by omega : c.toNat % 16 < 16), Option.map_some, Option.map_some]
      have : 16 * (c.toNat / 16) + c.toNat % 16 = c.toNat := by omega
      rw [this, UInt8.ofNat_toNat, if_neg (by decide), if_neg (by decide), if_neg (by decide)]
theorem quoteB_head (c : UInt8) : (quoteB c).head? ≠ some 34 ∧ quoteB c ≠ [] := by
  unfold quoteB
  split
  · simp
  · rename_i h
    split
    · simp only [List.head?_cons, ne_eq, Option.some.injEq]
      exact ⟨fun e => h (.inl e), by simp⟩
    · simp
theorem text_charP {n : Nat} {acc s : Bs8} (h : s.head? ≠ some 34) : textJ (n + 1) acc s = (charJ s).bind fun p => textJ n (acc ++ [p.1]) p.2 := by
  rw [text_char]
  cases s with
  | nil => rfl
  | cons c s => exact if_neg (fun e => h (by rw [e]; rfl))
theorem text_quote : ∀ (s : Bs8) (n : Nat) (acc t : Bs8), s.length < n → textJ n acc (s.flatMap quoteB ++ 34 :: t) = some (acc ++ s, t)
  | [], n, acc, t, hn => by
    obtain ⟨n, rfl⟩ : ∃ k, n = k + 1 := ⟨n - 1, by simp at hn; omega⟩
    rw [text_char]
    simp
  | c :: s, n, acc, t, hn => by
    obtain ⟨n, rfl⟩ : ∃ k, n = k + 1 := ⟨n - 1, by simp at hn; omega⟩
    have hh := quoteB_head c
    rw [List.flatMap_cons, List.append_assoc, text_charP (by
      cases hq : quoteB c with
      | nil => exact absurd hq hh.2
      | cons d r => rw [hq] at hh; simpa using hh.1), char_quote, Option.bind_some]
    simp only
    rw [text_quote s n (acc ++ [c]) t (by simp at hn; omega)]
    simp
theorem len_flat (s : Bs8) : s.length ≤ (s.flatMap quoteB).length := by
  induction s with
  | nil => simp
  | cons c s ih =>
    have e : ((c :: s).flatMap quoteB).length = (quoteB c).length + (s.flatMap quoteB).length := by rw [List.flatMap_cons, List.length_append]
    have := quoteB_len c
    rw [e, List.length_cons]
    omega
theorem quot_quote (s t : Bs8) : quotJ (quoteJ s ++ t) = some (s, t) := by
  have e : quoteJ s ++ t = 34 :: (s.flatMap quoteB ++ 34 :: t) := by unfold quoteJ; simp
  unfold quotJ
  rw [e]
  simp only [comesJ, if_true, Option.bind_some]
  have h : (s.flatMap quoteB ++ 34 :: t).length + 1 = (s.flatMap quoteB).length + (t.length + 1) + 1 := by rw [List.length_append, List.length_cons]
  rw [text_quote s _ [] t (by have := len_flat s; rw [h]; omega)]
  rfl
theorem dig_dg (u j : Nat) : digJ (Lib.dg u j) = true := by
  unfold Lib.dg
  have : u / 10 ^ j % 10 < 10 := Nat.mod_lt _ (by omega)
  generalize u / 10 ^ j % 10 = d at *
  rcases (by omega : d = 0 ∨ d = 1 ∨ d = 2 ∨ d = 3 ∨ d = 4 ∨ d = 5 ∨ d = 6 ∨ d = 7 ∨ d = 8 ∨ d = 9) with rfl | rfl | rfl | rfl | rfl | rfl | rfl | rfl | rfl | rfl <;> rfl
theorem dig_of {d : Nat} (h : d < 10) : digJ (UInt8.ofNat (48 + d)) = true ∧ (UInt8.ofNat (48 + d)).toNat - 48 = d := by
  rcases (by omega : d = 0 ∨ d = 1 ∨ d = 2 ∨ d = 3 ∨ d = 4 ∨ d = 5 ∨ d = 6 ∨ d = 7 ∨ d = 8 ∨ d = 9) with rfl | rfl | rfl | rfl | rfl | rfl | rfl | rfl | rfl | rfl <;> exact ⟨rfl, rfl⟩
theorem dec_facts (u : Nat) : (∀ b ∈ Lib.decDigits u, digJ b = true) ∧ valJ (Lib.decDigits u) = u ∧ Lib.decDigits u ≠ [] ∧ ((Lib.decDigits u).head? = some 48 → u = 0 ∧ (Lib.decDigits u).length = 1) := by
  induction u using Nat.strongRecOn with
  | _ u ih =>
  by_cases h : u < 10
  · rw [Lib.decDigits, dif_pos h]
    obtain ⟨a, b⟩ := dig_of h
    refine ⟨by simpa using a, ?_, by simp, fun e => ?_⟩
    · show 10 * 0 + ((UInt8.ofNat (48 + u)).toNat - 48) = u
      rw [b]; omega
    · simp only [List.head?_cons, Option.some.injEq] at e
      rw [e] at b
      exact ⟨b.symm, rfl⟩
  · rw [Lib.decDigits, dif_neg h]
    obtain ⟨i1, i2, i3, i4⟩ := ih (u / 10) (by omega)
    obtain ⟨a, b⟩ := dig_of (Nat.mod_lt u (by omega : 10 > 0))
    refine ⟨fun x hx => ?_, ?_, by simp, fun e => ?_⟩
    · rcases List.mem_append.mp hx with hx | hx
      · exact i1 x hx
      · rw [List.mem_singleton.mp hx]; exact a
    · have : ∀ (ds : Bs8) (d : UInt8), valJ (ds ++ [d]) = 10 * valJ ds + (d.toNat - 48) := fun ds d => by unfold valJ; rw [List.foldl_append]; rfl
      rw [this, i2, b]
      omega
    · cases hd : Lib.decDigits (u / 10) with
      | nil => exact absurd hd i3
      | cons x r =>
        rw [hd] at e i4
        simp only [List.cons_append, List.head?_cons] at e i4
        have := (i4 e).1
        omega
theorem num_itoa {n : Int} (h1 : n ≤ 999999999999999) (h2 : -999999999999999 ≤ n) (t : Bs8) (ht : ∀ d t', t = d :: t' → digJ d = false) : numJ (Lib.itoa n ++ t) = some (n, t) := by
  have tw : ∀ (ds : Bs8), (∀ b ∈ ds, digJ b = true) → (ds ++ t).takeWhile digJ = ds ∧ (ds ++ t).dropWhile digJ = t := by
    intro ds
    induction ds with
    | nil =>
      intro _
      cases t with
      | nil => exact ⟨rfl, rfl⟩
      | cons d t => rw [List.nil_append, List.takeWhile_cons, List.dropWhile_cons, ht d t rfl]; exact ⟨rfl, rfl⟩
    | cons b ds ih =>
      intro h
      obtain ⟨a, c⟩ := ih fun x hx => h x (by simp [hx])
      rw [List.cons_append, List.takeWhile_cons, List.dropWhile_cons, h b (by simp)]
      exact ⟨by rw [if_pos rfl, a], by rw [if_pos rfl, c]⟩
  have core : ∀ (m : Bool) (u : Nat), (m = true → u ≠ 0) → u ≤ 999999999999999 → badNum m (Lib.decDigits u) = false ∧ valN m (Lib.decDigits u) = if m = true then -(u : Int) else (u : Int) := by
    intro m u hm hu
    obtain ⟨d1, d2, d3, d4⟩ := dec_facts u
    refine ⟨?_, ?_⟩
    · unfold badNum
      cases hd : Lib.decDigits u with
      | nil => exact absurd hd d3
      | cons x r =>
        rw [hd] at d4
        by_cases hx : x = 48
        · subst hx
          obtain ⟨z, o⟩ := d4 rfl
          have hmf : m = false := by
            cases m with
            | false => rfl
            | true => exact absurd z (hm rfl)
          have hr : r = [] := by simpa using o
          subst hr
          simp [hmf]
        · simp [hx]
    · unfold valN
      rw [d2, Nat.min_eq_left (by unfold maxNum; omega)]
  unfold Lib.itoa
  by_cases hn : n < 0
  · rw [if_pos hn]
    obtain ⟨d1, d2, d3, d4⟩ := dec_facts n.natAbs
    obtain ⟨c1, c2⟩ := core true n.natAbs (fun _ => by omega) (by omega)
    have hs : signJ (45 :: Lib.decDigits n.natAbs ++ t) = (true, Lib.decDigits n.natAbs ++ t) := rfl
    obtain ⟨t1, t2⟩ := tw _ d1
    unfold numJ
    rw [hs]
    simp only
    rw [t1, t2, if_neg (by rw [c1]; simp), c2]
    simp; omega
  · rw [if_neg hn]
    obtain ⟨d1, d2, d3, d4⟩ := dec_facts n.toNat
    obtain ⟨c1, c2⟩ := core false n.toNat (fun h => by cases h) (by omega)
    have hs : signJ (Lib.decDigits n.toNat ++ t) = (false, Lib.decDigits n.toNat ++ t) := by
      unfold signJ
      rw [if_neg]
      cases hd : Lib.decDigits n.toNat with
      | nil => exact absurd hd d3
      | cons x r =>
        have := d1 x (by rw [hd]; simp)
        simp only [List.cons_append, List.head?_cons, Option.some.injEq]
        rintro rfl
        exact absurd this (by decide)
    obtain ⟨t1, t2⟩ := tw _ d1
    unfold numJ
    rw [hs]
    simp only
    rw [t1, t2, if_neg (by rw [c1]; simp), c2]
    simp; omega
theorem itoa_head (n : Int) : ∃ b r, Lib.itoa n = b :: r ∧ (digJ b = true ∨ b = 45) := by
  unfold Lib.itoa
  split
  · exact ⟨45, _, rfl, .inr rfl⟩
  · obtain ⟨d1, d2, d3, d4⟩ := dec_facts n.toNat
    cases hd : Lib.decDigits n.toNat with
    | nil => exact absurd hd d3
    | cons x r => exact ⟨x, r, rfl, .inl (d1 x (by rw [hd]; simp))⟩
theorem blank_nv {b : UInt8} (r : Bs8) (h : blankB b = true) : pvJ (b :: r) = none := by
  have h : b = 32 ∨ b = 9 ∨ b = 10 ∨ b = 13 := by simpa [blankB, or_assoc] using h
  rcases h with rfl | rfl | rfl | rfl <;> (rw [pv_d (by intro b t e; injection e with e1 e2; subst e1; decide), num_not (by decide) (by decide)]; rfl)
theorem blanks_pv {s : Bs8} (h : pvJ s ≠ none) : blanksJ s = s := by
  cases s with
  | nil => rfl
  | cons b r =>
    rw [blanks_c, if_neg]
    intro hb
    exact h (blank_nv r hb)

theorem form1_iff' (v : JV) : form1 v = true ↔ (1 ≤ v.sort ∧ v.sort ≤ 7 ∧ (v.sort = 4 ∨ v.num = 0) ∧ (v.sort = 5 ∨ v.text = []) ∧ (v.sort = 6 ∨ v.sort = 7 ∨ v.list.length = 0) ∧ (v.sort = 7 → v.names.length = v.list.length) ∧ (v.sort ≠ 7 → v.names.length = 0)) := by
  unfold form1
  by_cases h : v.sort = 7
  · simp [h, and_assoc]
  · simp [h, and_assoc]
theorem lays_false (named : Bool) (l : List JV) (ns : List Bs8) (hl : l ≠ []) : laysJ named false l ns = 44 :: laysJ named true l ns := by
  cases l with
  | nil => exact absurd rfl hl
  | cons v l => rw [laysJ, laysJ]; rfl

mutual
theorem pv_lay : ∀ (v : JV), allJ form1 v = true → allJ small1 v = true → ∀ t : Bs8, (∀ d t', t = d :: t' → digJ d = false) → pvJ (layJ v ++ t) = some (v, t)
  | .mk so n tx l ns, hf, hs, t, ht => by
    rw [allJ, Bool.and_eq_true] at hf hs
    obtain ⟨f1, ff⟩ := hf
    obtain ⟨s1, sf⟩ := hs
    rw [form1_iff'] at f1
    simp only [JV.sort, JV.num, JV.text, JV.list, JV.names] at f1
    unfold small1 at s1
    rw [Bool.and_eq_true] at s1
    have q1 : n ≤ 999999999999999 ∧ -999999999999999 ≤ n := ⟨of_decide_eq_true s1.1, of_decide_eq_true s1.2⟩
    obtain ⟨f1, f2, f3, f4, f5, f6, f7⟩ := f1
    have nilL : so ≠ 6 → so ≠ 7 → l = [] := fun h6 h7 => List.length_eq_zero_iff.mp (by omega)
    have nilN : so ≠ 7 → ns = [] := fun h7 => List.length_eq_zero_iff.mp (f7 h7)
    have nilT : so ≠ 5 → tx = [] := fun h5 => f4.resolve_left h5
    rw [layJ]
    by_cases h1 : so = 1
    · subst h1
      rw [if_pos rfl, nilL (by decide) (by decide), nilN (by decide), nilT (by decide), (f3.resolve_left (by decide) : n = 0)]
      rw [List.cons_append, pv_n]
      have := comes_self [110, 117, 108, 108] t
      rw [List.cons_append] at this
      rw [this]; rfl
    rw [if_neg h1]
    by_cases h2 : so = 2
    · subst h2
      rw [if_pos rfl, nilL (by decide) (by decide), nilN (by decide), nilT (by decide), (f3.resolve_left (by decide) : n = 0)]
      rw [List.cons_append, pv_f]
      have := comes_self [102, 97, 108, 115, 101] t
      rw [List.cons_append] at this
      rw [this]; rfl
    rw [if_neg h2]
    by_cases h3 : so = 3
    · subst h3
      rw [if_pos rfl, nilL (by decide) (by decide), nilN (by decide), nilT (by decide), (f3.resolve_left (by decide) : n = 0)]
      rw [List.cons_append, pv_t]
      have := comes_self [116, 114, 117, 101] t
      rw [List.cons_append] at this
      rw [this]; rfl
    rw [if_neg h3]
    by_cases h4 : so = 4
    · subst h4
      rw [if_pos rfl, nilL (by decide) (by decide), nilN (by decide), nilT (by decide)]
      obtain ⟨b, r, e, hb⟩ := itoa_head n
      rw [pv_d (by
        intro b' r' e'
        rw [e, List.cons_append] at e'
        injection e' with e1 e2
        subst e1
        refine ⟨?_, ?_, ?_, ?_, ?_, ?_⟩ <;> (rintro rfl; rcases hb with hb | hb; exact absurd hb (by decide); exact absurd hb (by decide))), num_itoa q1.1 q1.2 t ht]
      rfl
    rw [if_neg h4]
    by_cases h5 : so = 5
    · subst h5
      rw [if_pos rfl, nilL (by decide) (by decide), nilN (by decide), (f3.resolve_left (by decide) : n = 0)]
      have e := quot_quote tx t
      have e2 : quoteJ tx ++ t = 34 :: (tx.flatMap quoteB ++ 34 :: t) := by unfold quoteJ; simp
      rw [e2] at e ⊢
      rw [pv_q]
      have e3 : quotJ (34 :: (tx.flatMap quoteB ++ 34 :: t)) = textJ ((tx.flatMap quoteB ++ 34 :: t).length + 1) [] (tx.flatMap quoteB ++ 34 :: t) := by simp [quotJ, comesJ]
      rw [e3] at e
      rw [e]; rfl
    rw [if_neg h5]
    have h67 : so = 6 ∨ so = 7 := by omega
    have hn0 : n = 0 := by omega
    subst hn0
    have ht5 := nilT h5
    subst ht5
    by_cases h7 : so = 7
    · subst h7
      rw [if_pos rfl, if_pos rfl]
      have e : (123 :: (laysJ (decide ((7 : Int) = 7)) true l ns ++ [125])) ++ t = 123 :: (laysJ true true l ns ++ 125 :: t) := by simp
      rw [e, pv_o]
      have hl := f6 rfl
      have : listJ 125 true (laysJ true true l ns ++ 125 :: t) = some (l, ns, t) := by
        unfold listJ
        cases l with
        | nil =>
          have : ns = [] := List.length_eq_zero_iff.mp (by simpa using hl)
          subst this
          simp [laysJ, blanks_c, blankB, comesJ]
        | cons v l' =>
          obtain ⟨p1, p2, p3⟩ := pit_lay (v :: l') ff sf 125 true ns [] [] t (by decide) (by decide) (by decide) (fun _ => hl) (by simp)
          rw [p2, p3, p1]
          simp
      rw [this]; rfl
    · have h6 : so = 6 := by omega
      subst h6
      rw [if_neg (by decide), if_neg (by decide)]
      have e : (91 :: (laysJ (decide ((6 : Int) = 7)) true l ns ++ [93])) ++ t = 91 :: (laysJ false true l ns ++ 93 :: t) := by simp
      rw [e, pv_l]
      have hns := nilN (by decide)
      subst hns
      have : listJ 93 false (laysJ false true l [] ++ 93 :: t) = some (l, [], t) := by
        unfold listJ
        cases l with
        | nil => simp [laysJ, blanks_c, blankB, comesJ]
        | cons v l' =>
          obtain ⟨p1, p2, p3⟩ := pit_lay (v :: l') ff sf 93 false [] [] [] t (by decide) (by decide) (by decide) (fun h => by cases h) (by simp)
          rw [p2, p3, p1]
          simp
      rw [this]; rfl
theorem pit_lay : ∀ (l : List JV), allsJ form1 l = true → allsJ small1 l = true → ∀ (e : UInt8) (nm : Bool) (ns : List Bs8) (l0 : List JV) (ns0 : List Bs8) (t : Bs8), (e = 93 ∨ e = 125) → blankB e = false → digJ e = false → (nm = true → ns.length = l.length) → l ≠ [] →
    pitJ e nm l0 ns0 (laysJ nm true l ns ++ e :: t) = some (l0 ++ l, ns0 ++ (if nm then ns else []), t) ∧ blanksJ (laysJ nm true l ns ++ e :: t) = laysJ nm true l ns ++ e :: t ∧ comesJ [e] (laysJ nm true l ns ++ e :: t) = none
  | [], _, _, _, _, _, _, _, _, _, _, _, _, h => absurd rfl h
  | v :: l, hf, hs, e, nm, ns, l0, ns0, t, he, hb, hd, hlen, _ => by
    rw [allsJ, Bool.and_eq_true] at hf hs
    have he44 : e ≠ 44 := by rcases he with rfl | rfl <;> decide
    -- what stands behind the element
    have tail : ∃ c u, laysJ nm false l ns.tail ++ e :: t = c :: u ∧ digJ c = false ∧ blankB c = false := by
      cases l with
      | nil => exact ⟨e, t, by rw [laysJ]; rfl, hd, hb⟩
      | cons w l' => exact ⟨44, _, by rw [lays_false _ _ _ (by simp)]; rfl, by decide, by decide⟩
    obtain ⟨c, u, hu, hcd, hcb⟩ := tail
    have ev := pv_lay v hf.1 hs.1 (laysJ nm false l ns.tail ++ e :: t) (fun d t' h => by rw [hu] at h; injection h with h1 h2; rw [← h1]; exact hcd)
    have evb := blanks_pv (s := layJ v ++ (laysJ nm false l ns.tail ++ e :: t)) (by rw [ev]; simp)
    have evc : comesJ [e] (layJ v ++ (laysJ nm false l ns.tail ++ e :: t)) = none := by
      generalize hg : layJ v ++ (laysJ nm false l ns.tail ++ e :: t) = y at ev
      cases y with
      | nil => rfl
      | cons d y =>
        simp only [comesJ]
        refine if_neg fun h => ?_
        subst h
        rcases he with rfl | rfl
        · rw [(pv_not_close y).1] at ev; cases ev
        · rw [(pv_not_close y).2] at ev; cases ev
    -- the rest of the elements
    have rest : ∀ (l1 : List JV) (n1 : List Bs8), tailI e nm l1 n1 (blanksJ (laysJ nm false l ns.tail ++ e :: t)) = some (l1 ++ l, n1 ++ (if nm then ns.tail else []), t) ∨ (nm = true ∧ ns = []) := by
      intro l1 n1
      by_cases hns : nm = true ∧ ns = []
      · exact .inr hns
      refine .inl ?_
      have eb : blanksJ (laysJ nm false l ns.tail ++ e :: t) = laysJ nm false l ns.tail ++ e :: t := by
        rw [hu, blanks_c, if_neg (by rw [hcb]; simp)]
      rw [eb]
      cases l with
      | nil =>
        have htl : (if nm then ns.tail else []) = ([] : List Bs8) := by
          cases nm with
          | false => rfl
          | true =>
            have := hlen rfl
            cases ns with
            | nil => rfl
            | cons a ns => simp at this; simp [this]
        rw [htl, laysJ]
        unfold tailI
        simp [comesJ]
      | cons w l' =>
        rw [lays_false _ _ _ (by simp)]
        obtain ⟨p1, p2, p3⟩ := pit_lay (w :: l') hf.2 hs.2 e nm ns.tail l1 n1 t he hb hd (fun h => by have := hlen h; simp at this ⊢; omega) (by simp)
        unfold tailI
        have c1 : comesJ [e] (44 :: laysJ nm true (w :: l') ns.tail ++ e :: t) = none := by
          simp only [List.cons_append, comesJ]; exact if_neg he44
        have c2 : comesJ [44] (44 :: laysJ nm true (w :: l') ns.tail ++ e :: t) = some (laysJ nm true (w :: l') ns.tail ++ e :: t) := by
          simp [comesJ]
        rw [c1, c2]
        simp only
        rw [p2, p1]
    cases nm with
    | false =>
      have es : laysJ false true (v :: l) ns ++ e :: t = layJ v ++ (laysJ false false l ns.tail ++ e :: t) := by rw [laysJ]; simp
      rw [es]
      refine ⟨?_, evb, evc⟩
      rw [pit_tail]
      simp only [headJ, Bool.false_eq_true, if_false, Option.bind_some]
      rw [ev, Option.bind_some]
      simp only
      rcases rest (l0 ++ [v]) ns0 with h | h
      · rw [h]; simp
      · cases h.1
    | true =>
      cases ns with
      | nil => have := hlen rfl; simp at this
      | cons a ns =>
        simp only [List.tail_cons] at *
        have es : laysJ true true (v :: l) (a :: ns) ++ e :: t = quoteJ a ++ 58 :: (layJ v ++ (laysJ true false l ns ++ e :: t)) := by rw [laysJ]; simp
        rw [es]
        have eq : quoteJ a ++ 58 :: (layJ v ++ (laysJ true false l ns ++ e :: t)) = 34 :: (a.flatMap quoteB ++ 34 :: 58 :: (layJ v ++ (laysJ true false l ns ++ e :: t))) := by unfold quoteJ; simp
        refine ⟨?_, ?_, ?_⟩
        · rw [pit_tail, head_quot, quot_quote, Option.bind_some]
          simp only
          have b58 : blanksJ (58 :: (layJ v ++ (laysJ true false l ns ++ e :: t))) = 58 :: (layJ v ++ (laysJ true false l ns ++ e :: t)) := by rw [blanks_c]; rfl
          have c58 : comesJ [58] (58 :: (layJ v ++ (laysJ true false l ns ++ e :: t))) = some (layJ v ++ (laysJ true false l ns ++ e :: t)) := by simp [comesJ]
          rw [b58, c58, Option.map_some, Option.bind_some, evb]
          simp only
          rw [ev, Option.bind_some]
          simp only
          rcases rest (l0 ++ [v]) (ns0 ++ [a]) with h | h
          · rw [h]; simp
          · cases h.2
        · rw [eq, blanks_c]; rfl
        · rw [eq]
          simp only [comesJ]
          exact if_neg (by rcases he with rfl | rfl <;> decide)
end
theorem parse_print {v : JV} (h : checkJ v = 0) (hl : (layJ v).length ≤ 16384) : parseJ (layJ v) = (v, 0) := by
  obtain ⟨c1, _, c2, _, _⟩ := check_zero h
  have e := pv_lay v c1 c2 [] (fun d t' h => by cases h)
  rw [List.append_nil] at e
  have eb := blanks_pv (s := layJ v) (by rw [e]; simp)
  rw [parseJ_of (r := []) (by rw [eb]; exact e) rfl, if_neg (by omega), if_pos h]

end Go.Th.Pure
end

section
/- json, plainly: how many parts what is read has. -/
set_option linter.unusedSimpArgs false
set_option linter.unusedVariables false
namespace Go.Th.Pure
open Go

theorem text_parts : ∀ {n : Nat} {acc s t r : Bs8}, textJ n acc s = some (t, r) → t.length + r.length + 1 ≤ acc.length + s.length
  | 0, acc, s, t, r, h => by simp [textJ] at h
  | n + 1, acc, s, t, r, h => by
    rw [text_char] at h
    match s, h with
    | c :: s, h =>
      simp only at h
      split at h
      · simp only [Option.some.injEq, Prod.mk.injEq] at h
        rw [← h.1, ← h.2, List.length_cons]; omega
      · obtain ⟨p, e1, e2⟩ := Option.bind_eq_some_iff.mp h
        have h1 := char_len (b := p.1) (r := p.2) e1
        have h2 := text_parts e2
        rw [List.length_append, List.length_singleton] at h2
        omega
theorem partss_snoc (v : JV) : ∀ l, partssJ (l ++ [v]) = partssJ l + partsJ v
  | [] => by simp [partssJ]
  | w :: l => by simp only [List.cons_append, partssJ, partss_snoc v l]; omega
theorem sumL_snoc (t : Bs8) : ∀ l, sumL (l ++ [t]) = sumL l + t.length
  | [] => by simp [sumL]
  | w :: l => by simp only [List.cons_append, sumL, sumL_snoc t l]; omega
theorem parts_fuel : ∀ (n : Nat), (∀ {s r : Bs8} {v : JV}, valueJ n s = some (v, r) → partsJ v + r.length ≤ s.length) ∧ (∀ {e : UInt8} {nm : Bool} {l : List JV} {ns : List Bs8} {s r : Bs8} {p : List JV} {q : List Bs8}, itemsJ n e nm l ns s = some (p, q, r) → partssJ p + q.length + sumL q + r.length ≤ partssJ l + ns.length + sumL ns + s.length)
  | 0 => ⟨fun h => by simp [valueJ] at h, fun h => by simp [itemsJ] at h⟩
  | n + 1 => by
    have ih := parts_fuel n
    have one : ∀ (so m : Int), partsJ (.mk so m [] [] []) = 1 := fun so m => by simp [partsJ, partssJ, sumL]
    refine ⟨fun {s r v} h => ?_, fun {e nm l ns s r p q} h => ?_⟩
    · rw [valueJ] at h
      split at h
      · rename_i r0 h1
        have := comes_le h1
        simp only [Option.some.injEq, Prod.mk.injEq] at h
        rw [← h.1, ← h.2, one]; simp at this; omega
      split at h
      · rename_i r0 h1
        have := comes_le h1
        simp only [Option.some.injEq, Prod.mk.injEq] at h
        rw [← h.1, ← h.2, one]; simp at this; omega
      split at h
      · rename_i r0 h1
        have := comes_le h1
        simp only [Option.some.injEq, Prod.mk.injEq] at h
        rw [← h.1, ← h.2, one]; simp at this; omega
      split at h
      · rename_i r0 h1
        have h0 := comes_le h1
        obtain ⟨⟨t, r'⟩, h3, h4⟩ := Option.map_eq_some_iff.mp h
        simp only [Prod.mk.injEq] at h4
        have := text_parts h3
        simp at h0 this
        rw [← h4.1, ← h4.2]
        simp [partsJ, partssJ, sumL]
        omega
      split at h
      · rename_i r0 h1
        have h0 := comes_le h1
        have hb := blanks_le r0
        simp at h0
        split at h
        · rename_i r2 h3
          have := comes_le h3
          simp only [Option.some.injEq, Prod.mk.injEq] at h
          rw [← h.1, ← h.2, one]; simp at this; omega
        · obtain ⟨⟨a, b, r'⟩, h3, h4⟩ := Option.map_eq_some_iff.mp h
          simp only [Prod.mk.injEq] at h4
          have := ih.2 h3
          simp [partssJ, sumL] at this
          rw [← h4.1, ← h4.2]
          simp [partsJ, sumL]
          omega
      split at h
      · rename_i r0 h1
        have h0 := comes_le h1
        have hb := blanks_le r0
        simp at h0
        split at h
        · rename_i r2 h3
          have := comes_le h3
          simp only [Option.some.injEq, Prod.mk.injEq] at h
          rw [← h.1, ← h.2, one]; simp at this; omega
        · obtain ⟨⟨a, b, r'⟩, h3, h4⟩ := Option.map_eq_some_iff.mp h
          simp only [Prod.mk.injEq] at h4
          have := ih.2 h3
          simp [partssJ, sumL] at this
          rw [← h4.1, ← h4.2]
          simp [partsJ]
          omega
      · obtain ⟨⟨a, r'⟩, h3, h4⟩ := Option.map_eq_some_iff.mp h
        simp only [Prod.mk.injEq] at h4
        have := numJ_len h3
        rw [← h4.1, ← h4.2, one]; omega
    · rw [items_eq] at h
      split at h
      · cases h
      · rename_i ns2 s2 h0
        have hh : ns2.length + sumL ns2 + s2.length ≤ ns.length + sumL ns + s.length := by
          cases nm with
          | false =>
            simp only [headJ, Bool.false_eq_true, if_false, Option.some.injEq, Prod.mk.injEq] at h0
            rw [h0.1, h0.2]; exact Nat.le_refl _
          | true =>
            rw [head_quot] at h0
            obtain ⟨x, e1, e2⟩ := Option.bind_eq_some_iff.mp h0
            obtain ⟨y, e3, e4⟩ := Option.map_eq_some_iff.mp e2
            simp only [Prod.mk.injEq] at e4
            obtain ⟨z, e5, e6⟩ := Option.bind_eq_some_iff.mp e1
            have h5 := comes_le e5
            have h6 := text_parts (t := x.1) (r := x.2) e6
            have h7 := comes_le e3
            have h8 := blanks_le x.2
            have h9 := blanks_le y
            simp at h5 h6 h7
            rw [← e4.1, ← e4.2, List.length_append, sumL_snoc, List.length_singleton]
            omega
        split at h
        · cases h
        · rename_i v r1 h2
          have h3 := ih.1 h2
          have hb := blanks_le r1
          split at h
          · rename_i r2 h4
            have := comes_le h4
            simp only [Option.some.injEq, Prod.mk.injEq] at h
            rw [← h.1, ← h.2.1, ← h.2.2, partss_snoc]
            simp at this; omega
          · split at h
            · rename_i r2 h4
              have h5 := comes_le h4
              have h6 := blanks_le r2
              have := ih.2 h
              rw [partss_snoc] at this
              simp at h5; omega
            · cases h
theorem parts_parse {s : Bs8} {v : JV} (h : parseJ s = (v, 0)) : partsJ v ≤ 16384 := by
  obtain ⟨hl, r, e, _, _⟩ := parseJ_ok h
  have := (parts_fuel _).1 e
  have := blanks_le s
  omega
mutual
theorem deep_parts : ∀ v : JV, deepJ v ≤ partsJ v
  | .mk so n t l ns => by
    have := deeps_parts l
    rw [deepJ, partsJ]
    split <;> omega
theorem deeps_parts : ∀ l : List JV, deepsJ l ≤ partssJ l
  | [] => by simp [deepsJ]
  | v :: l => by
    have := deep_parts v
    have := deeps_parts l
    rw [deepsJ, partssJ]
    omega
end

end Go.Th.Pure
end

section
/- json's laws: how many parts a value has. -/
set_option linter.unusedSimpArgs false
set_option linter.unusedVariables false
set_option maxHeartbeats 1000000
namespace Go.Th.L
open Go Go.Th Go.Th.Pure
variable {P : Program} {N : Nat → Nat}

theorem fits_at {v : JV} (h : allJ fits1 v = true) : v.text.length ≤ 140737488355328 ∧ (∀ t ∈ v.names, t.length ≤ 140737488355328) ∧ ∀ w ∈ v.list, allJ fits1 w = true := by
  obtain ⟨h1, h2⟩ := all_at h
  simp only [fits1, Bool.and_eq_true, decide_eq_true_eq, List.all_eq_true] at h1
  exact ⟨h1.1, h1.2, h2⟩
theorem sumL_take {l : List Bs8} {j : Nat} (hj : j < l.length) : sumL (l.take (j + 1)) = sumL (l.take j) + l[j].length := by
  rw [← List.take_append_getElem hj, sumL_snoc]
theorem partss_take {l : List JV} {j : Nat} (hj : j < l.length) : partssJ (l.take (j + 1)) = partssJ (l.take j) + partsJ l[j] := by
  rw [← List.take_append_getElem hj, partss_snoc]

def PartsOk (P : Program) (N : Nat → Nat) (z : Nat) : Prop := ∀ {S : St} {v : JV} {lv nv : V} {n w : Nat} {K : Int → St → Prop}, S.Wf → RV S S.next v lv nv → SizeOf.sizeOf v < z → allJ fits1 v = true → n ≤ 131072 → w ≤ 2001 →
  (∀ (r : Nat) S', Grow S S' → (r ≤ 131072 → r = n + partsJ v) → K (r : Nat) S') → CallA P (N Fn.law20_parts) [.agg (vcells v lv nv), .int .i64 (n : Nat), .int .i64 (w : Nat)] S (retT [.one (.int .i64)] K)

theorem law20_parts.ok (hF : law20_parts.Ok P N) (z : Nat) : PartsOk P N z := by
  induction z with
  | zero =>
    intro S v lv nv n w K _ _ h
    exact absurd h (Nat.not_lt_zero _)
  | succ z ih =>
    intro S v lv nv n w K hw hv hz hfit hn hww hk
    refine law20_parts.run hF (newS_mk hw fun S1 g1 m1 n1 => ?_)
    obtain ⟨es, hv⟩ := hv.at_
    have v1 := hv.grow g1 g1.le
    obtain ⟨ft, fn, fl⟩ := fits_at hfit
    have hnl := hv.nle
    refine ifC_dec (fun h => hk 131073 S1 g1 (fun h => by omega)) fun h => ?_
    have hw2 : w ≤ 2000 := by omega
    refine setI_mk (n := ((n + 1 : Nat) : Int)) (wrap_nat (by omega)) ⟨v.text, ld m1 rfl, setI_mk (n := ((n + 1 + v.text.length : Nat) : Int)) (by rw [IntKind.wrap_i64]; omega) (ifS_mk (ld m1 rfl) ⟨_, v1.nlen, setI_mk (n := ((n + 1 + v.text.length + v.names.length : Nat) : Int)) (by rw [IntKind.wrap_i64]; omega) ?_⟩)⟩
    rw [partsJ_eq] at hk
    refine Join1.mid (fun x S' => S1 = S' ∧ ∃ r : Nat, x = r ∧ r ≤ 4800000000000000000 ∧ (r ≤ 131072 → r = n + 1 + v.text.length + v.names.length + sumL v.names)) ?_ ?_
    · refine Loop2.ind (fun m x y S' => S1 = S' ∧ ∃ (r j : Nat), x = r ∧ y = j ∧ j ≤ v.names.length ∧ m = v.names.length - j ∧ r ≤ 4800000000000000000 ∧ r = n + 1 + v.text.length + v.names.length + sumL (v.names.take j)) v.names.length ⟨rfl, _, 0, rfl, rfl, Nat.zero_le _, rfl, by omega, by simp [sumL]⟩ ?_
      rintro m _ _ _ ⟨rfl, r, j, rfl, rfl, hj, rfl, hr, hreq⟩
      have hle : sumL (v.names.take j) ≤ sumL v.names := by
        have : sumL v.names = sumL (v.names.take j) + sumL (v.names.drop j) := by
          have app : ∀ (a b : List Bs8), sumL (a ++ b) = sumL a + sumL b := by
            intro a b
            induction a with
            | nil => simp [sumL]
            | cons t a ih => simp only [List.cons_append, sumL, ih]; omega
          rw [← app, List.take_append_drop]
        omega
      refine Join0.mid (fun S' => S1 = S' ∧ j < v.names.length ∧ r ≤ 131072) ?_ ?_
      · refine ifS_mk (ld m1 rfl) ⟨_, v1.nlen, ifC_dec (fun h => ifC_dec (fun h' => ⟨rfl, by omega, by omega⟩) fun h' => ⟨rfl, r, rfl, hr, fun h => by omega⟩) fun h => ⟨rfl, r, rfl, hr, fun _ => ?_⟩⟩
        have : j = v.names.length := by omega
        subst this
        rw [List.take_length] at hreq
        exact hreq
      rintro _ ⟨rfl, hj2, hr2⟩
      have := fn _ (List.getElem_mem hj2)
      refine ifS_mk (ld m1 rfl) (ifS_mk (v1.nidx hj2) ⟨_, v1.name hj2, setI_mk (n := ((r + v.names[j].length : Nat) : Int)) (by rw [IntKind.wrap_i64]; omega) (setI_mk (n := ((j + 1 : Nat) : Int)) (wrap_next hj2 hv.nle) ⟨v.names.length - (j + 1), by omega, rfl, _, j + 1, rfl, rfl, hj2, rfl, by omega, by rw [sumL_take hj2]; omega⟩)⟩)
    rintro _ _ ⟨rfl, r0, rfl, hr0, he0⟩
    refine Loop2.ind (fun m x y S' => ∃ (r j : Nat), x = r ∧ y = j ∧ j ≤ v.list.length ∧ m = v.list.length - j ∧ Grow S1 S' ∧ (r ≤ 131072 → r = n + (1 + v.text.length + v.names.length + sumL v.names) + partssJ (v.list.take j))) v.list.length ⟨r0, 0, rfl, rfl, Nat.zero_le _, rfl, Upd.refl g1.wf _, fun h => by rw [List.take_zero, partssJ, he0 h]; omega⟩ ?_
    rintro m _ _ S5 ⟨r, j, rfl, rfl, hj, rfl, g, hr⟩
    have v5 := v1.grow g g.le
    have m5 := g.get m1
    refine Join0.mid (fun S' => S5 = S' ∧ j < v.list.length ∧ r ≤ 131072) ?_ ?_
    · refine ifS_mk (ld m5 rfl) ⟨_, v5.len, ifC_dec (fun h => ifC_dec (fun h' => ⟨rfl, by omega, by omega⟩) fun h' => hk r S5 (g1.trans g) fun h => by omega) fun h => hk r S5 (g1.trans g) fun h' => ?_⟩
      have : j = v.list.length := by omega
      subst this
      rw [List.take_length] at hr
      have := hr h'
      omega
    rintro _ ⟨rfl, hj2, hr2⟩
    obtain ⟨lw, nw, e, rr⟩ := v5.elt hj2
    have hm := List.getElem_mem hj2
    refine ifS_mk (ld m5 rfl) (ifS_mk (v5.idx hj2) ⟨_, _, _, _, _, e, setI_mk (n := ((w + 1 : Nat) : Int)) (wrap_nat (by omega)) (ih g.wf rr (by have := JV.list_lt hm; omega) (fl _ hm) hr2 (by omega) fun r' S7 g7 hr' => ?_)⟩)
    refine setI_mk (n := ((j + 1 : Nat) : Int)) (wrap_next hj2 hv.le) ⟨v.list.length - (j + 1), by omega, r', j + 1, rfl, rfl, hj2, rfl, g.trans g7, fun h => ?_⟩
    rw [partss_take hj2, hr' h, hr hr2]
    omega

theorem law20_wide.any (hF : law20_wide.Ok P N) (z : Nat) : ∀ {S : St} {v : JV} {lv nv : V} {K : Bool → St → Prop}, S.Wf → RV S S.next v lv nv → SizeOf.sizeOf v < z → (∀ b S', Grow S S' → K b S') → CallA P (N Fn.law20_wide) [.agg (vcells v lv nv)] S (retT [.one .bool] K) := by
  induction z with
  | zero =>
    intro S v lv nv K _ _ h
    exact absurd h (Nat.not_lt_zero _)
  | succ z ih =>
    intro S v lv nv K hw hv hz hk
    refine law20_wide.run hF (newS_mk hw fun S1 g1 m1 n1 => ?_)
    obtain ⟨es, hv⟩ := hv.at_
    have v1 := hv.grow g1 g1.le
    refine ifS_mk (ld m1 rfl) ⟨_, v1.nlen, ifC_dec (fun _ => hk true S1 g1) fun _ => ?_⟩
    refine Loop1.ind (fun m x S' => ∃ j : Nat, x = j ∧ j ≤ v.list.length ∧ m = v.list.length - j ∧ Grow S1 S') v.list.length ⟨0, rfl, Nat.zero_le _, rfl, Upd.refl g1.wf _⟩ ?_
    rintro m _ S5 ⟨j, rfl, hj, rfl, g⟩
    have v5 := v1.grow g g.le
    have m5 := g.get m1
    refine ifS_mk (ld m5 rfl) ⟨_, v5.len, ifC_dec (fun h => ?_) fun _ => hk false S5 (g1.trans g)⟩
    have hj2 : j < v.list.length := by omega
    obtain ⟨lw, nw, e, rr⟩ := v5.elt hj2
    refine ifS_mk (ld m5 rfl) (ifS_mk (v5.idx hj2) ⟨_, _, _, _, _, e, ih g.wf rr (by have := JV.list_lt (List.getElem_mem hj2); omega) fun b S6 g6 => ifC_tt_ff (fun _ => hk true S6 (g1.trans (g.trans g6))) fun _ => ?_⟩)
    exact setI_mk (n := ((j + 1 : Nat) : Int)) (wrap_next hj2 hv.le) ⟨v.list.length - (j + 1), by omega, j + 1, rfl, hj2, rfl, g.trans g6⟩

theorem law20_big.spec (hF : law20_big.Ok P N) (hP : law20_parts.Ok P N) (hW : law20_wide.Ok P N) {S : St} (hw : S.Wf) {v : JV} {lv nv : V} (hv : RV S S.next v lv nv) (hf : allJ fits1 v = true) {K : Bool → St → Prop} (hk : ∀ b S', Grow S S' → (b = false → partsJ v ≤ 131072) → K b S') : CallA P (N Fn.law20_big) [.agg (vcells v lv nv)] S (retT [.one .bool] K) := by
  refine law20_big.run hF (newS_mk hw fun S1 g1 m1 n1 => ⟨_, _, _, _, _, ld5 m1, law20_parts.ok hP _ (n := 0) (w := 0) g1.wf (hv.grow g1 g1.le) (Nat.lt_succ_self _) hf (by omega) (by omega) fun r S2 g2 hr => ?_⟩)
  refine ifC_dec (fun h => hk true S2 (g1.trans g2) fun h => by cases h) fun h => ⟨_, _, _, _, _, ld5 (g2.get m1), law20_wide.any hW _ g2.wf (hv.grow (g1.trans g2) (g1.trans g2).le) (Nat.lt_succ_self _) fun b S3 g3 => hk b S3 ((g1.trans g2).trans g3) fun _ => ?_⟩
  have := hr (by omega)
  omega

end Go.Th.L
end

section
/- json's laws: what is printed is parsed as itself. -/
set_option linter.unusedSimpArgs false
set_option linter.unusedVariables false
set_option maxHeartbeats 1000000
namespace Go.Th.Pure
open Go
theorem parse_bad {s : Bs8} (h : (parseJ s).2 ≠ 0) : (parseJ s).1 = jnil := by
  unfold parseJ at h ⊢
  split
  · rfl
  · rename_i hl
    rw [if_neg hl] at h
    split
    · rfl
    · rename_i v r e
      rw [e] at h
      simp only at h
      split
      · rename_i hb
        rw [if_pos hb] at h
        split
        · rename_i hc
          rw [if_pos hc] at h
          exact absurd rfl h
        · rfl
      · rfl
theorem print_cases {v : JV} (h : checkJ v = 0) : ((printJ v).2 = 2) ∨ (printJ v = (layJ v, 0) ∧ (layJ v).length ≤ 16384) := by
  unfold printJ
  rw [if_pos h]
  split
  · exact .inl rfl
  · exact .inr ⟨rfl, by omega⟩
theorem print_ok {v : JV} (h : (printJ v).2 = 0) : checkJ v = 0 ∧ printJ v = (layJ v, 0) ∧ (layJ v).length ≤ 16384 := by
  by_cases hc : checkJ v = 0
  · rcases print_cases hc with h2 | h2
    · rw [h2] at h; cases h
    · exact ⟨hc, h2⟩
  · unfold printJ at h
    rw [if_neg hc] at h
    exact absurd h hc
end Go.Th.Pure
namespace Go.Th.L
open Go Go.Th Go.Th.Pure
variable {P : Program} {N : Nat → Nat}

theorem law20_JsonRound.spec {gs : List Nat} {S : St} (hw : S.Wf) (hA : Awake20F P N gs S) (hS : ref20_Same.Ok P N) (hB : law20_big.Ok P N) (hP : law20_parts.Ok P N) (hW : law20_wide.Ok P N) (hF : law20_JsonRound.Ok P N) (hG : GV gs S) {v : JV} {lv nv : V} (hv : RV S S.next v lv nv) (hf : allJ fits1 v = true) {t : Bs8} {K : Bool → St → Prop} (hk : ∀ S', K true S') :
    CallA P (N Fn.law20_JsonRound) [.agg (vcells v lv nv), .str t] S (retT [.one .bool] K) := by
  refine law20_JsonRound.run hF (newS_mk hw fun S1 g1 m1 n1 => ?_)
  refine Join0.mid (fun S' => Grow S1 S' ∧ partsJ v ≤ 131072) ?_ ?_
  · refine ⟨_, _, _, _, _, ld5 m1, law20_big.spec hB hP hW g1.wf (hv.grow g1 g1.le) hf fun b S3 g3 hb => ifC_tt_ff (fun _ => hk S3) fun h => ifC_dec (fun _ => hk S3) fun _ => ⟨g3, hb h⟩⟩
  rintro S2 ⟨g2, hparts⟩
  have g02 := g1.trans g2
  have m2 := Grow.get g2 m1
  have v2 := hv.grow g02 g02.le
  have hdp := deep_parts v
  refine ⟨_, _, _, _, _, ld5 m2, hA.print g02 v2 (by omega) (by omega) fun S4 g4 => ?_⟩
  have g04 := g02.trans g4
  have m4 := Grow.get g4 m2
  have v4 := v2.grow g4 g4.le
  have ofp : ∀ {S' : St} {u : JV} {s : Bs8}, Grow S S' → parseJ s = (u, 0) → ∀ {K : Int → Int → Bs8 → V → V → Int → St → Prop}, (∀ lw nw F S'', Grow S' S'' → VAt S'' S'.next u lw nw F → K u.sort u.num u.text lw nw 0 S'') → CallA P (N Fn.json_Parse) [.str s] S' (retT [.agg [.int .i64, .int .i64, .str, .any, .any], .one (.int .i64)] K) :=
    fun g e _ h => ParsesJ.at_ hA.parse g.wf (hG.upd g (by simp)) e h
  refine Join0.mid (fun S' => Grow S4 S') ?_ ?_
  · refine ifC_dec (fun h => ?_) fun _ => Upd.refl g4.wf _
    obtain ⟨hc, hp, hl⟩ := print_ok h
    rw [hp]
    refine ofp g04 (parse_print hc hl) fun lw nw F S6 g6 v6 => copy_mk g6.wf v6.ones.1 v6.ones.2 fun S8 g8 m8 => ifC_ff rfl ?_
    have g48 := g6.trans g8
    refine ⟨_, _, _, _, _, ld5 m8, _, _, _, _, _, ld5 (Grow.get g48 m4), ref20_Same.same hS _ g8.wf ((v6.grow g8).rv' g8.wf) (v4.grow g48 g48.le) (Nat.lt_succ_self _) fun b S9 hb g9 => ?_⟩
    have : b = true := hb.mpr rfl
    exact ifC_ff (by rw [this]; rfl) (g48.trans g9)
  intro S5 g5
  have g05 := g04.trans g5
  refine ParsesJ.at_ (v := (parseJ t).1) (c := (parseJ t).2) hA.parse g5.wf (hG.upd g05 (by simp)) rfl fun lw nw F S10 g10 v10 => copy_mk g10.wf v10.ones.1 v10.ones.2 fun S12 g12 m12 => ?_
  have g512 := g10.trans g12
  have g012 := g05.trans g512
  have r12 := (v10.grow g12).rv' g12.wf
  refine ifC_ndec (fun hne => ?_) fun heq => ?_
  · have hj := parse_bad hne
    rw [hj] at m12 r12
    refine law20_awake.spec hA g012 (hG.upd g012 (by simp)) fun S13 g13 => ifC_tt rfl ⟨_, _, _, _, _, ld5 (g13.get m12), ref20_Same.same hS _ (w := jnil) g13.wf (r12.grow g13 g13.le) (RV.nil _ _ 0 0 []) (Nat.lt_succ_self _) fun b S14 hb g14 => ?_⟩
    have : b = true := hb.mpr rfl
    rw [this]
    exact hk S14
  · have hpt : parseJ t = ((parseJ t).1, 0) := by rw [← heq]
    generalize (parseJ t).1 = w at *
    obtain ⟨_, _, _, _, hcw⟩ := parseJ_ok hpt
    have hpw := parts_parse hpt
    have hdw := deep_parts w
    refine ⟨_, _, _, _, _, ld5 m12, hA.print g012 r12 (by omega) (by omega) fun S15 g15 => ?_⟩
    have g015 := g012.trans g15
    have m15 := g15.get m12
    have r15 := r12.grow g15 g15.le
    refine ifC_ndec (fun hne => law20_awake.spec hA g015 (hG.upd g015 (by simp)) fun S16 g16 => ifC_tt rfl ?_) fun heq2 => ?_
    · rcases print_cases hcw with h2 | h2
      · rw [h2]; exact hk S16
      · rw [h2.1] at hne; exact absurd rfl hne
    · obtain ⟨hc, hp, hl⟩ := print_ok heq2
      rw [hp]
      refine ofp g015 (parse_print hc hl) fun lx nx F2 S17 g17 v17 => copy_mk g17.wf v17.ones.1 v17.ones.2 fun S19 g19 m19 => ?_
      have g1519 := g17.trans g19
      have g019 := g015.trans g1519
      have r19 := (v17.grow g19).rv' g19.wf
      refine ⟨_, _, _, _, _, ld5 m19, hA.print g019 r19 (by omega) (by omega) fun S20 g20 => ?_⟩
      have g020 := g019.trans g20
      rw [hp]
      refine law20_awake.spec hA g020 (hG.upd g020 (by simp)) fun S21 g21 => ifC_tt rfl (ifC_tt rfl (ifC_tt rfl ?_))
      have gA := g20.trans g21
      refine ⟨_, _, _, _, _, ld5 (Grow.get gA m19), _, _, _, _, _, ld5 (Grow.get (g1519.trans gA) m15), ref20_Same.same hS _ g21.wf (r19.grow gA gA.le) (r15.grow (g1519.trans gA) (g1519.trans gA).le) (Nat.lt_succ_self _) fun b S22 hb g22 => ifC_tt (hb.mpr rfl) ?_⟩
      rw [decide_eq_true rfl]
      exact hk S22

end Go.Th.L
end

section
/- json's laws: blanks change nothing; two texts as a list are both values. -/
set_option linter.unusedSimpArgs false
set_option linter.unusedVariables false
set_option maxHeartbeats 2000000
namespace Go.Th.L
open Go Go.Th Go.Th.Pure
variable {P : Program} {N : Nat → Nat}

end Go.Th.L
end
