/- What the row of one statement stands on: a store, abstract code, functions of the program and their laws (ThHjson17, ThHjson18, ThHjson19, ThHjson20, ThHjson21, ThHjson22, ThHlaw20a, ThHlaw20b, ThPjson8, ThPjson9, ThHlaw20c). -/
import Derived.Test.YtconjbbmdjaehaaDoorThBHcut
import Derived.Test.YtconjbbmdjaehaaDoorThBGstringsLen
import Derived.Test.YtconjbbmdjaehaaDoorThBQ12
import Derived.Test.YtconjbbmdjaehaaDoorThBPjson7

section
/- json: what a value must be. -/
set_option linter.unusedSimpArgs false
set_option linter.unusedVariables false
set_option maxHeartbeats 1000000
namespace Go.Th.L
open Go Go.Th Go.Th.Pure
variable {P : Program} {N : Nat → Nat}

structure CheckF (P : Program) (N : Nat → Nat) : Prop where
  check : json_Check.Ok P N
  all : json_all.Ok P N
  all1 : json_all_1.Ok P N
  cont : slices_ContainsFunc_Lapi_Value.Ok P N
  index : slices_IndexFunc_Lapi_Value.Ok P N
  formed : json_formed.Ok P N
  deep : json_deep.Ok P N
  c1 : json_Check_1.Ok P N
  c2 : json_Check_2.Ok P N
  c3 : json_Check_3.Ok P N
  canall : canEnter P (N Fn.json_all_1) = true
  canf : canEnter P (N Fn.json_formed) = true
  can1 : canEnter P (N Fn.json_Check_1) = true
  can2 : canEnter P (N Fn.json_Check_2) = true
  can3 : canEnter P (N Fn.json_Check_3) = true

theorem json_all.asks (hF : CheckF P N) {f : FuncId} {q : JV → Bool} (hf : ∀ n, AsksJ P f q n) (hcan : canEnter P f = true) (n : Nat) : ∀ {S : St} {v : JV} {lv nv : V} {K : Bool → St → Prop}, S.Wf → RV S S.next v lv nv → SizeOf.sizeOf v < n → (∀ S', Grow S S' → K (allJ q v) S') →
    CallA P (N Fn.json_all) [.agg (vcells v lv nv), .func (.func f) [] []] S (retT [.one .bool] K) := by
  induction n with
  | zero =>
    intro S v lv nv K _ _ h
    exact absurd h (Nat.not_lt_zero _)
  | succ n ih =>
    intro S v lv nv K hw hv hn hk
    refine json_all.run hF.all (newS_mk hw fun S1 g1 m1 n1 => newS_mk g1.wf fun S2 g2 m2 n2 => ?_)
    rw [allJ_eq] at hk
    obtain ⟨es, hv⟩ := hv.at_
    have g02 := g1.trans g2
    have v2 := hv.grow g02 g02.le
    refine ifS_mk (a := .func (.func f) [] []) (ld m2 rfl) ⟨_, _, _, _, _, ld5 (g2.get m1), ifS_mk (callee_mk hcan) (hf _ g2.wf v2.rv (Nat.lt_succ_self _) fun S3 g3 => ?_)⟩
    have g03 := g02.trans g3
    have v3 := v2.grow g3 g3.le
    refine ifC_tt_ff (fun hq => ?_) fun hq => by rw [hq] at hk; exact hk S3 g03
    rw [hq] at hk
    refine ifS_mk (ld (g3.get (g2.get m1)) rfl) (slices_ContainsFunc_Lapi_Value.run hF.cont (slices_IndexFunc_Lapi_Value.run hF.index ⟨_, v3.len, ?_⟩))
    refine Loop1.ind (fun m x S' => ∃ j : Nat, x = j ∧ j ≤ v.list.length ∧ m = v.list.length - j ∧ Grow S3 S' ∧ (v.list.take j).all (allJ q) = true) v.list.length ⟨0, rfl, Nat.zero_le _, rfl, Upd.refl g3.wf _, rfl⟩ ?_
    rintro m _ S4 ⟨j, rfl, hj, rfl, g4, ha⟩
    have v4 := v3.grow g4 g4.le
    refine ifC_dec (fun hx => ?_) fun hx => ?_
    · have hj : j < v.list.length := by omega
      obtain ⟨lw, nw, e, r⟩ := v4.elt hj
      refine ifS_mk (v4.idx hj) ⟨_, _, _, _, _, e, ifS_mk (callee_mk hF.canall) (json_all_1.run hF.all1 (newS_mk g4.wf fun S5 g5 m5 n5 => ⟨_, _, _, _, _, ld5 m5, ?_⟩))⟩
      refine ifS_mk (a := .func (.func f) [] []) (ld (g5.get (g4.get (g3.get m2))) rfl) (ih g5.wf (r.grow g5 g5.le) (by have := JV.list_lt (List.getElem_mem hj); omega) fun S6 g6 => ?_)
      have g46 := g4.trans (g5.trans g6)
      cases hq2 : allJ q v.list[j] with
      | false =>
        have := hk S6 (g03.trans g46)
        rw [all_false hj hq2] at this
        refine ifC_tt rfl ?_
        have h0 : decide ((0 : Int) ≤ ((j : Nat) : Int)) = true := by simp
        show K (!decide ((0 : Int) ≤ ((j : Nat) : Int))) S6
        rw [h0]
        exact this
      | true => exact ifC_ff rfl (setI_mk (n := ((j + 1 : Nat) : Int)) (wrap_next hj hv.le) ⟨v.list.length - (j + 1), by omega, j + 1, rfl, hj, rfl, g46, all_take hj ha hq2⟩)
    · have hj : j = v.list.length := by omega
      subst hj
      rw [List.take_length] at ha
      have := hk S4 (g03.trans g4)
      rw [ha] at this
      exact this

theorem json_formed.asks1 (hF : json_formed.Ok P N) (n : Nat) : AsksJ P (N Fn.json_formed) form1 n := by
  intro S v lv nv K hw hv hn hk
  refine json_formed.run hF (newS_mk hw fun S1 g1 m1 n1 => ⟨_, _, _, _, _, ld5 m1, newS_mk g1.wf fun S2 g2 m2 n2 => ?_⟩)
  obtain ⟨es, hv⟩ := hv.at_
  have o1 := hv.ones
  have lc : ∀ {k m : Nat} {x : V} {cs : List V}, SlAt S k x m cs → x.cells = [x] := fun h => h.cells1
  refine st_mk g2.wf m2 (by simp [V.cells]) (by simp [V.cells]) (by simp only [V.cells, List.all_cons, List.all_nil, o1.1, o1.2]; rfl) fun S3 u3 m3 n3 => ?_
  have g03 : Grow S S3 := (g1.trans g2).after u3 fun j hj => .inl (by rw [List.mem_singleton.mp hj]; have := g1.le; omega)
  have hne : S.next ≠ S1.next := by omega
  have c3 : S3.get S.next = some (.cells (vcells v lv nv) true) := u3.get (g2.get m1) (by simp; omega)
  have m3 : S3.get S1.next = some (.cells (vcells v lv nv) true) := m3
  have v3 := hv.grow g03 g03.le
  have tail : ∀ {S4 : St} {m0 : Int} {t0 : Bs8} {l0 n0 : V} {ll nn : Nat}, Grow S S4 → S4.get S1.next = some (.cells [.int .i64 v.sort, .int .i64 m0, .str t0, l0, n0] true) → lenV S4 2 l0 = some (.int .i64 (ll : Nat)) → lenV S4 2 n0 = some (.int .i64 (nn : Nat)) →
      K (decide (m0 = 0) && decide (t0 = []) && decide (ll = 0) && decide (nn = 0)) S4 → ∃ x32 : Int, loadV S4 (V.ptr S1.next 1) = some (V.int .i64 x32) ∧
   ifC (decide (x32 = (0 : Int)))
   (∃ x36 : List UInt8, loadV S4 (V.ptr S1.next 2) = some (V.str x36) ∧
   ifC (decide (x36 = ([] : List UInt8)))
   (ifS (loadV S4 (V.ptr S1.next 3)) fun x41 =>
   ∃ x42 : Int, lenV S4 2 x41 = some (V.int .i64 x42) ∧
   ifC (decide (x42 = (0 : Int)))
   (ifS (loadV S4 (V.ptr S1.next 4)) fun x47 =>
   ∃ x48 : Int, lenV S4 2 x47 = some (V.int .i64 x48) ∧
   K (decide (x48 = (0 : Int))) S4)
   (K false S4))
   (K false S4))
   (K false S4) := by
    intro S4 m0 t0 l0 n0 ll nn g4 c4 e1 e2 hk
    refine ⟨m0, ld c4 rfl, ifC_dec (fun hx => ⟨t0, ld c4 rfl, ifC_dec (fun hy => ifS_mk (ld c4 rfl) ⟨_, e1, ifC_dec (fun hz => ifS_mk (ld c4 rfl) ⟨_, e2, ?_⟩) fun hz => ?_⟩) fun hy => ?_⟩) fun hx => ?_⟩
    · have hz' : ll = 0 := by omega
      rw [hx, hy, hz'] at hk
      have : decide (((nn : Nat) : Int) = 0) = decide (nn = 0) := by rw [decide_eq_decide]; omega
      rw [this]
      simpa using hk
    · have hz' : ll ≠ 0 := by omega
      simpa [hz'] using hk
    · simpa [hy] using hk
    · simpa [hx] using hk
  have nil0 : ∀ {S4 : St}, lenV S4 2 V.nilSlice = some (.int .i64 ((0 : Nat) : Int)) := rfl
  have up : ∀ {S4 : St}, Upd [S1.next] S3 S4 → Grow S S4 := fun u => g03.after u fun j hj => .inl (by rw [List.mem_singleton.mp hj]; have := g1.le; omega)
  refine Join0.mid (fun S' => ∃ m0 t0 l0 n0, ∃ ll nn : Nat, Grow S S' ∧ S'.get S1.next = some (.cells [.int .i64 v.sort, .int .i64 m0, .str t0, l0, n0] true) ∧ lenV S' 2 l0 = some (.int .i64 (ll : Nat)) ∧ lenV S' 2 n0 = some (.int .i64 (nn : Nat)) ∧ form1 v = (decide (m0 = 0) && decide (t0 = []) && decide (ll = 0) && decide (nn = 0))) ?_ ?_
  · refine ⟨v.sort, ld c3 rfl, Join1.mid (fun b S' => S3 = S' ∧ b = decide (v.sort = 1 ∨ v.sort = 2 ∨ v.sort = 3)) ?_ ?_⟩
    · refine ifC_dec (fun hx => ⟨rfl, by simp [hx]⟩) fun hx => ifC_dec (fun hy => ⟨rfl, by simp [hy]⟩) fun hy => ⟨rfl, by simp [hx, hy]⟩
    rintro _ _ ⟨rfl, rfl⟩
    have fin : ∀ {m0 : Int} {t0 : Bs8} {ll nn : Nat}, ((1 ≤ v.sort ∧ v.sort ≤ 7 ∧ (v.sort = 4 ∨ v.num = 0) ∧ (v.sort = 5 ∨ v.text = []) ∧ (v.sort = 6 ∨ v.sort = 7 ∨ v.list.length = 0) ∧ (v.sort = 7 → v.names.length = v.list.length) ∧ (v.sort ≠ 7 → v.names.length = 0)) ↔ (m0 = 0 ∧ t0 = [] ∧ ll = 0 ∧ nn = 0)) → form1 v = (decide (m0 = 0) && decide (t0 = []) && decide (ll = 0) && decide (nn = 0)) := by
      intro m0 t0 ll nn h
      rw [Bool.eq_iff_iff, form1_iff, h]
      simp [and_assoc]
    refine ifC_dec (fun hx => ?_) fun hx => ?_
    · refine ⟨v.num, v.text, lv, nv, _, _, g03, m3, v3.len, v3.nlen, fin ?_⟩
      have e5 : v.sort ≠ 5 := by omega
      have e7 : v.sort ≠ 7 := by omega
      have e6 : v.sort ≠ 6 := by omega
      have e4 : v.sort ≠ 4 := by omega
      simp only [e5, e7, e6, e4, false_or, false_imp_iff, true_imp_iff, true_and, ne_eq, not_false_eq_true]
      constructor
      · rintro ⟨_, _, h⟩; exact h
      · intro h; exact ⟨by omega, by omega, h⟩
    refine ifC_dec (fun h4 => ?_) fun h4 => ?_
    · refine st_mk g03.wf m3 (by rfl) (by simp [V.cells, vcells]) (by rfl) fun S6 u6 m6 n6 => ?_
      have g6 := up u6
      have v6 := hv.grow g6 g6.le
      refine ⟨0, v.text, lv, nv, _, _, g6, m6, v6.len, v6.nlen, fin ?_⟩
      simp [h4]
    refine ifC_dec (fun h5 => ?_) fun h5 => ?_
    · refine st_mk g03.wf m3 (by rfl) (by simp [V.cells, vcells]) (by rfl) fun S6 u6 m6 n6 => ?_
      have g6 := up u6
      have v6 := hv.grow g6 g6.le
      refine ⟨v.num, [], lv, nv, _, _, g6, m6, v6.len, v6.nlen, fin ?_⟩
      simp [h5]
    refine ifC_dec (fun h6 => ?_) fun h6 => ?_
    · refine st_mk g03.wf m3 (by rfl) (by simp [V.cells, vcells]) (by rfl) fun S6 u6 m6 n6 => ?_
      have g6 := up u6
      have v6 := hv.grow g6 g6.le
      refine ⟨v.num, v.text, .nilSlice, nv, 0, _, g6, m6, nil0, v6.nlen, fin ?_⟩
      simp [h6]
    refine ifC_dec (fun h7 => ?_) fun h7 => ?_
    · refine ifS_mk (ld c3 rfl) ⟨_, v3.nlen, ifS_mk (ld c3 rfl) ⟨_, v3.len, ifC_ndec (fun hne => ?_) fun heq => ?_⟩⟩
      · have := hk S3 g03
        have hf : form1 v = false := by rw [← Bool.not_eq_true, form1_iff]; intro h; have := h.2.2.2.2.2.1 h7; omega
        rw [hf] at this
        exact this
      · refine st_mk g03.wf m3 (by rfl) (by simp [V.cells, vcells]) (by rfl) fun S6 u6 m6 n6 => st_mk u6.wf m6 (by rfl) (by simp [V.cells, vcells, over]) (by rfl) fun S8 u8 m8 n8 => ?_
        have g8 := up (u6.trans u8)
        refine ⟨v.num, v.text, .nilSlice, .nilSlice, 0, 0, g8, m8, nil0, nil0, fin ?_⟩
        have : v.names.length = v.list.length := by omega
        simp [h7, this]
    · have := hk S3 g03
      have hf : form1 v = false := by rw [← Bool.not_eq_true, form1_iff]; intro h; omega
      rw [hf] at this
      exact this
  · rintro S4 ⟨m0, t0, l0, n0, ll, nn, g4, c4, e1, e2, hf⟩
    refine tail g4 c4 e1 e2 ?_
    rw [← hf]
    exact hk S4 g4

theorem json_deep.deeps (hF : json_deep.Ok P N) (n : Nat) : DeepsJ P (N Fn.json_deep) n := by
  induction n with
  | zero =>
    intro S v lv nv K _ _ h
    exact absurd h (Nat.not_lt_zero _)
  | succ n ih =>
    intro S v lv nv K hw hv hn hd hk
    refine json_deep.run hF (newS_mk hw fun S1 g1 m1 n1 => ?_)
    obtain ⟨es, hv⟩ := hv.at_
    have v1 := hv.grow g1 g1.le
    rw [deepJ_eq] at hk hd
    refine Join0.mid (fun S' => S1 = S' ∧ (v.sort = 6 ∨ v.sort = 7)) ?_ ?_
    · refine ⟨v.sort, ld m1 rfl, ifC_ndec (fun hx => ⟨v.sort, ld m1 rfl, ifC_ndec (fun hy => ?_) fun hy => ⟨rfl, .inr hy⟩⟩) fun hx => ⟨rfl, .inl hx⟩⟩
      rw [if_neg (by omega)] at hk
      exact hk S1 g1
    rintro _ ⟨rfl, hs⟩
    rw [if_pos hs] at hk hd
    refine ifS_mk (ld m1 rfl) ⟨_, v1.len, ?_⟩
    refine Loop2.ind (fun m y x S' => ∃ j : Nat, x = j ∧ j ≤ v.list.length ∧ m = v.list.length - j ∧ Grow S1 S' ∧ y = (deepsJ (v.list.take j) : Nat)) v.list.length ⟨0, rfl, Nat.zero_le _, rfl, Upd.refl g1.wf _, by rw [List.take_zero, deepsJ]; rfl⟩ ?_
    rintro m _ _ S3 ⟨j, rfl, hj, rfl, g, rfl⟩
    have h3 := v1.grow g g.le
    refine ifC_dec (fun hx => ?_) fun hx => ?_
    · have hj : j < v.list.length := by omega
      obtain ⟨lw, nw, e, r⟩ := h3.elt hj
      have hm := List.getElem_mem hj
      obtain ⟨es2, r2⟩ := r.at_
      refine ifS_mk (h3.idx hj) ⟨_, _, _, _, _, e, newS_mk g.wf fun S4 g4 m4 n4 => st_mk g4.wf m4 (by simp [V.cells]) (by simp [V.cells]) (by simp only [V.cells, List.all_cons, List.all_nil, r2.ones.1, r2.ones.2]; rfl) fun S5 u5 m5 n5 => ?_⟩
      have g35 : Grow S3 S5 := g4.after u5 fun j hj => .inl (by rw [List.mem_singleton.mp hj]; exact Nat.le_refl _)
      refine ⟨_, _, _, _, _, ld5 (v := v.list[j]) m5, ih g35.wf (r.grow g35 (by have := g1.le; have := g.le; have := g35.le; omega)) (by have := JV.list_lt hm; omega) (by have := deepsJ_le hm; omega) fun S6 g6 => ?_⟩
      exact setI_mk (n := ((j + 1 : Nat) : Int)) (wrap_next hj hv.le) ⟨v.list.length - (j + 1), by omega, j + 1, rfl, hj, rfl, g.trans (g35.trans g6), by rw [goMax_nat, deepsJ_take hj]⟩
    · have hj : j = v.list.length := by omega
      subst hj
      rw [List.take_length]
      exact setI_mk (n := ((deepsJ v.list + 1 : Nat) : Int)) (wrap_nat (by omega)) (hk S3 (g1.trans g))

end Go.Th.L
end

section
/- json: what a value must be, all together. -/
set_option linter.unusedSimpArgs false
set_option linter.unusedVariables false
set_option maxHeartbeats 1000000
namespace Go.Th.L
open Go Go.Th Go.Th.Pure
variable {P : Program} {N : Nat → Nat}

theorem mem_take_succ {l : List Bs8} {j : Nat} (hj : j < l.length) {t : Bs8} : t ∈ l.take (j + 1) ↔ t ∈ l.take j ∨ t = l[j] := by
  rw [← List.take_append_getElem hj, List.mem_append, List.mem_singleton]

theorem json_Check_1.asks (hF : json_Check_1.Ok P N) (n : Nat) : AsksJ P (N Fn.json_Check_1) small1 n := by
  intro S v lv nv K hw hv hn hk
  refine json_Check_1.run hF (newS_mk hw fun S1 g1 m1 n1 => ⟨v.num, ld m1 rfl, ifC_dec (fun hx => ⟨v.num, ld m1 rfl, ?_⟩) fun hx => ?_⟩)
  · have := hk S1 g1
    unfold small1 at this
    rw [decide_eq_true hx, Bool.true_and] at this
    exact this
  · have := hk S1 g1
    unfold small1 at this
    rw [decide_eq_false hx, Bool.false_and] at this
    exact this

theorem json_Check_2.asks (hF : json_Check_2.Ok P N) (n : Nat) : AsksJ P (N Fn.json_Check_2) few1 n := by
  intro S v lv nv K hw hv hn hk
  obtain ⟨es, hv⟩ := hv.at_
  refine json_Check_2.run hF (newS_mk hw fun S1 g1 m1 n1 => ifS_mk (ld m1 rfl) ⟨_, (hv.grow g1 g1.le).len, ?_⟩)
  have := hk S1 g1
  unfold few1 at this
  have e : decide (((v.list.length : Nat) : Int) ≤ 1024) = decide (v.list.length ≤ 1024) := by rw [decide_eq_decide]; omega
  rw [e]
  exact this

theorem json_Check_3.asks (hF : json_Check_3.Ok P N) (n : Nat) : AsksJ P (N Fn.json_Check_3) unlike1 n := by
  intro S v lv nv K hw hv hn hk
  obtain ⟨es, hv⟩ := hv.at_
  refine json_Check_3.run hF (newS_mk hw fun S1 g1 m1 n1 => newS_mk g1.wf fun S2 g2 m2 n2 => ?_)
  have g02 := g1.trans g2
  have v2 := hv.grow g02 g02.le
  refine ifS_mk (ld (g2.get m1) rfl) ⟨_, v2.nlen, ?_⟩
  refine Loop1.ind (fun m x S' => ∃ (j : Nat) (l : List (Nm × V)), x = j ∧ j ≤ v.names.length ∧ m = v.names.length - j ∧ Grow S S' ∧ NamesAt S' S1.next l ∧ RVat S' S'.next v lv nv es ∧ (v.names.take j).Nodup ∧ (∀ t, (lkK l t = some (.bool true) ∧ t ∈ v.names.take j) ∨ (lkK l t = none ∧ t ∉ v.names.take j))) v.names.length ⟨0, [], rfl, Nat.zero_le _, rfl, g02, NamesAt.new (S := S2) m2, v2, by simp, fun t => .inr ⟨rfl, by simp⟩⟩ ?_
  rintro m _ S3 ⟨j, l, rfl, hj, rfl, g, hn, v3, hd, hl⟩
  refine ifC_dec (fun hx => ?_) fun hx => ?_
  · have hj : j < v.names.length := by omega
    refine ifS_mk (v3.nidx hj) ⟨_, v3.name hj, ?_⟩
    have hlk := names_lookup hn (.bool false) false v.names[j]
    rcases hl v.names[j] with ⟨h1, h2⟩ | ⟨h1, h2⟩
    · rw [h1] at hlk
      refine ⟨true, hlk, ifC_tt rfl ?_⟩
      have hu : unlike1 v = false := by
        simp only [unlike1, decide_eq_false_iff_not]
        intro hd
        exact ((nodup_take hj).mp (hd.sublist (List.take_sublist _ _))).2 h2
      have := hk S3 g
      rw [hu] at this
      exact this
    · rw [h1] at hlk
      refine ⟨false, hlk, ifC_ff rfl (names_upd g.wf hn _ _ fun S4 h4 u4 n4 => ?_)⟩
      refine setI_mk (n := ((j + 1 : Nat) : Int)) (wrap_next hj hv.nle) ⟨v.names.length - (j + 1), by omega, j + 1, _, rfl, hj, rfl, ?_, h4, ?_, (nodup_take hj).mpr ⟨hd, h2⟩, fun t => ?_⟩
      · exact g.after u4 fun i hi => .inl (by rw [List.mem_singleton.mp hi]; exact g1.le)
      · exact (hv.upd (g.after u4 fun i hi => .inl (by rw [List.mem_singleton.mp hi]; exact g1.le)) (by simp) (by rw [n4]; exact g.le))
      · rw [lkK_cons]
        by_cases ht : v.names[j] = t
        · subst ht
          rw [if_pos rfl]
          refine .inl ⟨rfl, ?_⟩
          exact (mem_take_succ hj).mpr (.inr rfl)
        · rw [if_neg ht]
          have hdr : lkK (dropK l v.names[j]) t = lkK l t := by
            unfold lkK dropK
            rw [List.find?_filter]
            congr 2
            funext p
            by_cases hp : p.1 = t
            · have : p.1 ≠ v.names[j] := fun e => ht (e ▸ hp)
              simp [hp]; exact fun e => ht e.symm
            · simp [hp]
          have hm : t ∈ v.names.take (j + 1) ↔ t ∈ v.names.take j := by
            rw [mem_take_succ hj]
            exact ⟨fun h => h.elim id fun e => absurd e.symm ht, .inl⟩
          rw [hdr, hm]
          exact hl t
  · have hj : j = v.names.length := by omega
    subst hj
    rw [List.take_length] at hd
    have := hk S3 g
    have hu : unlike1 v = true := by simp only [unlike1, decide_eq_true_eq]; exact hd
    rw [hu] at this
    exact this

theorem json_Check.spec (hF : CheckF P N) : ChecksJ P (N Fn.json_Check) := by
  intro S v lv nv K hw hv hd hk
  refine json_Check.run hF.check (newS_mk hw fun S1 g1 m1 n1 => ?_)
  have v1 := hv.grow g1 g1.le
  unfold checkJ at hk
  refine ⟨_, _, _, _, _, ld5 m1, json_all.asks hF (json_formed.asks1 hF.formed) hF.canf _ g1.wf v1 (Nat.lt_succ_self _) fun S2 g2 => ?_⟩
  refine ifC_nb (fun h => ?_) fun h => ?_
  · rw [if_pos h] at hk
    exact hk S2 (g1.trans g2)
  rw [if_neg (by rw [h]; simp)] at hk
  have v2 := v1.grow g2 g2.le
  refine ⟨_, _, _, _, _, ld5 (g2.get m1), json_deep.deeps hF.deep _ g2.wf v2 (Nat.lt_succ_self _) hd fun S3 g3 => ?_⟩
  refine ifC_dec (fun h => ?_) fun h => ?_
  · rw [if_pos (by omega)] at hk
    exact hk S3 ((g1.trans g2).trans g3)
  rw [if_neg (by omega)] at hk
  have v3 := v2.grow g3 g3.le
  refine ⟨_, _, _, _, _, ld5 (g3.get (g2.get m1)), json_all.asks hF (json_Check_1.asks hF.c1) hF.can1 _ g3.wf v3 (Nat.lt_succ_self _) fun S4 g4 => ?_⟩
  refine ifC_nb (fun h => ?_) fun h => ?_
  · rw [if_pos h] at hk
    exact hk S4 (((g1.trans g2).trans g3).trans g4)
  rw [if_neg (by rw [h]; simp)] at hk
  have v4 := v3.grow g4 g4.le
  refine ⟨_, _, _, _, _, ld5 (g4.get (g3.get (g2.get m1))), json_all.asks hF (json_Check_2.asks hF.c2) hF.can2 _ g4.wf v4 (Nat.lt_succ_self _) fun S5 g5 => ?_⟩
  have g05 := (((g1.trans g2).trans g3).trans g4).trans g5
  refine ifC_nb (fun h => ?_) fun h => ?_
  · rw [if_pos h] at hk
    exact hk S5 g05
  rw [if_neg (by rw [h]; simp)] at hk
  have v5 := v4.grow g5 g5.le
  refine ⟨_, _, _, _, _, ld5 (g5.get (g4.get (g3.get (g2.get m1)))), json_all.asks hF (json_Check_3.asks hF.c3) hF.can3 _ g5.wf v5 (Nat.lt_succ_self _) fun S6 g6 => ?_⟩
  refine ifC_nb (fun h => ?_) fun h => ?_
  · rw [if_pos h] at hk
    exact hk S6 (g05.trans g6)
  · rw [if_neg (by rw [h]; simp)] at hk
    exact hk S6 (g05.trans g6)

end Go.Th.L
end

section
/- json: a text parsed. -/
set_option linter.unusedSimpArgs false
set_option linter.unusedVariables false
set_option maxHeartbeats 1000000
namespace Go.Th.L
open Go Go.Th Go.Th.Pure
variable {P : Program} {N : Nat → Nat}

structure ParseF (P : Program) (N : Nat → Nat) (gs : List Nat) : Prop where
  r : ReadF P N gs
  c : CheckF P N
  parse : json_Parse.Ok P N
  parse1 : json_Parse_1.Ok P N
  can : canEnter P (N Fn.json_Parse_1) = true

theorem json_Parse_1.bad (hF : json_Parse_1.Ok P N) {S : St} (hw : S.Wf) {p q : Nat} (hne : p ≠ q) {cs : List V} {x : V} (hc : S.get p = some (.cells cs true)) (hl : cs.length = 5) (hx : S.get q = some (.cells [x] true)) {R : St → Prop}
    (hk : ∀ S', Upd [p, q] S S' → S'.get p = some (.cells (vcells jnil .nilSlice .nilSlice) true) → S'.get q = some (.cells [.int .i64 200] true) → R S') : panD P [(N Fn.json_Parse_1, [.ptr p 0, .ptr q 0])] R (wrongV N) S := by
  unfold panD
  simp only [leaveX]
  refine CallD.mono (json_Parse_1.run (pv := some (wrongV N)) (K := R) hF ⟨false, rfl, ifC_tt rfl ⟨?_, ?_⟩⟩) ?_
  · simp [assertV, wrongV]
  · refine st_mk hw hc (by simp [V.cells]) (by simp [V.cells, hl]) (by simp [V.cells, V.one]) fun S1 u1 m1 n1 => st_mk u1.wf (u1.get hx (by simp; omega)) (by simp [V.cells]) (by simp [V.cells]) (by simp [V.cells, V.one]) fun S2 u2 m2 n2 => hk S2 ?_ ?_ ?_
    · exact (u1.mono fun j hj => .inl (by simp at hj; simp [hj])).trans (u2.mono fun j hj => .inl (by simp at hj; simp [hj]))
    · have : over cs 0 (V.cells (.agg [(V.int .i64 0), (V.int .i64 0), (V.str ([] : List UInt8)), V.nilSlice, V.nilSlice])) = vcells jnil .nilSlice .nilSlice := by
        match cs, hl with
        | [_, _, _, _, _], _ => rfl
      rw [this] at m1
      exact u2.get m1 (by simp; omega)
    · rw [m2]; rfl
  · rintro b S' ⟨rfl, h⟩
    exact ifC_tt rfl h

theorem json_Parse_1.good (hF : json_Parse_1.Ok P N) {S : St} {p q : Nat} {Q : Bool → St → Prop} (hk : Q false S) : CallD P (N Fn.json_Parse_1) [.ptr p 0, .ptr q 0] none S Q :=
  CallD.mono (json_Parse_1.run (pv := none) (K := fun S' => S' = S) hF ⟨true, rfl, ifC_ff rfl rfl⟩) (by rintro b S' ⟨rfl, rfl⟩; exact hk)

def ParsesJ (P : Program) (f : FuncId) (gs : List Nat) : Prop := ∀ {S : St} {s : Bs8} {K : Int → Int → Bs8 → V → V → Int → St → Prop}, S.Wf → GV gs S →
  (∀ lv nv F S', Grow S S' → VAt S' S.next (parseJ s).1 lv nv F → K (parseJ s).1.sort (parseJ s).1.num (parseJ s).1.text lv nv (parseJ s).2 S') → CallA P f [.str s] S (retT [.agg [.int .i64, .int .i64, .str, .any, .any], .one (.int .i64)] K)

theorem json_Parse.spec {gs : List Nat} (hF : ParseF P N gs) : ParsesJ P (N Fn.json_Parse) gs := by
  intro S s K hw hG hk
  refine json_Parse.run hF.parse (newS_mk hw fun S1 g1 m1 n1 => newS_mk g1.wf fun S2 g2 m2 n2 => ?_)
  have g02 := g1.trans g2
  have p2 := g2.get m1
  have hne : S.next ≠ S1.next := by omega
  have fin : ∀ {S' : St} {v : JV} {lv nv : V} {F : List Nat} {c : Int}, parseJ s = (v, c) → Upd [] S S' → VAt S' S.next v lv nv F → S'.get S.next = some (.cells (vcells v lv nv) true) → S'.get S1.next = some (.cells [.int .i64 c] true) →
      ∃ xa xb : Int, ∃ xc : List UInt8, ∃ xd xe : V, cellNV S' 5 (V.ptr S.next 0) = some (V.agg [(V.int .i64 xa), (V.int .i64 xb), (V.str xc), xd, xe]) ∧ ∃ xr : Int, cell1V S' (V.ptr S1.next 0) = some (V.int .i64 xr) ∧ K xa xb xc xd xe xr S' := by
    intro S' v lv nv F c e u hv c0 c1
    have := hk lv nv F S' u (by rw [e]; exact hv)
    rw [e] at this
    exact ⟨_, _, _, _, _, ldC c0 (by simp [vcells]) rfl, _, ldC1 c1 rfl, this⟩
  have nil : ∀ {S' : St}, VAt S' S.next jnil .nilSlice .nilSlice [] := fun {S'} => VAt.nil S' S.next 0 0 []
  refine ifC_dec (fun hl => ?_) fun hl => ?_
  · refine st_mk g2.wf p2 (by simp [V.cells]) (by simp [V.cells]) (by simp [V.cells, V.one]) fun S3 u3 m3 n3 => st_mk u3.wf (u3.get m2 (by simp; omega)) (by simp [V.cells]) (by simp [V.cells]) (by simp [V.cells, V.one]) fun S4 u4 m4 n4 => ?_
    refine fin (v := jnil) (c := 2) (by unfold parseJ; rw [if_pos (by omega)]) ?_ nil (u4.get m3 (by simp; omega)) m4
    exact (g02.after u3 fun j hj => .inl (by rw [List.mem_singleton.mp hj]; exact Nat.le_refl _)).after u4 fun j hj => .inl (by rw [List.mem_singleton.mp hj]; exact g1.le)
  have hl : s.length ≤ 16384 := by omega
  have hb := blanks_le s
  refine ifS_mk (a := (N Fn.json_Parse_1, [.ptr S.next 0, .ptr S1.next 0])) (by unfold calleeD; exact if_pos hF.can) (newS_mk g2.wf fun S5 g5 m5 n5 => ?_)
  have g05 := g02.trans g5
  have up : ∀ {S' : St}, Upd [S2.next] S5 S' → Upd [] S S' := fun u => g05.after u fun j hj => .inl (by rw [List.mem_singleton.mp hj]; exact g02.le)
  have up3 : ∀ {S' S'' : St}, Upd [] S S' → Upd [S.next, S1.next] S' S'' → Upd [] S S'' := fun u u' => u.after u' fun j hj => .inl (by
    simp only [List.mem_cons, List.not_mem_nil, or_false] at hj
    rcases hj with rfl | rfl
    · exact Nat.le_refl _
    · exact g1.le)
  -- where something is thrown
  have bad : ∀ {S' : St} {cs : List V}, parseJ s = (jnil, 200) → Upd [] S S' → S'.get S.next = some (.cells cs true) → cs.length = 5 → S'.get S1.next = some (.cells [.int .i64 0] true) → ∀ {R : St → Prop},
      (∀ S'', (∃ xa xb : Int, ∃ xc : List UInt8, ∃ xd xe : V, cellNV S'' 5 (V.ptr S.next 0) = some (V.agg [(V.int .i64 xa), (V.int .i64 xb), (V.str xc), xd, xe]) ∧ ∃ xr : Int, cell1V S'' (V.ptr S1.next 0) = some (V.int .i64 xr) ∧ K xa xb xc xd xe xr S'') → R S'') → panD P [(N Fn.json_Parse_1, [.ptr S.next 0, .ptr S1.next 0])] R (wrongV N) S' := by
    intro S' cs e u c0 hcl c1 R hR
    exact json_Parse_1.bad hF.parse1 u.wf hne c0 hcl c1 fun S'' u2 d0 d1 => hR S'' (fin e (up3 u u2) nil d0 d1)
  have e0 : parseJ s = match pvJ (blanksJ s) with
    | none => (jnil, 200)
    | some (v, r) => if blanksJ r = [] then if checkJ v = 0 then (v, 0) else (jnil, checkJ v) else (jnil, 200) := by
    unfold parseJ; rw [if_neg (by omega)]; rfl
  have c05 : ∀ {S' : St}, Upd [S2.next] S5 S' → S'.get S.next = some (.cells [(V.int .i64 0), (V.int .i64 0), (V.str ([] : List UInt8)), V.nilSlice, V.nilSlice] true) ∧ S'.get S1.next = some (.cells [.int .i64 0] true) := fun u =>
    ⟨u.get (g5.get p2) (by simp; omega), u.get (g5.get m2) (by simp; omega)⟩
  refine CallA.np (json_reading_blanks.spec hF.r.o.blanks hF.r.o.trim g5.wf (s := s) m5 fun S6 u6 l6 n6 => ?_)
  have gv6 : GV gs S6 := (hG.upd g05 (by simp)).left u6 m5
  refine json_reading_value.ok hF.r ((blanksJ s).length + 1) u6.wf gv6 l6 (by omega) (by omega) (fun e S7 u7 => ?_) fun v r lv nv F e S8 u8 l8 v8 => ?_
  · have c := c05 (u6.trans u7)
    refine bad ?_ (up (u6.trans u7)) c.1 rfl c.2 fun S'' h => h
    rw [e0, e]
  have hr := (left_len _).1 e
  have hd := deep_text e
  have u58 := u6.trans u8
  have c8 := c05 u58
  have o8 := v8.ones
  refine st_mk u8.wf c8.1 (by simp [V.cells]) (by simp [V.cells]) (by simp only [V.cells, List.all_cons, List.all_nil, o8.1, o8.2]; rfl) fun S10 u10 m10 n10 => ?_
  have m10 : S10.get S.next = some (.cells (vcells v lv nv) true) := m10
  have g010 : Upd [] S S10 := (up u58).after u10 fun j hj => .inl (by rw [List.mem_singleton.mp hj]; exact Nat.le_refl _)
  have hS6 : S5.next ≤ S6.next := u6.le
  have v10 : VAt S10 S.next v lv nv F := VAt.below (by have := g05.le; omega) v (VAt.keep u10 v v8 fun j hj hm => by rw [List.mem_singleton.mp hj] at hm; have := (VAt.own v v8 _ hm).1; have := g1.le; have := g02.le; omega)
  have hF10 : ∀ j ∈ F, S6.next ≤ j := fun j hj => (VAt.own v v8 j hj).1
  have l10 : LeftAt S10 S2.next r := u10.get l8 (by simp; omega)
  have q10 : S10.get S1.next = some (.cells [.int .i64 0] true) := u10.get c8.2 (by simp; omega)
  refine CallA.np (json_reading_blanks.spec hF.r.o.blanks hF.r.o.trim u10.wf l10 fun S11 u11 l11 n11 => ⟨rfl, blanksJ r, ld l11 rfl, ?_⟩)
  have g011 : Upd [] S S11 := g010.after u11 fun j hj => .inl (by rw [List.mem_singleton.mp hj]; exact g02.le)
  have p11 : S11.get S.next = some (.cells (vcells v lv nv) true) := u11.get m10 (by simp; omega)
  have q11 : S11.get S1.next = some (.cells [.int .i64 0] true) := u11.get q10 (by simp; omega)
  have v11 : VAt S11 S.next v lv nv F := VAt.keep u11 v v10 fun j hj hm => by rw [List.mem_singleton.mp hj] at hm; have := hF10 _ hm; omega
  refine json_is.spec hF.r.o.is (fun hb => ?_) fun hb => ?_
  · refine bad ?_ g011 p11 rfl q11 fun S'' h => h
    rw [e0, e]
    simp only
    rw [if_neg (by simpa using hb)]
  have e1 : parseJ s = if checkJ v = 0 then (v, 0) else (jnil, checkJ v) := by
    rw [e0, e]
    simp only
    rw [if_pos (by simpa using hb)]
  refine ⟨_, _, _, _, _, ld5 p11, CallA.np (json_Check.spec hF.c u11.wf (VAt.rv v v11 fun j hj => by obtain ⟨_, _, h⟩ := VAt.own v v11 j hj; exact u11.wf.lt h) (by omega) fun S15 g15 => ?_)⟩
  have p15 := g15.get p11
  have q15 := g15.get q11
  have g015 : Upd [] S S15 := g011.trans g15
  have v15 := v11.grow g15
  refine ifC_ndec (fun hc => ?_) fun hc => ?_
  · rw [if_neg hc] at e1
    refine st_mk g15.wf p15 (by simp [V.cells]) (by simp [V.cells, vcells]) (by simp [V.cells, V.one]) fun S17 u17 m17 n17 => st_mk u17.wf (u17.get q15 (by simp; omega)) (by simp [V.cells]) (by simp [V.cells]) (by simp [V.cells, V.one]) fun S18 u18 m18 n18 => ?_
    refine json_Parse_1.good hF.parse1 (fin e1 ?_ nil (u18.get m17 (by simp; omega)) m18)
    exact (g015.after u17 fun j hj => .inl (by rw [List.mem_singleton.mp hj]; exact Nat.le_refl _)).after u18 fun j hj => .inl (by rw [List.mem_singleton.mp hj]; exact g1.le)
  · rw [if_pos hc] at e1
    refine ⟨_, _, _, _, _, ld5 p15, ?_⟩
    refine st_mk g15.wf p15 (by simp [V.cells]) (by simp [V.cells, vcells]) (by simp only [V.cells, List.all_cons, List.all_nil, o8.1, o8.2]; rfl) fun S20 u20 m20 n20 => st_mk u20.wf (u20.get q15 (by simp; omega)) (by simp [V.cells]) (by simp [V.cells]) (by simp [V.cells, V.one]) fun S21 u21 m21 n21 => ?_
    refine json_Parse_1.good hF.parse1 (fin (F := F) e1 ?_ ?_ (u21.get m20 (by simp; omega)) m21)
    · exact (g015.after u20 fun j hj => .inl (by rw [List.mem_singleton.mp hj]; exact Nat.le_refl _)).after u21 fun j hj => .inl (by rw [List.mem_singleton.mp hj]; exact g1.le)
    · refine VAt.keep u21 v (VAt.keep u20 v v15 fun j hj hm => ?_) fun j hj hm => ?_
      · rw [List.mem_singleton.mp hj] at hm; have := hF10 _ hm; have := g1.le; have := g02.le; omega
      · rw [List.mem_singleton.mp hj] at hm; have := hF10 _ hm; have := g1.le; have := g02.le; omega

end Go.Th.L
end

section
/- json: a text quoted into a builder. -/
set_option linter.unusedSimpArgs false
set_option linter.unusedVariables false
set_option maxHeartbeats 1000000
namespace Go.Th.L
open Go Go.Th Go.Th.Pure
variable {P : Program} {N : Nat → Nat}

structure WIn (T e : TypeId) (S : St) (b : Nat) (g0 : List Nat) (S' : St) (g : List Nat) (acc : Bs8) (xs : List (Nat × Blk)) : Prop where
  sb : SbAt T e S' b g acc
  u : Upd (b :: g0) S S'
  new : ∀ j ∈ g, j ∈ g0 ∨ S.next ≤ j
  keep : ∀ p ∈ xs, S'.get p.1 = some p.2 ∧ p.1 ∉ g ∧ p.1 ≠ b
section
variable {T e : TypeId} {S S' S2 : St} {b : Nat} {g0 g g2 : List Nat} {acc acc2 : Bs8} {xs : List (Nat × Blk)}
theorem WIn.start (hw : S.Wf) (h : SbAt T e S b g acc) : WIn T e S b g S g acc [] := ⟨h, Upd.refl hw _, fun j hj => .inl hj, by simp⟩
theorem WIn.write (h : WIn T e S b g0 S' g acc xs) (k : SbAt T e S2 b g2 acc2) (u : Upd (b :: g) S' S2) (n : ∀ j ∈ g2, j ∈ g ∨ S'.next ≤ j) : WIn T e S b g0 S2 g2 acc2 xs := by
  have hle := h.u.le
  refine ⟨k, h.u.after u fun j hj => ?_, fun j hj => ?_, fun p hp => ?_⟩
  · rcases List.mem_cons.mp hj with rfl | hj
    · exact .inr (by simp)
    · rcases h.new j hj with h' | h'
      · exact .inr (by simp [h'])
      · exact .inl h'
  · rcases n j hj with h' | h'
    · exact h.new j h'
    · exact .inr (by omega)
  · obtain ⟨a1, a2, a3⟩ := h.keep p hp
    refine ⟨u.get a1 (by simp [a2, a3]), fun hm => ?_, a3⟩
    rcases n _ hm with h' | h'
    · exact a2 h'
    · have := h.u.wf.lt a1; omega
theorem WIn.new_ (h : WIn T e S b g0 S' g acc xs) {bk : Blk} (gr : Grow S' S2) (m : S2.get S'.next = some bk) (hb : b < S'.next) (hg : ∀ j ∈ g, j < S'.next) : WIn T e S b g0 S2 g acc ((S'.next, bk) :: xs) := by
  refine ⟨h.sb.upd gr (by simp) (by simp), h.u.trans (gr.mono (by simp)), h.new, fun p hp => ?_⟩
  rcases List.mem_cons.mp hp with rfl | hp
  · exact ⟨m, fun hm => by have := hg _ hm; simp only at this; omega, fun e => by simp only at e; omega⟩
  · obtain ⟨a1, a2, a3⟩ := h.keep p hp
    exact ⟨gr.get a1, a2, a3⟩
theorem WIn.lt (h : WIn T e S b g0 S' g acc xs) : b < S'.next ∧ ∀ j ∈ g, j < S'.next := by
  rcases h.sb with ⟨rfl, h2, p, h3, h4⟩ | ⟨k, c, rfl, h2, h3, h4, h5, h6⟩
  · exact ⟨h.u.wf.lt h4, by simp⟩
  · exact ⟨h.u.wf.lt h4, fun j hj => by rw [List.mem_singleton.mp hj]; exact h.u.wf.lt h5⟩
theorem WIn.more (h : WIn T e S b g0 S' g acc xs) {ys : List (Nat × Blk)} (hy : ∀ p ∈ ys, p ∈ xs) : WIn T e S b g0 S' g acc ys := ⟨h.sb, h.u, h.new, fun p hp => h.keep p (hy p hp)⟩
end

def QuoteOk (P : Program) (N : Nat → Nat) (T e : TypeId) : Prop := ∀ {S : St} {b : Nat} {g : List Nat} {acc s : Bs8} {K : St → Prop}, S.Wf → SbAt T e S b g acc → acc.length + (quoteJ s).length ≤ 70368744177664 → s.length ≤ 70368744177664 →
  (∀ S' g', SbAt T e S' b g' (acc ++ quoteJ s) → Upd (b :: g) S S' → (∀ j ∈ g', j ∈ g ∨ S.next ≤ j) → K S') → CallA P (N Fn.json_quote) [.ptr b 0, .str s] S (retT [] K)

theorem idx_hex {n : Nat} (h : n < 16) : idxStrV (V.str ([48, 49, 50, 51, 52, 53, 54, 55, 56, 57, 97, 98, 99, 100, 101, 102] : List UInt8)) (V.int .u8 ((n : Nat) : Int)) = some (V.int .u8 (((hexD.getD n 0).toNat : Nat) : Int)) := by
  have : n = 0 ∨ n = 1 ∨ n = 2 ∨ n = 3 ∨ n = 4 ∨ n = 5 ∨ n = 6 ∨ n = 7 ∨ n = 8 ∨ n = 9 ∨ n = 10 ∨ n = 11 ∨ n = 12 ∨ n = 13 ∨ n = 14 ∨ n = 15 := by omega
  rcases this with rfl | rfl | rfl | rfl | rfl | rfl | rfl | rfl | rfl | rfl | rfl | rfl | rfl | rfl | rfl | rfl <;> rfl
theorem and15 (n : Nat) (h : n < 256) : intBits .and .u8 ((n : Nat) : Int) (15 : Int) = ((n % 16 : Nat) : Int) := by
  have : ∀ m : Fin 256, intBits .and .u8 ((m.val : Nat) : Int) (15 : Int) = ((m.val % 16 : Nat) : Int) := by decide +kernel
  exact this ⟨n, h⟩
theorem shr4 (n : Nat) : Int.fdiv ((n : Nat) : Int) (2 ^ (min (Int.toNat (4 : Int)) (IntKind.bits .u8))) = ((n / 16 : Nat) : Int) := by
  show Int.fdiv ((n : Nat) : Int) 16 = _
  rw [Int.fdiv_eq_ediv_of_nonneg _ (by omega)]
  omega
theorem flat_take {s : Bs8} {j : Nat} (hj : j < s.length) : (s.take (j + 1)).flatMap quoteB = (s.take j).flatMap quoteB ++ quoteB s[j] := by
  rw [← List.take_append_getElem hj, List.flatMap_append]
  simp
theorem flat_le (s : Bs8) (j : Nat) : ((s.take j).flatMap quoteB).length ≤ (s.flatMap quoteB).length := by
  have e : s.flatMap quoteB = (s.take j).flatMap quoteB ++ (s.drop j).flatMap quoteB := by rw [← List.flatMap_append, List.take_append_drop]
  rw [e, List.length_append]
  omega

theorem json_quote.spec (hF : json_quote.Ok P N) {T e : TypeId} (hB : SbOk P T e (N Fn.strings_Builder_WriteByte) (N Fn.strings_Builder_WriteString) (N Fn.strings_Builder_String)) : QuoteOk P N T e := by
  intro S b g acc s K hw hs hl hsl hk
  have hq : (quoteJ s).length = (s.flatMap quoteB).length + 2 := by unfold quoteJ; rw [List.length_cons, List.length_append, List.length_singleton]
  refine json_quote.run hF (hB.writeByte hw hs (by omega) 34 fun S1 g1 k1 u1 t1 => newS_mk u1.wf fun S2 r2 m2 n2 => ?_)
  have w1 := (WIn.start hw hs).write k1 u1 t1
  have w2 := w1.new_ r2 m2 w1.lt.1 w1.lt.2
  have sl : ∀ {S' : St}, S'.get S1.next = some (.cells (bytesV s) false) → SlAt S' 1 (V.slice S1.next 0 s.length s.length 1 false) s.length (bytesV s) := by
    intro S' h
    refine ⟨by omega, by rw [bytesV_length]; omega, .inr ⟨_, _, _, _, rfl, Nat.le_refl _, ?_⟩⟩
    rw [St.loads_of h (by rw [bytesV_length]; omega)]
    simp [bytesV_length, List.take_of_length_le]
  refine ⟨_, (sl m2).len, ?_⟩
  refine Loop1.ind (fun m x S' => ∃ (j : Nat) (g' : List Nat), x = j ∧ j ≤ s.length ∧ m = s.length - j ∧ WIn T e S b g S' g' (acc ++ (34 :: (s.take j).flatMap quoteB)) [(S1.next, .cells (bytesV s) false)]) s.length ⟨0, g1, rfl, Nat.zero_le _, rfl, by simpa using w2⟩ ?_
  rintro m _ S3 ⟨j, g3, rfl, hj, rfl, w3⟩
  have l3 := (w3.keep (S1.next, .cells (bytesV s) false) (by simp)).1
  have hfl := flat_le s j
  refine ifC_dec (fun hx => ?_) fun hx => ?_
  · have hj : j < s.length := by omega
    have hft := flat_take hj
    have hfl1 := flat_le s (j + 1)
    have hqb := quoteB_len s[j]
    rw [hft, List.length_append] at hfl1
    refine ifS_mk ((sl l3).idx hj) ⟨((s[j].toNat : Nat) : Int), ?_, ?_⟩
    · rw [(sl l3).load hj (by omega)]
      simp [bytesV, hj]
    have again : ∀ {S8 : St} {g8 : List Nat}, WIn T e S b g S8 g8 (acc ++ (34 :: (s.take j).flatMap quoteB) ++ quoteB s[j]) [(S1.next, .cells (bytesV s) false)] → setI (IntKind.i64.wrap (((j : Nat) : Int) + (1 : Int))) fun x49 => ∃ m, m < s.length - j ∧ ∃ (j : Nat) (g' : List Nat), x49 = j ∧ j ≤ s.length ∧ m = s.length - j ∧ WIn T e S b g S8 g' (acc ++ (34 :: (s.take j).flatMap quoteB)) [(S1.next, .cells (bytesV s) false)] := by
      intro S8 g8 w8
      refine setI_mk (n := ((j + 1 : Nat) : Int)) (wrap_nat (by omega)) ⟨s.length - (j + 1), by omega, j + 1, g8, rfl, hj, rfl, ?_⟩
      rw [hft]
      simpa using w8
    have hal : (acc ++ (34 :: (s.take j).flatMap quoteB)).length + (quoteB s[j]).length ≤ 140737488355328 := by
      rw [List.length_append, List.length_cons]; omega
    generalize hA : acc ++ (34 :: (s.take j).flatMap quoteB) = A at w3 again hal
    generalize s[j] = c at *
    refine Join1.mid (fun x S' => S3 = S' ∧ x = decide (c = 34 ∨ c = 92)) ?_ ?_
    · refine ifC_dec (fun h => ⟨rfl, ?_⟩) fun h => ⟨rfl, ?_⟩
      · rw [(byte_int c 34 (by omega)).mp h]; rfl
      · have e1 : c ≠ 34 := fun e => h ((byte_int c 34 (by omega)).mpr e)
        simp only [e1, false_or, decide_eq_decide]
        exact byte_int c 92 (by omega)
    rintro _ _ ⟨rfl, rfl⟩
    refine ifC_dec (fun h => ?_) fun h => ?_
    · have e1 : quoteB c = [92, c] := by unfold quoteB; rw [if_pos h]
      rw [e1] at again hal
      simp only [List.length_cons, List.length_nil] at hal
      refine hB.writeByte w3.u.wf w3.sb (by omega) 92 fun S5 g5 k5 u5 t5 => ?_
      have w5 := w3.write k5 u5 t5
      refine hB.writeByte w5.u.wf w5.sb (by rw [List.length_append]; simp only [List.length_cons, List.length_nil]; omega) c fun S6 g6 k6 u6 t6 => again (g8 := g6) ?_
      have w6 := w5.write k6 u6 t6
      simpa using w6
    refine Join1.mid (fun x S' => S3 = S' ∧ x = decide (32 ≤ c.toNat ∧ c.toNat ≤ 126)) ?_ ?_
    · refine ifC_dec (fun h => ⟨rfl, ?_⟩) fun h => ⟨rfl, ?_⟩
      · rw [decide_eq_decide]; omega
      · rw [eq_comm, decide_eq_false_iff_not]; omega
    rintro _ _ ⟨rfl, rfl⟩
    refine ifC_dec (fun h2 => ?_) fun h2 => ?_
    · have e1 : quoteB c = [c] := by unfold quoteB; rw [if_neg h, if_pos h2]
      rw [e1] at again hal
      simp only [List.length_cons, List.length_nil] at hal
      exact hB.writeByte w3.u.wf w3.sb (by omega) c fun S5 g5 k5 u5 t5 => again (w3.write k5 u5 t5)
    · have e1 : quoteB c = [92, 117, 48, 48, hexD.getD (c.toNat / 16) 0, hexD.getD (c.toNat % 16) 0] := by unfold quoteB; rw [if_neg h, if_neg h2]
      rw [e1] at again hal
      simp only [List.length_cons, List.length_nil] at hal
      have hc := c.toNat_lt
      refine hB.writeString w3.u.wf w3.sb (by decide) (by simp only [List.length_cons, List.length_nil]; omega) fun S9 g9 k9 u9 t9 => ?_
      have w9 := w3.write k9 u9 t9
      refine ⟨by decide, setI_mk (n := ((c.toNat / 16 : Nat) : Int)) (shr4 _) ⟨_, idx_hex (by omega), hB.writeByte w9.u.wf w9.sb (by rw [List.length_append]; simp only [List.length_cons, List.length_nil]; omega) _ fun S10 g10 k10 u10 t10 => ?_⟩⟩
      have w10 := w9.write k10 u10 t10
      refine setI_mk (n := ((c.toNat % 16 : Nat) : Int)) (and15 _ (by omega)) ⟨_, idx_hex (by omega), hB.writeByte w10.u.wf w10.sb (by rw [List.length_append, List.length_append]; simp only [List.length_cons, List.length_nil]; omega) _ fun S11 g11 k11 u11 t11 => again (g8 := g11) ?_⟩
      have w11 := w10.write k11 u11 t11
      simpa using w11
  · have hj : j = s.length := by omega
    subst hj
    rw [List.take_length] at w3
    refine hB.writeByte w3.u.wf w3.sb (by rw [List.length_append, List.length_cons]; omega) 34 fun S12 g12 k12 u12 t12 => ?_
    have w12 := w3.write k12 u12 t12
    refine hk S12 g12 ?_ w12.u w12.new
    have := w12.sb
    unfold quoteJ
    simpa using this

end Go.Th.L
end

section
/- json: a value laid into a builder, and printed. -/
set_option linter.unusedSimpArgs false
set_option linter.unusedVariables false
set_option maxHeartbeats 1000000
namespace Go.Th.Pure
open Go
theorem lays_app (named : Bool) (l2 : List JV) : ∀ (first : Bool) (l1 : List JV) (ns : List Bs8), laysJ named first (l1 ++ l2) ns = laysJ named first l1 ns ++ laysJ named (first && l1.isEmpty) l2 (ns.drop l1.length)
  | first, [], ns => by simp [laysJ]
  | first, v :: l1, ns => by
    simp only [List.cons_append, laysJ, lays_app named l2 false l1 ns.tail, List.isEmpty_cons, Bool.and_false, Bool.false_and, List.length_cons, List.append_assoc]
    cases ns <;> simp
theorem lays_le (named : Bool) (l : List JV) (ns : List Bs8) (j : Nat) : (laysJ named true (l.take j) ns).length ≤ (laysJ named true l ns).length := by
  have := lays_app named (l.drop j) true (l.take j) ns
  rw [List.take_append_drop] at this
  rw [this, List.length_append]
  omega
theorem le_quote (s : Bs8) : s.length ≤ (quoteJ s).length := by
  have : ∀ s : Bs8, s.length ≤ (s.flatMap quoteB).length := by
    intro s
    induction s with
    | nil => simp
    | cons c s ih =>
      have e : ((c :: s).flatMap quoteB).length = (quoteB c).length + (s.flatMap quoteB).length := by rw [List.flatMap_cons, List.length_append]
      have := quoteB_len c
      rw [e, List.length_cons]
      omega
  have := this s
  unfold quoteJ
  rw [List.length_cons, List.length_append]
  omega
end Go.Th.Pure
namespace Go.Th.L
open Go Go.Th Go.Th.Pure
variable {P : Program} {N : Nat → Nat}

def ItoaJ (P : Program) (f : FuncId) (S0 : St) : Prop := ∀ {n : Int} {S : St} {K : Bs8 → St → Prop}, Grow S0 S → -999999999999999 ≤ n → n ≤ 999999999999999 → K (Lib.itoa n) S → CallA P f [.int .i64 n] S (retT [.one .str] K)

def LayOk (P : Program) (N : Nat → Nat) (T e : TypeId) (S0 : St) (n : Nat) : Prop := ∀ {S : St} {b B : Nat} {g : List Nat} {acc : Bs8} {v : JV} {lv nv : V} {K : St → Prop}, Grow S0 S → S0.next ≤ b → (∀ j ∈ g, S0.next ≤ j) → SbAt T e S b g acc → RV S B v lv nv → B ≤ b → (∀ j ∈ g, B ≤ j) →
  allJ form1 v = true → allJ small1 v = true → SizeOf.sizeOf v < n → acc.length + (layJ v).length ≤ 70368744177664 →
  (∀ S' g', SbAt T e S' b g' (acc ++ layJ v) → Upd (b :: g) S S' → (∀ j ∈ g', j ∈ g ∨ S.next ≤ j) → K S') → CallA P (N Fn.json_lay) [.ptr b 0, .agg (vcells v lv nv)] S (retT [] K)

theorem all_at {q : JV → Bool} {v : JV} (h : allJ q v = true) : q v = true ∧ ∀ w ∈ v.list, allJ q w = true := by
  rw [allJ_eq, Bool.and_eq_true, List.all_eq_true] at h
  exact h

theorem json_lay.ok (hF : json_lay.Ok P N) {T e : TypeId} {S0 : St} (hB : SbOk P T e (N Fn.strings_Builder_WriteByte) (N Fn.strings_Builder_WriteString) (N Fn.strings_Builder_String)) (hQ : QuoteOk P N T e) (hI : ItoaJ P (N Fn.strconv_Itoa) S0) (n : Nat) : LayOk P N T e S0 n := by
  induction n with
  | zero =>
    intro S b B g acc v lv nv K _ _ _ _ _ _ _ _ _ h
    exact absurd h (Nat.not_lt_zero _)
  | succ n ih =>
    intro S b B g acc v lv nv K h0 hb0 hg0 hs hv hbB hgB hf hsm hn hl hk
    have hw := h0.wf
    refine json_lay.run hF (newS_mk hw fun S1 r1 m1 n1 => ?_)
    have wS := WIn.start hw hs
    have w1 := wS.new_ r1 m1 wS.lt.1 wS.lt.2
    have hBS : B < S.next := Nat.lt_of_le_of_lt hbB wS.lt.1
    obtain ⟨es, hv⟩ := hv.at_
    obtain ⟨f1, ff⟩ := all_at hf
    obtain ⟨s1, sf⟩ := all_at hsm
    rw [form1_iff] at f1
    simp only [small1, Bool.and_eq_true] at s1
    have s1 : v.num ≤ 999999999999999 ∧ -999999999999999 ≤ v.num := ⟨of_decide_eq_true s1.1, of_decide_eq_true s1.2⟩
    rw [layJ_eq] at hl hk
    have grow0 : ∀ {S' : St}, Upd (b :: g) S S' → Grow S0 S' := fun u => h0.after u fun j hj => .inl (by
      rcases List.mem_cons.mp hj with rfl | hj
      · exact hb0
      · exact hg0 j hj)
    -- one write, and done
    have one : ∀ {S2 : St} {s : Bs8}, Grow S1 S2 → s ≠ [] → acc.length + s.length ≤ 70368744177664 → (∀ S' g', SbAt T e S' b g' (acc ++ s) → Upd (b :: g) S S' → (∀ j ∈ g', j ∈ g ∨ S.next ≤ j) → K S') → CallA P (N Fn.strings_Builder_WriteString) [.ptr b 0, .str s] S2 (retT [.one (.int .i64), .one .any] fun _ _ S' => K S') := by
      intro S2 s r2 hne hl hk
      have w2 : WIn T e S b g S2 g acc [] := ⟨w1.sb.upd r2 (by simp) (by simp), w1.u.trans (r2.mono (by simp)), w1.new, by simp⟩
      refine hB.writeString w2.u.wf w2.sb hne (by omega) fun S' g' k u t => ?_
      have w3 := w2.write k u t
      exact hk S' g' w3.sb w3.u w3.new
    refine ⟨v.sort, ld m1 rfl, ifC_dec (fun h => ?_) fun x1 => ifC_dec (fun h => ?_) fun x2 => ifC_dec (fun h => ?_) fun x3 => ifC_dec (fun h => ?_) fun x4 => ifC_dec (fun h => ?_) fun x5 => ?_⟩
    · rw [if_pos h] at hl hk
      exact one (Upd.refl r1.wf _) (by decide) hl hk
    · rw [if_neg x1, if_pos h] at hl hk
      exact one (Upd.refl r1.wf _) (by decide) hl hk
    · rw [if_neg x1, if_neg x2, if_pos h] at hl hk
      exact one (Upd.refl r1.wf _) (by decide) hl hk
    · rw [if_neg x1, if_neg x2, if_neg x3, if_pos h] at hl hk
      refine ⟨v.num, ld m1 rfl, hI (h0.trans r1) s1.2 s1.1 (one (Upd.refl r1.wf _) ?_ hl hk)⟩
      unfold Lib.itoa
      split
      · simp
      · intro e
        have h1 := dec_len v.num.toNat
        rw [e] at h1
        have h2 := Lib.nDigits_pos v.num.toNat
        simp at h1; omega
    · rw [if_neg x1, if_neg x2, if_neg x3, if_neg x4, if_pos h] at hl hk
      have := le_quote v.text
      refine ⟨v.text, ld m1 rfl, hQ r1.wf w1.sb (by omega) (by omega) fun S' g' k u t => ?_⟩
      have w3 := w1.write k u t
      exact hk S' g' w3.sb w3.u w3.new
    rw [if_neg x1, if_neg x2, if_neg x3, if_neg x4, if_neg x5] at hl hk
    have h67 : v.sort = 6 ∨ v.sort = 7 := by omega
    refine Join1.mid (fun x S' => S1 = S' ∧ x = [(if v.sort = 7 then 123 else 91 : UInt8), (if v.sort = 7 then 125 else 93 : UInt8)]) ?_ ?_
    · refine ⟨v.sort, ld m1 rfl, ifC_dec (fun h => ⟨rfl, ?_⟩) fun h => ⟨rfl, ?_⟩⟩
      · rw [if_pos h, if_pos h]
      · rw [if_neg h, if_neg h]
    rintro _ _ ⟨rfl, rfl⟩
    generalize hop : (if v.sort = 7 then 123 else 91 : UInt8) = op at *
    generalize hcl : (if v.sort = 7 then 125 else 93 : UInt8) = cl at *
    simp only [List.length_cons, List.length_append, List.length_nil] at hl
    refine ⟨_, idx_str (s := [op, cl]) (j := 0) (by simp), hB.writeByte r1.wf w1.sb (by omega) op fun S9 g9 k9 u9 t9 => ?_⟩
    have w9 := w1.write k9 u9 t9
    have hD : ∀ j ∈ b :: g, B ≤ j := fun j hj => by
      rcases List.mem_cons.mp hj with rfl | hj
      · exact hbB
      · exact hgB j hj
    have cellS : ∀ {S' g' acc' xs}, WIn T e S b g S' g' acc' ((S.next, .cells (vcells v lv nv) true) :: xs) → S'.get S.next = some (.cells (vcells v lv nv) true) := fun h => (h.keep (S.next, .cells (vcells v lv nv) true) (by simp)).1
    have w9 : WIn T e S b g S9 g9 (acc ++ [op]) [(S.next, .cells (vcells v lv nv) true)] := w9
    have v9 := hv.upd w9.u hD (Nat.le_refl _)
    refine ifS_mk (ld (cellS w9) rfl) ⟨_, v9.len, ?_⟩
    refine Loop1.ind (fun m x S' => ∃ (j : Nat) (g' : List Nat), x = j ∧ j ≤ v.list.length ∧ m = v.list.length - j ∧ WIn T e S b g S' g' (acc ++ (op :: laysJ (decide (v.sort = 7)) true (v.list.take j) v.names)) [(S.next, .cells (vcells v lv nv) true)]) v.list.length ⟨0, g9, rfl, Nat.zero_le _, rfl, by rw [List.take_zero, laysJ]; exact w9⟩ ?_
    rintro m _ S10 ⟨j, g10, rfl, hj, rfl, w10⟩
    have v10 := hv.upd w10.u hD (Nat.le_refl _)
    have hle := lays_le (decide (v.sort = 7)) v.list v.names j
    refine ifC_dec (fun hx => ?_) fun hx => ?_
    · have hj : j < v.list.length := by omega
      have hle1 := lays_le (decide (v.sort = 7)) v.list v.names (j + 1)
      have htk := lays_take (named := decide (v.sort = 7)) (ns := v.names) hj
      rw [htk, List.length_append] at hle1
      obtain ⟨lw, nw, ee, rr⟩ := v10.elt hj
      have oo : lw.one = true ∧ nw.one = true := by obtain ⟨es2, r2⟩ := rr.at_; exact r2.ones
      refine ifS_mk (v10.idx hj) ⟨_, _, _, _, _, ee, newS_mk w10.u.wf fun S11 r11 m11 n11 => st_mk r11.wf m11 (by simp [V.cells]) (by simp [V.cells]) (by simp only [V.cells, List.all_cons, List.all_nil, oo.1, oo.2]; rfl) fun S12 u12 m12 n12 => ?_⟩
      have g1012 : Grow S10 S12 := r11.after u12 fun i hi => .inl (by rw [List.mem_singleton.mp hi]; exact Nat.le_refl _)
      have w12 : WIn T e S b g S12 g10 (acc ++ (op :: laysJ (decide (v.sort = 7)) true (v.list.take j) v.names)) [(S10.next, .cells (vcells v.list[j] lw nw) true), (S.next, .cells (vcells v lv nv) true)] := w10.new_ g1012 m12 w10.lt.1 w10.lt.2
      have hA : (acc ++ (op :: laysJ (decide (v.sort = 7)) true (v.list.take j) v.names)).length = acc.length + 1 + (laysJ (decide (v.sort = 7)) true (v.list.take j) v.names).length := by
        rw [List.length_append, List.length_cons]; omega
      have hnext : acc ++ (op :: laysJ (decide (v.sort = 7)) true (v.list.take (j + 1)) v.names) = (acc ++ (op :: laysJ (decide (v.sort = 7)) true (v.list.take j) v.names)) ++ pieceJ (decide (v.sort = 7)) j v.list[j] v.names := by rw [htk]; simp
      generalize hA0 : acc ++ (op :: laysJ (decide (v.sort = 7)) true (v.list.take j) v.names) = A at *
      have hpl : A.length + (pieceJ (decide (v.sort = 7)) j v.list[j] v.names).length ≤ 70368744177664 := by omega
      unfold pieceJ at hpl hnext
      refine Join0.mid (fun S' => ∃ g', WIn T e S b g S' g' (A ++ (if j = 0 then [] else [44])) [(S10.next, .cells (vcells v.list[j] lw nw) true), (S.next, .cells (vcells v lv nv) true)]) ?_ ?_
      · refine ifC_dec (fun h => ?_) fun h => ?_
        · rw [if_neg (by omega)] at hpl ⊢
          simp only [List.length_append, List.length_cons] at hpl
          exact hB.writeByte w12.u.wf w12.sb (by omega) 44 fun S14 g14 k14 u14 t14 => ⟨g14, w12.write k14 u14 t14⟩
        · rw [if_pos (by omega)]
          exact ⟨g10, by simpa using w12⟩
      rintro S13 ⟨g13, w13⟩
      have hlB : ((if j = 0 then [] else [44] : Bs8)).length ≤ 1 := by split <;> simp
      have hA2 : (A ++ (if j = 0 then [] else [44])).length = A.length + ((if j = 0 then [] else [44] : Bs8)).length := List.length_append
      rw [List.length_append] at hpl
      have hnext2 : acc ++ (op :: laysJ (decide (v.sort = 7)) true (v.list.take (j + 1)) v.names) = (A ++ (if j = 0 then [] else [44])) ++ ((if (decide (v.sort = 7)) = true then quoteJ (v.names.getD j []) ++ [58] else []) ++ layJ v.list[j]) := by rw [hnext]; simp
      generalize (if j = 0 then [] else [44] : Bs8) = sep at *
      generalize A ++ sep = A2 at *
      refine Join0.mid (fun S' => ∃ g', WIn T e S b g S' g' (A2 ++ (if (decide (v.sort = 7)) = true then quoteJ (v.names.getD j []) ++ [58] else [])) [(S10.next, .cells (vcells v.list[j] lw nw) true), (S.next, .cells (vcells v lv nv) true)]) ?_ ?_
      · have c13 := (w13.keep (S.next, .cells (vcells v lv nv) true) (by simp)).1
        have v13 := hv.upd w13.u hD (Nat.le_refl _)
        refine ⟨v.sort, ld c13 rfl, ifC_dec (fun h => ?_) fun h => ?_⟩
        · have hjn : j < v.names.length := by have := f1.2.2.2.2.2.1 h; omega
          rw [if_pos (by simpa using h)] at hpl ⊢
          have hgd : v.names.getD j [] = v.names[j] := by simp [hjn]
          rw [hgd] at hpl ⊢
          simp only [List.length_append, List.length_cons, List.length_nil] at hpl
          have := le_quote v.names[j]
          refine ifS_mk (ld c13 rfl) (ifS_mk (v13.nidx hjn) ⟨_, v13.name hjn, hQ w13.u.wf w13.sb (by omega) (by omega) fun S16 g16 k16 u16 t16 => ?_⟩)
          have w16 := w13.write k16 u16 t16
          refine hB.writeByte w16.u.wf w16.sb (by rw [List.length_append]; omega) 58 fun S17 g17 k17 u17 t17 => ⟨g17, ?_⟩
          have := w16.write k17 u17 t17
          simpa using this
        · rw [if_neg (by simpa using h)]
          exact ⟨g13, by simpa using w13⟩
      rintro S15 ⟨g15, w15⟩
      have hnext3 : acc ++ (op :: laysJ (decide (v.sort = 7)) true (v.list.take (j + 1)) v.names) = (A2 ++ (if (decide (v.sort = 7)) = true then quoteJ (v.names.getD j []) ++ [58] else [])) ++ layJ v.list[j] := by rw [hnext2]; simp
      rw [List.length_append] at hpl
      generalize (if (decide (v.sort = 7)) = true then quoteJ (v.names.getD j []) ++ [58] else [] : Bs8) = nm at *
      have hm := List.getElem_mem hj
      have u15 := w15.u
      have n15 := w15.new
      refine ⟨_, _, _, _, _, ld5 (w15.keep (S10.next, .cells (vcells v.list[j] lw nw) true) (by simp)).1, ih (B := B) (grow0 u15) hb0 (fun i hi => ?_) w15.sb ?_ hbB (fun i hi => ?_) (ff _ hm) (sf _ hm) (by have := JV.list_lt hm; omega) (by rw [List.length_append]; omega) fun S18 g18 k18 u18 t18 => ?_⟩
      · rcases n15 i hi with h' | h'
        · exact hg0 i h'
        · have := h0.le; omega
      · have v15 := hv.upd w15.u hD (Nat.le_refl _)
        obtain ⟨lw2, nw2, ee2, rr2⟩ := v15.elt hj
        have hj2 : j < es.length := by rw [RVs.length hv.rs]; exact hj
        obtain ⟨lw3, nw3, e3, r3⟩ := RVs.get v15.rs hj hj2
        have e4 := v10.sl.getN (j := j) hj2 (by omega)
        rw [ee, e3] at e4
        simp only [vcells, Option.some.injEq, V.agg.injEq, List.cons.injEq, and_true, true_and] at e4
        rw [e4.1, e4.2]
        exact r3
      · rcases n15 i hi with h' | h'
        · exact hgB i h'
        · omega
      · have w18 := w15.write k18 u18 t18
        refine setI_mk (n := ((j + 1 : Nat) : Int)) (wrap_next hj hv.le) ⟨v.list.length - (j + 1), by omega, j + 1, g18, rfl, hj, rfl, ?_⟩
        rw [hnext3]
        exact w18.more fun p hp => by simp at hp ⊢; exact .inr hp
    · have hj : j = v.list.length := by omega
      subst hj
      rw [List.take_length] at w10
      refine ⟨_, idx_str (s := [op, cl]) (j := 1) (by simp), hB.writeByte w10.u.wf w10.sb (by rw [List.length_append, List.length_cons]; omega) cl fun S19 g19 k19 u19 t19 => ?_⟩
      have w19 := w10.write k19 u19 t19
      refine hk S19 g19 ?_ w19.u w19.new
      have := w19.sb
      simpa using this

end Go.Th.L
end

section
/- json: printing, and names looked up. -/
set_option linter.unusedSimpArgs false
set_option linter.unusedVariables false
set_option maxHeartbeats 1000000
namespace Go.Th.Pure
open Go
theorem check_zero {v : JV} (h : checkJ v = 0) : allJ form1 v = true ∧ deepJ v ≤ 8 ∧ allJ small1 v = true ∧ allJ few1 v = true ∧ allJ unlike1 v = true := by
  unfold checkJ at h
  split at h
  · cases h
  split at h
  · cases h
  split at h
  · cases h
  split at h
  · cases h
  split at h
  · cases h
  · rename_i h1 h2 h3 h4 h5
    exact ⟨by simpa using h1, by omega, by simpa using h3, by simpa using h4, by simpa using h5⟩
def getJ (v : JV) (name : Bs8) : Option JV := if v.sort = 7 then (v.names.findIdx? fun t => decide (t = name)).bind fun j => v.list[j]? else none
end Go.Th.Pure
namespace Go.Th.L
open Go Go.Th Go.Th.Pure
variable {P : Program} {N : Nat → Nat}

structure PrintF (P : Program) (N : Nat → Nat) : Prop where
  c : CheckF P N
  print : json_Print.Ok P N
  lay : json_lay.Ok P N
  quote : json_quote.Ok P N
  len : strings_Builder_Len.Ok P N
  sb : ∃ e, SbOk P (N Fn.ty_strings_Builder) e (N Fn.strings_Builder_WriteByte) (N Fn.strings_Builder_WriteString) (N Fn.strings_Builder_String)

def PrintsJ (P : Program) (f : FuncId) (S0 : St) : Prop := ∀ {S : St} {v : JV} {lv nv : V} {K : Bs8 → Int → St → Prop}, Grow S0 S → RV S S.next v lv nv → deepJ v ≤ 4611686018427387904 → 40 * partsJ v ≤ 70368744177664 → (∀ S', Grow S S' → K (printJ v).1 (printJ v).2 S') →
  CallA P f [.agg (vcells v lv nv)] S (retT [.one .str, .one (.int .i64)] K)

theorem json_Print.spec (hF : PrintF P N) {S0 : St} (hI : ItoaJ P (N Fn.strconv_Itoa) S0) : PrintsJ P (N Fn.json_Print) S0 := by
  intro S v lv nv K h0 hv hd hp hk
  obtain ⟨e, hB⟩ := hF.sb
  refine json_Print.run hF.print (newS_mk h0.wf fun S1 g1 m1 n1 => ⟨_, _, _, _, _, ld5 m1, json_Check.spec hF.c g1.wf (hv.grow g1 g1.le) hd fun S2 g2 => ?_⟩)
  have g02 := g1.trans g2
  have v2 := hv.grow g02 g02.le
  unfold printJ at hk
  refine ifC_ndec (fun hc => ?_) fun hc => ?_
  · rw [if_neg hc] at hk
    exact hk S2 g02
  rw [if_pos hc] at hk
  obtain ⟨c1, _, c2, _, _⟩ := check_zero hc
  refine newS_mk g2.wf fun S3 g3 m3 n3 => ?_
  have g03 := g02.trans g3
  have hll := lay_len v c2
  refine ⟨_, _, _, _, _, ld5 (g3.get (g2.get m1)), json_lay.ok hF.lay hB (json_quote.spec hF.quote hB) hI (SizeOf.sizeOf v + 1) (B := S2.next) (b := S2.next) (g := []) (acc := []) (h0.trans g03) (Nat.le_trans h0.le g02.le) (by simp) (SbAt.fresh m3) (v2.grow g3 (Nat.le_refl _)) (Nat.le_refl _) (by simp) c1 c2 (Nat.lt_succ_self _) (by simp; omega) fun S4 g' k4 u4 t4 => ?_⟩
  have g04 : Grow S S4 := g03.after u4 fun j hj => .inl (by simp only [List.mem_cons, List.not_mem_nil, or_false] at hj; rw [hj]; exact g02.le)
  rw [List.nil_append] at k4
  obtain ⟨x, l1, l2⟩ := k4.len
  refine strings_Builder_Len.run hF.len ⟨rfl, ifS_mk (a := .ptr S2.next 1) rfl (ifS_mk l1 ⟨_, l2, ?_⟩)⟩
  refine ifC_dec (fun h => ?_) fun h => ?_
  · rw [if_pos (by omega)] at hk
    exact hk S4 g04
  · rw [if_neg (by omega)] at hk
    refine hB.string u4.wf k4 fun S6 u6 => hk S6 (g04.after u6 fun j hj => .inl ?_)
    rcases List.mem_cons.mp hj with rfl | hj
    · exact g02.le
    · rcases t4 j hj with h' | h'
      · cases h'
      · have := g03.le; omega

def GetsJ (P : Program) (f : FuncId) : Prop := ∀ {S : St} {v : JV} {lv nv : V} {name : Bs8} {K : Int → Int → Bs8 → V → V → Bool → St → Prop}, S.Wf → RV S S.next v lv nv → (getJ v name = none → ∀ S', Grow S S' → K 0 0 [] .nilSlice .nilSlice false S') →
  (∀ w lw nw S', getJ v name = some w → Grow S S' → RV S' S'.next w lw nw → K w.sort w.num w.text lw nw true S') → CallA P f [.agg (vcells v lv nv), .str name] S (retT [.agg [.int .i64, .int .i64, .str, .any, .any], .one .bool] K)

theorem findIdx_none {l : List Bs8} {name : Bs8} (h : ∀ k (hk : k < l.length), l[k] ≠ name) : l.findIdx? (fun t => decide (t = name)) = none := by
  rw [List.findIdx?_eq_none_iff]
  intro t ht
  obtain ⟨k, hk, rfl⟩ := List.getElem_of_mem ht
  simpa using h k hk
theorem findIdx_some {l : List Bs8} {name : Bs8} {j : Nat} (hj : j < l.length) (h : ∀ k (hk : k < j), l[k]'(by omega) ≠ name) (he : l[j] = name) : l.findIdx? (fun t => decide (t = name)) = some j := by
  rw [List.findIdx?_eq_some_iff_getElem]
  exact ⟨hj, by simpa using he, fun k hk => by simpa using h k hk⟩

theorem slices_Index_Lstring.spec (hF : slices_Index_Lstring.Ok P N) {S : St} (hw : S.Wf) {nv : V} {ns : List Bs8} {name : Bs8} (h : SlAt S 1 nv ns.length (ns.map V.str)) {K : Int → St → Prop}
    (hk : K (match ns.findIdx? fun t => decide (t = name) with
      | some j => ((j : Nat) : Int)
      | none => -1) S) : CallA P (N Fn.slices_Index_Lstring) [nv, .str name] S (retT [.one (.int .i64)] K) := by
  have hle := h.le
  refine slices_Index_Lstring.run hF ⟨_, h.len, Loop1.ind (fun m x S' => S = S' ∧ ∃ j : Nat, x = j ∧ j ≤ ns.length ∧ m = ns.length - j ∧ ∀ k (hk : k < j) (hk2 : k < ns.length), ns[k] ≠ name) ns.length ⟨rfl, 0, rfl, Nat.zero_le _, rfl, fun k hk => absurd hk (Nat.not_lt_zero _)⟩ ?_⟩
  rintro m _ _ ⟨rfl, j, rfl, hj, rfl, hne⟩
  refine ifC_dec (fun hx => ?_) fun hx => ?_
  · have hj : j < ns.length := by omega
    refine ifS_mk (h.idx hj) ⟨ns[j], by rw [h.load hj (by omega)]; simp [hj], ifC_dec (fun he => ?_) fun he => ?_⟩
    · rw [findIdx_some hj (fun k hk => hne k hk (by omega)) he.symm] at hk
      exact hk
    · refine setI_mk (n := ((j + 1 : Nat) : Int)) (wrap_next hj hle) ⟨ns.length - (j + 1), by omega, rfl, j + 1, rfl, hj, rfl, fun k hk hk2 => ?_⟩
      by_cases hkj : k = j
      · subst hkj; exact fun e => he e.symm
      · exact hne k (by omega) hk2
  · rw [findIdx_none fun k hk => hne k (by omega) hk] at hk
    exact hk

theorem json_Get.spec (hF : json_Get.Ok P N) (hX : slices_Index_Lstring.Ok P N) : GetsJ P (N Fn.json_Get) := by
  intro S v lv nv name K hw hv h0 h1
  obtain ⟨es, hv⟩ := hv.at_
  refine json_Get.run hF (newS_mk hw fun S1 g1 m1 n1 => newS_mk g1.wf fun S2 g2 m2 n2 => ?_)
  have g02 := g1.trans g2
  have v2 := hv.grow g02 g02.le
  have p2 := g2.get m1
  refine ifS_mk (ld p2 rfl) (slices_Index_Lstring.spec hX g2.wf v2.nm ?_)
  have up : ∀ {S'}, Upd [S1.next] S2 S' → Grow S S' := fun u => g02.after u fun j hj => .inl (by rw [List.mem_singleton.mp hj]; exact g1.le)
  refine Join1.mid (fun x S' => S2 = S' ∧ (x = true → getJ v name = none) ∧ (x = false → ∃ j : Nat, (v.names.findIdx? fun t => decide (t = name)) = some j ∧ j < v.list.length ∧ v.sort = 7)) ?_ ?_
  · refine ⟨v.sort, ld p2 rfl, ifC_ndec (fun h => ⟨rfl, fun _ => by unfold getJ; rw [if_neg h], fun h => by cases h⟩) fun h => ?_⟩
    cases hi : v.names.findIdx? (fun t => decide (t = name)) with
    | none => exact ifC_tt rfl ⟨rfl, fun _ => by unfold getJ; rw [if_pos h, hi]; rfl, fun h => by cases h⟩
    | some j =>
      refine ifC_ff (by rw [decide_eq_false_iff_not]; simp only; omega) (ifS_mk (ld p2 rfl) ⟨_, v2.len, rfl, fun hx => ?_, fun hx => ⟨j, rfl, ?_, h⟩⟩)
      · unfold getJ
        rw [if_pos h, hi, Option.bind_some]
        have hx := of_decide_eq_true hx
        exact List.getElem?_eq_none (by simp only at hx; omega)
      · have hx := of_decide_eq_false hx
        simp only at hx; omega
  rintro x _ ⟨rfl, hx1, hx0⟩
  refine ifC_tt_ff (fun hx => ?_) fun hx => ?_
  · exact fin_mk g2.wf m2 rfl rfl fun S' u => h0 (hx1 hx) S' (up u)
  · obtain ⟨j, hi, hj, hs⟩ := hx0 hx
    have hg : getJ v name = some v.list[j] := by
      unfold getJ
      rw [if_pos hs, hi, Option.bind_some, List.getElem?_eq_getElem hj]
    rw [hi]
    obtain ⟨lw, nw, e, r⟩ := v2.elt hj
    have o : lw.one = true ∧ nw.one = true := by obtain ⟨es2, r2⟩ := r.at_; exact r2.ones
    refine ifS_mk (ld p2 rfl) (ifS_mk (v2.idx hj) ⟨_, _, _, _, _, e, fin_mk g2.wf m2 o.1 o.2 fun S' u => ?_⟩)
    have v' := hv.grow (up u) (up u).le
    obtain ⟨lw2, nw2, e2, r2⟩ := v'.elt hj
    have hjs : j < es.length := by rw [RVs.length hv.rs]; exact hj
    have e3 := v2.sl.getN (j := j) hjs (by omega)
    have e4 := v'.sl.getN (j := j) hjs (by omega)
    rw [e] at e3
    rw [e2, ← e3] at e4
    simp only [vcells, Option.some.injEq, V.agg.injEq, List.cons.injEq, and_true, true_and] at e4
    rw [e4.1, e4.2] at r2
    exact h1 _ lw nw S' hg (up u) r2

end Go.Th.L
end

section
/- json's laws: the document's examples. -/
set_option linter.unusedSimpArgs false
set_option linter.unusedVariables false
set_option maxHeartbeats 1000000
namespace Go.Th.L
open Go Go.Th Go.Th.Pure
variable {P : Program} {N : Nat → Nat}

theorem parse_a : parseJ [32, 123, 32, 34, 97, 34, 32, 58, 32, 91, 32, 49, 32, 44, 32, 45, 50, 32, 93, 32, 125, 32] = (.mk 7 0 [] [.mk 6 0 [] [.mk 4 1 [] [] [], .mk 4 (-2) [] [] []] []] [[97]], 0) := by rfl
theorem parse_b : parseJ [48, 49] = (jnil, 200) := by rfl
theorem parse_c : parseJ [91, 91, 91, 91, 91, 91, 91, 91, 91, 93, 93, 93, 93, 93, 93, 93, 93, 93] = (jnil, 201) := by rfl
theorem itoa_1 : Lib.itoa 1 = [49] := by
  unfold Lib.itoa
  rw [if_neg (by decide), Lib.decDigits, dif_pos (by decide)]
  rfl
theorem itoa_2 : Lib.itoa (-2) = [45, 50] := by
  unfold Lib.itoa
  rw [if_pos (by decide), Lib.decDigits, dif_pos (by decide)]
  rfl
theorem print_a : printJ (.mk 7 0 [] [.mk 6 0 [] [.mk 4 1 [] [] [], .mk 4 (-2) [] [] []] []] [[97]]) = ([123, 34, 97, 34, 58, 91, 49, 44, 45, 50, 93, 125], 0) := by
  have e : layJ (.mk 7 0 [] [.mk 6 0 [] [.mk 4 1 [] [] [], .mk 4 (-2) [] [] []] []] [[97]]) = [123, 34, 97, 34, 58, 91] ++ (Lib.itoa 1 ++ ([44] ++ (Lib.itoa (-2) ++ [93, 125]))) := by simp [layJ, laysJ, quoteJ, quoteB]
  unfold printJ
  rw [e, itoa_1, itoa_2]
  rfl
theorem print_b : printJ (.mk 5 0 [10, 34, 255] [] []) = ([34, 92, 117, 48, 48, 48, 97, 92, 34, 92, 117, 48, 48, 102, 102, 34], 0) := by rfl

theorem ParsesJ.at_ {f : FuncId} {gs : List Nat} (h : ParsesJ P f gs) {S : St} {s : Bs8} {K : Int → Int → Bs8 → V → V → Int → St → Prop} (hw : S.Wf) (hG : GV gs S) {v : JV} {c : Int} (e : parseJ s = (v, c))
    (hk : ∀ lv nv F S', Grow S S' → VAt S' S.next v lv nv F → K v.sort v.num v.text lv nv c S') : CallA P f [.str s] S (retT [.agg [.int .i64, .int .i64, .str, .any, .any], .one (.int .i64)] K) :=
  h hw hG fun lv nv F S' g hv => by rw [e] at hv ⊢; exact hk lv nv F S' g hv
theorem VAt.rv' {S : St} (hw : S.Wf) {b : Nat} {v : JV} {lv nv : V} {F : List Nat} (h : VAt S b v lv nv F) : RV S S.next v lv nv := VAt.rv v h fun j hj => by obtain ⟨_, _, h⟩ := VAt.own v h j hj; exact hw.lt h
theorem RV.ones {S : St} {B : Nat} {v : JV} {lv nv : V} (h : RV S B v lv nv) : lv.one = true ∧ nv.one = true := by obtain ⟨es, h⟩ := h.at_; exact h.ones
theorem RV.nil (S : St) (B : Nat) (so n : Int) (t : Bs8) : RV S B (.mk so n t [] []) .nilSlice .nilSlice := by
  simp only [RV]
  exact ⟨[], ⟨⟨by decide, by simp, .inl ⟨rfl, rfl⟩⟩, by simp⟩, by simp only [RVs], ⟨by simp, by simp, .inl ⟨rfl, rfl⟩⟩, by simp, by simp⟩

theorem copy_mk {S : St} (hw : S.Wf) {v : JV} {lv nv : V} (h1 : lv.one = true) (h2 : nv.one = true) {K : St → Prop} (hk : ∀ S', Grow S S' → S'.get S.next = some (.cells (vcells v lv nv) true) → K S') :
    newS S (.cells [(V.int .i64 0), (V.int .i64 0), (V.str ([] : List UInt8)), V.nilSlice, V.nilSlice] true) fun S2 => ifS (storeV S2 5 (V.ptr S.next 0) (V.agg [(V.int .i64 v.sort), (V.int .i64 v.num), (V.str v.text), lv, nv])) K :=
  newS_mk hw fun S1 g1 m1 n1 => st_mk g1.wf m1 (by simp [V.cells]) (by simp [V.cells]) (by simp only [V.cells, List.all_cons, List.all_nil, h1, h2]; rfl) fun S2 u2 m2 n2 => hk S2 (g1.after u2 fun j hj => .inl (by rw [List.mem_singleton.mp hj]; exact Nat.le_refl _)) m2

structure Awake20F (P : Program) (N : Nat → Nat) (gs : List Nat) (S0 : St) : Prop where
  parse : ParsesJ P (N Fn.json_Parse) gs
  print : PrintsJ P (N Fn.json_Print) S0
  get : GetsJ P (N Fn.json_Get)
  awake : law20_awake.Ok P N

theorem law20_awake.spec {gs : List Nat} {S0 : St} (hF : Awake20F P N gs S0) {S : St} (h0 : Grow S0 S) (hG : GV gs S) {K : Bool → St → Prop} (hk : ∀ S', Grow S S' → K true S') : CallA P (N Fn.law20_awake) [] S (retT [.one .bool] K) := by
  refine law20_awake.run hF.awake (ParsesJ.at_ hF.parse h0.wf hG parse_a fun lv nv F S1 g1 v1 => ?_)
  have o1 := v1.ones
  refine copy_mk g1.wf o1.1 o1.2 fun S3 g3 m3 => ?_
  have g03 := g1.trans g3
  have v3 := (v1.grow g3).rv' g3.wf
  refine ⟨_, _, _, _, _, ld5 m3, hF.print (h0.trans g03) v3 (by decide) (by decide) fun S4 g4 => ?_⟩
  rw [print_a]
  have g04 := g03.trans g4
  refine ParsesJ.at_ hF.parse g4.wf (hG.upd g04 (by simp)) parse_b fun lv2 nv2 F2 S5 g5 v5 => copy_mk g5.wf v5.ones.1 v5.ones.2 fun S7 g7 m7 => ?_
  have g07 := (g04.trans g5).trans g7
  refine ParsesJ.at_ hF.parse g7.wf (hG.upd g07 (by simp)) parse_c fun lv3 nv3 F3 S8 g8 v8 => copy_mk g8.wf v8.ones.1 v8.ones.2 fun S10 g10 m10 => ?_
  have g010 := (g07.trans g8).trans g10
  refine hF.print (v := .mk 5 0 [10, 34, 255] [] []) (h0.trans g010) (RV.nil _ _ _ _ _) (by decide) (by decide) fun S11 g11 => ?_
  rw [print_b]
  have g311 := ((((g4.trans g5).trans g7).trans g8).trans g10).trans g11
  have g011 := g03.trans g311
  refine ⟨_, _, _, _, _, ld5 (Grow.get g311 m3), hF.get (name := [97]) g11.wf (v3.grow g311 g311.le) (fun e => by cases e) fun w lw nw S12 e g12 r12 => ?_⟩
  obtain rfl : w = .mk 6 0 [] [.mk 4 1 [] [] [], .mk 4 (-2) [] [] []] [] := by
    have : getJ (.mk 7 0 [] [.mk 6 0 [] [.mk 4 1 [] [] [], .mk 4 (-2) [] [] []] []] [[97]]) [97] = some (.mk 6 0 [] [.mk 4 1 [] [] [], .mk 4 (-2) [] [] []] []) := by rfl
    rw [this] at e
    exact (Option.some.inj e).symm
  refine copy_mk g12.wf r12.ones.1 r12.ones.2 fun S14 g14 m14 => ?_
  have r14 := r12.grow g14 g14.le
  obtain ⟨es, r14⟩ := r14.at_
  refine ifC_tt rfl (ifC_tt rfl (ifC_tt rfl (ifC_tt rfl (ifC_tt rfl (ifC_tt rfl (ifC_tt rfl (ifC_tt rfl (ifS_mk (ld m14 rfl) ⟨_, r14.len, ?_⟩))))))))
  exact hk S14 ((g011.trans g12).trans g14)

end Go.Th.L
end

section
/- json's laws: texts parsed. -/
set_option linter.unusedSimpArgs false
set_option linter.unusedVariables false
set_option maxHeartbeats 1000000
namespace Go.Th.L
open Go Go.Th Go.Th.Pure
variable {P : Program} {N : Nat → Nat}

end Go.Th.L
end

section
/- json, plainly: more text behind a value. -/
set_option linter.unusedSimpArgs false
set_option linter.unusedVariables false
namespace Go.Th.Pure
open Go

theorem comes_ext : ∀ {w s r : Bs8} (t : Bs8), comesJ w s = some r → comesJ w (s ++ t) = some (r ++ t)
  | [], s, r, t, h => by simp only [comesJ, Option.some.injEq] at h ⊢; rw [h]
  | b :: w, [], r, t, h => by simp [comesJ] at h
  | b :: w, d :: s, r, t, h => by
    simp only [comesJ, List.cons_append] at h ⊢
    split at h
    · rename_i e
      rw [if_pos e]
      exact comes_ext t h
    · cases h
theorem comes_none1 {e : UInt8} {s : Bs8} (t : Bs8) (h : comesJ [e] s = none) (hs : s ≠ []) : comesJ [e] (s ++ t) = none := by
  cases s with
  | nil => exact absurd rfl hs
  | cons d s =>
    simp only [comesJ, List.cons_append] at h ⊢
    split at h
    · cases h
    · rename_i hne; exact if_neg hne
theorem blanks_c {b : UInt8} {r : Bs8} : blanksJ (b :: r) = if blankB b = true then blanksJ r else b :: r := by
  unfold blanksJ
  rw [List.dropWhile_cons]
theorem blanks_ext {s : Bs8} (t : Bs8) (h : blanksJ s ≠ []) : blanksJ (s ++ t) = blanksJ s ++ t := by
  induction s with
  | nil => exact absurd rfl h
  | cons b s ih =>
    rw [List.cons_append, blanks_c, blanks_c]
    rw [blanks_c] at h
    split
    · rename_i hb
      rw [if_pos hb] at h
      exact ih h
    · rfl
theorem blanks_nil {s : Bs8} (t : Bs8) (h : blanksJ s = []) : blanksJ (s ++ t) = blanksJ t := by
  induction s with
  | nil => rfl
  | cons b s ih =>
    unfold blanksJ at h ⊢
    rw [List.cons_append, List.dropWhile_cons]
    rw [List.dropWhile_cons] at h
    split
    · rename_i hb
      rw [if_pos hb] at h
      exact ih h
    · rename_i hb
      rw [if_neg hb] at h
      cases h
theorem digit_ext {s r : Bs8} {h : Nat} (t : Bs8) (e : digitJ s = some (h, r)) : digitJ (s ++ t) = some (h, r ++ t) := by
  match s, e with
  | b :: s, e =>
    simp only [digitJ, List.cons_append, Option.map_eq_some_iff, Prod.mk.injEq] at e ⊢
    obtain ⟨h', e1, rfl, rfl⟩ := e
    exact ⟨h', e1, rfl, rfl⟩
theorem esc_ext {s r : Bs8} {b : UInt8} (t : Bs8) (e : escJ s = some (b, r)) : escJ (s ++ t) = some (b, r ++ t) := by
  match s, e with
  | c :: s, e =>
    simp only [escJ, List.cons_append] at e ⊢
    split at e
    · rename_i h
      rw [if_pos h]
      simp only [Option.some.injEq, Prod.mk.injEq] at e ⊢
      exact ⟨e.1, by rw [e.2]⟩
    rename_i h
    rw [if_neg h]
    split at e
    · rename_i h
      rw [if_pos h]
      simp only [Option.some.injEq, Prod.mk.injEq] at e ⊢
      exact ⟨e.1, by rw [e.2]⟩
    rename_i h
    rw [if_neg h]
    split at e
    · rename_i h
      rw [if_pos h]
      simp only [Option.some.injEq, Prod.mk.injEq] at e ⊢
      exact ⟨e.1, by rw [e.2]⟩
    rename_i h
    rw [if_neg h]
    split at e
    · rename_i h
      rw [if_pos h]
      obtain ⟨p, e1, e2⟩ := Option.bind_eq_some_iff.mp e
      obtain ⟨u, e3, e4⟩ := Option.bind_eq_some_iff.mp e1
      obtain ⟨q, e5, e6⟩ := Option.map_eq_some_iff.mp e2
      simp only [Prod.mk.injEq] at e6
      rw [comes_ext t e3, Option.bind_some, digit_ext (h := p.1) (r := p.2) t e4, Option.bind_some]
      simp only
      rw [digit_ext (h := q.1) (r := q.2) t e5]
      simp only [Option.map_some, Option.some.injEq, Prod.mk.injEq]
      exact ⟨e6.1, by rw [e6.2]⟩
    · cases e
theorem char_ext {s r : Bs8} {b : UInt8} (t : Bs8) (e : charJ s = some (b, r)) : charJ (s ++ t) = some (b, r ++ t) := by
  match s, e with
  | c :: s, e =>
    simp only [charJ, List.cons_append] at e ⊢
    split at e
    · rename_i h
      rw [if_pos h]
      exact esc_ext t e
    rename_i h
    rw [if_neg h]
    split at e
    · rename_i h
      rw [if_pos h]
      simp only [Option.some.injEq, Prod.mk.injEq] at e ⊢
      exact ⟨e.1, by rw [e.2]⟩
    · cases e
theorem text_ext : ∀ {n m : Nat} {acc s x r : Bs8} (t : Bs8), textJ n acc s = some (x, r) → n ≤ m → textJ m acc (s ++ t) = some (x, r ++ t)
  | 0, _, _, _, _, _, _, h, _ => by simp [textJ] at h
  | n + 1, m, acc, s, x, r, t, h, hm => by
    obtain ⟨m, rfl⟩ : ∃ k, m = k + 1 := ⟨m - 1, by omega⟩
    rw [text_char] at h ⊢
    match s, h with
    | c :: s, h =>
      simp only [List.cons_append] at h ⊢
      split at h
      · rename_i hc
        rw [if_pos hc]
        simp only [Option.some.injEq, Prod.mk.injEq] at h ⊢
        exact ⟨h.1, by rw [h.2]⟩
      · rename_i hc
        rw [if_neg hc]
        obtain ⟨p, e1, e2⟩ := Option.bind_eq_some_iff.mp h
        have := char_ext (b := p.1) (r := p.2) t e1
        rw [List.cons_append] at this
        rw [this, Option.bind_some]
        exact text_ext t e2 (by omega)
theorem quot_ext {s x r : Bs8} (t : Bs8) (h : quotJ s = some (x, r)) : quotJ (s ++ t) = some (x, r ++ t) := by
  obtain ⟨u, e1, e2⟩ := Option.bind_eq_some_iff.mp h
  unfold quotJ
  rw [comes_ext t e1, Option.bind_some]
  exact text_ext t e2 (by rw [List.length_append]; omega)
theorem run_ext (p : UInt8 → Bool) : ∀ (s t : Bs8), s.dropWhile p ≠ [] → (s ++ t).takeWhile p = s.takeWhile p ∧ (s ++ t).dropWhile p = s.dropWhile p ++ t
  | [], t, h => absurd rfl h
  | c :: s, t, h => by
    rw [List.cons_append, List.takeWhile_cons, List.takeWhile_cons, List.dropWhile_cons, List.dropWhile_cons]
    rw [List.dropWhile_cons] at h
    split
    · rename_i hc
      rw [if_pos hc] at h
      obtain ⟨a, b⟩ := run_ext p s t h
      exact ⟨by rw [a], b⟩
    · exact ⟨rfl, rfl⟩
theorem run_end (p : UInt8 → Bool) : ∀ (s t : Bs8), s.dropWhile p = [] → (∀ d t', t = d :: t' → p d = false) → (s ++ t).takeWhile p = s.takeWhile p ∧ (s ++ t).dropWhile p = t
  | [], t, _, ht => by
    cases t with
    | nil => exact ⟨rfl, rfl⟩
    | cons d t => rw [List.nil_append, List.takeWhile_cons, List.dropWhile_cons, ht d t rfl]; exact ⟨rfl, rfl⟩
  | c :: s, t, h, ht => by
    rw [List.cons_append, List.takeWhile_cons, List.takeWhile_cons, List.dropWhile_cons]
    rw [List.dropWhile_cons] at h
    split
    · rename_i hc
      rw [if_pos hc] at h
      obtain ⟨a, b⟩ := run_end p s t h ht
      exact ⟨by rw [a], b⟩
    · rename_i hc
      rw [if_neg hc] at h
      cases h
theorem num_ext {s r : Bs8} {v : Int} (t : Bs8) (h : numJ s = some (v, r)) (ht : r = [] → ∀ d t', t = d :: t' → digJ d = false) : numJ (s ++ t) = some (v, r ++ t) := by
  have hs : s ≠ [] := by rintro rfl; simp [numJ, signJ, badNum] at h
  have hsg : signJ (s ++ t) = ((signJ s).1, (signJ s).2 ++ t) := by
    cases s with
    | nil => exact absurd rfl hs
    | cons c s =>
      by_cases hc : c = 45
      · subst hc; rfl
      · unfold signJ
        rw [if_neg (show ¬ (c :: s ++ t).head? = some 45 from fun e => hc (by simpa using e)), if_neg (show ¬ (c :: s).head? = some 45 from fun e => hc (by simpa using e))]
  unfold numJ at h ⊢
  rw [hsg]
  simp only
  split at h
  · cases h
  · rename_i hb
    simp only [Option.some.injEq, Prod.mk.injEq] at h
    have hr : ((signJ s).2 ++ t).takeWhile digJ = (signJ s).2.takeWhile digJ ∧ ((signJ s).2 ++ t).dropWhile digJ = r ++ t := by
      by_cases he : r = []
      · subst he
        have := run_end digJ _ t h.2 (ht rfl)
        exact ⟨this.1, by rw [this.2]; rfl⟩
      · have := run_ext digJ (signJ s).2 t (by rw [h.2]; exact he)
        exact ⟨this.1, by rw [this.2, h.2]⟩
    rw [hr.1, hr.2, if_neg hb]
    simp only [Option.some.injEq, Prod.mk.injEq]
    exact ⟨h.1, trivial⟩
theorem pv_nil : pvJ [] = none := by rfl
theorem pv_not_close (r : Bs8) : pvJ (93 :: r) = none ∧ pvJ (125 :: r) = none := by
  refine ⟨?_, ?_⟩
  · rw [pv_d (by intro b t e; injection e with e1 e2; subst e1; decide), num_not (by decide) (by decide)]; rfl
  · rw [pv_d (by intro b t e; injection e with e1 e2; subst e1; decide), num_not (by decide) (by decide)]; rfl
theorem head_ne {nm : Bool} {ns ns2 : List Bs8} {s s2 : Bs8} (h : headJ nm ns s = some (ns2, s2)) (hp : pvJ s2 ≠ none) : s ≠ [] := by
  rintro rfl
  cases nm with
  | true => simp [headJ, comesJ] at h
  | false =>
    simp only [headJ, Bool.false_eq_true, if_false, Option.some.injEq, Prod.mk.injEq] at h
    rw [← h.2] at hp
    exact hp pv_nil
theorem head_ext {nm : Bool} {ns ns2 : List Bs8} {s s2 : Bs8} (t : Bs8) (h : headJ nm ns s = some (ns2, s2)) (hp : s2 ≠ []) : headJ nm ns (s ++ t) = some (ns2, s2 ++ t) := by
  cases nm with
  | false =>
    simp only [headJ, Bool.false_eq_true, if_false, Option.some.injEq, Prod.mk.injEq] at h ⊢
    exact ⟨h.1, by rw [h.2]⟩
  | true =>
    rw [head_quot] at h ⊢
    obtain ⟨p, e1, e2⟩ := Option.bind_eq_some_iff.mp h
    obtain ⟨r, e3, e4⟩ := Option.map_eq_some_iff.mp e2
    simp only [Prod.mk.injEq] at e4
    have hb : blanksJ p.2 ≠ [] := fun e => by rw [e] at e3; simp [comesJ] at e3
    rw [quot_ext (x := p.1) (r := p.2) t e1, Option.bind_some]
    simp only
    rw [blanks_ext t hb, comes_ext t e3, Option.map_some, blanks_ext t (by rw [e4.2]; exact hp), e4.1, e4.2]

theorem pv_pit_ext (n : Nat) : (∀ {s r : Bs8} {v : JV} (t : Bs8), s.length ≤ n → pvJ s = some (v, r) → (r = [] → ∀ d t', t = d :: t' → digJ d = false) → pvJ (s ++ t) = some (v, r ++ t)) ∧
    (∀ {e : UInt8} {nm : Bool} {l p : List JV} {ns q : List Bs8} {s r : Bs8} (t : Bs8), s.length ≤ n → pitJ e nm l ns s = some (p, q, r) → pitJ e nm l ns (s ++ t) = some (p, q, r ++ t)) := by
  induction n using Nat.strongRecOn with
  | _ n ih =>
  have hv : ∀ {s r : Bs8} {v : JV} (t : Bs8), s.length ≤ n → pvJ s = some (v, r) → (r = [] → ∀ d t', t = d :: t' → digJ d = false) → pvJ (s ++ t) = some (v, r ++ t) := by
    intro s r v t hn h ht
    have lst : ∀ {e : UInt8} {nm : Bool} {r0 : Bs8} {p : List JV} {q : List Bs8} {r1 : Bs8}, r0.length < n → listJ e nm r0 = some (p, q, r1) → listJ e nm (r0 ++ t) = some (p, q, r1 ++ t) := by
      intro e nm r0 p q r1 hr0 h
      have hb := blanks_le r0
      unfold listJ at h ⊢
      cases hc : comesJ [e] (blanksJ r0) with
      | some r2 =>
        rw [hc] at h
        simp only [Option.some.injEq, Prod.mk.injEq] at h
        have hne : blanksJ r0 ≠ [] := fun e => by rw [e] at hc; simp [comesJ] at hc
        rw [blanks_ext t hne, comes_ext t hc]
        simp only [Option.some.injEq, Prod.mk.injEq]
        exact ⟨h.1, h.2.1, by rw [h.2.2]⟩
      | none =>
        rw [hc] at h
        simp only at h
        have hne : blanksJ r0 ≠ [] := fun e' => by
          rw [e', pit_tail] at h
          obtain ⟨a, e1, e2⟩ := Option.bind_eq_some_iff.mp h
          obtain ⟨b, e3, _⟩ := Option.bind_eq_some_iff.mp e2
          exact head_ne (ns2 := a.1) (s2 := a.2) e1 (by rw [e3]; simp) rfl
        rw [blanks_ext t hne, comes_none1 t hc hne]
        exact (ih (n - 1) (by omega)).2 t (by omega) h
    cases s with
    | nil => rw [pv_nil] at h; cases h
    | cons b s =>
      simp only [List.length_cons] at hn
      by_cases h1 : b = 110
      · subst h1
        rw [pv_n] at h
        obtain ⟨r', e1, e2⟩ := Option.map_eq_some_iff.mp h
        simp only [Prod.mk.injEq] at e2
        have := comes_ext t e1
        rw [List.cons_append] at this ⊢
        rw [pv_n, this, ← e2.1, ← e2.2]; rfl
      by_cases h2 : b = 102
      · subst h2
        rw [pv_f] at h
        obtain ⟨r', e1, e2⟩ := Option.map_eq_some_iff.mp h
        simp only [Prod.mk.injEq] at e2
        have := comes_ext t e1
        rw [List.cons_append] at this ⊢
        rw [pv_f, this, ← e2.1, ← e2.2]; rfl
      by_cases h3 : b = 116
      · subst h3
        rw [pv_t] at h
        obtain ⟨r', e1, e2⟩ := Option.map_eq_some_iff.mp h
        simp only [Prod.mk.injEq] at e2
        have := comes_ext t e1
        rw [List.cons_append] at this ⊢
        rw [pv_t, this, ← e2.1, ← e2.2]; rfl
      by_cases h4 : b = 34
      · subst h4
        rw [pv_q] at h
        obtain ⟨r', e1, e2⟩ := Option.map_eq_some_iff.mp h
        simp only [Prod.mk.injEq] at e2
        rw [List.cons_append, pv_q, text_ext (x := r'.1) (r := r'.2) t e1 (by rw [List.length_append]; omega), ← e2.1, ← e2.2]; rfl
      by_cases h5 : b = 91
      · subst h5
        rw [pv_l] at h
        obtain ⟨r', e1, e2⟩ := Option.map_eq_some_iff.mp h
        simp only [Prod.mk.injEq] at e2
        rw [List.cons_append, pv_l, lst (p := r'.1) (q := r'.2.1) (r1 := r'.2.2) (by omega) e1, ← e2.1, ← e2.2]; rfl
      by_cases h6 : b = 123
      · subst h6
        rw [pv_o] at h
        obtain ⟨r', e1, e2⟩ := Option.map_eq_some_iff.mp h
        simp only [Prod.mk.injEq] at e2
        rw [List.cons_append, pv_o, lst (p := r'.1) (q := r'.2.1) (r1 := r'.2.2) (by omega) e1, ← e2.1, ← e2.2]; rfl
      · have hd : ∀ (u : Bs8) (b' : UInt8) (r' : Bs8), b :: u = b' :: r' → b' ≠ 110 ∧ b' ≠ 102 ∧ b' ≠ 116 ∧ b' ≠ 34 ∧ b' ≠ 91 ∧ b' ≠ 123 := by
          intro u b' r' e
          injection e with e1 e2
          subst e1
          exact ⟨h1, h2, h3, h4, h5, h6⟩
        rw [pv_d (hd s)] at h
        obtain ⟨r', e1, e2⟩ := Option.map_eq_some_iff.mp h
        simp only [Prod.mk.injEq] at e2
        have := num_ext (v := r'.1) (r := r'.2) t e1 (by rw [e2.2]; exact ht)
        rw [List.cons_append] at this ⊢
        rw [pv_d (hd (s ++ t)), this, ← e2.1, ← e2.2]; rfl
  refine ⟨fun {s r v} t hn h ht => hv t hn h ht, fun {e nm l p ns q s r} t hn h => ?_⟩
  rw [pit_tail] at h ⊢
  obtain ⟨a, e1, e2⟩ := Option.bind_eq_some_iff.mp h
  obtain ⟨c, e3, e4⟩ := Option.bind_eq_some_iff.mp e2
  have g1 := head_le (ns2 := a.1) (s2 := a.2) e1
  have g2 := (left_len _).1 e3
  have g3 := blanks_le c.2
  have hne : a.2 ≠ [] := fun e => by rw [e, pv_nil] at e3; cases e3
  have hbne : blanksJ c.2 ≠ [] := fun e' => by
    unfold tailI at e4
    rw [e'] at e4
    simp [comesJ] at e4
  have hc2 : c.2 ≠ [] := fun e' => hbne (by rw [e']; rfl)
  rw [head_ext (ns2 := a.1) (s2 := a.2) t e1 hne, Option.bind_some]
  simp only
  rw [hv (v := c.1) (r := c.2) t (by omega) e3 (fun e => absurd e hc2), Option.bind_some]
  simp only
  rw [blanks_ext t hbne]
  unfold tailI at e4 ⊢
  cases hc : comesJ [e] (blanksJ c.2) with
  | some r2 =>
    rw [hc] at e4
    simp only [Option.some.injEq, Prod.mk.injEq] at e4
    rw [comes_ext t hc]
    simp only [Option.some.injEq, Prod.mk.injEq]
    exact ⟨e4.1, e4.2.1, by rw [e4.2.2]⟩
  | none =>
    rw [hc] at e4
    simp only at e4
    rw [comes_none1 t hc hbne]
    simp only
    cases hk : comesJ [44] (blanksJ c.2) with
    | none => rw [hk] at e4; cases e4
    | some r2 =>
      rw [hk] at e4
      simp only at e4
      have g4 := comes_le hk
      have g5 := blanks_le r2
      simp at g4
      rw [comes_ext t hk]
      simp only
      have hne2 : blanksJ r2 ≠ [] := fun e' => by
        rw [e', pit_tail] at e4
        obtain ⟨a', f1, f2⟩ := Option.bind_eq_some_iff.mp e4
        obtain ⟨b', f3, _⟩ := Option.bind_eq_some_iff.mp f2
        exact head_ne (ns2 := a'.1) (s2 := a'.2) f1 (by rw [f3]; simp) rfl
      rw [blanks_ext t hne2]
      exact (ih (n - 1) (by omega)).2 t (by omega) e4
theorem pv_ext {s r : Bs8} {v : JV} (t : Bs8) (h : pvJ s = some (v, r)) (ht : r = [] → ∀ d t', t = d :: t' → digJ d = false) : pvJ (s ++ t) = some (v, r ++ t) := (pv_pit_ext s.length).1 t (Nat.le_refl _) h ht

end Go.Th.Pure
end

section
/- json, plainly: blanks around a value; two values as a list. -/
set_option linter.unusedSimpArgs false
set_option linter.unusedVariables false
namespace Go.Th.Pure
open Go

theorem parseJ_ok {s : Bs8} {v : JV} (h : parseJ s = (v, 0)) : s.length ≤ 16384 ∧ ∃ r, pvJ (blanksJ s) = some (v, r) ∧ blanksJ r = [] ∧ checkJ v = 0 := by
  unfold parseJ at h
  split at h
  · simp at h
  rename_i hl
  split at h
  · simp at h
  rename_i u r e
  split at h
  · rename_i hb
    split at h
    · rename_i hc
      simp only [Prod.mk.injEq, and_true] at h
      subst h
      exact ⟨by omega, r, e, hb, hc⟩
    · rename_i hc
      simp only [Prod.mk.injEq] at h
      exact absurd h.2 hc
  · simp at h
theorem parseJ_of {s r : Bs8} {v : JV} (e : pvJ (blanksJ s) = some (v, r)) (hb : blanksJ r = []) : parseJ s = if 16384 < s.length then (jnil, 2) else if checkJ v = 0 then (v, 0) else (jnil, checkJ v) := by
  unfold parseJ
  split
  · rfl
  · rw [e]
    simp only
    rw [if_pos hb]
theorem blank_head {d : UInt8} {t : Bs8} (h : blanksJ (d :: t) = []) : blankB d = true := by
  rw [blanks_c] at h
  split at h
  · assumption
  · cases h
theorem blank_not_dig {d : UInt8} (h : blankB d = true) : digJ d = false := by
  have h : d = 32 ∨ d = 9 ∨ d = 10 ∨ d = 13 := by simpa [blankB, or_assoc] using h
  rcases h with rfl | rfl | rfl | rfl <;> rfl
theorem blanks_not_dig {sp : Bs8} (h : blanksJ sp = []) : ∀ d t', sp = d :: t' → digJ d = false := fun d t' e => by
  subst e
  exact blank_not_dig (blank_head h)
theorem ok_ne {a r : Bs8} {v : JV} (h : pvJ (blanksJ a) = some (v, r)) : blanksJ a ≠ [] := fun e => by rw [e, pv_nil] at h; cases h

theorem parse_blanks {a sp : Bs8} {v : JV} (h : parseJ a = (v, 0)) (hs : blanksJ sp = []) : parseJ ((sp ++ a) ++ sp) = if 16384 < ((sp ++ a) ++ sp).length then (jnil, 2) else (v, 0) := by
  obtain ⟨hl, r, e, hr, hc⟩ := parseJ_ok h
  have hne := ok_ne e
  have e2 := pv_ext sp e (fun _ => blanks_not_dig hs)
  rw [parseJ_of (s := (sp ++ a) ++ sp) (v := v) (r := r ++ sp) (by rw [List.append_assoc, blanks_nil _ hs, blanks_ext _ hne]; exact e2) (by rw [blanks_nil _ hr]; exact hs), if_pos hc]

theorem not_close {a r : Bs8} {v : JV} (h : pvJ (blanksJ a) = some (v, r)) (t : Bs8) : comesJ [93] (blanksJ a ++ t) = none := by
  have hne := ok_ne h
  cases hb : blanksJ a with
  | nil => exact absurd hb hne
  | cons d s =>
    rw [hb] at h
    have : d ≠ 93 := fun e => by rw [e, (pv_not_close s).1] at h; cases h
    simp only [List.cons_append, comesJ]
    exact if_neg (fun e => this e.symm)

theorem parse_two {a b sp : Bs8} {v w : JV} (ha : parseJ a = (v, 0)) (hb : parseJ b = (w, 0)) (hs : blanksJ sp = []) :
    parseJ ((((((((([91] : Bs8) ++ sp) ++ a) ++ sp) ++ ([44] : Bs8)) ++ sp) ++ b) ++ sp) ++ ([93] : Bs8)) = if 16384 < ((((((((([91] : Bs8) ++ sp) ++ a) ++ sp) ++ ([44] : Bs8)) ++ sp) ++ b) ++ sp) ++ ([93] : Bs8)).length then (jnil, 2) else if 8 < deepJ (.mk 6 0 [] [v, w] []) then (jnil, 201) else (.mk 6 0 [] [v, w] [], 0) := by
  obtain ⟨_, ra, ea, hra, hca⟩ := parseJ_ok ha
  obtain ⟨_, rb, eb, hrb, hcb⟩ := parseJ_ok hb
  have na := ok_ne ea
  have nb := ok_ne eb
  have sd := blanks_not_dig hs
  have hd : ∀ (c : UInt8) (u : Bs8), digJ c = false → ∀ d t', sp ++ c :: u = d :: t' → digJ d = false := by
    intro c u hc d t' e
    cases sp with
    | nil => injection e with e1 e2; rw [← e1]; exact hc
    | cons x sp => injection e with e1 e2; exact sd d sp (by rw [e1])
  generalize hy : (((((((([91] : Bs8) ++ sp) ++ a) ++ sp) ++ ([44] : Bs8)) ++ sp) ++ b) ++ sp) ++ ([93] : Bs8) = y
  have hy2 : y = 91 :: (sp ++ (a ++ (sp ++ 44 :: (sp ++ (b ++ (sp ++ [93])))))) := by rw [← hy]; simp
  have e : pvJ (blanksJ y) = some (.mk 6 0 [] [v, w] [], []) := by
    have e0 : blanksJ y = y := by rw [hy2, blanks_c]; rfl
    rw [e0, hy2, pv_l]
    have e1 : listJ 93 false (sp ++ (a ++ (sp ++ 44 :: (sp ++ (b ++ (sp ++ [93])))))) = some ([v, w], [], []) := by
      unfold listJ
      rw [blanks_nil _ hs, blanks_ext _ na, not_close ea]
      simp only
      rw [pit_tail]
      simp only [headJ, Bool.false_eq_true, if_false, Option.bind_some]
      rw [pv_ext _ ea (fun _ => hd 44 _ (by decide)), Option.bind_some]
      simp only
      rw [blanks_nil _ hra, blanks_nil _ hs]
      have f1 : ∀ u : Bs8, blanksJ (44 :: u) = 44 :: u := fun u => by rw [blanks_c]; rfl
      rw [f1]
      unfold tailI
      have f2 : ∀ u : Bs8, comesJ [93] (44 :: u) = none := fun u => by simp [comesJ]
      have f3 : ∀ u : Bs8, comesJ [44] (44 :: u) = some u := fun u => by simp [comesJ]
      rw [f2]
      simp only
      rw [f3]
      simp only
      rw [blanks_nil _ hs, blanks_ext _ nb, pit_tail]
      simp only [headJ, Bool.false_eq_true, if_false, Option.bind_some]
      rw [pv_ext _ eb (fun _ => hd 93 [] (by decide)), Option.bind_some]
      simp only
      rw [blanks_nil _ hrb, blanks_nil _ hs]
      rfl
    rw [e1]; rfl
  rw [parseJ_of e rfl]
  obtain ⟨a1, a2, a3, a4, a5⟩ := check_zero hca
  obtain ⟨b1, b2, b3, b4, b5⟩ := check_zero hcb
  have hall : ∀ q : JV → Bool, allJ q v = true → allJ q w = true → q (.mk 6 0 [] [v, w] []) = true → allJ q (.mk 6 0 [] [v, w] []) = true := by
    intro q h1 h2 h3
    rw [allJ_eq]
    simp [h3, h1, h2, JV.list]
  have c : checkJ (.mk 6 0 [] [v, w] []) = if 8 < deepJ (.mk 6 0 [] [v, w] []) then 201 else 0 := by
    unfold checkJ
    rw [if_neg (by rw [hall form1 a1 b1 (by rfl)]; simp)]
    split
    · rfl
    · rw [if_neg (by rw [hall small1 a3 b3 (by rfl)]; simp), if_neg (by rw [hall few1 a4 b4 (by rfl)]; simp), if_neg (by rw [hall unlike1 a5 b5 (by rfl)]; simp)]
  rw [c]
  split
  · rfl
  · split
    · rw [if_neg (by decide)]
    · rfl

end Go.Th.Pure
end

section
/- json's laws: blanks change nothing; two texts as a list are both values. -/
set_option linter.unusedSimpArgs false
set_option linter.unusedVariables false
set_option maxHeartbeats 2000000
namespace Go.Th.L
open Go Go.Th Go.Th.Pure
variable {P : Program} {N : Nat → Nat}

theorem and3 (x : Int) : intBits .and .i64 x (3 : Int) = x % 4 := by
  show IntKind.i64.wrap ((BitVec.ofInt 64 x &&& BitVec.ofInt 64 3).toNat : Int) = _
  rw [BitVec.toNat_and, BitVec.toNat_ofInt, show (BitVec.ofInt 64 3).toNat = 2 ^ 2 - 1 from rfl, Nat.and_two_pow_sub_one_eq_mod, IntKind.wrap_i64]
  omega
theorem blank_slice (k : Nat) (hk : k < 4) : ∃ b : UInt8, sliceStrV (V.str ([32, 9, 10, 13] : List UInt8)) (some (V.int .i64 ((k : Nat) : Int))) (some (V.int .i64 ((k + 1 : Nat) : Int))) = some (V.str [b]) ∧ blankB b = true := by
  rcases (by omega : k = 0 ∨ k = 1 ∨ k = 2 ∨ k = 3) with rfl | rfl | rfl | rfl
  · exact ⟨32, rfl, rfl⟩
  · exact ⟨9, rfl, rfl⟩
  · exact ⟨10, rfl, rfl⟩
  · exact ⟨13, rfl, rfl⟩

theorem law20_JsonBlanks.spec {gs : List Nat} {S : St} (hw : S.Wf) (hA : Awake20F P N gs S) (hS : ref20_Same.Ok P N) (hF : law20_JsonBlanks.Ok P N) (hG : GV gs S) {a b : Bs8} {x : V} {is : List Int} (hx : IntsAt S x is) {K : Bool → St → Prop} (hk : ∀ S', K true S') :
    CallA P (N Fn.law20_JsonBlanks) [.str a, .str b, x] S (retT [.one .bool] K) := by
  refine law20_JsonBlanks.run hF (Join0.mid (fun S' => S = S' ∧ a.length ≤ 131072 ∧ b.length ≤ 131072) ?_ ?_)
  · refine ifC_dec (fun _ => hk S) fun h1 => ifC_dec (fun _ => hk S) fun h2 => ⟨_, hx.length, ifC_dec (fun _ => hk S) fun h3 => ⟨rfl, by omega, by omega⟩⟩
  rintro _ ⟨rfl, hla, hlb⟩
  refine Join1.mid (fun sp S' => S = S' ∧ blanksJ sp = [] ∧ sp.length ≤ 50) ?_ ?_
  · refine Loop2.ind (fun m sp z S' => S = S' ∧ ∃ j : Nat, z = j ∧ j ≤ 50 ∧ m = 50 - j ∧ blanksJ sp = [] ∧ sp.length = j) 50 ⟨rfl, 0, rfl, by omega, rfl, rfl, rfl⟩ ?_
    rintro m sp _ _ ⟨rfl, j, rfl, hj, rfl, hb, hl⟩
    refine Join0.mid (fun S' => S = S' ∧ j < is.length ∧ j < 50) ?_ ?_
    · refine ⟨_, hx.length, ifC_dec (fun h => ifC_dec (fun h' => ⟨rfl, by omega, by omega⟩) fun _ => ⟨rfl, hb, by omega⟩) fun _ => ⟨rfl, hb, by omega⟩⟩
    rintro _ ⟨rfl, h1, h2⟩
    obtain ⟨k, hk4, hk⟩ : ∃ k : Nat, k < 4 ∧ is[j] % 4 = (k : Nat) := ⟨(is[j] % 4).toNat, by omega, by omega⟩
    obtain ⟨c, hc, hcb⟩ := blank_slice k hk4
    refine ifS_mk (hx.idx h1) ⟨_, hx.get h1, setI_mk (n := ((k : Nat) : Int)) (by rw [and3, hk]) (setI_mk (n := ((k + 1 : Nat) : Int)) (wrap_nat (by omega)) ⟨[c], hc, by simp; omega, setI_mk (n := ((j + 1 : Nat) : Int)) (wrap_nat (by omega)) ⟨50 - (j + 1), by omega, rfl, j + 1, rfl, by omega, rfl, ?_, by simp; omega⟩⟩)⟩
    rw [blanks_nil _ hb]
    unfold blanksJ
    rw [List.dropWhile_cons, if_pos hcb]; rfl
  rintro sp _ ⟨rfl, hsp, hspl⟩
  refine ParsesJ.at_ (v := (parseJ a).1) (c := (parseJ a).2) hA.parse hw hG rfl fun lv nv F S5 g5 v5 => copy_mk g5.wf v5.ones.1 v5.ones.2 fun S7 g7 m7 => ?_
  have g07 := g5.trans g7
  have r7 := (v5.grow g7).rv' g7.wf
  refine ParsesJ.at_ (v := (parseJ b).1) (c := (parseJ b).2) hA.parse g7.wf (hG.upd g07 (by simp)) rfl fun lv2 nv2 F2 S8 g8 v8 => copy_mk g8.wf v8.ones.1 v8.ones.2 fun S10 g10 m10 => ?_
  have g710 := g8.trans g10
  have g010 := g07.trans g710
  have r10 := (v8.grow g10).rv' g10.wf
  have q10 := Grow.get g710 m7
  refine Join1.mid (fun y S' => S10 = S' ∧ (y = false → (parseJ a).2 = 0 ∧ (parseJ b).2 = 0)) ?_ ?_
  · refine ifC_ndec (fun _ => ⟨rfl, fun h => by cases h⟩) fun h => ⟨rfl, fun h' => ⟨h, by simpa using h'⟩⟩
  rintro y _ ⟨rfl, hy⟩
  refine ifC_tt_ff (fun _ => law20_awake.spec hA g010 (hG.upd g010 (by simp)) fun S' _ => hk S') fun h => ?_
  obtain ⟨ha0, hb0⟩ := hy h
  have ha : parseJ a = ((parseJ a).1, 0) := by rw [← ha0]
  have hb : parseJ b = ((parseJ b).1, 0) := by rw [← hb0]
  generalize (parseJ a).1 = v at *
  generalize (parseJ b).1 = w at *
  have hpb := parse_blanks ha hsp
  refine ⟨by omega, by simp; omega, ?_⟩
  -- the second half
  have half : ∀ {S16 : St}, Grow S10 S16 → (([91] : List UInt8).length + sp.length < 2 ^ 62 ∧ (([91] : List UInt8) ++ sp).length + a.length < 2 ^ 62 ∧ ((([91] : List UInt8) ++ sp) ++ a).length + sp.length < 2 ^ 62 ∧ (((([91] : List UInt8) ++ sp) ++ a) ++ sp).length + ([44] : List UInt8).length < 2 ^ 62 ∧ ((((([91] : List UInt8) ++ sp) ++ a) ++ sp) ++ ([44] : List UInt8)).length + sp.length < 2 ^ 62 ∧ (((((([91] : List UInt8) ++ sp) ++ a) ++ sp) ++ ([44] : List UInt8)) ++ sp).length + b.length < 2 ^ 62 ∧ ((((((([91] : List UInt8) ++ sp) ++ a) ++ sp) ++ ([44] : List UInt8)) ++ sp) ++ b).length + sp.length < 2 ^ 62 ∧ (((((((([91] : List UInt8) ++ sp) ++ a) ++ sp) ++ ([44] : List UInt8)) ++ sp) ++ b) ++ sp).length + ([93] : List UInt8).length < 2 ^ 62 ∧ CallA P (N Fn.json_Parse) [(V.str ((((((((([91] : List UInt8) ++ sp) ++ a) ++ sp) ++ ([44] : List UInt8)) ++ sp) ++ b) ++ sp) ++ ([93] : List UInt8)))] S16 (retT [(.agg [(.int .i64), (.int .i64), .str, .any, .any]), (.one (.int .i64))] fun (x120a_a : Int) (x120a_b : Int) (x120a_c : List UInt8) (x120a_d : V) (x120a_e : V) (x120b : Int) (S19 : St) =>
       newS S19 (.cells [(V.int .i64 0), (V.int .i64 0), (V.str ([] : List UInt8)), V.nilSlice, V.nilSlice] true) fun S20 =>
       ifS (storeV S20 5 (V.ptr S19.next 0) (V.agg [(V.int .i64 x120a_a), (V.int .i64 x120a_b), (V.str x120a_c), x120a_d, x120a_e])) fun S21 =>
       ifC (!decide (x120b = (0 : Int)))
       (CallA P (N Fn.law20_awake) [] S21 (retT [(.one .bool)] fun (x125 : Bool) (S22 : St) =>
        ifC x125
        (ifC (decide (x120b = (2 : Int)))
        (K true S22)
        (K (decide (x120b = (201 : Int))) S22))
        (K false S22)))
       (CallA P (N Fn.law20_awake) [] S21 (retT [(.one .bool)] fun (x134 : Bool) (S23 : St) =>
        ifC x134
        (ifS (loadV S23 (V.ptr S19.next 3)) fun x137 =>
        ∃ x138 : Int, lenV S23 2 x137 = some (V.int .i64 x138) ∧
        ifC (decide (x138 = (2 : Int)))
        (ifS (loadV S23 (V.ptr S19.next 3)) fun x143 =>
        ifS (idxAddrV 5 x143 (V.int .i64 0)) fun x144 =>
        ∃ x145_a x145_b : Int, ∃ x145_c : List UInt8, ∃ x145_d x145_e : V, loadNV S23 5 x144 = some (V.agg [(V.int .i64 x145_a), (V.int .i64 x145_b), (V.str x145_c), x145_d, x145_e]) ∧
        ∃ x146_a x146_b : Int, ∃ x146_c : List UInt8, ∃ x146_d x146_e : V, loadNV S23 5 (V.ptr S5.next 0) = some (V.agg [(V.int .i64 x146_a), (V.int .i64 x146_b), (V.str x146_c), x146_d, x146_e]) ∧
        CallA P (N Fn.ref20_Same) [(V.agg [(V.int .i64 x145_a), (V.int .i64 x145_b), (V.str x145_c), x145_d, x145_e]), (V.agg [(V.int .i64 x146_a), (V.int .i64 x146_b), (V.str x146_c), x146_d, x146_e])] S23 (retT [(.one .bool)] fun (x147 : Bool) (S24 : St) =>
        Same (S19.next :: (V.block x137 ++ (S19.next :: []))) S23 S24 ∧ ifC x147
        (ifS (loadV S24 (V.ptr S19.next 3)) fun x151 =>
        ifS (idxAddrV 5 x151 (V.int .i64 1)) fun x152 =>
        ∃ x153_a x153_b : Int, ∃ x153_c : List UInt8, ∃ x153_d x153_e : V, loadNV S24 5 x152 = some (V.agg [(V.int .i64 x153_a), (V.int .i64 x153_b), (V.str x153_c), x153_d, x153_e]) ∧
        ∃ x154_a x154_b : Int, ∃ x154_c : List UInt8, ∃ x154_d x154_e : V, loadNV S24 5 (V.ptr S8.next 0) = some (V.agg [(V.int .i64 x154_a), (V.int .i64 x154_b), (V.str x154_c), x154_d, x154_e]) ∧
        CallA P (N Fn.ref20_Same) [(V.agg [(V.int .i64 x153_a), (V.int .i64 x153_b), (V.str x153_c), x153_d, x153_e]), (V.agg [(V.int .i64 x154_a), (V.int .i64 x154_b), (V.str x154_c), x154_d, x154_e])] S24 (retT [(.one .bool)] fun (x155 : Bool) (S25 : St) =>
        Same (S19.next :: (S5.next :: (V.block x144 ++ (S19.next :: (V.block x137 ++ (S19.next :: [])))))) S24 S25 ∧ K x155 S25))
        (K false S24)))
        (K false S23))
        (K false S23)))))  := by
    intro S16 g16
    have g016 := g010.trans g16
    have hpt := parse_two ha hb hsp
    refine ⟨by simp; omega, by simp; omega, by simp; omega, by simp; omega, by simp; omega, by simp; omega, by simp; omega, by simp; omega, ?_⟩
    generalize hY : (((((((([91] : List UInt8) ++ sp) ++ a) ++ sp) ++ ([44] : List UInt8)) ++ sp) ++ b) ++ sp) ++ ([93] : List UInt8) = Y at hpt
    refine ParsesJ.at_ (v := (parseJ Y).1) (c := (parseJ Y).2) hA.parse g16.wf (hG.upd g016 (by simp)) rfl fun lv3 nv3 F3 S19 g19 v19 => copy_mk g19.wf v19.ones.1 v19.ones.2 fun S21 g21 m21 => ?_
    have hcase : (parseJ Y).2 = 2 ∨ (parseJ Y).2 = 201 ∨ ((parseJ Y).2 = 0 ∧ (parseJ Y).1 = .mk 6 0 [] [v, w] []) := by
      rw [hpt]
      split
      · exact .inl rfl
      · split
        · exact .inr (.inl rfl)
        · exact .inr (.inr ⟨rfl, rfl⟩)
    have g021 := (g016.trans g19).trans g21
    have gv21 := hG.upd g021 (by simp)
    refine ifC_ndec (fun hne => law20_awake.spec hA g021 gv21 fun S22 g22 => ifC_tt rfl ?_) fun heq => law20_awake.spec hA g021 gv21 fun S23 g23 => ifC_tt rfl ?_
    · rcases hcase with h2 | h2 | h2
      · rw [h2]; exact ifC_tt rfl (hk S22)
      · rw [h2]; exact ifC_ff rfl (hk S22)
      · exact absurd h2.1 hne
    · have hY1 : (parseJ Y).1 = .mk 6 0 [] [v, w] [] := by
        rcases hcase with h2 | h2 | h2
        · rw [h2] at heq; cases heq
        · rw [h2] at heq; cases heq
        · exact h2.2
      rw [hY1] at v19 m21
      have r21 := (v19.grow g21).rv' g21.wf
      have m23 := g23.get m21
      obtain ⟨es, t23⟩ := (r21.grow g23 g23.le).at_
      have gA : Grow S10 S23 := ((g16.trans g19).trans g21).trans g23
      have q23 := Grow.get gA q10
      have p23 := Grow.get gA m10
      have r7' := r7.grow (g710.trans gA) (g710.trans gA).le
      have r10' := r10.grow gA gA.le
      obtain ⟨lx, nx, e1, rx⟩ := t23.elt (j := 0) (by simp [JV.list])
      have hlb : ∀ i ∈ V.block lv3, i < S23.next := t23.lb (by simp [JV.list])
      refine ifS_mk (ld m23 rfl) ⟨_, t23.len, ifC_tt rfl (ifS_mk (ld m23 rfl) (ifS_mk (t23.idx (j := 0) (by simp [JV.list])) ⟨_, _, _, _, _, e1, _, _, _, _, _, ld5 q23, ref20_Same.same hS _ g23.wf rx r7' (Nat.lt_succ_self _) fun c1 S24 hc1 g24 => ⟨Same.of_grow g24 fun i hi => ?_, ?_⟩⟩))⟩
      · have := g23.wf.lt m23
        simp only [List.mem_cons, List.mem_append, List.not_mem_nil, or_false] at hi
        rcases hi with rfl | hi | rfl
        · exact this
        · exact hlb i hi
        · exact this
      · have : c1 = true := hc1.mpr rfl
        refine ifC_tt this ?_
        have m24 := g24.get m23
        obtain ⟨es2, t24⟩ := (r21.grow (g23.trans g24) (g23.trans g24).le).at_
        obtain ⟨ly, ny, e2, ry⟩ := t24.elt (j := 1) (by simp [JV.list])
        have hlb2 : ∀ i ∈ V.block lv3, i < S24.next := t24.lb (by simp [JV.list])
        refine ifS_mk (ld m24 rfl) (ifS_mk (t24.idx (j := 1) (by simp [JV.list])) ⟨_, _, _, _, _, e2, _, _, _, _, _, ld5 (Grow.get g24 p23), ref20_Same.same hS _ g24.wf ry (r10'.grow g24 g24.le) (Nat.lt_succ_self _) fun c2 S25 hc2 g25 => ⟨Same.of_grow g25 fun i hi => ?_, ?_⟩⟩)
        · have h1 := g24.wf.lt m24
          have h2 := g24.wf.lt (Grow.get g24 q23)
          have hel : V.block (eltV 5 lv3 0 0) ⊆ V.block lv3 := by
            cases lv3 <;> simp [eltV, V.block]
          simp only [List.mem_cons, List.mem_append, List.not_mem_nil, or_false] at hi
          rcases hi with rfl | rfl | hi | rfl | hi | rfl
          · exact h1
          · exact h2
          · exact hlb2 i (hel hi)
          · exact h1
          · exact hlb2 i hi
          · exact h1
        · have : c2 = true := hc2.mpr rfl
          rw [this]
          exact hk S25
  refine ParsesJ.at_ (v := (parseJ ((sp ++ a) ++ sp)).1) (c := (parseJ ((sp ++ a) ++ sp)).2) hA.parse g010.wf (hG.upd g010 (by simp)) rfl fun lv3 nv3 F3 S13 g13 v13 => copy_mk g13.wf v13.ones.1 v13.ones.2 fun S15 g15 m15 => ?_
  have g1015 := g13.trans g15
  have hcase3 : (16384 < ((sp ++ a) ++ sp).length ∧ (parseJ ((sp ++ a) ++ sp)).2 = 2) ∨ ((parseJ ((sp ++ a) ++ sp)).2 = 0 ∧ (parseJ ((sp ++ a) ++ sp)).1 = v) := by
    rw [hpb]
    split
    · rename_i h; exact .inl ⟨h, rfl⟩
    · exact .inr ⟨rfl, rfl⟩
  refine Join0.mid (fun S' => Grow S10 S') ?_ ?_
  · have r15 := (v13.grow g15).rv' g15.wf
    refine ifC_ndec (fun hne => ?_) fun heq => ?_
    · have hlong : 16384 < ((sp ++ a) ++ sp).length ∧ (parseJ ((sp ++ a) ++ sp)).2 = 2 := by
        rcases hcase3 with h3 | h3
        · exact h3
        · exact absurd h3.1 hne
      rw [hlong.2]
      have hl := hlong.1
      simp only [List.length_append] at hl
      refine ifC_ff rfl (setI_mk (n := ((sp.length + a.length : Nat) : Int)) (by rw [IntKind.wrap_i64]; omega) (setI_mk (n := ((sp.length + a.length + sp.length : Nat) : Int)) (by rw [IntKind.wrap_i64]; omega) (ifC_ff (by rw [decide_eq_false_iff_not]; omega) (ifC_ff rfl g1015))))
    · have hv : (parseJ ((sp ++ a) ++ sp)).1 = v := by
        rcases hcase3 with h3 | h3
        · rw [h3.2] at heq; cases heq
        · exact h3.2
      rw [hv] at m15 r15
      refine ifC_tt (decide_eq_true heq) ⟨_, _, _, _, _, ld5 m15, _, _, _, _, _, ld5 (Grow.get g1015 q10), ref20_Same.same hS _ g15.wf r15 (r7.grow (g710.trans g1015) (g710.trans g1015).le) (Nat.lt_succ_self _) fun c1 S17 hc1 g17 => ?_⟩
      have : c1 = true := hc1.mpr rfl
      exact ifC_ff (by rw [this]; rfl) (g1015.trans g17)
  · intro S16 g16
    exact half g16

end Go.Th.L
end
