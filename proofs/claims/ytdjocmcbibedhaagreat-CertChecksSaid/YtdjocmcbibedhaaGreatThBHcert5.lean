/- What the row of one statement stands on: a store, abstract code, functions of the program and their laws (ThHcert2, ThPcert2, ThHcert3, ThHcert4, ThHcert5). -/
import Derived.Test.YtdjocmcbibedhaaGreatThBPcert
import Derived.Test.YtdjocmcbibedhaaGreatThBHlaw03c
import Derived.Test.YtdjocmcbibedhaaGreatThBHlaw03b
import Derived.Test.YtdjocmcbibedhaaGreatThBGslicesInt
import Derived.Test.YtdjocmcbibedhaaGreatThBGwide
import Derived.Test.YtdjocmcbibedhaaGreatThBHref01b

section
/- cert: rows taken out of a map; regions in a slice; hits compared. -/
set_option linter.unusedSimpArgs false
set_option linter.unusedVariables false
namespace Go.Th.L
open Go Go.Th Go.Th.Pure Go.Sort
variable {P : Program} {N : Nat → Nat}

theorem lookup_int2 {S : St} {i : Nat} {es : List (Int × V)} (h : MapAt S i es) (z : V) (k : Int) : lookupV S 1 z true (.map i) (.int .i64 k) = some (match es.find? fun e => decide (k = e.1) with
    | some e => .tuple [e.2, .bool true]
    | none => .tuple [z, .bool false]) := by
  unfold MapAt at h
  have hf : keyFit 1 (.int .i64 k) = true := by unfold keyFit; rfl
  simp only [lookupV, rLookup, AX.ev, hf, if_true, h, findV_int]
  cases hi : es.findIdx? (fun e => decide (k = e.1)) with
  | none =>
    have : es.find? (fun e => decide (k = e.1)) = none := by
      rw [List.findIdx?_eq_none_iff] at hi
      rw [List.find?_eq_none]
      intro e he; simpa using hi e he
    simp [this, lookOut]
  | some j =>
    have hj := List.findIdx?_eq_some_iff_getElem.mp hi
    obtain ⟨hlt, hp, hbefore⟩ := hj
    have : es.find? (fun e => decide (k = e.1)) = some es[j] := by
      rw [List.find?_eq_some_iff_getElem]
      exact ⟨hp, j, hlt, rfl, fun q hq => by simpa using hbefore q hq⟩
    simp [this, lookOut, hlt]

theorem erase_filter {k : Int} : ∀ {es : List (Int × V)} {j : Nat}, (es.map (·.1)).Nodup → es.findIdx? (fun e => decide (k = e.1)) = some j → es.eraseIdx j = es.filter fun e => !decide (k = e.1)
  | [], j, _, h => by simp at h
  | e :: es, j, hn, h => by
    rw [List.map_cons, List.nodup_cons] at hn
    rw [List.findIdx?_cons] at h
    by_cases hk : k = e.1
    · simp only [hk, decide_true, if_true, Option.some.injEq] at h
      subst h
      have : es.filter (fun e' => !decide (k = e'.1)) = es := by
        rw [List.filter_eq_self]
        intro x hx
        simp only [Bool.not_eq_true', decide_eq_false_iff_not]
        intro e'
        exact hn.1 (List.mem_map.mpr ⟨x, hx, by rw [← e', hk]⟩)
      rw [List.eraseIdx_cons_zero, List.filter_cons_of_neg (by simp [hk]), this]
    · simp only [hk, decide_false, Bool.false_eq_true, if_false] at h
      cases hf : es.findIdx? (fun e => decide (k = e.1)) with
      | none => rw [hf] at h; simp at h
      | some j' =>
        rw [hf] at h
        simp only [Option.map_some, Option.some.injEq] at h
        subst h
        rw [List.eraseIdx_cons_succ, erase_filter hn.2 hf]
        simp [hk]

theorem erase_map {α β : Type} (f : α → β) : ∀ (l : List α) (j : Nat), (l.map f).eraseIdx j = (l.eraseIdx j).map f
  | [], j => by simp
  | a :: l, 0 => by simp
  | a :: l, j + 1 => by simp [erase_map f l j]
theorem delete_int {S : St} (hw : S.Wf) {i : Nat} {es : List (Int × V)} (h : MapAt S i es) (hn : (es.map (·.1)).Nodup) (k : Int) : ∃ S', deleteV S 1 (.map i) (.int .i64 k) = some S' ∧ MapAt S' i (es.filter fun e => !decide (k = e.1)) ∧ Upd [i] S S' ∧ S'.next = S.next := by
  unfold MapAt at h
  have hf : keyFit 1 (.int .i64 k) = true := by unfold keyFit; rfl
  cases hi : es.findIdx? (fun e => decide (k = e.1)) with
  | none =>
    refine ⟨S.put i (some (.map (entI es) true)), ?_, ?_, (Upd.refl hw [i]).put (hw.lt h) (.inr (by simp)) _, rfl⟩
    · simp only [deleteV, rDelete, AX.ev, hf, if_true, h, findV_int, hi, Option.map_none]
    · have : es.filter (fun e => !decide (k = e.1)) = es := by
        rw [List.filter_eq_self]
        rw [List.findIdx?_eq_none_iff] at hi
        intro e he; simpa using hi e he
      rw [this]; unfold MapAt; simp
  | some j =>
    refine ⟨S.put i (some (.map ((entI es).eraseIdx j) true)), ?_, ?_, (Upd.refl hw [i]).put (hw.lt h) (.inr (by simp)) _, rfl⟩
    · simp only [deleteV, rDelete, AX.ev, hf, if_true, h, findV_int, hi, Option.map_some, Nat.zero_add]
    · rw [← erase_filter hn hi]; unfold MapAt; simp [entI, erase_map]

theorem len_map {S : St} {i : Nat} {es : List (Int × V)} (h : MapAt S i es) : lenV S 3 (.map i) = some (.int .i64 es.length) := by
  unfold MapAt at h
  simp only [lenV, h, entI, List.length_map]

def entOf (r : Row) (w : V) : Int × V := (r.1, .agg (rowC r w))

theorem cert_take (hF : cert_Sound_1.Ok P N) {S : St} {c i : Nat} {es : List (Int × V)} {id : Int} (hw : S.Wf) (hc : S.get c = some (.cells [.map i] true)) (hm : MapAt S i es) (hn : (es.map (·.1)).Nodup) (hci : c ≠ i)
    (hcell : ∀ e ∈ es, ∃ (r : Row) (w : V), w.one = true ∧ e = entOf r w) {K : Int → V → Bool → St → Prop}
    (h1 : ∀ r w, entOf r w ∈ es → r.1 = id → ∀ S', Upd [i] S S' → MapAt S' i (es.filter fun e => !decide (id = e.1)) → K r.1 w true S')
    (h0 : (∀ e ∈ es, e.1 ≠ id) → ∀ S', Upd [i] S S' → K 0 .nilSlice false S') : CallA P (N Fn.cert_Sound_1) [.int .i64 id, .ptr c 0] S (retT [.agg [.int .i64, .any], .one .bool] K) := by
  have hlc := hw.lt hc
  have hli : i < S.next := hw.lt hm
  refine cert_Sound_1.run hF (newS_mk hw fun S1 g1 m1 n1 => ifS_mk (ld (g1.get hc) rfl) ?_)
  have hm1 := hm.upd g1 (by simp)
  have hlook := lookup_int2 hm1 (.agg [.int .i64 0, .nilSlice]) id
  have key : ∀ (a : Int) (b : V) (ok : Bool), b.one = true → lookupV S1 1 (V.agg [(V.int .i64 0), V.nilSlice]) true (.map i) (V.int .i64 id) = some (V.tuple [(V.agg [(V.int .i64 a), b]), (V.bool ok)]) →
      (∀ S', Upd [i] S S' → MapAt S' i (es.filter fun e => !decide (id = e.1)) → K a b ok S') → ∃ x10a_a : Int, ∃ x10a_b : V, ∃ x10b : Bool, lookupV S1 1 (V.agg [(V.int .i64 0), V.nilSlice]) true (.map i) (V.int .i64 id) = some (V.tuple [(V.agg [(V.int .i64 x10a_a), x10a_b]), (V.bool x10b)]) ∧
  newS S1 (.cells [(V.int .i64 0), V.nilSlice] true) fun S2 =>
  ifS (storeV S2 2 (V.ptr S1.next 0) (V.agg [(V.int .i64 x10a_a), x10a_b])) fun S3 =>
  ifS (loadV S3 (.ptr c 0)) fun x13 =>
  ifS (deleteV S3 1 x13 (V.int .i64 id)) fun S4 =>
  ∃ x15_a : Int, ∃ x15_b : V, loadNV S4 2 (V.ptr S1.next 0) = some (V.agg [(V.int .i64 x15_a), x15_b]) ∧
  ifS (storeV S4 2 (V.ptr S.next 0) (V.agg [(V.int .i64 x15_a), x15_b])) fun S5 =>
  ∃ xr_a : Int, ∃ xr_b : V, cellNV S5 2 (V.ptr S.next 0) = some (V.agg [(V.int .i64 xr_a), xr_b]) ∧ K xr_a xr_b x10b S5 := by
    intro a b ok hb hl hk
    refine ⟨a, b, ok, hl, newS_mk g1.wf fun S2 g2 m2 n2 => st_mk g2.wf m2 rfl (by simp [V.cells]) (by simp only [V.cells, List.all_cons, List.all_nil, hb]; rfl) fun S3 u3 m3 n3 => ?_⟩
    simp only [V.cells, over] at m3
    have g13 : Grow S1 S3 := g2.after u3 (fun i hi => by simp only [List.mem_singleton] at hi; exact .inl (by omega))
    have hm3 := hm1.upd g13 (by simp)
    obtain ⟨S4, e4, m4, u4, n4⟩ := delete_int g13.wf hm3 hn id
    have hlt1 : S.next < S1.next := by omega
    have a4 : S4.get S1.next = some (.cells [.int .i64 a, b] true) := u4.get m3 (by simp only [List.mem_singleton]; omega)
    have b4 : S4.get S.next = some (.cells [.int .i64 0, .nilSlice] true) := u4.get (g13.get m1) (by simp only [List.mem_singleton]; omega)
    refine ifS_mk (ld ((Grow.get (Upd.trans g1 g13) hc)) rfl) (ifS_mk e4 ⟨a, b, ldN a4 (by simp) rfl, st_mk u4.wf b4 rfl (by simp [V.cells]) (by simp only [V.cells, List.all_cons, List.all_nil, hb]; rfl) fun S5 u5 m5 n5 => ?_⟩)
    simp only [V.cells, over] at m5
    refine ⟨a, b, ldC m5 (by simp) rfl, hk S5 ?_ (m4.upd u5 (by simp only [List.mem_singleton]; omega))⟩
    have h14 : Upd [i] S S4 := ((Upd.trans g1 g13).mono (by simp)).trans u4
    exact h14.after u5 (fun j hj => by simp only [List.mem_singleton] at hj; exact .inl (by omega))
  cases hf : es.find? (fun e => decide (id = e.1)) with
  | none =>
    rw [hf] at hlook
    rw [List.find?_eq_none] at hf
    exact key 0 .nilSlice false rfl hlook fun S' u' _ => h0 (fun e he e' => by have := hf e he; simp [e'] at this) S' u'
  | some e =>
    rw [hf] at hlook
    have he := List.mem_of_find?_eq_some hf
    have hid := List.find?_some hf
    obtain ⟨r, w, hone, rfl⟩ := hcell e he
    exact key r.1 w true hone hlook fun S' u' m' => h1 r w he (by simpa [entOf] using (of_decide_eq_true hid).symm) S' u' m'

structure RP where
  a : V
  b : V
  c : V
  h : Int
  l : Int
deriving Inhabited
def RP.cells (p : RP) (s : Int) : List V := regC s p.a p.b p.h p.l p.c
def regsC : List Reg → List RP → List (List V)
  | g :: gs, p :: ps => p.cells g.shape :: regsC gs ps
  | _, _ => []
theorem regsC_length : ∀ {gs : List Reg} {ps : List RP}, ps.length = gs.length → (regsC gs ps).length = gs.length
  | [], ps, h => by cases ps <;> simp_all [regsC]
  | r :: rs, [], h => by simp at h
  | r :: rs, w :: ws, h => by simp only [regsC, List.length_cons, regsC_length (gs := rs) (ps := ws) (by simpa using h)]
theorem regsC_get : ∀ {gs : List Reg} {ps : List RP} {j : Nat} (hr : j < gs.length) (hw : j < ps.length) (h : j < (regsC gs ps).length), (regsC gs ps)[j] = ps[j].cells gs[j].shape
  | r :: rs, w :: ws, 0, _, _, _ => rfl
  | r :: rs, w :: ws, j + 1, hr, hw, h => by
    simp only [regsC, List.getElem_cons_succ]
    exact regsC_get _ _ _
theorem regsC_six : ∀ {gs : List Reg} {ps : List RP}, ∀ e ∈ regsC gs ps, e.length = 6
  | [], _, e, h => by simp [regsC] at h
  | r :: rs, [], e, h => by simp [regsC] at h
  | r :: rs, w :: ws, e, h => by
    simp only [regsC, List.mem_cons] at h
    rcases h with rfl | h
    · rfl
    · exact regsC_six e h
structure RegsAt' (S : St) (v : V) (gs : List Reg) (ps : List RP) : Prop where
  len : ps.length = gs.length
  sl : SlE S 6 v (regsC gs ps)
  at_ : ∀ j (hr : j < gs.length) (hw : j < ps.length), RegAt S ps[j].a ps[j].b ps[j].c ps[j].h ps[j].l gs[j]
def RegsAt (S : St) (v : V) (gs : List Reg) : Prop := ∃ ps, RegsAt' S v gs ps
section
variable {S : St} {v : V} {gs : List Reg} {ps : List RP} (h : RegsAt' S v gs ps)
include h
theorem RegsAt'.length : lenV S 2 v = some (.int .i64 gs.length) := by rw [h.sl.len, regsC_length h.len]
theorem RegsAt'.lt {j : Nat} (hj : j < gs.length) : j < (regsC gs ps).length := by rw [regsC_length h.len]; exact hj
theorem RegsAt'.ltw {j : Nat} (hj : j < gs.length) : j < ps.length := by rw [h.len]; exact hj
theorem RegsAt'.le : gs.length ≤ 4611686018427387904 := by have := h.sl.1.le; rwa [regsC_length h.len] at this
theorem RegsAt'.idx {j : Nat} (hj : j < gs.length) : idxAddrV 6 v (.int .i64 (j : Int)) = some (eltV 6 v j 0) := h.sl.idx (h.lt hj)
theorem RegsAt'.fld {j : Nat} (hj : j < gs.length) (f : Nat) : fieldAddrV f (eltV 6 v j 0) = some (eltV 6 v j f) := h.sl.fld (h.lt hj) f
theorem RegsAt'.ids {j : Nat} (hj : j < gs.length) : loadV S (eltV 6 v j 5) = some (ps[j]'(h.ltw hj)).c := by
  rw [h.sl.get (h.lt hj) (by omega), regsC_get hj (h.ltw hj)]; rfl
theorem RegsAt'.lo {j : Nat} (hj : j < gs.length) : loadV S (eltV 6 v j 1) = some (ps[j]'(h.ltw hj)).a := by
  rw [h.sl.get (h.lt hj) (by omega), regsC_get hj (h.ltw hj)]; rfl
theorem RegsAt'.hi {j : Nat} (hj : j < gs.length) : loadV S (eltV 6 v j 2) = some (ps[j]'(h.ltw hj)).b := by
  rw [h.sl.get (h.lt hj) (by omega), regsC_get hj (h.ltw hj)]; rfl
theorem RegsAt'.all {j : Nat} (hj : j < gs.length) : loadNV S 6 (eltV 6 v j 0) = some (.agg ((ps[j]'(h.ltw hj)).cells gs[j].shape)) := by
  rw [h.sl.getN (h.lt hj) (by omega), regsC_get hj (h.ltw hj)]
theorem RegsAt'.reg {j : Nat} (hj : j < gs.length) : RegAt S (ps[j]'(h.ltw hj)).a (ps[j]'(h.ltw hj)).b (ps[j]'(h.ltw hj)).c (ps[j]'(h.ltw hj)).h (ps[j]'(h.ltw hj)).l gs[j] := h.at_ j hj _
end
theorem RegsAt'.grow {S S' : St} {v : V} {gs : List Reg} {ps : List RP} (h : RegsAt' S v gs ps) (g : Grow S S') : RegsAt' S' v gs ps :=
  ⟨h.len, h.sl.grow g, fun j hr hw => (h.at_ j hr hw).grow g⟩
theorem RegsAt.grow {S S' : St} {v : V} {gs : List Reg} (h : RegsAt S v gs) (g : Grow S S') : RegsAt S' v gs := let ⟨ps, h⟩ := h; ⟨ps, h.grow g⟩

theorem regC_ones {S : St} {a b c : V} {h l : Int} {r : Reg} (hr : RegAt S a b c h l r) : (regC r.shape a b h l c).all V.one = true := by
  simp only [regC, List.all_cons, List.all_nil, hr.lo.one1, hr.hi.one1, hr.ids.one1]; rfl

structure AnsAt (S : St) (a b c : V) (x : Ans) : Prop where
  hits : HitsAt S a x.hits
  seen : IntsAt S b x.seen
  rest : RegsAt S c x.rest
theorem AnsAt.grow {S S' : St} {a b c : V} {x : Ans} (h : AnsAt S a b c x) (g : Grow S S') : AnsAt S' a b c x := ⟨h.hits.upd g (by simp), h.seen.grow g, h.rest.grow g⟩
abbrev ansV (a b c : V) : V := .agg [a, b, c]

theorem slices_Equal_Lapi_Hit.spec (hF : slices_Equal_Lapi_Hit.Ok P N) {S : St} {v u : V} {l m : List Hit} (hv : HitsAt S v l) (hu : HitsAt S u m) {K : Bool → St → Prop} (hk : K (decide (l = m)) S) : CallA P (N Fn.slices_Equal_Lapi_Hit) [v, u] S (retT [.one .bool] K) := by
  have hle := hv.at_.le
  refine slices_Equal_Lapi_Hit.run hF ⟨_, hv.at_.len, _, hu.at_.len, ifC_ndec (fun hne => ?_) (fun heq => ⟨_, hv.at_.len, ?_⟩)⟩
  · have e : l ≠ m := fun e => hne (by rw [e])
    rwa [decide_eq_false e] at hk
  refine Loop1.ind (fun n x S' => S' = S ∧ ∃ j : Nat, x = j ∧ j + n = l.length ∧ l.take j = m.take j) l.length ⟨rfl, 0, rfl, by omega, by simp⟩ ?_
  rintro n _ _ ⟨rfl, j, rfl, hj, hab⟩
  refine ifC_dec (fun hlt => ?_) (fun hge => ?_)
  · have hja : j < l.length := by omega
    have hjb : j < m.length := by omega
    refine ifS_mk (hv.idx hja) ⟨_, _, _, hv.get hja, ifS_mk (hu.idx hjb) ⟨_, _, _, hu.get hjb, _, eqH_mk _ _, ifC_ndec (fun hne => ?_) (fun heq => setI_mk (wrap_succ (by omega)) ⟨n - 1, by omega, rfl, j + 1, rfl, by omega, take_succ_eq hab hja hjb heq⟩)⟩⟩
    rwa [decide_eq_false (ne_of_get hja hjb hne)] at hk
  · have e : l = m := by
      rw [List.take_of_length_le (by omega), List.take_of_length_le (by omega)] at hab
      exact hab
    rwa [decide_eq_true e] at hk

end Go.Th.L
end

section
/- Plain: what is left of the rows' ids when some are told. -/
set_option linter.unusedSimpArgs false
set_option linter.unusedVariables false
namespace Go.Th.Pure
open Go Go.Th Go.Th.L

def ents (rs : List Row) (ws : List V) (n : Nat) : List (Int × V) := (List.range n).map fun i => entOf (rs.getD i (0, [])) (ws.getD i .nilSlice)
theorem ents_snoc (rs : List Row) (ws : List V) (n : Nat) : ents rs ws (n + 1) = ents rs ws n ++ [entOf (rs.getD n (0, [])) (ws.getD n .nilSlice)] := by
  simp [ents, List.range_succ]
theorem ents_keys {rs : List Row} {ws : List V} {n : Nat} (hn : n ≤ rs.length) : (ents rs ws n).map (·.1) = idsOf (rs.take n) := by
  induction n with
  | zero => simp [ents]
  | succ n ih =>
    rw [ents_snoc, List.map_append, ih (by omega), List.take_add_one, List.getElem?_eq_getElem (by omega)]
    have hlt : n < rs.length := by omega
    rw [idsOf, idsOf, List.map_append]
    congr 1
    simp only [entOf, List.map_cons, List.map_nil, Option.toList_some, List.getD_eq_getElem?_getD, List.getElem?_eq_getElem hlt, Option.getD_some]
theorem ents_mem {rs : List Row} {ws : List V} {n : Nat} {e : Int × V} (h : e ∈ ents rs ws n) : ∃ i, i < n ∧ e = entOf (rs.getD i (0, [])) (ws.getD i .nilSlice) := by
  obtain ⟨i, hi, rfl⟩ := List.mem_map.mp h
  exact ⟨i, List.mem_range.mp hi, rfl⟩
def leftE (es : List (Int × V)) (t : List Int) : List (Int × V) := es.filter fun e => !decide (e.1 ∈ t)
theorem leftE_nil (es : List (Int × V)) : leftE es [] = es := by simp [leftE]
theorem leftE_snoc (es : List (Int × V)) (t : List Int) (i : Int) : (leftE es t).filter (fun e => !decide (i = e.1)) = leftE es (t ++ [i]) := by
  unfold leftE
  rw [List.filter_filter]
  congr 1; funext e
  by_cases h1 : e.1 ∈ t <;> by_cases h2 : i = e.1 <;> simp [h1, h2]
  · intro h; exact absurd h.symm h2
theorem leftE_nodup {es : List (Int × V)} {t : List Int} (h : (es.map (·.1)).Nodup) : ((leftE es t).map (·.1)).Nodup := h.sublist (List.filter_sublist.map _)
theorem leftE_none {es : List (Int × V)} {t : List Int} {i : Int} (h : ∀ e ∈ leftE es t, e.1 ≠ i) : ¬ (i ∈ es.map (·.1) ∧ i ∉ t) := by
  rintro ⟨h1, h2⟩
  obtain ⟨e, he, rfl⟩ := List.mem_map.mp h1
  exact h e (by simp [leftE, he, h2]) rfl
theorem leftE_mem {es : List (Int × V)} {t : List Int} {e : Int × V} (h : e ∈ leftE es t) : e ∈ es ∧ e.1 ∉ t := by
  simpa [leftE] using h
theorem leftE_zero {es : List (Int × V)} {t : List Int} : (leftE es t).length = 0 ↔ ∀ i ∈ es.map (·.1), i ∈ t := by
  rw [List.length_eq_zero_iff, leftE, List.filter_eq_nil_iff]
  simp

theorem upTo_lt {l : List Int} (h : UpTo l) : ∀ (j i : Nat), i < j → j < l.length → l.getD i 0 < l.getD j 0
  | 0, i, h1, _ => by omega
  | j + 1, i, h1, h2 => by
    have h3 := h (j + 1) (by omega) h2
    rw [Nat.add_sub_cancel] at h3
    rcases Nat.lt_or_ge i j with h4 | h4
    · have := upTo_lt h j i h4 (by omega); omega
    · have : i = j := by omega
      subst this; exact h3
theorem upTo_fresh {l : List Int} (h : UpTo l) {j : Nat} (hj : j < l.length) : l[j] ∉ l.take j := by
  intro hm
  obtain ⟨i, hi, he⟩ := List.getElem_of_mem hm
  rw [List.length_take] at hi
  rw [List.getElem_take] at he
  have := upTo_lt h j i (by omega) hj
  simp only [List.getD_eq_getElem?_getD, List.getElem?_eq_getElem hj, List.getElem?_eq_getElem (show i < l.length by omega), Option.getD_some] at this
  omega
theorem told_seen {rs : List Row} {q : List Int} {k : Nat} {a : Ans} (h : SoundA rs q k a) {j : Nat} (hj : j < a.seen.length) : a.seen[j] ∈ idsOf rs ∧ a.seen[j] ∉ a.seen.take j :=
  ⟨h.2.2.1.mem_iff.mp (List.mem_append_left _ (List.getElem_mem hj)), upTo_fresh h.1 hj⟩
theorem nodup_at {α : Type} {l r : List α} {x : α} (h : (l ++ x :: r).Nodup) : x ∉ l := by
  intro hx
  rw [List.nodup_append] at h
  exact h.2.2 x hx x (by simp) rfl
theorem restIds_append (a b : List Reg) : restIds (a ++ b) = restIds a ++ restIds b := by simp [restIds]
theorem restIds_cons (g : Reg) (l : List Reg) : restIds (g :: l) = g.ids ++ restIds l := by simp [restIds]
theorem told_rest {rs : List Row} {q : List Int} {k : Nat} {a : Ans} (hn : (idsOf rs).Nodup) (h : SoundA rs q k a) {n i : Nat} (hj : n < a.rest.length) (hi : i < a.rest[n].ids.length) :
    a.rest[n].ids[i] ∈ idsOf rs ∧ a.rest[n].ids[i] ∉ a.seen ++ restIds (a.rest.take n) ++ a.rest[n].ids.take i := by
  have hp := h.2.2.1
  have hd : (toldA a).Nodup := hp.nodup_iff.mpr hn
  have hs : toldA a = (a.seen ++ restIds (a.rest.take n) ++ a.rest[n].ids.take i) ++ a.rest[n].ids[i] :: (a.rest[n].ids.drop (i + 1) ++ restIds (a.rest.drop (n + 1))) := by
    have h1 : a.rest = a.rest.take n ++ a.rest[n] :: a.rest.drop (n + 1) := by
      rw [← List.drop_eq_getElem_cons hj, List.take_append_drop]
    have h2 : a.rest[n].ids = a.rest[n].ids.take i ++ a.rest[n].ids[i] :: a.rest[n].ids.drop (i + 1) := by
      rw [← List.drop_eq_getElem_cons hi, List.take_append_drop]
    have h3 : restIds a.rest = restIds (a.rest.take n) ++ (a.rest[n].ids ++ restIds (a.rest.drop (n + 1))) := by
      conv => lhs; rw [h1]
      rw [restIds_append, restIds_cons]
    have h4 : a.rest[n].ids ++ restIds (a.rest.drop (n + 1)) = a.rest[n].ids.take i ++ a.rest[n].ids[i] :: (a.rest[n].ids.drop (i + 1) ++ restIds (a.rest.drop (n + 1))) := by
      conv => lhs; rw [h2]
      rw [List.append_assoc, List.cons_append]
    rw [toldA, h3, h4]
    simp only [List.append_assoc]
  rw [hs] at hd
  refine ⟨hp.mem_iff.mp ?_, nodup_at hd⟩
  rw [hs]; simp
theorem restIds_snoc {l : List Reg} {n : Nat} (h : n < l.length) : restIds (l.take (n + 1)) = restIds (l.take n) ++ l[n].ids := by
  rw [List.take_add_one, List.getElem?_eq_getElem h, restIds_append, Option.toList_some, restIds_cons]; simp [restIds]
theorem nodup_snoc {l : List Int} {x : Int} (h : l.Nodup) (hx : x ∉ l) : (l ++ [x]).Nodup := by
  rw [List.nodup_append]
  exact ⟨h, by simp, fun a ha b hb => by simp only [List.mem_singleton] at hb; subst hb; intro e; subst e; exact hx ha⟩

theorem told_perm {t l : List Int} (ht : t.Nodup) (hl : l.Nodup) (h1 : ∀ i ∈ t, i ∈ l) (h2 : ∀ i ∈ l, i ∈ t) : t.Perm l :=
  (List.perm_ext_iff_of_nodup ht hl).mpr fun i => ⟨h1 i, h2 i⟩
theorem nodup_le : ∀ {t l : List Int}, t.Nodup → (∀ i ∈ t, i ∈ l) → t.length ≤ l.length
  | [], l, _, _ => by simp
  | x :: t, l, hn, h => by
    rw [List.nodup_cons] at hn
    have hx : x ∈ l := h x (by simp)
    have := nodup_le (t := t) (l := l.erase x) hn.2 fun i hi => by
      have hne : i ≠ x := fun e => hn.1 (by rw [← e]; exact hi)
      exact (List.mem_erase_of_ne hne).mpr (h i (by simp [hi]))
    rw [List.length_erase_of_mem hx] at this
    have hp : 0 < l.length := List.length_pos_of_mem hx
    simp only [List.length_cons]; omega

theorem rowsErr_none : ∀ {rs : List Row} {seen : List Int} {d : Int}, (∀ r ∈ rs, idOk r.1 = true ∧ checkV r.2 d = 0 ∧ r.1 ∉ seen) → (idsOf rs).Nodup → rowsErr seen rs d = 0
  | [], _, _, _, _ => rfl
  | r :: rs, seen, d, h, hn => by
    obtain ⟨h1, h2, h3⟩ := h r (by simp)
    rw [idsOf, List.map_cons, List.nodup_cons] at hn
    simp only [rowsErr]
    rw [if_neg (by rintro (h' | h'); rw [h1] at h'; cases h'; exact h3 h'), if_neg (by omega)]
    refine rowsErr_none (fun x hx => ?_) hn.2
    obtain ⟨g1, g2, g3⟩ := h x (by simp [hx])
    refine ⟨g1, g2, fun hm => ?_⟩
    rcases List.mem_cons.mp hm with e | hm
    · exact hn.1 (by rw [← e]; exact List.mem_map.mpr ⟨x, hx, rfl⟩)
    · exact g3 hm

theorem errTop_some {rs : List Row} {q : List Int} {k : Int} (h : errTop q rs k = 0) {t : List Int} (ht : t.Nodup) (h1 : ∀ i ∈ t, i ∈ idsOf rs) : errTop q (t.map (rowOf rs)) k = 0 := by
  obtain ⟨h2, h3, h4⟩ := errTop_zero h
  obtain ⟨h5, h6⟩ := errAsk_zero h2
  obtain ⟨a1, a2, a3, a4⟩ := checkR_zero h6
  have hids : idsOf (t.map (rowOf rs)) = t := by
    rw [idsOf, List.map_map]
    conv => rhs; rw [← List.map_id t]
    exact List.map_congr_left fun i hi => (rowOf_mem (h1 i hi)).2
  have hask : errAsk q (t.map (rowOf rs)) = 0 := by
    unfold errAsk
    rw [if_neg (by omega)]
    unfold checkR
    have := nodup_le ht h1
    rw [idsOf, List.length_map] at this
    rw [if_neg (by omega), if_neg (by rw [List.length_map]; omega)]
    refine rowsErr_none (fun r hr => ?_) (by rw [hids]; exact ht)
    obtain ⟨i, hi, rfl⟩ := List.mem_map.mp hr
    obtain ⟨b1, b2⟩ := a4 _ (rowOf_mem (h1 i hi)).1
    exact ⟨b1, b2, by simp⟩
  unfold errTop
  rw [if_neg (by omega), if_neg (by omega)]

end Go.Th.Pure
end

section
/- cert.Sound. -/
set_option linter.unusedSimpArgs false
set_option linter.unusedVariables false
set_option maxHeartbeats 1000000
namespace Go.Th.L
open Go Go.Th Go.Th.Pure Go.Sort
variable {P : Program} {N : Nat → Nat}

structure CertOk (P : Program) (N : Nat → Nat) : Prop where
  top : TopOk P N
  sound : cert_Sound.Ok P N
  take : cert_Sound_1.Ok P N
  can : canEnter P (N Fn.cert_Sound_1) = true
  equal : slices_Equal_Lapi_Hit.Ok P N
  reg : ChecksReg P (N Fn.vec_CheckRegion)
  inside : InsideOk P (N Fn.vec_Inside)
  certain : cert_Certain.Ok P N
  bound : BoundOk P (N Fn.vec_Bound)
  cmp : wide_Cmp.Spec P N

theorem rowsC_snoc : ∀ {rs : List Row} {ws : List V} (_ : ws.length = rs.length) (r : Row) (w : V), rowsC (rs ++ [r]) (ws ++ [w]) = rowsC rs ws ++ [rowC r w]
  | [], [], _, r, w => rfl
  | [], _ :: _, h, _, _ => by simp at h
  | _ :: _, [], h, _, _ => by simp at h
  | r :: rs, w :: ws, h, r', w' => by
    simp only [List.cons_append, rowsC, rowsC_snoc (rs := rs) (ws := ws) (by simpa using h)]

theorem nodup_take_row {rs : List Row} (hn : (idsOf rs).Nodup) {j : Nat} (hj : j < rs.length) : rs[j].1 ∉ idsOf (rs.take j) := by
  have h1 : idsOf rs = idsOf (rs.take j) ++ rs[j].1 :: idsOf (rs.drop (j + 1)) := by
    conv => lhs; rw [← List.take_append_drop j rs, List.drop_eq_getElem_cons hj]
    simp only [idsOf, List.map_append, List.map_cons]
  rw [h1] at hn
  exact nodup_at hn

theorem ent_row {S : St} {v : V} {rs : List Row} {ws : List V} (hv : RowsAt' S v rs ws) (hn : (idsOf rs).Nodup) {t : List Int} {r : Row} {w : V} (he : entOf r w ∈ leftE (ents rs ws rs.length) t) :
    r.1 ∈ idsOf rs ∧ r.1 ∉ t ∧ IntsAt S w (rowOf rs r.1).2 := by
  obtain ⟨h1, h2⟩ := leftE_mem he
  obtain ⟨i, hi, he⟩ := ents_mem h1
  have hwi := hv.ltw hi
  simp only [entOf, Prod.mk.injEq, V.agg.injEq, rowC, List.cons.injEq, and_true] at he
  obtain ⟨e1, _, e2⟩ := he
  have g1 : rs.getD i (0, []) = rs[i] := by simp [hi]
  have g2 : ws.getD i .nilSlice = ws[i] := by simp [hwi]
  rw [g1] at e1; rw [g2] at e2
  have hmem : r.1 ∈ idsOf rs := by rw [e1]; exact List.mem_map.mpr ⟨_, List.getElem_mem hi, rfl⟩
  refine ⟨hmem, h2, ?_⟩
  rw [e2, e1, rowOf_of hn (List.getElem_mem hi)]
  exact hv.at_ hi

theorem ents_cells {rs : List Row} {ws : List V} {S : St} {v : V} (hv : RowsAt' S v rs ws) {t : List Int} : ∀ e ∈ leftE (ents rs ws rs.length) t, ∃ (r : Row) (w : V), w.one = true ∧ e = entOf r w := by
  intro e he
  obtain ⟨i, hi, he⟩ := ents_mem (leftE_mem he).1
  refine ⟨_, _, ?_, he⟩
  have : ws.getD i .nilSlice = ws[i]'(hv.ltw hi) := by simp [hv.ltw hi]
  rw [this]; exact (hv.at_ hi).one1

theorem cert_Sound.spec (hO : CertOk P N) {v u a b c : V} {rs : List Row} {q : List Int} {k : Int} {x : Ans} {S : St} (hw : S.Wf) (hv : RowsAt S v rs) (hu : IntsAt S u q) (hx : AnsAt S a b c x) {K : Bool → Int → St → Prop}
    (he : errTop q rs k ≠ 0 → ∀ S', Grow S S' → K false (errTop q rs k) S')
    (hk : errTop q rs k = 0 → ∀ (b : Bool) S', (b = true ↔ SoundA rs q k.toNat x) → Grow S S' → K b 0 S') :
    CallA P (N Fn.cert_Sound) [v, u, .int .i64 k, ansV a b c] S (retT [.one .bool, .one (.int .i64)] K) := by
  obtain ⟨ws, hv0⟩ := hv
  obtain ⟨ps, hc0⟩ := hx.rest
  have hlen : rs.length ≤ 4611686018427387904 := by have := hv0.sl.1.le; rwa [rowsC_length hv0.len] at this
  have hslen : x.seen.length ≤ 4611686018427387904 := hx.seen.le
  refine cert_Sound.run hO.sound (newS_mk hw fun S1 g1 mA nA => flat_TopK.spec hO.top g1.wf ⟨ws, hv0.grow g1⟩ (hu.grow g1) (fun h S' g => ifC_ndec (fun _ => he h S' (g1.trans g)) (fun h' => absurd h' h)) (fun hz v' S2 hB => ifC_ndec (fun h' => absurd rfl h') (fun _ => ?_)))
  have hk := hk hz
  clear he
  obtain ⟨hask, hk1, hk64⟩ := errTop_zero hz
  have hn := errAsk_nodup hask
  have no : ∀ S', Grow S S' → ¬ SoundA rs q k.toNat x → K false 0 S' := fun S' g h => hk false S' (by simp [h]) g
  have g2 : Grow S S2 := g1.trans hB.grow
  have mA2 := hB.grow.get mA
  refine newS_mk hB.grow.wf fun S3 g3 m3 n3 => newS_mk g3.wf fun S4 g4 m4 n4 => st_mk g4.wf m4 rfl (by simp [V.cells]) rfl fun S5 u5 m5 n5 => ?_
  simp only [V.cells, over] at m5
  have g25 : Grow S2 S5 := (g3.trans g4).after u5 (fun i hi => by simp only [List.mem_singleton] at hi; exact .inl (by omega))
  have hM5 : MapAt S5 S2.next (ents rs ws 0) := by
    have : MapAt S3 S2.next (ents rs ws 0) := m3
    exact (this.upd g4 (by simp)).upd u5 (by simp only [List.mem_singleton]; omega)
  refine ⟨_, (hv0.grow (g2.trans g25)).length, ?_⟩
  refine Loop1.ind (fun n y S' => ∃ j : Nat, y = j ∧ j + n = rs.length ∧ Grow S2 S' ∧ S'.get S3.next = some (.cells [.map S2.next] true) ∧ MapAt S' S2.next (ents rs ws j)) rs.length ⟨0, rfl, by omega, g25, m5, hM5⟩ ?_
  rintro n _ S6 ⟨j, rfl, hj, g26, mC, hM⟩
  have hv6 := hv0.grow (g2.trans g26)
  refine ifC_dec (fun hlt => ?_) (fun hge => ?_)
  · have hjl : j < rs.length := by omega
    have hltM : S2.next < S6.next := g26.wf.lt hM
    have hltC : S3.next < S6.next := g26.wf.lt mC
    refine ifS_mk (hv6.idx hjl) ⟨_, _, hv6.both hjl, newS_mk g26.wf fun S7 g7 m7 n7 => st_mk g7.wf m7 rfl (by simp [V.cells]) (by simp only [V.cells, List.all_cons, List.all_nil, (hv6.at_ hjl).one1]; rfl) fun S8 u8 m8 n8 => ?_⟩
    simp only [V.cells, over] at m8
    have g68 : Grow S6 S8 := g7.after u8 (fun i hi => by simp only [List.mem_singleton] at hi; exact .inl (by omega))
    have hM8 := hM.upd g68 (by simp)
    obtain ⟨S9, e9, m9, u9, n9⟩ := mapUpd_new g68.wf hM8 (k := rs[j].1) (.agg [.int .i64 rs[j].1, ws[j]'(hv0.ltw hjl)]) (fun e hem hek => by
      have : e.1 ∈ (ents rs ws j).map (·.1) := List.mem_map.mpr ⟨e, hem, rfl⟩
      rw [ents_keys (by omega), hek] at this
      exact nodup_take_row hn hjl this)
    refine ifS_mk (ld (g68.get mC) rfl) ⟨_, ld m8 rfl, _, _, ldN m8 (by simp) rfl, ifS_mk e9 (setI_mk (wrap_succ (by omega)) ⟨n - 1, by omega, j + 1, rfl, by omega, ?_, ?_, ?_⟩)⟩
    · exact (Upd.trans g26 g68).after u9 (fun i hi => by simp only [List.mem_singleton] at hi; exact .inl (by omega))
    · exact u9.get (g68.get mC) (by simp only [List.mem_singleton]; omega)
    · rw [ents_snoc]
      have e1 : rs.getD j (0, []) = rs[j] := by simp [hjl]
      have e2 : ws.getD j .nilSlice = ws[j]'(hv0.ltw hjl) := by simp [hv0.ltw hjl]
      rw [e1, e2]; exact m9
  have hjl : j = rs.length := by omega
  subst hjl
  generalize hes : ents rs ws rs.length = es0 at hM
  have hkeys : es0.map (·.1) = idsOf rs := by rw [← hes, ents_keys (Nat.le_refl _), List.take_length]
  have hnes : (es0.map (·.1)).Nodup := by rw [hkeys]; exact hn
  have hltM6 : S2.next < S6.next := g26.wf.lt hM
  have hltC6 : S3.next < S6.next := g26.wf.lt mC
  have hCM : S3.next ≠ S2.next := by omega
  refine ifS_mk (ld (g26.get mA2) rfl) ⟨_, (hx.seen.grow (g2.trans g26)).len, ?_⟩
  refine Loop2.ind (fun n y z S' => ∃ j : Nat, z = j ∧ j + n = x.seen.length ∧ Grow S2 S' ∧ S6.next ≤ S'.next ∧ S'.get S3.next = some (.cells [.map S2.next] true) ∧ MapAt S' S2.next (leftE es0 (x.seen.take j)) ∧
      (x.seen.take j).Nodup ∧ (∀ i ∈ x.seen.take j, i ∈ idsOf rs) ∧ (∀ i, 0 < i → i < j → x.seen.getD (i - 1) 0 < x.seen.getD i 0) ∧ (∀ i ∈ V.block y, S6.next ≤ i) ∧
      ∃ ws' : List V, ws'.length = j ∧ Built S2 S' 2 y (rowsC ((x.seen.take j).map (rowOf rs)) ws') ∧ ∀ t (h : t < ws'.length), IntsAt S ws'[t] (rowOf rs (x.seen.getD t 0)).2) x.seen.length
    ⟨0, rfl, by omega, g26, Nat.le_refl _, mC, by rw [List.take_zero, leftE_nil]; exact hM, by simp, by simp, fun i h h' => by omega, by simp [V.block], [], rfl, by simpa [rowsC] using Built.nil g26 2, fun t h => by simp at h⟩ ?_
  rintro n y _ S10 ⟨j, rfl, hj2, g10, hle10, mC10, hM10, hnd, hsub, hup, hyb, ws', hwl, hB10, hint⟩
  have hsn10 := hx.seen.grow (g2.trans g10)
  have mA10 := g10.get mA2
  refine ifC_dec (fun hlt => ?_) (fun hge => ?_)
  · have hjl : j < x.seen.length := by omega
    refine ifS_mk (IntsAt.idx hsn10 hjl) ⟨_, IntsAt.get hsn10 hjl, ifS_mk (callee_mk hO.can) (cert_take hO.take g10.wf mC10 hM10 (leftE_nodup hnes) hCM (by rw [← hes]; exact ents_cells hv0) ?_ ?_)⟩
    · intro r w hmem hid S11 u11 m11
      rw [← hes] at hmem
      obtain ⟨hin, hfresh, hwS⟩ := ent_row hv0 hn hmem
      rw [hid] at hin hfresh hwS
      have g11 : Grow S2 S11 := g10.after u11 (fun i hi => by simp only [List.mem_singleton] at hi; exact .inl (by omega))
      have mC11 := u11.get mC10 (by simp only [List.mem_singleton]; omega)
      refine newS_mk u11.wf fun S12 g12 m12 n12 => st_mk g12.wf m12 rfl (by simp [V.cells]) (by simp only [V.cells, List.all_cons, List.all_nil, hwS.one1]; rfl) fun S13 u13 m13 n13 => ?_
      simp only [V.cells, over] at m13
      have g1113 : Grow S11 S13 := g12.after u13 (fun i hi => by simp only [List.mem_singleton] at hi; exact .inl (by omega))
      have g13 : Grow S2 S13 := Upd.trans g11 g1113
      have mA13 := g13.get mA2
      have hsn13 := hx.seen.grow (g2.trans g13)
      refine Join0.mid (fun S' => S' = S13 ∧ (0 < j → x.seen.getD (j - 1) 0 < x.seen.getD j 0)) (ifC_ff rfl (ifC_dec (fun h0 => ?_) (fun h0 => ⟨rfl, fun h => by omega⟩))) ?_
      · have h0 : 0 < j := by omega
        have hj1 : j - 1 < x.seen.length := by omega
        have ej : ((j : Int) - 1) = ((j - 1 : Nat) : Int) := by omega
        refine ifS_mk (ld mA13 rfl) (setI_mk (n := ((j - 1 : Nat) : Int)) (by rw [IntKind.wrap_i64]; omega) (ifS_mk (IntsAt.idx hsn13 hj1) ⟨_, IntsAt.get hsn13 hj1, ifC_dec (fun h1 => ?_) (fun h1 => ⟨rfl, fun _ => ?_⟩)⟩))
        · refine no _ (g2.trans g13) fun hs => ?_
          have := hs.1 j h0 hjl
          rw [getD_get hjl, getD_get hj1] at this
          omega
        · rw [getD_get hjl, getD_get hj1]; omega
      rintro S14 ⟨rfl, hupj⟩
      have hB14 : Built S2 S14 2 y (rowsC ((x.seen.take j).map (rowOf rs)) ws') := (hB10.upd u11 (fun i hi => by simp only [List.mem_singleton] at hi; omega) (fun i hi => by have := hyb i hi; simp only [List.mem_singleton]; omega)).next g1113
      have hml : ((x.seen.take j).map (rowOf rs)).length = j := by rw [List.length_map, List.length_take]; omega
      have hrl : (rowsC ((x.seen.take j).map (rowOf rs)) ws').length = j := by rw [rowsC_length (by omega), hml]
      have hj512 : j ≤ 512 := by
        have h1 := nodup_le hnd hsub
        obtain ⟨_, h2⟩ := errAsk_zero hask
        obtain ⟨_, _, h3, _⟩ := checkR_zero h2
        rw [List.length_take, idsOf, List.length_map] at h1
        omega
      refine ⟨_, _, ldN m13 (by simp) rfl, hB14.push (e := [.int .i64 r.1, w]) rfl (by simp only [List.all_cons, List.all_nil, hwS.one1]; rfl) (by rw [hrl]; omega) (by rw [hrl]; omega) fun y' S16 hB16 u16 t16 => setI_mk (wrap_succ (by omega)) ⟨n - 1, by omega, j + 1, rfl, by omega, hB16.grow, ?_, ?_, ?_, ?_, ?_, ?_, ?_, ws' ++ [w], by simp [hwl], ?_, ?_⟩⟩
      · have := u16.le; have := g1113.le; have := u11.le; omega
      · exact u16.get (g1113.get mC11) (fun hm => by have := hyb _ hm; omega)
      · rw [leftE_snoc] at m11
        rw [List.take_add_one, List.getElem?_eq_getElem hjl, Option.toList_some]
        exact (m11.upd g1113 (by simp)).upd u16 (fun hm => by have := hyb _ hm; omega)
      · rw [List.take_add_one, List.getElem?_eq_getElem hjl, Option.toList_some]
        exact nodup_snoc hnd hfresh
      · rw [List.take_add_one, List.getElem?_eq_getElem hjl, Option.toList_some]
        intro i hi
        rcases List.mem_append.mp hi with hi | hi
        · exact hsub i hi
        · simp only [List.mem_singleton] at hi; subst hi; exact hin
      · intro i h1 h2
        by_cases e : i = j
        · subst e; exact hupj h1
        · exact hup i h1 (by omega)
      · intro i hi
        rcases t16 i hi with h | h
        · exact hyb i h
        · have := g1113.le; have := u11.le; omega
      · rw [List.take_add_one, List.getElem?_eq_getElem hjl, Option.toList_some, List.map_append, List.map_cons, List.map_nil, rowsC_snoc (by omega)]
        have : rowC (rowOf rs x.seen[j]) w = [.int .i64 r.1, w] := by rw [rowC, (rowOf_mem hin).2, hid]
        rw [this]; exact hB16
      · intro t ht
        rw [List.length_append, List.length_singleton, hwl] at ht
        by_cases e : t = j
        · subst e
          rw [List.getElem_append_right (by omega), getD_get hjl]
          simp only [hwl, Nat.sub_self, List.getElem_singleton]
          exact hwS
        · rw [List.getElem_append_left (by omega)]
          exact hint t (by omega)
    · intro hnone S11 u11
      have g11 : Grow S2 S11 := g10.after u11 (fun i hi => by simp only [List.mem_singleton] at hi; exact .inl (by omega))
      refine newS_mk u11.wf fun S12 g12 m12 n12 => st_mk g12.wf m12 rfl (by simp [V.cells]) rfl fun S13 u13 m13 n13 => ?_
      have g1113 : Grow S11 S13 := g12.after u13 (fun i hi => by simp only [List.mem_singleton] at hi; exact .inl (by omega))
      refine Join0.mid (fun S' => False) (ifC_tt rfl (no _ (g2.trans (Upd.trans g11 g1113)) fun hs => ?_)) (fun S' h => h.elim)
      have h1 := told_seen hs hjl
      have h2 := leftE_none hnone
      rw [hkeys] at h2
      exact h2 h1
  have hjl : j = x.seen.length := by omega
  subst hjl
  have hupT : UpTo x.seen := fun i h1 h2 => hup i h1 h2
  rw [List.take_length] at hM10 hnd hsub hB10
  have hc10 := hc0.grow (g2.trans g10)
  have hrlen := hc0.le
  refine ifS_mk (ld mA10 rfl) ⟨_, hc10.length, ?_⟩
  refine Loop1.ind (fun n z S' => ∃ j : Nat, z = j ∧ j + n = x.rest.length ∧ Grow S2 S' ∧ S10.next ≤ S'.next ∧ S'.get S3.next = some (.cells [.map S2.next] true) ∧ MapAt S' S2.next (leftE es0 (x.seen ++ restIds (x.rest.take j))) ∧
      (x.seen ++ restIds (x.rest.take j)).Nodup ∧ (∀ i ∈ x.seen ++ restIds (x.rest.take j), i ∈ idsOf rs) ∧ (∀ g ∈ x.rest.take j, RegIn rs q g) ∧ Built S2 S' 2 y (rowsC (x.seen.map (rowOf rs)) ws')) x.rest.length
    ⟨0, rfl, by omega, g10, Nat.le_refl _, mC10, by simpa [restIds] using hM10, by simpa [restIds] using hnd, by simpa [restIds] using hsub, by simp, hB10⟩ ?_
  rintro n _ S17 ⟨j, rfl, hj3, g17, hle17, mC17, hM17, hnd17, hsub17, hreg17, hB17⟩
  have hc17 := hc0.grow (g2.trans g17)
  refine ifC_dec (fun hlt => ?_) (fun hge => ?_)
  · have hjl : j < x.rest.length := by omega
    have hR17 := hc17.reg hjl
    refine ifS_mk (hc17.idx hjl) ⟨_, _, _, _, _, _, hc17.all hjl, newS_mk g17.wf fun S18 g18 m18 n18 => st_mk g18.wf m18 rfl (by simp [V.cells]) (by simp only [V.cells]; exact regC_ones hR17) fun S19 u19 m19 n19 => ?_⟩
    simp only [V.cells, over] at m19
    have g1719 : Grow S17 S19 := g18.after u19 (fun i hi => by simp only [List.mem_singleton] at hi; exact .inl (by omega))
    have g19 : Grow S2 S19 := Upd.trans g17 g1719
    have hR19 := hR17.grow g1719
    have hu19 := hu.grow (g2.trans g19)
    have hq1 : ∀ g, x.rest[j] = g → ¬ (g.ids ≠ [] ∧ errReg g q.length = 0) → ¬ SoundA rs q k.toNat x := fun g hg hnot hs => by
      obtain ⟨a1, a2, _⟩ := hs.2.1 _ (List.getElem_mem hjl)
      rw [hg] at a1 a2
      exact hnot ⟨a1, a2⟩
    refine Join0.mid (fun S' => S' = S19 ∧ x.rest[j].ids ≠ [] ∧ errReg x.rest[j] q.length = 0) (ifS_mk (ld m19 rfl) ⟨_, hR19.ids.len, ifC_dec (fun h0 => ?_) (fun h0 => ⟨_, _, _, _, _, _, ldN m19 (by simp) rfl, _, hu19.len, hO.reg x.rest[j] _ _ _ _ _ _ _ _ hR19 (ifC_ndec (fun h1 => ?_) (fun h1 => ⟨rfl, ?_, h1⟩))⟩)⟩) ?_
    · refine no _ (g2.trans g19) (hq1 _ rfl fun h => h.1 (List.length_eq_zero_iff.mp (by omega)))
    · exact no _ (g2.trans g19) (hq1 _ rfl fun h => h1 h.2)
    · intro h; rw [h] at h0; simp at h0
    rintro S20 ⟨rfl, hne, hreg0⟩
    have hltT : S17.next < S20.next := by have := u19.le; omega
    have hltC17 : S3.next < S17.next := g17.wf.lt mC17
    have hltM17 : S2.next < S17.next := g17.wf.lt hM17
    refine ifS_mk (ld m19 rfl) ⟨_, hR19.ids.len, ?_⟩
    refine Loop1.ind (fun m z S' => ∃ i : Nat, z = i ∧ i + m = x.rest[j].ids.length ∧ Grow S2 S' ∧ S20.next ≤ S'.next ∧ S'.get S17.next = S20.get S17.next ∧ S'.get S3.next = some (.cells [.map S2.next] true) ∧ MapAt S' S2.next (leftE es0 (x.seen ++ restIds (x.rest.take j) ++ x.rest[j].ids.take i)) ∧
        (x.seen ++ restIds (x.rest.take j) ++ x.rest[j].ids.take i).Nodup ∧ (∀ i' ∈ x.seen ++ restIds (x.rest.take j) ++ x.rest[j].ids.take i, i' ∈ idsOf rs) ∧ (∀ i' ∈ x.rest[j].ids.take i, InReg x.rest[j] (rowOf rs i').2) ∧ Built S2 S' 2 y (rowsC (x.seen.map (rowOf rs)) ws')) x.rest[j].ids.length
      ⟨0, rfl, by omega, g19, Nat.le_refl _, rfl, g1719.get mC17, by rw [List.take_zero, List.append_nil]; exact hM17.upd g1719 (by simp), by simpa using hnd17, by simpa using hsub17, by simp, hB17.next g1719⟩ ?_
    rintro m _ S22 ⟨i, rfl, hi4, g22, hle22, hT22, mC22, hM22, hnd22, hsub22, hin22, hB22⟩
    have hidlen := hR19.ids.le
    rw [m19] at hT22
    refine ifC_dec (fun hlt => ?_) (fun hge => ?_)
    · have hil : i < x.rest[j].ids.length := by omega
      have hR22 := (hc0.grow (g2.trans g22)).reg hjl
      refine ifS_mk (IntsAt.idx hR22.ids hil) ⟨_, IntsAt.get hR22.ids hil, ifS_mk (callee_mk hO.can) (cert_take hO.take g22.wf mC22 hM22 (leftE_nodup hnes) hCM (by rw [← hes]; exact ents_cells hv0) ?_ ?_)⟩
      · intro r w hmem hid S23 u23 m23
        rw [← hes] at hmem
        obtain ⟨hin, hfresh, hwS⟩ := ent_row hv0 hn hmem
        rw [hid] at hin hfresh hwS
        have g23 : Grow S2 S23 := g22.after u23 (fun i hi => by simp only [List.mem_singleton] at hi; exact .inl (by omega))
        have mC23 := u23.get mC22 (by simp only [List.mem_singleton]; omega)
        have mT23 := u23.get hT22 (by simp only [List.mem_singleton]; omega)
        refine newS_mk u23.wf fun S24 g24 m24 n24 => st_mk g24.wf m24 rfl (by simp [V.cells]) (by simp only [V.cells, List.all_cons, List.all_nil, hwS.one1]; rfl) fun S25 u25 m25 n25 => ifC_ff rfl ?_
        simp only [V.cells, over] at m25
        have g2325 : Grow S23 S25 := g24.after u25 (fun i hi => by simp only [List.mem_singleton] at hi; exact .inl (by omega))
        have g25' : Grow S2 S25 := Upd.trans g23 g2325
        have hR25 := (hc0.grow (g2.trans g25')).reg hjl
        have hw25 := hwS.grow (g2.trans g25')
        obtain ⟨c1, c2⟩ := rowOf_mem hin
        obtain ⟨d1, d2, d3⟩ := errAsk_row hask c1
        have hboth : errBoth x.rest[j] (rowOf rs x.rest[j].ids[i]).2 = 0 := by
          unfold errBoth; rw [d1, hreg0, if_neg (by simp), ← d1]; exact d2
        refine ⟨_, _, _, _, _, _, ldN (g2325.get mT23) (by simp) rfl, ifS_mk (ld m25 rfl) (hO.inside x.rest[j] _ _ _ _ _ _ _ _ _ hR25 hw25 (fun h => absurd hboth h) (fun _ => ifC_ndec (fun h1 => ?_) (fun h1 => setI_mk (wrap_succ (by omega)) ⟨m - 1, by omega, i + 1, rfl, by omega, g25', ?_, ?_, ?_, ?_, ?_, ?_, ?_, ?_⟩)))⟩
        · exact no _ (g2.trans g25') fun hs => h1 ((hs.2.1 _ (List.getElem_mem hjl)).2.2 _ (List.getElem_mem hil))
        · have := g2325.le; have := u23.le; omega
        · rw [m19]; exact g2325.get mT23
        · exact g2325.get mC23
        · rw [leftE_snoc] at m23
          rw [List.take_add_one, List.getElem?_eq_getElem hil, Option.toList_some, ← List.append_assoc]
          exact m23.upd g2325 (by simp)
        · rw [List.take_add_one, List.getElem?_eq_getElem hil, Option.toList_some, ← List.append_assoc]
          exact nodup_snoc hnd22 hfresh
        · rw [List.take_add_one, List.getElem?_eq_getElem hil, Option.toList_some, ← List.append_assoc]
          intro i' hi'
          rcases List.mem_append.mp hi' with hi' | hi'
          · exact hsub22 i' hi'
          · simp only [List.mem_singleton] at hi'; subst hi'; exact hin
        · rw [List.take_add_one, List.getElem?_eq_getElem hil, Option.toList_some]
          intro i' hi'
          rcases List.mem_append.mp hi' with hi' | hi'
          · exact hin22 i' hi'
          · simp only [List.mem_singleton] at hi'; subst hi'; exact h1
        · exact (hB22.upd u23 (fun i hi => by simp only [List.mem_singleton] at hi; omega) (fun i hi => by have := hyb i hi; simp only [List.mem_singleton]; omega)).next g2325
      · intro hnone S23 u23
        have g23 : Grow S2 S23 := g22.after u23 (fun i hi => by simp only [List.mem_singleton] at hi; exact .inl (by omega))
        refine newS_mk u23.wf fun S24 g24 m24 n24 => st_mk g24.wf m24 rfl (by simp [V.cells]) rfl fun S25 u25 m25 n25 => ifC_tt rfl (no _ (g2.trans (Upd.trans g23 (g24.after u25 (fun i hi => by simp only [List.mem_singleton] at hi; exact .inl (by omega))))) fun hs => ?_)
        have h1 := told_rest hn hs hjl hil
        have h2 := leftE_none hnone
        rw [hkeys] at h2
        exact h2 h1
    · have hil : i = x.rest[j].ids.length := by omega
      subst hil
      rw [List.take_length] at hM22 hnd22 hsub22 hin22
      have hsn : x.seen ++ restIds (x.rest.take (j + 1)) = x.seen ++ restIds (x.rest.take j) ++ x.rest[j].ids := by rw [restIds_snoc hjl, List.append_assoc]
      refine setI_mk (wrap_succ (by omega)) ⟨n - 1, by omega, j + 1, rfl, by omega, g22, by omega, mC22, by rw [hsn]; exact hM22, by rw [hsn]; exact hnd22, by rw [hsn]; exact hsub22, ?_, hB22⟩
      rw [List.take_add_one, List.getElem?_eq_getElem hjl, Option.toList_some]
      intro g hg
      rcases List.mem_append.mp hg with hg | hg
      · exact hreg17 g hg
      · simp only [List.mem_singleton] at hg; subst hg; exact ⟨hne, hreg0, hin22⟩
  have hjl : j = x.rest.length := by omega
  subst hjl
  rw [List.take_length] at hM17 hnd17 hsub17 hreg17
  have hml : (x.seen.map (rowOf rs)).length = x.seen.length := by rw [List.length_map]
  have hrows : RowsAt S17 y (x.seen.map (rowOf rs)) := ⟨ws', by rw [hml]; exact hwl, hB17.sl, fun t hr hw' => by
    have := (hint t hw').grow (g2.trans g17)
    have ht : t < x.seen.length := by omega
    rw [getD_get ht] at this
    simpa using this⟩
  have hztop := errTop_some hz (List.nodup_append.mp hnd17).1 (fun i hi => hsub17 i (List.mem_append_left _ hi))
  refine flat_TopK.spec hO.top g17.wf hrows (hu.grow (g2.trans g17)) (fun h => absurd hztop h) fun _ v2 S27 hB27 => ?_
  have g27 : Grow S2 S27 := Upd.trans g17 hB27.grow
  have hM27 := hM17.upd hB27.grow (by simp)
  have hhits27 := hx.hits.grow (g2.trans g27)
  have iffS : SoundA rs q k.toNat x ↔ (leftE es0 (x.seen ++ restIds x.rest)).length = 0 ∧ best k.toNat (hitsOf q (x.seen.map (rowOf rs))) = x.hits := by
    rw [leftE_zero, hkeys]
    constructor
    · rintro ⟨_, _, h3, h4⟩
      exact ⟨fun i hi => h3.mem_iff.mpr hi, h4.symm⟩
    · rintro ⟨h3, h4⟩
      exact ⟨hupT, hreg17, told_perm hnd17 hn hsub17 h3, h4.symm⟩
  refine ifS_mk (ld (hB27.grow.get mC17) rfl) ⟨_, len_map hM27, ifC_dec (fun h0 => ?_) (fun h0 => no _ (g2.trans g27) fun hs => h0 (by have := (iffS.mp hs).1; omega))⟩
  refine ifS_mk (ld (g27.get mA2) rfl) (slices_Equal_Lapi_Hit.spec hO.equal (l := best k.toNat (hitsOf q (x.seen.map (rowOf rs)))) hB27.hits hhits27 (hk _ _ ?_ (g2.trans g27)))
  rw [decide_eq_true_eq, iffS]
  exact ⟨fun h => ⟨by omega, h⟩, fun h => h.2⟩

end Go.Th.L
end

section
/- cert.Certain. -/
set_option linter.unusedSimpArgs false
set_option linter.unusedVariables false
set_option maxHeartbeats 1000000
namespace Go.Th.L
open Go Go.Th Go.Th.Pure Go.Sort
variable {P : Program} {N : Nat → Nat}

theorem SlAt.loadP {S : St} {k : Nat} {v : V} {n : Nat} {cs : List V} (h : SlAt S k v n cs) {m off l : Nat} (hm : m < n) (ho : off + l ≤ k) (hl0 : 0 < l) : loadNV S l (eltV k v m off) = some (.agg ((cs.drop (m * k + off)).take l)) := by
  obtain ⟨h1, h2, h3⟩ := h
  rcases h3 with ⟨rfl, rfl⟩ | ⟨i, o, c, t, rfl, hc, hld⟩
  · omega
  · have hlt : m * k + k ≤ n * k := by
      have : (m + 1) * k ≤ n * k := Nat.mul_le_mul_right _ hm
      rw [Nat.succ_mul] at this; omega
    obtain ⟨vs, own, hg, hl, hcs⟩ := St.loads_pos hld (by omega)
    simp only [loadNV, eltV]
    rw [St.loads_of hg (by omega), Option.map_some, hcs, List.drop_take, List.drop_drop, List.take_take, Nat.min_eq_left (by omega), Nat.add_assoc]
theorem SlE.part {S : St} {k : Nat} {v : V} {es : List (List V)} (h : SlE S k v es) {j off l : Nat} (hj : j < es.length) (ho : off + l ≤ k) (hl : 0 < l) : loadNV S l (eltV k v j off) = some (.agg ((es[j].drop off).take l)) := by
  rw [SlAt.loadP h.1 hj ho hl]
  have := flatten_elt h.2 hj
  rw [← this, List.drop_take, List.drop_drop, List.take_take, Nat.min_eq_left (by omega)]
theorem HitsAt.far {S : St} {v : V} {l : List Hit} (h : HitsAt S v l) {j : Nat} (hj : j < l.length) : loadNV S 2 (eltV 3 v j 1) = some (.agg [.int .u64 l[j].hi, .int .u64 l[j].lo]) := by
  rw [SlE.part h.sl (by rw [hitsE_len]; exact hj) (by omega) (by omega)]
  have : (hitsE l)[j]'(by rw [hitsE_len]; exact hj) = hcells l[j] := by simp [hitsE]
  rw [this]; rfl

theorem sound_hit {rs : List Row} {q : List Int} {k : Nat} {x : Ans} (he : errAsk q rs = 0) (h : SoundA rs q k x) {t : Hit} (ht : t ∈ x.hits) : Wok t.hi t.lo := by
  rw [h.2.2.2] at ht
  obtain ⟨r, hr, rfl⟩ := List.mem_map.mp (best_mem ht)
  obtain ⟨i, hi, rfl⟩ := List.mem_map.mp hr
  have him : i ∈ idsOf rs := h.2.2.1.mem_iff.mp (List.mem_append_left _ hi)
  obtain ⟨c1, c2⟩ := rowOf_mem him
  obtain ⟨d1, d2, d3⟩ := errAsk_row he c1
  obtain ⟨_, e2, _, e4⟩ := checkV_ok d2
  obtain ⟨_, _, _, f4⟩ := checkV_ok d3
  have h1 := distL_nonneg (rowOf rs i).2 q
  have h2 := distL_le e4 f4
  exact wok_of h1 (by omega)

theorem cert_Certain.spec (hO : CertOk P N) {v u a b c : V} {rs : List Row} {q : List Int} {k : Int} {x : Ans} {S : St} (hw : S.Wf) (hv : RowsAt S v rs) (hu : IntsAt S u q) (hx : AnsAt S a b c x) {K : Bool → Int → St → Prop}
    (he : errTop q rs k ≠ 0 → ∀ S', Grow S S' → K false (errTop q rs k) S')
    (hk : errTop q rs k = 0 → ∀ (b : Bool) S', (b = true ↔ CertA rs q k.toNat x) → Grow S S' → K b 0 S') :
    CallA P (N Fn.cert_Certain) [v, u, .int .i64 k, ansV a b c] S (retT [.one .bool, .one (.int .i64)] K) := by
  obtain ⟨ps, hc0⟩ := hx.rest
  have hrlen := hc0.le
  refine cert_Certain.run hO.certain (newS_mk hw fun S1 g1 mA nA => ⟨_, _, _, ldN mA (by simp) rfl, cert_Sound.spec hO g1.wf (hv.grow g1) (hu.grow g1) (hx.grow g1) (fun hz S2 g => Join0.mid (fun _ => False) (ifC_ndec (fun _ => he hz S2 (g1.trans g)) (fun h' => absurd h' hz)) (fun _ h => h.elim)) (fun hz sb S2 hsb g => ?_)⟩)
  have hk := hk hz
  obtain ⟨hask, hk1, hk64⟩ := errTop_zero hz
  have no : ∀ S', Grow S S' → ¬ CertA rs q k.toNat x → K false 0 S' := fun S' g h => hk false S' (by simp [h]) g
  have g2 : Grow S S2 := g1.trans g
  refine Join0.mid (fun S' => S' = S2 ∧ SoundA rs q k.toNat x) (ifC_ndec (fun h' => absurd rfl h') (fun _ => ?_)) ?_
  · cases sb with
    | true => exact ifC_ff rfl ⟨rfl, hsb.mp rfl⟩
    | false => exact ifC_tt rfl (no _ g2 fun h => by have := hsb.mpr h.1; cases this)
  rintro S3 ⟨rfl, hs⟩
  have mA3 := g.get mA
  refine ifS_mk (ld mA3 rfl) ⟨_, (hc0.grow g2).length, ?_⟩
  obtain ⟨kn, rfl⟩ := Int.eq_ofNat_of_zero_le (show 0 ≤ k by omega)
  rw [Int.toNat_natCast] at *
  refine Loop1.ind (fun n z S' => ∃ j : Nat, z = j ∧ j + n = x.rest.length ∧ Grow S3 S' ∧ ∀ g ∈ x.rest.take j, kn ≤ x.hits.length ∧ ∃ n, IsNear g q n ∧ farH (x.hits.getD (kn - 1) default) < n) x.rest.length ⟨0, rfl, by omega, Upd.refl g2.wf _, by simp⟩ ?_
  rintro n _ S4 ⟨j, rfl, hj, g4, hall⟩
  refine ifC_dec (fun hlt => ?_) (fun hge => ?_)
  · have hjl : j < x.rest.length := by omega
    have g04 : Grow S S4 := Upd.trans g2 g4
    have hc4 := hc0.grow g04
    have hR4 := hc4.reg hjl
    refine ifS_mk (hc4.idx hjl) ⟨_, _, _, _, _, _, hc4.all hjl, newS_mk g4.wf fun S5 g5 m5 n5 => st_mk g5.wf m5 rfl (by simp [V.cells]) (by simp only [V.cells]; exact regC_ones hR4) fun S6 u6 m6 n6 => ?_⟩
    simp only [V.cells, over] at m6
    have g46 : Grow S4 S6 := g5.after u6 (fun i hi => by simp only [List.mem_singleton] at hi; exact .inl (by omega))
    have g36 : Grow S3 S6 := Upd.trans g4 g46
    have g06 : Grow S S6 := Upd.trans g2 g36
    have hR6 := hR4.grow g46
    have hh6 := hx.hits.grow g06
    have hhl := hh6.at_.le
    refine ifS_mk (ld (g36.get mA3) rfl) ⟨_, hh6.at_.len, ifC_dec (fun h0 => no _ g06 fun h => ?_) (fun h0 => ?_)⟩
    · have := (h.2 _ (List.getElem_mem hjl)).1; omega
    have hkl : kn - 1 < x.hits.length := by omega
    obtain ⟨b1, b2, b3⟩ := hs.2.1 _ (List.getElem_mem hjl)
    have hboth : errBoth x.rest[j] q = 0 := by
      unfold errBoth; rw [b2, if_neg (by simp)]; exact (errAsk_zero hask).1
    refine ⟨_, _, _, _, _, _, ldN m6 (by simp) rfl, hO.bound x.rest[j] _ _ _ _ _ _ _ _ _ hR6 (hu.grow g06) (fun h => absurd hboth h) (fun _ nh nl hnw hnear => ?_)⟩
    refine newS_mk g36.wf fun S8 g8 m8 n8 => st_mk g8.wf m8 rfl (by simp [V.cells]) rfl fun S9 u9 m9 n9 => ?_
    simp only [V.cells, over] at m9
    have g69 : Grow S6 S9 := g8.after u9 (fun i hi => by simp only [List.mem_singleton] at hi; exact .inl (by omega))
    have g39 : Grow S3 S9 := Upd.trans g36 g69
    have g09 : Grow S S9 := Upd.trans g2 g39
    have hh9 := hx.hits.grow g09
    have hwk := sound_hit hask hs (List.getElem_mem hkl)
    refine ⟨_, _, ldN m9 (by simp) rfl, ifS_mk (ld (g39.get mA3) rfl) (setI_mk (n := ((kn - 1 : Nat) : Int)) (by rw [IntKind.wrap_i64]; omega) (ifS_mk (hh9.idx hkl) (ifS_mk (hh9.sl.fld (by rw [hitsE_len]; exact hkl) 1) ⟨_, _, HitsAt.far hh9 hkl, hO.cmp _ _ _ _ _ _ ⟨Same.refl _ _, ?_⟩⟩)))⟩
    have hfar : x.hits.getD (kn - 1) default = x.hits[kn - 1] := by simp [List.getD_eq_getElem?_getD, List.getElem?_eq_getElem hkl]
    rw [cmpW_num hnw hwk]
    refine ifC_dec (fun h1 => no _ g09 fun h => ?_) (fun h1 => setI_mk (wrap_succ (by omega)) ⟨n - 1, by omega, j + 1, rfl, by omega, g39, ?_⟩)
    · obtain ⟨_, m, hm1, hm2⟩ := h.2 _ (List.getElem_mem hjl)
      rw [hfar, IsNear.unique hm1 hnear] at hm2
      unfold farH at hm2
      split at h1
      · omega
      · split at h1 <;> omega
    · rw [List.take_add_one, List.getElem?_eq_getElem hjl, Option.toList_some]
      intro g hg
      rcases List.mem_append.mp hg with hg | hg
      · exact hall g hg
      · simp only [List.mem_singleton] at hg; subst hg
        refine ⟨by omega, _, hnear, ?_⟩
        rw [hfar]; unfold farH
        split at h1
        · omega
        · split at h1 <;> omega
  · have : j = x.rest.length := by omega
    subst this
    rw [List.take_length] at hall
    exact hk true _ (by simp; exact ⟨hs, hall⟩) (Upd.trans g2 g4)

end Go.Th.L
end

section
/- The reference's search over all rows: hits, the first of them, rows found, regions. -/
set_option linter.unusedSimpArgs false
set_option linter.unusedVariables false
set_option maxHeartbeats 1000000
namespace Go.Th.L
open Go Go.Th Go.Th.Pure Go.Sort
variable {P : Program} {N : Nat → Nat}

theorem eqW_mk (a b c d : Int) : eqV 6 [1, 1] (V.agg [(V.int .u64 a), (V.int .u64 b)]) (V.agg [(V.int .u64 c), (V.int .u64 d)]) = some (decide (a = c ∧ b = d)) := by
  simp [eqV, eqA, eqL, eqT]

def ref05_Before.Spec (P : Program) (N : Nat → Nat) : Prop := ∀ (a b : Hit) (S : St) (K : Bool → St → Prop), Wok a.hi a.lo → Wok b.hi b.lo → K (lessH a b) S → CallA P (N Fn.ref05_Before) [hitV a, hitV b] S (retT [.one .bool] K)
theorem ref05_Before.spec (hF : ref05_Before.Ok P N) (hL : ref01_Less.Spec P N) : ref05_Before.Spec P N := by
  intro a b S K ha hb hk
  refine CallA.gcT (ds := [.one .bool]) rfl (CallA.wfT fun hw => ?_)
  refine ref05_Before.run hF (newS_mk hw fun S1 g1 m1 n1 => newS_mk g1.wf fun S2 g2 m2 n2 => ?_)
  have m1 := g2.get m1
  refine ⟨_, _, ldN m1 (by simp) rfl, _, _, ldN m2 (by simp) rfl, _, eqW_mk _ _ _ _, ifC_ndec (fun h1 => ⟨_, _, ldN m1 (by simp) rfl, _, _, ldN m2 (by simp) rfl, hL _ _ _ _ _ _ ha hb ?_⟩) (fun h1 => ⟨_, ld m1 rfl, _, ld m2 rfl, ?_⟩)⟩
  · have e : decide (wN a.hi a.lo < wN b.hi b.lo) = lessH a b := by
      obtain ⟨a0, a1, a2, a3⟩ := ha
      obtain ⟨b0, b1, b2, b3⟩ := hb
      unfold lessH wN
      refine decide_eq_decide.mpr ?_
      omega
    rw [e]; exact hk
  · have e : decide (a.id < b.id) = lessH a b := by
      unfold lessH
      refine decide_eq_decide.mpr ?_
      omega
    rw [e]; exact hk

theorem hitOf_wok {q : List Int} {r : Row} (h : distE r.2 q = 0) : Wok (hitOf q r).hi (hitOf q r).lo := by
  obtain ⟨h1, h2, h3, h4, h5⟩ := distE_zero h
  have a1 := distL_nonneg r.2 q
  have a2 := distL_le h4 h5
  exact wok_of a1 (by omega)

theorem hits_state {L : List Hit} {x y : Hit} {p : Nat} (hp : p < L.length) : (L.take (p + 1) ++ y :: L.drop (p + 1)).set (p + 1) L[p] = L.take p ++ L[p] :: L.drop p := by
  have hl : (L.take (p + 1)).length = p + 1 := by rw [List.length_take]; omega
  rw [List.set_append_right _ _ (by omega), hl, Nat.sub_self, List.set_cons_zero, List.drop_eq_getElem_cons hp, List.take_add_one, List.getElem?_eq_getElem hp, Option.toList_some, List.append_assoc]
  rfl
theorem hits_done {L : List Hit} {x y : Hit} {p : Nat} (hp : p ≤ L.length) : (L.take p ++ y :: L.drop p).set p x = L.take p ++ [x] ++ L.drop p := by
  have hl : (L.take p).length = p := by rw [List.length_take]; omega
  rw [List.set_append_right _ _ (by omega), hl, Nat.sub_self, List.set_cons_zero, List.append_assoc]
  rfl
theorem hitsE_set (l : List Hit) (j : Nat) (x : Hit) : (hitsE l).set j (hcells x) = hitsE (l.set j x) := by
  simp [hitsE, List.map_set]

theorem ref05_Hits.spec (hF : ref05_Hits.Ok P N) (hfar : FarOk P (N Fn.ref03_Far)) (hB : ref05_Before.Spec P N) {S : St} (hw : S.Wf) {v u : V} {rs : List Row} {q : List Int} (hv : RowsAt S v rs) (hu : IntsAt S u q) (hd : ∀ r ∈ rs, distE r.2 q = 0) (hn : rs.length ≤ 512)
    {K : V → St → Prop} (hk : ∀ v' S', Built S S' 3 v' (hitsE (sortH (hitsOf q rs))) → K v' S') : CallA P (N Fn.ref05_Hits) [v, u] S (retT [.one .any] K) := by
  obtain ⟨ws, hv0⟩ := hv
  refine ref05_Hits.run hF (Loop2.ind (fun m y z S' => ∃ j : Nat, z = j ∧ j + m = rs.length ∧ Built S S' 3 y (hitsE (sortH (hitsOf q (rs.take j))))) rs.length ⟨0, rfl, by omega, by simpa [sortH, hitsOf] using Built.nil (Upd.refl hw _) 3⟩ ?_)
  rintro m y _ S1 ⟨j, rfl, hj, hB1⟩
  have g1 := hB1.grow
  have hv1 := hv0.grow g1
  have hu1 := hu.grow g1
  refine ⟨_, hv1.length, ifC_dec (fun hlt => ?_) (fun hge => ?_)⟩
  rotate_left
  · rw [List.take_of_length_le (by omega)] at hB1
    exact hk _ _ hB1
  have hjl : j < rs.length := by omega
  have hz := hd _ (List.getElem_mem hjl)
  obtain ⟨z1, z2, z3, z4, z5⟩ := distE_zero hz
  have hxw := hitOf_wok hz
  generalize hx : hitOf q rs[j] = x at hxw
  have far : ∀ (S' : St) (K : Int → Int → St → Prop), Grow S S' → K x.hi x.lo S' → CallA P (N Fn.ref03_Far) [ws[j]'(hv0.ltw hjl), u] S' (retT [.agg [.int .u64, .int .u64]] K) := by
    intro S' K g hK
    refine hfar _ _ _ _ _ _ ((hv0.grow g).at_ hjl) (hu.grow g) (by omega) z2 z4 z5 fun h l hwk hwn => ?_
    rw [← z3, List.take_length] at hwn
    have := hit_eq (r := rs[j]) hwk hwn
    rw [hx] at this
    rw [← this] at hK
    exact hK
  refine Join1.mid (fun hp S' => hp = .ptr S1.next 0 ∧ Grow S1 S' ∧ S'.get S1.next = some (.cells (hcells x) true)) ?_ ?_
  · have hxid : x.id = rs[j].1 := by rw [← hx]; rfl
    refine ifS_mk (hv1.idx hjl) (ifS_mk (hv1.fld hjl 0) ⟨_, hv1.id hjl, ifS_mk (hv1.idx hjl) (ifS_mk (hv1.fld hjl 1) (ifS_mk (hv1.vec hjl) ⟨far S1 _ g1 (sameK_refl ?_), ?_⟩))⟩)
    · refine newS_mk g1.wf fun S4 g4 m4 n4 => sameK_mk (Same.of_grow g4 ?_) (st_mk g4.wf m4 rfl (by simp [V.cells]) rfl fun S5 u5 m5 n5 => ⟨rfl, g4.after u5 (fun i hi => by simp only [List.mem_singleton] at hi; exact .inl (by omega)), ?_⟩)
      · intro i hi
        have hlt := hv1.sl.1.block_lt g1.wf (by rw [rowsC_length hv1.len]; omega)
        have : ∀ f, ∀ i ∈ V.block (eltV 2 v j f), i ∈ V.block v := by
          intro f i hi
          cases v <;> simp [eltV, V.block] at hi ⊢
          exact hi
        simp only [List.append_nil, List.mem_append] at hi
        rcases hi with hi | hi
        · exact hlt i (this _ i hi)
        · exact hlt i (this _ i hi)
      · simp only [V.cells, over] at m5
        rw [← hxid] at m5; exact m5
    · refine newS_mk g1.wf fun S4 g4 m4 n4 => sameK_mk (Same.of_grow g4 ?_) (far S4 _ (Upd.trans g1 g4) (sameK_refl (st_mk g4.wf m4 rfl (by simp [V.cells]) rfl fun S5 u5 m5 n5 => ⟨rfl, g4.after u5 (fun i hi => by simp only [List.mem_singleton] at hi; exact .inl (by omega)), ?_⟩)))
      · intro i hi
        have hlt := hv1.sl.1.block_lt g1.wf (by rw [rowsC_length hv1.len]; omega)
        have : ∀ f, ∀ i ∈ V.block (eltV 2 v j f), i ∈ V.block v := by
          intro f i hi
          cases v <;> simp [eltV, V.block] at hi ⊢
          exact hi
        simp only [List.append_nil, List.mem_append] at hi
        rcases hi with hi | hi
        · exact hlt i (this _ i hi)
        · exact hlt i (this _ i hi)
      · simp only [V.cells, over] at m5
        rw [← hxid] at m5; exact m5
  rintro _ S2 ⟨rfl, g2, m2⟩
  have hB2 := hB1.next g2
  have hL : (sortH (hitsOf q (rs.take j))).length = j := by rw [sortH_length, List.length_map, List.length_take]; omega
  have hLsrt := sortH_srt (hitsOf q (rs.take j))
  have hLwok : ∀ t ∈ sortH (hitsOf q (rs.take j)), Wok t.hi t.lo := by
    intro t ht
    obtain ⟨r, hr, rfl⟩ := List.mem_map.mp ((sortH_perm _).mem_iff.mp ht)
    exact hitOf_wok (hd r (List.mem_of_mem_take hr))
  have hnext : hitsOf q (rs.take (j + 1)) = hitsOf q (rs.take j) ++ [x] := by
    unfold hitsOf; rw [List.take_add_one, List.getElem?_eq_getElem hjl, List.map_append, Option.toList_some, List.map_cons, List.map_nil, hx]
  generalize hLdef : sortH (hitsOf q (rs.take j)) = L at hB2 hL hLsrt hLwok
  have hyn : S1.next ∉ y.block := fun h => by have := hB1.lt _ h; omega
  have hlen2 := hB2.hits.len
  rw [hL] at hlen2
  refine ⟨_, hlen2, _, _, _, ldN m2 (by simp) rfl, hits_push x hB2 (by omega) fun y' S10 hB10 u10 t10 => ?_⟩
  have m10 : S10.get S1.next = some (.cells (hcells x) true) := u10.get m2 hyn
  have hlt2 : S1.next < S2.next := g2.wf.lt m2
  have hyn' : S1.next ∉ y'.block := fun h => by
    rcases t10 _ h with h' | h'
    · exact hyn h'
    · omega
  refine Join1.mid (fun z S' => ∃ (p : Nat) (e : Hit), z = p ∧ p ≤ j ∧ Built S S' 3 y' (hitsE (L.take p ++ e :: L.drop p)) ∧ S'.get S1.next = some (.cells (hcells x) true) ∧ (∀ i (h : i < L.length), p ≤ i → lessH x L[i] = true) ∧ (∀ i (h : i < L.length), i < p → lessH x L[i] = false)) ?_ ?_
  · refine Loop1.ind (fun m z S' => ∃ (p : Nat) (e : Hit), z = p ∧ p = m ∧ p ≤ j ∧ Built S S' 3 y' (hitsE (L.take p ++ e :: L.drop p)) ∧ S'.get S1.next = some (.cells (hcells x) true) ∧ (∀ i (h : i < L.length), p ≤ i → lessH x L[i] = true)) j
      ⟨j, x, rfl, rfl, Nat.le_refl _, by rw [← hL, List.take_length, List.drop_length]; exact hB10, m10, fun i h h' => by omega⟩ ?_
    rintro m _ S12 ⟨p, e, rfl, rfl, hp, hB12, m12, hall⟩
    have hstl : (L.take p ++ e :: L.drop p).length = j + 1 := by simp; omega
    refine Join0.mid (fun S' => S' = S12 ∧ ∃ p', p = p' + 1 ∧ ∃ h : p' < L.length, lessH x L[p'] = true) (ifC_dec (fun h0 => ?_) (fun h0 => ?_)) ?_
    · have hp0 : 0 < p := by omega
      obtain ⟨p', rfl⟩ : ∃ p', p = p' + 1 := ⟨p - 1, by omega⟩
      have hpl : p' < L.length := by omega
      have hg : (L.take (p' + 1) ++ e :: L.drop (p' + 1))[p']'(by rw [hstl]; omega) = L[p'] := by
        rw [List.getElem_append_left (by rw [List.length_take]; omega), List.getElem_take]
      have hld := hB12.hits.get (j := p') (by rw [hstl]; omega)
      rw [hg] at hld
      refine ⟨_, _, _, ldN m12 (by simp) rfl, setI_mk (n := (p' : Int)) (by rw [IntKind.wrap_i64]; omega) (ifS_mk (hB12.hits.idx (by rw [hstl]; omega)) ⟨_, _, _, hld, hB x L[p'] _ _ hxw (hLwok _ (List.getElem_mem hpl)) (ifC_tt_ff (fun h => ⟨rfl, p', rfl, hpl, h⟩) (fun h => ⟨p' + 1, e, rfl, hp, hB12, m12, hall, fun i hi hip => ?_⟩))⟩)⟩
      rcases Nat.lt_or_ge i p' with h' | h'
      · have h2 := List.pairwise_iff_getElem.mp hLsrt i p' hi hpl h'
        cases hc : lessH x L[i] with
        | false => rfl
        | true => have := lessH_swo.ntrans _ _ _ h h2; rw [this] at hc; cases hc
      · have : i = p' := by omega
        subst this; exact h
    · have : p = 0 := by omega
      subst this
      exact ⟨0, e, rfl, by omega, hB12, m12, hall, fun i _ h => by omega⟩
    rintro S13 ⟨rfl, p', rfl, hpl, hless⟩
    have hg : (L.take (p' + 1) ++ e :: L.drop (p' + 1))[p']'(by rw [hstl]; omega) = L[p'] := by
      rw [List.getElem_append_left (by rw [List.length_take]; omega), List.getElem_take]
    have hld := hB12.hits.get (j := p') (by rw [hstl]; omega)
    rw [hg] at hld
    refine setI_mk (n := (p' : Int)) (by rw [IntKind.wrap_i64]; omega) (ifS_mk (hB12.hits.idx (by rw [hstl]; omega)) ⟨_, _, _, hld, ifS_mk (hB12.hits.idx (j := p' + 1) (by rw [hstl]; omega)) (hB12.set (j := p' + 1) (by rw [hitsE_len, hstl]; omega) (by omega) (x := hitV L[p']) rfl rfl fun S15 hB15 u15 => setI_mk (n := (p' : Int)) (by rw [IntKind.wrap_i64]; omega) ⟨p', by omega, p', L[p'], rfl, rfl, by omega, ?_, u15.get m12 hyn', fun i hi hip => ?_⟩)⟩)
    · have e1 : (hitsE (L.take (p' + 1) ++ e :: L.drop (p' + 1))).set (p' + 1) (hitV L[p']).cells = hitsE (L.take p' ++ L[p'] :: L.drop p') := by
        show (hitsE _).set _ (hcells L[p']) = _
        rw [hitsE_set, hits_state (x := x) hpl]
      rw [e1] at hB15; exact hB15
    · rcases Nat.lt_or_ge i (p' + 1) with h' | h'
      · have : i = p' := by omega
        subst this; exact hless
      · exact hall i hi h'
  · rintro _ S11 ⟨p, e, rfl, hp, hB11, m11, h1, h2⟩
    have hstl : (L.take p ++ e :: L.drop p).length = j + 1 := by simp; omega
    refine ⟨_, _, _, ldN m11 (by simp) rfl, ifS_mk (hB11.hits.idx (by rw [hstl]; omega)) (hB11.set (j := p) (by rw [hitsE_len, hstl]; omega) (by omega) (x := hitV x) rfl rfl fun S16 hB16 u16 => setI_mk (wrap_succ (by omega)) ⟨m - 1, by omega, j + 1, rfl, by omega, ?_⟩)⟩
    have e1 : (hitsE (L.take p ++ e :: L.drop p)).set p (hitV x).cells = hitsE (insH x L) := by
      show (hitsE _).set _ (hcells x) = _
      rw [hitsE_set, hits_done (by omega), insH_split x L (by omega) (fun i hi hip => h2 i hi hip) (fun h => h1 p h (Nat.le_refl _))]
    rw [e1] at hB16
    rw [hnext, sortH_snoc, hLdef]
    exact hB16

theorem ref05_First.spec (hF : ref05_First.Ok P N) {S : St} {v : V} {l : List Hit} (hv : HitsAt S v l) {k : Nat} {K : V → St → Prop} (hk : ∀ v', HitsAt S v' (l.take k) → K v' S) : CallA P (N Fn.ref05_First) [v, .int .i64 k] S (retT [.one .any] K) := by
  refine ref05_First.run hF ⟨_, hv.len, ifC_dec (fun h1 => ?_) (fun h1 => hk _ (by rw [List.take_of_length_le (by omega)]; exact hv))⟩
  obtain ⟨va, ea, ha, hab⟩ := hv.sub (lo := none) (hi := some (.int .i64 (k : Int))) (a := 0) (b := k) (fun cap hc => bnds_h (by omega)) (Nat.zero_le _) (by omega)
  rw [List.drop_zero, Nat.sub_zero] at ha
  exact ifS_mk ea (hk _ ha)

theorem ref05_find.spec (hF : ref05_find.Ok P N) {S : St} {v : V} {rs : List Row} {ws : List V} (hv : RowsAt' S v rs ws) {id : Int} {K : Int → St → Prop} (h1 : ∀ j (h : j < rs.length), rs[j].1 = id → K j S) (h0 : id ∉ idsOf rs → K (-1) S) :
    CallA P (N Fn.ref05_find) [v, .int .i64 id] S (retT [.one (.int .i64)] K) := by
  have hle : rs.length ≤ 4611686018427387904 := by have := hv.sl.1.le; rwa [rowsC_length hv.len] at this
  refine ref05_find.run hF (Loop1.ind (fun m z S' => S' = S ∧ ∃ j : Nat, z = j ∧ j + m = rs.length ∧ ∀ i (h : i < rs.length), i < j → rs[i].1 ≠ id) rs.length ⟨rfl, 0, rfl, by omega, fun i _ h => by omega⟩ ?_)
  rintro m _ S' ⟨rfl, j, rfl, hj, hall⟩
  refine ⟨_, hv.length, ifC_dec (fun hlt => ?_) (fun hge => ?_)⟩
  · have hjl : j < rs.length := by omega
    refine ifS_mk (hv.idx hjl) (ifS_mk (hv.fld hjl 0) ⟨_, hv.id hjl, ifC_dec (fun h => h1 j hjl h) (fun h => setI_mk (wrap_succ (by omega)) ⟨m - 1, by omega, rfl, j + 1, rfl, by omega, fun i hi hij => ?_⟩)⟩)
    rcases Nat.lt_or_ge i j with h' | h'
    · exact hall i hi h'
    · have : i = j := by omega
      subst this; exact h
  · refine h0 fun hm => ?_
    obtain ⟨r, hr, he⟩ := List.mem_map.mp hm
    obtain ⟨i, hi, rfl⟩ := List.getElem_of_mem hr
    exact hall i hi (by omega) he

theorem AsksR.spec (hF : ref05_Asked.Ok P N) (hC : ChecksV P (N Fn.ref03_Check)) (hR : ChecksR P (N Fn.ref05_Check)) : AsksOk P (N Fn.ref05_Asked) := by
  intro v u rs q S K hv hu hk
  refine ref05_Asked.run hF ⟨_, hu.len, hC u q _ _ _ hu (ifC_ndec (fun h => ?_) (fun h => ⟨_, hu.len, hR v rs _ _ _ hv ?_⟩))⟩
  · rwa [errAsk, if_pos h] at hk
  · rwa [errAsk, if_neg (by omega)] at hk

theorem errAsk_512 {q : List Int} {rs : List Row} (h : errAsk q rs = 0) : rs.length ≤ 512 := by
  obtain ⟨_, h2⟩ := errAsk_zero h
  exact (checkR_zero h2).2.2.1

theorem ref05_TopK.spec (hF : ref05_TopK.Ok P N) (hA : AsksOk P (N Fn.ref05_Asked)) (hH : ref05_Hits.Ok P N) (hFi : ref05_First.Ok P N) (hfar : FarOk P (N Fn.ref03_Far)) (hB : ref05_Before.Spec P N) {S : St} (hw : S.Wf) {v u : V} {rs : List Row} {q : List Int} {k : Int} (hv : RowsAt S v rs) (hu : IntsAt S u q)
    {K : V → Int → St → Prop} (he : errTop q rs k ≠ 0 → K .nilSlice (errTop q rs k) S) (hk : errTop q rs k = 0 → ∀ v' S', Grow S S' → HitsAt S' v' (best k.toNat (hitsOf q rs)) → K v' 0 S') : CallA P (N Fn.ref05_TopK) [v, u, .int .i64 k] S (retT [.one .any, .one (.int .i64)] K) := by
  refine ref05_TopK.run hF (hA v u rs q S _ hv hu (ifC_ndec (fun h1 => ?_) (fun h1 => ?_)))
  · have := he (by rw [errTop, if_pos h1]; exact h1)
    rwa [errTop, if_pos h1] at this
  refine Join0.mid (fun S' => S' = S ∧ 1 ≤ k ∧ k ≤ 64) (ifC_dec (fun h2 => ?_) (fun h2 => ifC_dec (fun h3 => ?_) (fun h3 => ⟨rfl, by omega, by omega⟩))) ?_
  · have := he (by rw [errTop, if_neg (by omega), if_pos (.inl h2)]; omega)
    rwa [errTop, if_neg (by omega), if_pos (.inl h2)] at this
  · have := he (by rw [errTop, if_neg (by omega), if_pos (.inr h3)]; omega)
    rwa [errTop, if_neg (by omega), if_pos (.inr h3)] at this
  rintro S2 ⟨rfl, h2, h3⟩
  have hz : errTop q rs k = 0 := by rw [errTop, if_neg (by omega), if_neg (by omega)]
  obtain ⟨kn, rfl⟩ := Int.eq_ofNat_of_zero_le (show 0 ≤ k by omega)
  refine ref05_Hits.spec hH hfar hB hw hv hu (errAsk_dist h1) (errAsk_512 h1) fun v1 S3 b3 => ref05_First.spec hFi b3.hits fun v2 h => hk hz v2 S3 b3.grow h

end Go.Th.L
end
