/- What the row of one statement stands on: a store, abstract code, functions of the program and their laws (ThHtopk3). -/
import Derived.Test.YtdpehfhhbmmhjaaThBTopkOrder43

section
/- topk: List, together, Merge; the document's sorted lists. -/
set_option linter.unusedSimpArgs false
set_option linter.unusedVariables false
set_option linter.unusedSectionVars false
namespace Go.Th.L
open Go Go.Th Go.Th.Pure Go.Sort
variable {P : Program} {N : Nat → Nat}

theorem eqS_nil {S : St} {k : Nat} {v : V} {n : Nat} {cs : List V} (h : SlAt S k v n cs) : ∃ b, eqV 2 [] v .nilSlice = some b ∧ (b = true → v = .nilSlice ∧ n = 0) := by
  rcases h.2.2 with ⟨rfl, h0⟩ | ⟨i, o, c, t, rfl, _⟩
  · exact ⟨true, rfl, fun _ => ⟨rfl, h0⟩⟩
  · exact ⟨false, rfl, fun h => by cases h⟩

theorem slices_Clone_Lapi_Hit.spec (hF : slices_Clone_Lapi_Hit.Ok P N) {S : St} (hw : S.Wf) {v : V} {l : List Hit} (hv : HitsAt S v l) (hl : l.length < 1000000) {K : V → St → Prop} (hk : ∀ v' S', Built S S' 3 v' (hitsE l) → K v' S') :
    CallA P (N Fn.slices_Clone_Lapi_Hit) [v] S (retT [.one .any] K) := by
  obtain ⟨b, hb, hb2⟩ := eqS_nil hv.at_
  refine slices_Clone_Lapi_Hit.run hF ⟨b, hb, ifC_tt_ff (fun h1 => ?_) (fun h1 => ?_)⟩
  · have := (hb2 h1).2
    have hl0 := List.length_eq_zero_iff.mp this
    subst hl0
    exact hk _ _ (Built.nil (Upd.refl hw _) 3)
  · refine newS_mk hw fun S1 g1 m1 n1 => ?_
    have hB : Built S S1 3 (.slice S.next 0 0 0 3 true) [] := ⟨g1, ⟨⟨by simp, by simp, .inr ⟨_, 0, 0, true, rfl, Nat.le_refl _, by rw [St.loads_of m1 (by simp)]; simp⟩⟩, rfl, by simp only [V.block, List.mem_singleton]; rintro i rfl; exact ⟨Nat.le_refl _, _, m1⟩, ⟨_, m1, by simp⟩⟩, by simp⟩
    refine hB.app (ds := hitsE l) (by rw [hitsE_len]; exact (hv.grow g1).at_.src) (fun e he => hitsE_three e he) (hitsE_one l) (by simp only [List.length_nil, hitsE_len]; omega) (by simp only [List.length_nil, hitsE_len]; omega) fun v' S' b' _ _ => hk v' S' ?_
    simpa using b'

/-- slices.SortFunc over what a call has built. -/
structure SortOk (P : Program) (N : Nat → Nat) : Prop where
  sort : slices_SortFunc_Lapi_Hit.Spec P N
  sortF : slices_SortFunc_Lapi_Hit.Ok P N
  pdqF : slices_pdqsortCmpFunc_api_Hit.Ok P N
  insF : slices_insertionSortCmpFunc_api_Hit.Ok P N
  bits : math_bits_Len.Spec P N
  cmp : CmpIs P (.func (.func (N Fn.topk_compare)) [] []) lessH

theorem hits_sort (h : SortOk P N) {S0 S : St} {v : V} {l : List Hit} (hB : Built S0 S 3 v (hitsE l)) (hl : l.length < 1000000) {K : St → Prop} (hk : ∀ S', Built S0 S' 3 v (hitsE (sortH l)) → K S') :
    CallA P (N Fn.slices_SortFunc_Lapi_Hit) [v, .func (.func (N Fn.topk_compare)) [] []] S (retT [] K) := by
  have hlen : (hitsE l).length = l.length := hitsE_len l
  have hat := hB.acc.at_.2.2
  rw [hlen] at hat
  rcases hat with ⟨rfl, h0⟩ | ⟨i, o, c, t, rfl, hc, hld⟩
  · have hl0 : l = [] := List.length_eq_zero_iff.mp h0
    subst hl0
    refine slices_SortFunc_Lapi_Hit.run h.sortF ⟨_, lenV_nil _, setI_mk (by decide) (h.bits 0 S _ (by omega) ?_)⟩
    refine slices_pdqsortCmpFunc_api_Hit.run h.pdqF (Loop5.ind (fun n a b c d e S' => a = 0 ∧ b = 0 ∧ S' = S) 0 ⟨rfl, rfl, rfl⟩ ?_)
    rintro n a b c d e S' ⟨rfl, rfl, rfl⟩
    refine setI_mk (n := 0) (by decide) (ifC_pos (by decide) (slices_insertionSortCmpFunc_api_Hit.run h.insF (setI_mk (n := 1) (by decide) (Loop1.ind (fun n x S'' => x = 1 ∧ S'' = S') 0 ⟨rfl, rfl⟩ ?_))))
    rintro n x S'' ⟨rfl, rfl⟩
    exact ifC_neg (by decide) (hk _ hB)
  · obtain ⟨_, pre, post, rfl, hA, hback⟩ := Acc.arr (E := hitE) (d := l.toArray) hB.grow.wf (by simpa using hB.acc) (by simp)
    refine h.sort lessH _ S S i _ c t pre post l.toArray _ lessH_swo h.cmp hA (by simp) (by unfold big; omega) fun S' d' hA' hp hs => hk S' ?_
    have hz : d'.size = l.length := by rw [hp.1]; simp
    have hsrt : d'.toList = sortH l := by
      have h1 : d'.toList.Perm l := by
        have := permIn_all (d := l.toArray) (e := d') (by simpa using hp)
        simpa using this
      refine srt_unique (h1.trans (sortH_perm l).symm) (sortedIn_srt (by rw [hz]; exact hs)) (sortH_srt l)
    have hacc := hback S' d' hA' hz
    refine ⟨hB.grow.after hA'.upd (fun j hj => .inl ?_), ?_, fun e he => hitsE_three e he⟩
    · simp only [List.mem_singleton] at hj; subst hj
      exact hB.from j (by simp [V.block])
    · rw [hsrt] at hacc
      have hl2 : (hitsE (sortH l)).length = l.length := by simp [sortH_length]
      rw [hl2]
      exact ⟨hacc.at_, hacc.ones, fun j hj => ⟨hB.from j hj, (hacc.own j hj).2⟩, hacc.room⟩

theorem topk_Heap_List.at_ (hF : topk_Heap_List.Ok P N) (hC : slices_Clone_Lapi_Hit.Ok P N) (hS : SortOk P N) {S : St} {D : List Nat} {hb k : Nat} {w : List Hit} (hH : HeapAt S D hb k w) (hn : w.length < 1000000) {K : V → St → Prop}
    (hk : ∀ v S', Built S S' 3 v (hitsE w) → K v S') : CallA P (N Fn.topk_Heap_List) [.ptr hb 0] S (retT [.one .any] K) := by
  obtain ⟨v, d, h1, h2, h3, h4⟩ := hH.ex
  have hsz := h4.size
  have hv : HitsAt S v d.toList := HitsAt.mk (by simpa using h2.at_)
  refine topk_Heap_List.run hF ⟨false, rfl, ifC_ff rfl ⟨rfl, ifS_mk rfl (ifS_mk (ld h1 rfl) (slices_Clone_Lapi_Hit.spec hC hH.wf hv (by simpa using (by omega : d.size < 1000000)) fun v' S1 b1 => hits_sort hS b1 (by simpa using (by omega : d.size < 1000000)) fun S2 b2 => hk v' S2 ?_))⟩⟩
  rwa [sortH_congr h4.perm, sortH_of h4.srt] at b2

/-! ## lists of lists -/
structure ListsAt (S : St) (lv : V) (vs : List V) (ls : List (List Hit)) : Prop where
  len : vs.length = ls.length
  sl : SlAt S 1 lv vs.length vs
  at_ : ∀ j (h : j < vs.length) (h' : j < ls.length), HitsAt S vs[j] ls[j]

theorem ListsAt.length {S : St} {lv : V} {vs : List V} {ls : List (List Hit)} (h : ListsAt S lv vs ls) : lenV S 2 lv = some (.int .i64 ls.length) := by rw [h.sl.len, h.len]
theorem ListsAt.idx {S : St} {lv : V} {vs : List V} {ls : List (List Hit)} (h : ListsAt S lv vs ls) {j : Nat} (hj : j < ls.length) : idxAddrV 1 lv (.int .i64 (j : Int)) = some (eltV 1 lv j 0) := h.sl.idx (by rw [h.len]; exact hj)
theorem ListsAt.ltv {S : St} {lv : V} {vs : List V} {ls : List (List Hit)} (h : ListsAt S lv vs ls) {j : Nat} (hj : j < ls.length) : j < vs.length := by rw [h.len]; exact hj
theorem ListsAt.get {S : St} {lv : V} {vs : List V} {ls : List (List Hit)} (h : ListsAt S lv vs ls) {j : Nat} (hj : j < ls.length) : loadV S (eltV 1 lv j 0) = some (vs[j]'(h.ltv hj)) := by
  rw [SlAt.load h.sl (m := j) (off := 0) (by rw [h.len]; exact hj) (by omega), Nat.mul_one, Nat.add_zero, List.getElem?_eq_getElem (h.ltv hj)]
theorem ListsAt.hits {S : St} {lv : V} {vs : List V} {ls : List (List Hit)} (h : ListsAt S lv vs ls) {j : Nat} (hj : j < ls.length) : HitsAt S (vs[j]'(h.ltv hj)) ls[j] := h.at_ j _ hj
theorem ListsAt.upd {D : List Nat} {S S' : St} {lv : V} {vs : List V} {ls : List (List Hit)} (h : ListsAt S lv vs ls) (u : Upd D S S') (h1 : ∀ i ∈ lv.block, i ∉ D) (h2 : ∀ v ∈ vs, ∀ i ∈ v.block, i ∉ D) : ListsAt S' lv vs ls :=
  ⟨h.len, h.sl.upd u h1, fun j h' h'' => (h.at_ j h' h'').upd u (h2 _ (List.getElem_mem _))⟩
theorem ListsAt.grow {S S' : St} {lv : V} {vs : List V} {ls : List (List Hit)} (h : ListsAt S lv vs ls) (u : Grow S S') : ListsAt S' lv vs ls := h.upd u (by simp) (by simp)

theorem hitsE_append (a b : List Hit) : hitsE (a ++ b) = hitsE a ++ hitsE b := by simp

/-- A list with all of another behind it. -/
theorem hits_app {S0 S : St} {v y : V} {l m : List Hit} (h : Built S0 S 3 v (hitsE l)) (hy : HitsAt S y m) (hl : l.length + m.length < 1000000) {K : V → St → Prop}
    (hk : ∀ v' S', Built S0 S' 3 v' (hitsE (l ++ m)) → Upd v.block S S' → (∀ i ∈ v'.block, i ∈ v.block ∨ S.next ≤ i) → K v' S') : ifP (appV S 3 24 v y) K := by
  refine h.app (ds := hitsE m) (by rw [hitsE_len]; exact hy.at_.src) (fun e he => hitsE_three e he) (hitsE_one m) (by simp only [hitsE_len]; omega) (by simp only [hitsE_len]; omega) fun v' S' b => hk v' S' ?_
  rw [hitsE_append]; exact b
theorem hits_push {S0 S : St} {v : V} {l : List Hit} (x : Hit) (h : Built S0 S 3 v (hitsE l)) (hl : l.length + 1 < 1000000) {K : V → St → Prop}
    (hk : ∀ v' S', Built S0 S' 3 v' (hitsE (l ++ [x])) → Upd v.block S S' → (∀ i ∈ v'.block, i ∈ v.block ∨ S.next ≤ i) → K v' S') : newS S (.cells (hcells x) true) fun S1 => ifP (appV S1 3 24 v (.slice S.next 0 1 1 3 true)) K := by
  refine h.push (e := hcells x) rfl rfl (by simp only [hitsE_len]; omega) (by simp only [hitsE_len]; omega) fun v' S' b => hk v' S' ?_
  rw [hitsE_append]; exact b
theorem Built.block_ne {S0 S : St} {k : Nat} {v y : V} {es : List (List V)} (h : Built S0 S k v es) (hy : ∀ i ∈ y.block, i < S0.next) : ∀ i ∈ y.block, i ∉ v.block := fun i hi hv => by
  have := h.from i hv; have := hy i hi; omega

theorem SlAt.block_in {S : St} (hw : S.Wf) {k : Nat} {v : V} {n : Nat} {cs : List V} (h : SlAt S k v n cs) : n * k = 0 ∨ ∀ i ∈ v.block, i < S.next := by
  rcases Nat.eq_zero_or_pos (n * k) with h0 | h0
  · exact .inl h0
  · exact .inr (h.block_lt hw h0)

theorem flat_snoc {ls : List (List Hit)} {j : Nat} (hj : j < ls.length) : (ls.take j).flatten ++ ls[j] = (ls.take (j + 1)).flatten := by
  rw [List.take_add_one, List.getElem?_eq_getElem hj, List.flatten_append]; simp
theorem flat_le {ls : List (List Hit)} {j : Nat} : ((ls.take j).flatten).length ≤ ls.flatten.length := by
  conv => rhs; rw [← List.take_append_drop j ls, List.flatten_append, List.length_append]
  omega

/-- What stays, though the store grows and what was built since then is written. -/
theorem topk_together_api_Hit.spec (hF : topk_together_api_Hit.Ok P N) {S : St} (hw : S.Wf) {lv : V} {vs : List V} {ls : List (List Hit)} (h : ListsAt S lv vs ls) (hl : ls.length < 1000000) (hn : ls.flatten.length < 1000000) {K : V → St → Prop}
    (hk : ∀ v S', Built S S' 3 v (hitsE ls.flatten) → K v S') : CallA P (N Fn.topk_together_api_Hit) [lv] S (retT [.one .any] K) := by
  refine topk_together_api_Hit.run hF ⟨_, h.length, Loop2.ind (fun m v x S' => ∃ j : Nat, x = j ∧ m = ls.length - j ∧ j ≤ ls.length ∧ Built S S' 3 v (hitsE (ls.take j).flatten)) ls.length ⟨0, rfl, rfl, Nat.zero_le _, by simpa using Built.nil (Upd.refl hw _) 3⟩ ?_⟩
  rintro m v _ S1 ⟨j, rfl, rfl, hj, hB⟩
  refine ifC_dec (fun h1 => ?_) (fun h1 => ?_)
  · have h1 : j < ls.length := by omega
    have h' := h.grow hB.grow
    refine ifS_mk (h'.idx h1) (ifS_mk (h'.get h1) (hits_app hB (h'.hits h1) ?_ fun v' S2 b2 _ _ => setI_mk (i64_add1 (by omega)) ⟨ls.length - (j + 1), by omega, j + 1, rfl, rfl, h1, ?_⟩))
    · have := flat_le (ls := ls) (j := j + 1)
      rw [← flat_snoc h1, List.length_append] at this; omega
    · rwa [flat_snoc h1] at b2
  · have : j = ls.length := by omega
    subst this
    rw [List.take_length] at hB
    exact hk _ _ hB

theorem best_take {k : Nat} {l : List Hit} {j : Nat} (hj : j < l.length) : (insH l[j] (best k (l.take j))).take k = best k (l.take (j + 1)) := by
  rw [List.take_add_one, List.getElem?_eq_getElem hj, Option.toList_some, best_snoc]

/-- What Merge stands on. -/
structure MergeOk (P : Program) (N : Nat → Nat) : Prop where
  new : topk_New.Spec P N
  offer : topk_Heap_Offer.Spec P N
  list : topk_Heap_List.Ok P N
  clone : slices_Clone_Lapi_Hit.Ok P N
  sort : SortOk P N
  together : topk_together_api_Hit.Ok P N

theorem topk_Merge.spec (hF : topk_Merge.Ok P N) (hM : MergeOk P N) {S : St} (hw : S.Wf) {k : Int} {lv : V} {vs : List V} {ls : List (List Hit)} (h : ListsAt S lv vs ls) (hl : ls.length < 1000000) (hn : ls.flatten.length < 1000000) {K : V → Int → St → Prop}
    (h0 : (k < 1 ∨ 64 < k) → K .nilSlice 1 S) (hk : ∀ n : Nat, k = n → 1 ≤ n → n ≤ 64 → ∀ v S', Built S S' 3 v (hitsE (best n ls.flatten)) → K v 0 S') : CallA P (N Fn.topk_Merge) [.int .i64 k, lv] S (retT [.one .any, .one (.int .i64)] K) := by
  refine topk_Merge.run hF (hM.new _ _ _ hw (fun h1 => ifC_nneg (by decide) (h0 h1)) fun n hkn hn1 hn2 S1 g1 hH1 => ifC_npos rfl (topk_together_api_Hit.spec hM.together g1.wf (h.grow g1) hl hn fun v S2 hB2 => ⟨_, hB2.hits.len, ?_⟩))
  have hvl := hB2.lt
  refine Loop1.ind (fun m x S' => ∃ (j : Nat) (D : List Nat), x = j ∧ m = ls.flatten.length - j ∧ j ≤ ls.flatten.length ∧ HeapAt S' D S.next n (best n (ls.flatten.take j)) ∧ (∀ i ∈ D, S.next ≤ i ∧ i ∉ v.block) ∧ HitsAt S' v ls.flatten ∧ Grow S S' ∧ S2.next ≤ S'.next) ls.flatten.length
    ⟨0, [S.next], rfl, rfl, Nat.zero_le _, by simpa [best, sortH] using hH1.upd hB2.grow (by simp), ?_, hB2.hits, g1.trans hB2.grow, Nat.le_refl _⟩ ?_
  · intro i hi
    simp only [List.mem_singleton] at hi; subst hi
    refine ⟨Nat.le_refl _, fun hv => ?_⟩
    have := hB2.from _ hv; have := hH1.lt S.next (by simp); omega
  rintro m _ S3 ⟨j, D, rfl, rfl, hj, hH, hD, hv, g3, hle⟩
  refine ifC_dec (fun h1 => ?_) (fun h1 => ?_)
  · have h1 : j < ls.flatten.length := by omega
    refine ifS_mk (hv.idx h1) ⟨_, _, _, hv.get h1, newS_mk g3.wf fun S4 g4 m4 n4 => st_mk g4.wf m4 rfl (by simp [V.cells]) rfl fun S5 u5 m5 n5 => ⟨_, _, _, ldN m5 (by simp [over, V.cells]) rfl, ?_⟩⟩
    have g5 : Grow S3 S5 := g4.after u5 (by simp)
    refine hM.offer S5 D S.next n _ ls.flatten[j] _ (hH.upd g5 (by simp)) hn1 hn2 (by rw [best_length]; omega) fun S6 D6 hH6 u6 t6 => setI_mk (i64_add1 (by omega)) ⟨ls.flatten.length - (j + 1), by omega, j + 1, D6, rfl, rfl, h1, ?_, ?_, ?_, ?_, ?_⟩
    · rwa [best_take h1] at hH6
    · intro i hi
      rcases t6 i hi with h' | h'
      · exact hD i h'
      · have := g5.le; have := g3.le
        refine ⟨by omega, fun hv' => ?_⟩
        have := hvl i hv'; omega
    · exact (hv.grow g5).upd u6 fun i hi hD' => (hD i hD').2 hi
    · exact (g3.trans g5).after u6 fun i hi => .inl (hD i hi).1
    · have := g5.le; have := u6.le; omega
  · have : j = ls.flatten.length := by omega
    subst this
    rw [List.take_length] at hH
    refine topk_Heap_List.at_ hM.list hM.clone hM.sort hH (by rw [best_length]; omega) fun v' S4 b4 => hk n hkn hn1 hn2 v' S4 ⟨g3.trans b4.grow, b4.acc.below g3.le, b4.each⟩

/-! ## the document -/
theorem insH_split (x : Hit) (l : List Hit) {p : Nat} (hp : p ≤ l.length) (h1 : ∀ j (h : j < l.length), j < p → lessH x l[j] = false) (h2 : ∀ h : p < l.length, lessH x l[p] = true) : l.take p ++ [x] ++ l.drop p = insH x l := by
  induction l generalizing p with
  | nil => simp [insH]
  | cons y l ih =>
    cases p with
    | zero =>
      have := h2 (by simp)
      simp only [List.getElem_cons_zero] at this
      simp [insH, this]
    | succ p =>
      have h3 := h1 0 (by simp) (by omega)
      simp only [List.getElem_cons_zero] at h3
      have := ih (p := p) (by simpa using hp) (fun j h hj => by have := h1 (j + 1) (by simpa using h) (by omega); rwa [List.getElem_cons_succ] at this) (fun h => by have := h2 (by simpa using h); rwa [List.getElem_cons_succ] at this)
      simp only [List.take_succ_cons, List.drop_succ_cons, List.cons_append]
      rw [this]; simp [insH, h3]

theorem ref02_With.spec (hF : ref02_With.Ok P N) (hl : ref02_Less.Spec P N) {S : St} (hw : S.Wf) {v : V} {l : List Hit} {x : Hit} (hv : HitsAt S v l) (hn : l.length < 100000) {K : V → St → Prop} (hk : ∀ v' S', Built S S' 3 v' (hitsE (insH x l)) → K v' S') :
    CallA P (N Fn.ref02_With) [v, hitV x] S (retT [.one .any] K) := by
  refine ref02_With.run hF (newS_mk hw fun S1 g1 m1 n1 => ?_)
  have hv1 := hv.grow g1
  refine Join1.mid (fun y S' => S' = S1 ∧ ∃ p : Nat, y = p ∧ p ≤ l.length ∧ (∀ j (h : j < l.length), j < p → lessH x l[j] = false) ∧ (∀ h : p < l.length, lessH x l[p] = true)) ?_ ?_
  · refine Loop1.ind (fun m y S' => S' = S1 ∧ ∃ p : Nat, y = p ∧ m = l.length - p ∧ p ≤ l.length ∧ ∀ j (h : j < l.length), j < p → lessH x l[j] = false) l.length ⟨rfl, 0, rfl, rfl, Nat.zero_le _, fun j _ h => by omega⟩ ?_
    rintro m _ S' ⟨rfl, p, rfl, rfl, hp, h1⟩
    refine ⟨_, hv1.len, ifC_dec (fun h2 => ?_) (fun h2 => ⟨rfl, p, rfl, hp, h1, fun h => by omega⟩)⟩
    have h2 : p < l.length := by omega
    refine ⟨_, _, _, ldN m1 (by simp) rfl, ifS_mk (hv1.idx h2) ⟨_, _, _, hv1.get h2, hl x l[p] _ _ ?_⟩⟩
    refine (fun (hs : ∀ k : Prop, k → sameK (V.block v ++ []) S' S' k) => hs _ (ifC_tt_ff (fun h3 => ?_) (fun h3 => ?_))) (fun k hk => by unfold sameK; split; exact hk; exact ⟨Same.refl _ _, hk⟩)
    · refine setI_mk (i64_add1 (by omega)) ⟨l.length - (p + 1), by omega, rfl, p + 1, rfl, rfl, h2, fun j h hj => ?_⟩
      rcases Nat.lt_or_ge j p with h' | h'
      · exact h1 j h h'
      · have : j = p := by omega
        subst this; simpa using h3
    · exact ⟨rfl, p, rfl, hp, h1, fun _ => by simpa using h3⟩
  · rintro _ S2 ⟨rfl, p, rfl, hp, h1, h2⟩
    obtain ⟨va, ea, ha, hab⟩ := hv1.sub (lo := none) (hi := some (.int .i64 (p : Int))) (a := 0) (b := p) (fun cap hc => bnds_h (by omega)) (Nat.zero_le _) hp
    obtain ⟨vb, eb, hb, hbb⟩ := hv1.sub (lo := some (.int .i64 (p : Int))) (hi := none) (a := p) (b := l.length) (fun cap hc => bnds_l hp) hp (Nat.le_refl _)
    rw [List.drop_zero, Nat.sub_zero] at ha
    rw [← List.length_drop, List.take_length] at hb
    refine ifS_mk ea (hits_app (S0 := S2) (l := []) (by simpa using Built.nil (Upd.refl g1.wf []) 3) ha (by simp; omega) fun v3 S3 b3 u3 t3 => ⟨_, _, _, ldN (b3.grow.get m1) (by simp) rfl, hits_push x b3 (by simp; omega) fun v4 S4 b4 u4 t4 => ifS_mk eb (hits_app b4 (hb.grow b4.grow) (by simp; omega) fun v5 S5 b5 u5 t5 => hk v5 S5 ?_)⟩)
    rw [List.nil_append, insH_split x l hp h1 h2] at b5
    exact ⟨g1.trans b5.grow, b5.acc.below g1.le, b5.each⟩

theorem ref02_Sorted.spec (hF : ref02_Sorted.Ok P N) (hW : ref02_With.Ok P N) (hl : ref02_Less.Spec P N) {S : St} (hw : S.Wf) {v : V} {l : List Hit} (hv : HitsAt S v l) (hn : l.length < 100000) {K : V → St → Prop} (hk : ∀ v' S', Built S S' 3 v' (hitsE (sortH l)) → K v' S') :
    CallA P (N Fn.ref02_Sorted) [v] S (retT [.one .any] K) := by
  refine ref02_Sorted.run hF (Loop2.ind (fun m y x S' => ∃ j : Nat, x = j ∧ m = l.length - j ∧ j ≤ l.length ∧ Built S S' 3 y (hitsE (sortH (l.take j)))) l.length ⟨0, rfl, rfl, Nat.zero_le _, by simpa [sortH] using Built.nil (Upd.refl hw _) 3⟩ ?_)
  rintro m y _ S1 ⟨j, rfl, rfl, hj, hB⟩
  have hv1 := hv.grow hB.grow
  refine ⟨_, hv1.len, ifC_dec (fun h1 => ?_) (fun h1 => ?_)⟩
  · have h1 : j < l.length := by omega
    refine ifS_mk (hv1.idx h1) ⟨_, _, _, hv1.get h1, ref02_With.spec hW hl (x := l[j]) hB.grow.wf hB.hits (by rw [sortH_length, List.length_take]; omega) fun v2 S2 b2 => setI_mk (i64_add1 (by omega)) ⟨l.length - (j + 1), by omega, j + 1, rfl, rfl, h1, ?_⟩⟩
    rw [← sortH_snoc] at b2
    rw [List.take_add_one, List.getElem?_eq_getElem h1, Option.toList_some]
    exact ⟨hB.grow.trans b2.grow, b2.acc.below hB.grow.le, b2.each⟩
  · have : j = l.length := by omega
    subst this
    rw [List.take_length] at hB
    exact hk _ _ hB

theorem ref02_First.spec (hF : ref02_First.Ok P N) (hS : ref02_Sorted.Ok P N) (hW : ref02_With.Ok P N) (hl : ref02_Less.Spec P N) {S : St} (hw : S.Wf) {v : V} {l : List Hit} (hv : HitsAt S v l) (hn : l.length < 100000) {k : Nat} {K : V → St → Prop}
    (hk : ∀ v' S', HitsAt S' v' (best k l) → (∀ i ∈ v'.block, S.next ≤ i) → Grow S S' → K v' S') : CallA P (N Fn.ref02_First) [v, .int .i64 k] S (retT [.one .any] K) := by
  refine ref02_First.run hF (ref02_Sorted.spec hS hW hl hw hv hn fun v1 S1 b1 => ⟨_, b1.hits.len, ifC_dec (fun h1 => ?_) (fun h1 => ?_)⟩)
  · obtain ⟨va, ea, ha, hab⟩ := b1.hits.sub (lo := none) (hi := some (.int .i64 (k : Int))) (a := 0) (b := k) (fun cap hc => bnds_h (by omega)) (Nat.zero_le _) (by omega)
    rw [List.drop_zero, Nat.sub_zero] at ha
    exact ifS_mk ea (hk _ _ ha (fun i hi => b1.from i (hab i hi)) b1.grow)
  · refine hk _ _ ?_ b1.from b1.grow
    rw [best, List.take_of_length_le (by omega)]; exact b1.hits

theorem ref02_Same.spec (hF : ref02_Same.Ok P N) {S : St} (hw : S.Wf) {v u : V} {l m : List Hit} (hv : HitsAt S v l) (hu : HitsAt S u m) (hn : l.length < 100000) {K : Bool → St → Prop} (hk : K (decide (l = m)) S) : CallA P (N Fn.ref02_Same) [v, u] S (retT [.one .bool] K) := by
  refine ref02_Same.run hF ⟨_, hv.len, _, hu.len, ifC_ndec (fun h1 => ?_) (fun h1 => ?_)⟩
  · rwa [decide_eq_false (fun e => h1 (by rw [e]))] at hk
  · have h1 : l.length = m.length := by omega
    refine Loop1.ind (fun q x S' => S' = S ∧ ∃ j : Nat, x = j ∧ q = l.length - j ∧ j ≤ l.length ∧ l.take j = m.take j) l.length ⟨rfl, 0, rfl, rfl, Nat.zero_le _, by simp⟩ ?_
    rintro q _ S' ⟨rfl, j, rfl, rfl, hj, he⟩
    refine ⟨_, hv.len, ifC_dec (fun h2 => ?_) (fun h2 => ?_)⟩
    · have h2 : j < l.length := by omega
      have h3 : j < m.length := by omega
      refine ifS_mk (hv.idx h2) ⟨_, _, _, hv.get h2, ifS_mk (hu.idx h3) ⟨_, _, _, hu.get h3, _, eqH_mk _ _, ifC_ndec (fun h4 => ?_) (fun h4 => ?_)⟩⟩
      · rwa [decide_eq_false (ne_of_get h2 h3 h4)] at hk
      · exact setI_mk (i64_add1 (by omega)) ⟨l.length - (j + 1), by omega, rfl, j + 1, rfl, rfl, h2, take_succ_eq he h2 h3 h4⟩
    · have : j = l.length := by omega
      subst this
      rw [List.take_length, h1, List.take_length] at he
      rwa [decide_eq_true he] at hk

theorem law02_hit.spec (hF : law02_hit.Ok P N) {S : St} (hw : S.Wf) {a b : Int} {K : Int → Int → Int → St → Prop} (hk : ∀ S', Grow S S' → K a 0 b S') : CallA P (N Fn.law02_hit) [.int .i64 a, .int .u64 b] S (retT [.agg [.int .i64, .int .u64, .int .u64]] K) := by
  exact law02_hit.run hF (newS_mk hw fun S1 g1 m1 n1 => st_mk g1.wf m1 rfl (by simp [V.cells]) rfl fun S2 u2 m2 n2 => ⟨_, _, _, ldC m2 (by simp [over, V.cells]) rfl, hk _ (g1.after u2 (by simp))⟩)

end Go.Th.L
end
