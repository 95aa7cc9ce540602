/- What the row of one statement stands on: a store, abstract code, functions of the program and their laws (ThHlaw02d). -/
import Derived.Test.YtdpehfhhbmmhjaaThBHlaw02c
import Derived.Test.YtdpehfhhbmmhjaaThBR2

section
/- The laws of layer 2: a heap has the best of what it was offered. -/
set_option linter.unusedSimpArgs false
set_option linter.unusedVariables false
set_option linter.unusedSectionVars false
namespace Go.Th
open Go

/-- A slice whose room is known has no more of it. -/
def tightLe (b : Nat) (v : V) : Prop := ∀ i o l c k, v = .slice i o l c k true → c ≤ b
theorem appV_tight {S S' : St} {k bytes b : Nat} {x y v : V} (h : tightLe b x) (e : appV S k bytes x y = some (v, S')) : tightLe b v := by
  have hnil : tightLe b .nilSlice := fun _ _ _ _ _ h => by cases h
  have hnew : ∀ i o l c k, tightLe b (.slice i o l c k false) := fun _ _ _ _ _ _ _ _ _ _ h => by cases h
  have hsame : ∀ i o l l' c k k' t, x = .slice i o l c k t → tightLe b (.slice i o l' c k' t) := fun i o l l' c k k' t e0 i' o' l2 c' k2 h' => by
    cases h'; exact h _ _ _ _ _ e0
  simp only [appV, rApp, AX.ev] at e
  split at e
  · rename_i v1 S1 hv
    simp only [Option.some.injEq, Prod.mk.injEq] at e
    obtain ⟨rfl, rfl⟩ := e
    split at hv
    · cases hv
    · split at hv
      · split at hv
        · cases hv; exact hnil
        · split at hv
          · cases hv; exact hnew _ _ _ _ _
          · cases hv
      · split at hv
        · cases hv
        · split at hv
          · cases hv; exact hsame _ _ _ _ _ _ _ _ rfl
          · split at hv
            · split at hv
              · cases hv; exact hsame _ _ _ _ _ _ _ _ rfl
              · cases hv
            · split at hv
              · split at hv
                · split at hv
                  · split at hv
                    · cases hv; exact hnew _ _ _ _ _
                    · split at hv
                      · cases hv; exact hnew _ _ _ _ _
                      · cases hv
                  · cases hv
                · cases hv
              · cases hv
      · cases hv
  · cases e
theorem ifP_tight {S : St} {k bytes b : Nat} {x y : V} {K : V → St → Prop} (h : tightLe b x) (hk : ifP (appV S k bytes x y) fun v S' => tightLe b v → K v S') : ifP (appV S k bytes x y) K := by
  obtain ⟨p, e, h1⟩ := ifP_ok hk
  exact ifP_mk e (h1 (appV_tight h e))
end Go.Th

namespace Go.Th.L
open Go Go.Th Go.Th.Pure Go.Sort
variable {P : Program} {N : Nat → Nat}

theorem slices_Clone_Lapi_Hit.tight (hF : slices_Clone_Lapi_Hit.Ok P N) {S : St} (hw : S.Wf) {v : V} {l : List Hit} (hv : HitsAt S v l) (hl : l.length < 1000000) {K : V → St → Prop} (hk : ∀ v' S', Built S S' 3 v' (hitsE l) → tightLe 0 v' → K v' S') :
    CallA P (N Fn.slices_Clone_Lapi_Hit) [v] S (retT [.one .any] K) := by
  obtain ⟨b, hb, hb2⟩ := eqS_nil hv.at_
  refine slices_Clone_Lapi_Hit.run hF ⟨b, hb, ifC_tt_ff (fun h1 => ?_) (fun h1 => ?_)⟩
  · have := (hb2 h1).2
    have hl0 := List.length_eq_zero_iff.mp this
    subst hl0
    exact hk _ _ (Built.nil (Upd.refl hw _) 3) (fun _ _ _ _ _ h => by cases h)
  · refine newS_mk hw fun S1 g1 m1 n1 => ?_
    have hB : Built S S1 3 (.slice S.next 0 0 0 3 true) [] := ⟨g1, ⟨⟨by simp, by simp, .inr ⟨_, 0, 0, true, rfl, Nat.le_refl _, by rw [St.loads_of m1 (by simp)]; simp⟩⟩, rfl, by simp only [V.block, List.mem_singleton]; rintro i rfl; exact ⟨Nat.le_refl _, _, m1⟩, ⟨_, m1, by simp⟩⟩, by simp⟩
    refine ifP_tight (b := 0) (fun _ _ _ _ _ h => by cases h; exact Nat.le_refl _) (hB.app (ds := hitsE l) (by rw [hitsE_len]; exact (hv.grow g1).at_.src) (fun e he => hitsE_three e he) (hitsE_one l) (by simp only [List.length_nil, hitsE_len]; omega) (by simp only [List.length_nil, hitsE_len]; omega) fun v' S' b' _ _ ht => hk v' S' ?_ ht)
    simpa using b'

theorem law02_spoil.dead (hF : law02_spoil.Ok P N) (hh : law02_hit.Ok P N) {S0 S : St} {v : V} {l : List Hit} (hB : Built S0 S 3 v (hitsE l)) (ht : tightLe 0 v) {K : St → Prop} (hk : ∀ S', Upd v.block S S' → K S') :
    CallA P (N Fn.law02_spoil) [v] S (retT [] K) := by
  have hw := hB.grow.wf
  rcases hB.acc.at_.2.2 with ⟨rfl, h0⟩ | ⟨i, o, c, t, rfl, hc, hld⟩
  · refine law02_spoil.run hF ⟨0, rfl, ifS_mk (a := V.nilSlice) rfl (Loop1.ind (fun m x S' => x = 0 ∧ S' = S) 0 ⟨rfl, rfl⟩ ?_)⟩
    rintro m _ _ ⟨rfl, rfl⟩
    exact ⟨0, lenV_nil _, ifC_neg (by decide) (hk _ (Upd.refl hw _))⟩
  · obtain ⟨_, vs, hg⟩ := hB.acc.own i (by simp [V.block])
    refine CallA.dead hg (by decide) fun c' sz hn hr h1 h2 => ?_
    have hc' : c' ≤ 9223372036854775807 := by
      cases t with
      | true => have := h1 rfl; have := ht i o _ c 3 rfl; omega
      | false => exact h2 rfl (by decide)
    have u0 : Upd [i] S (S.put i (some (.dead sz))) := (Upd.refl hw [i]).put (hw.lt hg) (.inr (by simp)) _
    refine law02_spoil.run hF ⟨_, rfl, ifS_mk (slice_ext (Nat.le_refl _)) (Loop1.ind (fun m x S' => ∃ j : Nat, x = j ∧ m = c' - j ∧ j ≤ c' ∧ S'.get i = some (.dead sz) ∧ Upd [i] S S') c' ⟨0, rfl, rfl, Nat.zero_le _, by simp, u0⟩ ?_)⟩
    rintro m _ S1 ⟨j, rfl, rfl, hj, hgd, u1⟩
    refine ⟨_, lenV_slice .., ifC_dec (fun h1 => ?_) (fun h1 => hk _ u1)⟩
    have h1 : j < c' := by omega
    have hsz := hr (by omega)
    have hix : idxAddrV 3 (.slice i o c' c' 3 true) (.int .i64 (j : Int)) = some (.ptr i (o + j * 3)) := by
      simp only [idxAddrV]
      rw [if_pos ⟨by trivial, by omega, by omega⟩]; simp
    refine law02_hit.keep hh (ifS_mk hix (st_dead hgd (by simp [V.cells]) (by omega) rfl (setI_mk (n := ((j + 1 : Nat) : Int)) (by rw [IntKind.wrap_i64]; omega) ⟨c' - (j + 1), by omega, j + 1, rfl, rfl, h1, by simp, u1.put (Nat.lt_of_lt_of_le (hw.lt hg) u1.le) (.inr (by simp)) _⟩)))
end Go.Th.L

namespace Go.Th.L
open Go Go.Th Go.Th.Pure Go.Sort
variable {P : Program} {N : Nat → Nat}

theorem topk_Heap_List.tight (hF : topk_Heap_List.Ok P N) (hC : slices_Clone_Lapi_Hit.Ok P N) (hS : SortOk P N) {S : St} {D : List Nat} {hb k : Nat} {w : List Hit} (hH : HeapAt S D hb k w) (hn : w.length < 1000000) {K : V → St → Prop}
    (hk : ∀ v S', Built S S' 3 v (hitsE w) → tightLe 0 v → K v S') : CallA P (N Fn.topk_Heap_List) [.ptr hb 0] S (retT [.one .any] K) := by
  obtain ⟨v, d, h1, h2, h3, h4⟩ := hH.ex
  have hsz := h4.size
  have hv : HitsAt S v d.toList := HitsAt.mk (by simpa using h2.at_)
  refine topk_Heap_List.run hF ⟨false, rfl, ifC_ff rfl ⟨rfl, ifS_mk rfl (ifS_mk (ld h1 rfl) (slices_Clone_Lapi_Hit.tight hC hH.wf hv (by simpa using (by omega : d.size < 1000000)) fun v' S1 b1 t1 => hits_sort hS b1 (by simpa using (by omega : d.size < 1000000)) fun S2 b2 => hk v' S2 ?_ t1))⟩⟩
  rwa [sortH_congr h4.perm, sortH_of h4.srt] at b2

theorem last_get {w : List Hit} {x : Hit} (h : w.getLast? = some x) : ∃ h' : w.length - 1 < w.length, w[w.length - 1] = x := by
  rw [List.getLast?_eq_getElem?] at h
  obtain ⟨h1, h2⟩ := List.getElem?_eq_some_iff.mp h
  exact ⟨h1, h2⟩

theorem law02_TopkOffers.spec (hF : law02_TopkOffers.Ok P N) (hO : Law02Ok P N) (hWo : topk_Heap_Worst.Ok P N) (hLe : topk_Heap_Len.Ok P N) (hFu : topk_Heap_Full.Ok P N) {S : St} (hw : S.Wf) {k : Int} {lv : V} {l : List Hit} (hv : HitsAt S lv l) (hn : l.length < 4611686018427387904)
    {K : Bool → St → Prop} (hk : ∀ S', K true S') : CallA P (N Fn.law02_TopkOffers) [.int .i64 k, lv] S (retT [.one .bool] K) := by
  refine law02_TopkOffers.run hF ⟨_, hv.len, ifC_dec (fun h1 => hO.awake _ _ (hk _)) (fun h1 => ?_)⟩
  have hl : l.length ≤ 3000 := by omega
  refine hO.mergeOk.new _ _ _ hw (fun h2 => ?_) (fun n hkn hn1 hn2 S2 g2 hH2 => ?_)
  · refine Join1.mid (fun b S' => b = true ∧ S' = S) (ifC_dec (fun h3 => ⟨rfl, rfl⟩) (fun h3 => ⟨decide_eq_true (by omega), rfl⟩)) ?_
    rintro _ _ ⟨rfl, rfl⟩
    exact ifC_tt rfl (hO.awake _ _ (ifC_tt rfl ⟨true, rfl, ifC_tt rfl (by simpa using hk _)⟩))
  subst hkn
  refine Join1.mid (fun b S' => b = false ∧ S' = S2) (ifC_dec (fun h3 => by omega) (fun h3 => ⟨decide_eq_false (by omega), rfl⟩)) ?_
  rintro _ S3 ⟨rfl, rfl⟩
  refine ifC_ff rfl (Join0.mid (fun S' => S' = S3) ⟨false, rfl, ifC_ff rfl (ifC_npos rfl rfl)⟩ ?_)
  rintro S4 rfl
  refine Loop2.ind (fun m u x S' => ∃ (j : Nat) (D : List Nat), x = j ∧ m = l.length - j ∧ j ≤ l.length ∧ Grow S S' ∧ HeapAt S' D S.next n (best n (l.take j)) ∧ (∀ i ∈ D, S.next ≤ i) ∧ HitsAt S' u (best n (l.take j)) ∧ ∀ i ∈ u.block, S.next ≤ i ∧ i < S'.next ∧ i ∉ D) l.length
    ⟨0, [S.next], rfl, rfl, Nat.zero_le _, g2, by simpa [best, sortH] using hH2, by simp, HitsAt.mk ⟨by simp [best, sortH], by simp [best, sortH], .inl ⟨rfl, by simp [best, sortH]⟩⟩, by simp [V.block]⟩ ?_
  rintro m u _ S6 ⟨j, D, rfl, rfl, hj, g6, hH6, hD, hu6, hub⟩
  have hv6 := hv.grow g6
  have hbl : (best n (l.take j)).length = min n j := by rw [best_length, List.length_take]; omega
  refine ⟨_, hv6.len, ifC_dec (fun h3 => ?_) (fun h3 => ?_)⟩
  · have h3 : j < l.length := by omega
    have hbl1 : (best n (l.take (j + 1))).length = min n (j + 1) := by rw [best_length, List.length_take]; omega
    refine Join1.mid (fun b S' => b = keptH n (best n (l.take j)) l[j] ∧ S' = S6) ⟨_, hu6.len, ifC_dec (fun h4 => ⟨?_, rfl⟩) (fun h4 => ?_)⟩ ?_
    · have h4 : (best n (l.take j)).length < n := by omega
      rw [keptH, decide_eq_true h4, Bool.true_or]
    · have h4 : n - 1 < (best n (l.take j)).length := by omega
      refine ifS_mk (hv6.idx h3) ⟨_, _, _, hv6.get h3, setI_mk (n := ((n - 1 : Nat) : Int)) (by rw [IntKind.wrap_i64]; omega) (ifS_mk (hu6.idx h4) ⟨_, _, _, hu6.get h4, hO.rless _ _ _ _ (sameK_mk (Same.refl _ _) ⟨?_, rfl⟩)⟩)⟩
      rw [keptH, decide_eq_false (by omega), Bool.false_or, List.getElem?_eq_getElem h4, Option.getD_some]
    rintro _ S7 ⟨rfl, rfl⟩
    refine ifS_mk (hv6.idx h3) ⟨_, _, _, hv6.get h3, hO.mergeOk.offer S7 D S.next n _ l[j] _ hH6 hn1 hn2 (by omega) fun S9 D9 hH9 u9 t9 => ifC_ff (by simp) ?_⟩
    have hkeep := @keptH_not n (best n (l.take j)) l[j] hn1 (by omega) (best_srt _ _)
    generalize keptH n (best n (l.take j)) l[j] = kept at hkeep
    have etake := best_take (k := n) h3
    have hH9' := hH9
    rw [etake] at hH9
    have g9 : Grow S S9 := g6.after u9 fun i hi => .inl (hD i hi)
    have hv9 := hv.grow g9
    have hu9 := hu6.upd u9 fun i hi hi' => (hub i hi).2.2 hi'
    have hD9 : ∀ i ∈ D9, S.next ≤ i := fun i hi => by
      rcases t9 i hi with h' | h'
      · exact hD i h'
      · have := g6.le; omega
    refine Join1.mid (fun y S' => Grow S9 S' ∧ HitsAt S' y (best n (l.take (j + 1))) ∧ ∀ i ∈ y.block, S.next ≤ i ∧ i < S'.next ∧ i ∉ D9) (ifC_tt_ff (fun h4 => ?_) (fun h4 => ?_)) ?_
    · refine ifS_mk (hv9.idx h3) ⟨_, _, _, hv9.get h3, ref02_With.spec hO.with_ hO.rless (x := l[j]) hH9.wf hu9 (by omega) fun v11 S11 b11 => ref02_First.spec hO.first hO.sorted hO.with_ hO.rless b11.grow.wf b11.hits (by rw [insH_length]; omega) fun v12 S12 hv12 hb12 g12 => ?_⟩
      have e12 : best n (insH l[j] (best n (l.take j))) = best n (l.take (j + 1)) := by
        rw [← etake, best, sortH_of (insH_srt _ _ (best_srt _ _))]
      rw [e12] at hv12
      refine ⟨b11.grow.trans g12, hv12, fun i hi => ?_⟩
      have h5 := hb12 i hi
      have h6 := b11.grow.le
      have h7 := g9.le
      have h8 := hv12.at_.block_lt g12.wf (by rw [hbl1]; omega) i hi
      exact ⟨by omega, h8, fun hi' => by have := hH9.lt i hi'; omega⟩
    · have e := hkeep h4
      rw [etake] at e
      refine ⟨Upd.refl hH9.wf _, by rw [e]; exact hu9, fun i hi => ?_⟩
      have h5 := hub i hi
      have h6 := u9.le
      refine ⟨h5.1, by omega, fun hi' => ?_⟩
      rcases t9 i hi' with h' | h'
      · exact h5.2.2 h'
      · omega
    rintro y S10 ⟨g10, hy10, hyb⟩
    have hH10 := hH9.upd g10 (by simp)
    generalize hwd : best n (l.take (j + 1)) = wd at *
    have hwl : 0 < wd.length ∧ wd.length ≤ 64 ∧ wd.length ≤ n := by omega
    refine topk_Heap_Worst.at_ hWo hLe hH10 (fun h4 => by rw [h4] at hwl; simp at hwl) fun x hx S13 g13 => newS_mk g13.wf fun S14 g14 m14 n14 => st_mk g14.wf m14 rfl (by simp [V.cells]) rfl fun S15 u15 m15 n15 => ?_
    have g15 : Grow S10 S15 := g13.trans (g14.after u15 (by simp))
    refine topk_Heap_List.tight hO.mergeOk.list hO.mergeOk.clone hO.mergeOk.sort (hH10.upd g15 (by simp)) (by omega) fun v16 S16 b16 t16 => ifC_ff rfl ?_
    have g16 : Grow S10 S16 := g15.trans b16.grow
    have hy16 := hy10.grow g16
    have hH16 := hH10.upd g16 (by simp)
    obtain ⟨hlast, hlx⟩ := last_get hx
    have m16 : S16.get S13.next = some (.cells (over [V.int .i64 0, V.int .u64 0, V.int .u64 0] 0 (hitV x).cells) true) := b16.grow.get m15
    refine ⟨x.id, x.hi, x.lo, ldN m16 (by simp [over, V.cells]) rfl, _, hy16.len, setI_mk (i64_sub1 (by omega) (by omega)) (ifS_mk (hy16.idx hlast) ⟨_, _, _, hy16.get hlast, _, eqH_mk x _, ifC_ff (by simp [hlx]) ⟨_, hy16.len, ?_⟩⟩)⟩
    refine topk_Heap_Len.at_ hLe hH16 (sameK_mk (Same.refl _ _) (ifC_npos rfl ⟨_, hy16.len, topk_Heap_Full.at_ hFu hH16 (sameK_mk (Same.refl _ _) (ifC_ff ?_ ?_))⟩))
    · have : decide (wd.length = n) = decide ((wd.length : Int) = (n : Int)) := decide_eq_decide.mpr (by omega)
      rw [this]; simp
    refine ref02_Same.spec hO.same b16.grow.wf b16.hits hy16 (by omega) (sameK_mk (Same.refl _ _) (ifC_ff (by simp) ?_))
    refine law02_spoil.dead hO.spoil hO.hit b16 t16 fun S20 u20 => setI_mk (i64_add1 (by omega)) ⟨l.length - (j + 1), by omega, j + 1, D9, rfl, rfl, h3, ?_, ?_, hD9, ?_, fun i hi => ?_⟩
    · have h5 := g9.le; have h6 := g10.le; have h7 := g15.le
      exact (g9.trans (g10.trans g16)).after u20 fun i hi => .inl (by have := b16.from i hi; omega)
    · rw [hwd]
      have h6 := g10.le; have h7 := g15.le
      exact hH16.upd u20 fun i hi hi' => by have := b16.from i hi'; have := hH9.lt i hi; omega
    · rw [hwd]
      have h7 := g15.le
      exact hy16.upd u20 fun i hi hi' => by have := b16.from i hi'; have := (hyb i hi).2.1; omega
    · have h5 := hyb i hi
      have h6 := g16.le; have h7 := u20.le
      exact ⟨h5.1, by omega, h5.2.2⟩
  · have : j = l.length := by omega
    subst this
    rw [List.take_length] at hH6 hu6 hbl
    have fin : ∀ (a b c : Int) (e : Bool) (S21 : St), e = decide ((0 : Int) < (l.length : Int)) → Grow S6 S21 → newS S21 (.cells [(V.int .i64 0), (V.int .u64 0), (V.int .u64 0)] true) fun S22 =>
        ifS (storeV S22 3 (V.ptr S21.next 0) (V.agg [(V.int .i64 a), (V.int .u64 b), (V.int .u64 c)])) fun S23 =>
        CallA P (N Fn.law02_awake) [] S23 (retT [(.one .bool)] fun (x132 : Bool) (S24 : St) =>
        ifC x132
        (∃ x136 : Int, lenV S24 2 lv = some (V.int .i64 x136) ∧
        ifC (e == (decide ((0 : Int) < x136)))
        (CallA P (N Fn.topk_Heap_Len) [.ptr S.next 0] S24 (retT [(.one (.int .i64))] fun (x142 : Int) (S25 : St) =>
        ∃ x144 : Int, lenV S25 2 u = some (V.int .i64 x144) ∧
        K (decide (x142 = x144)) S25))
        (K false S24))
        (K false S24)) := fun a b c e S21 he g21 => newS_mk g21.wf fun S22 g22 m22 n22 => st_mk g22.wf m22 rfl (by simp [V.cells]) rfl fun S23 u23 m23 n23 => by
      have g23 : Grow S6 S23 := g21.trans (g22.after u23 (by simp))
      refine hO.awake _ _ (ifC_tt rfl ⟨_, (hv6.grow g23).len, ifC_tt (by rw [he]; simp) (topk_Heap_Len.at_ hLe (hH6.upd g23 (by simp)) ⟨_, (hu6.grow g23).len, ?_⟩)⟩)
      rw [decide_eq_true rfl]; exact hk _
    refine topk_Heap_Worst.at_ hWo hLe hH6 (fun h4 S21 g21 => fin _ _ _ _ _ ?_ g21) fun x hx S21 g21 => fin _ _ _ _ _ ?_ g21
    · have : l.length = 0 := by rw [h4] at hbl; simp only [List.length_nil] at hbl; omega
      rw [this]; rfl
    · have : 0 < l.length := by
        obtain ⟨h5, _⟩ := last_get hx
        omega
      rw [decide_eq_true (by omega)]
end Go.Th.L
end
