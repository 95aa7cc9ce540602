/- What the row of one statement stands on: a store, abstract code, functions of the program and their laws (ThHcert1). -/
import Derived.Test.YtdjocmcbibedhaaGreatThBR6
import Derived.Test.YtdjocmcbibedhaaGreatThBHtopk3
import Derived.Test.YtdjocmcbibedhaaGreatThBHlaw03b
import Derived.Test.YtdjocmcbibedhaaGreatThBGslicesInt

section
/- flat: the first k of all rows, by a range over a function. -/
set_option linter.unusedSimpArgs false
set_option linter.unusedVariables false
namespace Go.Th.Pure
open Go

def hitOf (q : List Int) (r : Row) : Hit := ⟨r.1, distL r.2 q / 18446744073709551616, distL r.2 q % 18446744073709551616⟩
abbrev hitsOf (q : List Int) (rs : List Row) : List Hit := rs.map (hitOf q)
def errAsk (q : List Int) (rs : List Row) : Int := if checkV q q.length ≠ 0 then checkV q q.length else checkR rs q.length
def errTop (q : List Int) (rs : List Row) (k : Int) : Int := if errAsk q rs ≠ 0 then errAsk q rs else if k < 1 ∨ 64 < k then 1 else 0

end Go.Th.Pure
namespace Go.Th.L
open Go Go.Th Go.Th.Pure Go.Sort
variable {P : Program} {N : Nat → Nat}

theorem hit_eq {h l : Int} (hw : Wok h l) {q : List Int} {r : Row} (hn : wN h l = distL r.2 q) : (⟨r.1, h, l⟩ : Hit) = hitOf q r := by
  obtain ⟨h1, h2, h3, h4⟩ := hw
  unfold wN at hn
  unfold hitOf
  rw [← hn]
  simp only [Hit.mk.injEq, true_and]
  omega

theorem errAsk_zero {q : List Int} {rs : List Row} (h : errAsk q rs = 0) : checkV q q.length = 0 ∧ checkR rs q.length = 0 := by
  unfold errAsk at h
  split at h
  · omega
  · exact ⟨by omega, h⟩
theorem errAsk_dist {q : List Int} {rs : List Row} (h : errAsk q rs = 0) : ∀ r ∈ rs, distE r.2 q = 0 := by
  intro r hr
  obtain ⟨h1, h2⟩ := errAsk_zero h
  obtain ⟨_, _, _, h3⟩ := checkR_zero h2
  obtain ⟨_, h4⟩ := h3 r hr
  obtain ⟨_, _, h5, _⟩ := checkV_ok h4
  have h5 : r.2.length = q.length := by omega
  unfold distE
  rw [h5, h4, if_neg (by simp), h1]

def AsksOk (P : Program) (f : Nat) : Prop := ∀ (v u : V) (rs : List Row) (q : List Int) (S : St) (K : Int → St → Prop), RowsAt S v rs → IntsAt S u q → K (errAsk q rs) S → CallA P f [v, u] S (retT [.one (.int .i64)] K)
theorem flat_asked.spec (hF : flat_asked.Ok P N) (hC : ChecksV P (N Fn.vec_Check)) (hR : ChecksR P (N Fn.flat_Check)) : AsksOk P (N Fn.flat_asked) := by
  intro v u rs q S K hv hu hk
  refine flat_asked.run hF ⟨_, hu.len, hC u q _ _ _ hu (ifC_ndec (fun h => ?_) (fun h => ⟨_, hu.len, hR v rs _ _ _ hv ?_⟩))⟩
  · rwa [errAsk, if_pos h] at hk
  · rwa [errAsk, if_neg (by omega)] at hk

theorem flat_hits_1.spec (hF : flat_hits_1.Ok P N) (hD : DistOk P (N Fn.vec_Dist)) {J : List Hit → St → Prop} {l : Nat} {x1 x2 v u : V} {rs : List Row} {ws : List V} {q : List Int}
    (hj : ∀ pre S, J pre S → S.Wf ∧ loadV S x1 = some v ∧ loadV S x2 = some u ∧ RowsAt' S v rs ws ∧ IntsAt S u q)
    (hg : ∀ pre S S', J pre S → Grow S S' → J pre S')
    (hy : ∀ pre x S (K : Bool → St → Prop), J pre S → pre.length < rs.length → (∀ S', J (pre ++ [x]) S' → K true S') → CallA P (P.funcs.size + l) [hitV x] S (retT [.one .bool] K))
    (hd : ∀ r ∈ rs, distE r.2 q = 0) {S : St} (h0 : J [] S) {K : St → Prop} (hk : ∀ S', J (hitsOf q rs) S' → K S') : CallA P (N Fn.flat_hits_1) [.func (.yield l) [] [], x1, x2] S (retT [] K) := by
  obtain ⟨hw, h1, h2, hv, hu⟩ := hj _ _ h0
  have hle : rs.length ≤ 4611686018427387904 := by have := hv.sl.1.le; rwa [rowsC_length hv.len] at this
  refine flat_hits_1.run hF (ifS_mk h1 ⟨_, hv.length, ?_⟩)
  refine Loop1.ind (fun m x S' => ∃ j : Nat, x = j ∧ m = rs.length - j ∧ j ≤ rs.length ∧ J (hitsOf q (rs.take j)) S') rs.length ⟨0, rfl, rfl, Nat.zero_le _, h0⟩ ?_
  rintro m _ S1 ⟨j, rfl, rfl, hjl, hJ⟩
  obtain ⟨hw1, h11, h12, hv1, hu1⟩ := hj _ _ hJ
  refine ifC_dec (fun hlt => ?_) (fun hge => ?_)
  · have hlt : j < rs.length := by omega
    refine ifS_mk (hv1.idx hlt) ⟨_, _, hv1.both hlt, newS_mk hw1 fun S2 g2 m2 n2 => st_mk g2.wf m2 rfl (by simp [V.cells]) (by simp only [V.cells, List.all_cons, List.all_nil, (hv1.at_ hlt).one1]; rfl) fun S3 u3 m3 n3 => ?_⟩
    simp only [V.cells, over] at m3
    have g3 : Grow S1 S3 := g2.after u3 (fun i hi => by simp only [List.mem_singleton] at hi; exact .inl (by omega))
    obtain ⟨_, _, h32, _, hu3⟩ := hj _ _ (hg _ _ _ hJ g3)
    have hz := hd _ (List.getElem_mem hlt)
    refine ifS_mk (ld m3 rfl) (ifS_mk h32 (hD _ _ _ q _ _ ((hv1.at_ hlt).grow g3) hu3 (fun h => absurd hz h) fun _ h l hwk hn => ?_))
    refine newS_mk g3.wf fun S5 g5 m5 n5 => st_mk g5.wf m5 rfl (by simp [V.cells]) rfl fun S6 u6 m6 n6 => ?_
    simp only [V.cells, over] at m6
    have g6 : Grow S3 S6 := g5.after u6 (fun i hi => by simp only [List.mem_singleton] at hi; exact .inl (by omega))
    have hlt3 : S1.next < S3.next := by have := u3.le; omega
    refine ⟨_, ld (g6.get m3) rfl, _, _, ldN m6 (by simp) rfl, ifS_mk rfl ?_⟩
    have e := hit_eq (r := rs[j]) hwk hn
    refine hy (hitsOf q (rs.take j)) ⟨rs[j].1, h, l⟩ S6 _ (hg _ _ _ hJ (g3.trans g6)) (by simp; omega) fun S7 hJ7 => ifC_ff rfl (setI_mk (wrap_nat (by omega)) ⟨rs.length - (j + 1), by omega, j + 1, rfl, rfl, hlt, ?_⟩)
    rw [e] at hJ7
    have : hitsOf q (rs.take (j + 1)) = hitsOf q (rs.take j) ++ [hitOf q rs[j]] := by
      unfold hitsOf; rw [List.take_add_one, List.getElem?_eq_getElem hlt, List.map_append]; rfl
    rw [this]; exact hJ7
  · have : j = rs.length := by omega
    subst this
    rw [List.take_length] at hJ
    exact hk _ hJ

def topk_ask (N : Nat → Nat) : AC := .seq (.region [⟨(.some 12), .none, (.move (.tmp 0))⟩, ⟨(.some 13), .none, (.move (.tmp 1))⟩, ⟨(.some 14), .none, (.callF (N Fn.flat_asked) [(.tmp 12), (.tmp 13)])⟩, ⟨(.some 8), .none, (.move (.tmp 14))⟩]) (.seq (.region [⟨(.some 15), .none, (.move (.tmp 8))⟩, ⟨(.some 16), .none, (.bin .neq (.tmp 15) (.con (.int .i64 0)))⟩]) (.cond (.tmp 16) (.seq (.region [⟨(.some 17), .none, (.move (.tmp 8))⟩, ⟨(.some 6), .none, (.move (.con .nilSlice))⟩, ⟨(.some 7), .none, (.move (.tmp 17))⟩]) .ret) .skip))
def topk_arg : AC := .seq (.region [⟨(.some 18), .none, (.move (.tmp 2))⟩, ⟨(.some 19), .none, (.bin .lss (.tmp 18) (.con (.int .i64 1)))⟩, ⟨(.some 20), .none, (.move (.tmp 19))⟩, ⟨(.some 21), (.some (20, false)), (.move (.tmp 2))⟩, ⟨(.some 22), (.some (20, false)), (.bin .gtr (.tmp 21) (.con (.int .i64 64)))⟩, ⟨(.some 23), .none, (.pick (.tmp 20) (.con (.bool true)) (.tmp 22))⟩]) (.cond (.tmp 23) (.seq (.region [⟨(.some 6), .none, (.move (.con .nilSlice))⟩, ⟨(.some 7), .none, (.move (.con (.int .i64 1)))⟩]) .ret) .skip)
def topk_new (N : Nat → Nat) : AC := .region [⟨(.some 25), .none, (.move (.tmp 2))⟩, ⟨(.some 26), .none, (.callF (N Fn.topk_New) [(.tmp 25)])⟩, ⟨(.some 24), .none, (.move (.tmp 26))⟩, ⟨(.some 27), .none, (.extract 0 (.tmp 24))⟩, ⟨(.some 28), .none, (.extract 1 (.tmp 24))⟩, ⟨(.some 9), .none, (.alloc [.nilPtr])⟩, ⟨.none, .none, (.store 1 (.tmp 9) (.tmp 27))⟩, ⟨(.some 10), .none, (.move (.tmp 28))⟩]
def topk_err : AC := .seq (.region [⟨(.some 29), .none, (.move (.tmp 10))⟩, ⟨(.some 30), .none, (.bin .neq (.tmp 29) (.con (.int .i64 0)))⟩]) (.cond (.tmp 30) (.seq (.region [⟨(.some 31), .none, (.move (.tmp 10))⟩, ⟨(.some 6), .none, (.move (.con .nilSlice))⟩, ⟨(.some 7), .none, (.move (.tmp 31))⟩]) .ret) .skip)
def topk_hits (N : Nat → Nat) : AC := .region [⟨(.some 32), .none, (.move (.tmp 0))⟩, ⟨(.some 33), .none, (.move (.tmp 1))⟩, ⟨(.some 34), .none, (.callF (N Fn.flat_hits) [(.tmp 32), (.tmp 33)])⟩]
def topk_set : AC := .region [⟨(.some 11), .none, (.alloc [(.int .i64 0), (.int .u64 0), (.int .u64 0)])⟩, ⟨.none, .none, (.store 3 (.tmp 11) (.tmp 35))⟩]
def topk_body (N : Nat → Nat) : AC := .block 1 (.region [⟨(.some 36), .none, (.load1 (.tmp 9))⟩, ⟨(.some 37), .none, (.loadN 3 (.tmp 11))⟩, ⟨(.some 38), .none, (.callF (N Fn.topk_Heap_Offer) [(.tmp 36), (.tmp 37)])⟩])
def topk_end (N : Nat → Nat) : AC := .seq (.region [⟨(.some 39), .none, (.load1 (.tmp 9))⟩, ⟨(.some 40), .none, (.callF (N Fn.topk_Heap_List) [(.tmp 39)])⟩, ⟨(.some 6), .none, (.move (.tmp 40))⟩, ⟨(.some 7), .none, (.move (.con (.int .i64 0)))⟩]) .ret
def flat_TopK.R (N : Nat → Nat) : RC := .seq (.ac (.region [⟨(.some 6), .none, (.move (.con .nilSlice))⟩, ⟨(.some 7), .none, (.move (.con (.int .i64 0)))⟩])) (.seq (.ac (topk_ask N)) (.seq (.ac topk_arg) (.seq (.ac (topk_new N)) (.seq (.ac topk_err) (.seq (.seq (.ac (topk_hits N)) (.block 0 (.range (.tmp 34) [35] topk_set (topk_body N)))) (.ac (topk_end N)))))))
def flat_TopK.Ok (P : Program) (N : Nat → Nat) : Prop := rfun P (N Fn.flat_TopK) = some (41, [.tmp 6, .tmp 7], flat_TopK.R N)

structure TopOk (P : Program) (N : Nat → Nat) : Prop where
  top : flat_TopK.Ok P N
  hits : flat_hits.Ok P N
  hits1 : flat_hits_1.Ok P N
  can : canEnter P (N Fn.flat_hits_1) = true
  asked : AsksOk P (N Fn.flat_asked)
  new : topk_New.Spec P N
  dist : DistOk P (N Fn.vec_Dist)
  offer : topk_Heap_Offer.Spec P N
  list : topk_Heap_List.Ok P N
  clone : slices_Clone_Lapi_Hit.Ok P N
  sort : SortOk P N

theorem ifSome_ifS {α : Type} (o : Option α) (k : α → Prop) (t : Tag k) : ifSome o k t = ifS o k := by cases o <;> rfl
theorem new_facts {S : St} (hw : S.Wf) (b : Blk) : ∃ S', Grow S S' ∧ S'.get S.next = some b ∧ S'.next = S.next + 1 ∧ S.new b = S' := ⟨_, (Upd.refl hw _).new b, by simp, rfl, rfl⟩

theorem flat_TopK.spec (hO : TopOk P N) {v u : V} {rs : List Row} {q : List Int} {k : Int} {S : St} (hw : S.Wf) (hv : RowsAt S v rs) (hu : IntsAt S u q) {K : V → Int → St → Prop}
    (he : errTop q rs k ≠ 0 → ∀ S', Grow S S' → K .nilSlice (errTop q rs k) S')
    (hk : errTop q rs k = 0 → ∀ v' S', Built S S' 3 v' (hitsE (best k.toNat (hitsOf q rs))) → K v' 0 S') :
    CallA P (N Fn.flat_TopK) [v, u, .int .i64 k] S (retT [.one .any, .one (.int .i64)] K) := by
  refine CallA.of_R (envP_ok P) hO.top ?_
  simp only [flat_TopK.R, wpR]
  simp only [go_sem, topk_ask]
  refine CallA.mono (hO.asked v u rs q S (fun x S' => x = errAsk q rs ∧ S' = S) hv hu ⟨rfl, rfl⟩) ?_
  rintro r S1 ⟨x, rfl, rfl, rfl⟩
  simp only [go_sem, Ty.toV, group, List.take, List.drop]
  by_cases h1 : errAsk q rs = 0
  rotate_left
  · simp only [decide_eq_false h1, Bool.not_false, go_sem, endW_ret, leaveD_nil]
    have := he (by rw [errTop, if_pos h1]; exact h1) S1 (Upd.refl hw _)
    rw [errTop, if_pos h1] at this
    exact ⟨_, _, rfl, this⟩
  simp only [h1, decide_true, Bool.not_true, go_sem, topk_arg]
  by_cases h2 : k < 1 ∨ 64 < k
  · have := he (by rw [errTop, if_neg (by omega), if_pos h2]; omega) S1 (Upd.refl hw _)
    rw [errTop, if_neg (by omega), if_pos h2] at this
    by_cases h3 : k < 1
    · simp only [decide_eq_true h3, go_sem, endW_ret, leaveD_nil, pickV]
      exact ⟨_, _, rfl, this⟩
    · have h4 : 64 < k := by omega
      simp only [decide_eq_false h3, decide_eq_true h4, go_sem, endW_ret, leaveD_nil, pickV]
      exact ⟨_, _, rfl, this⟩
  have h3 : ¬ k < 1 := by omega
  have h4 : ¬ 64 < k := by omega
  have hz : errTop q rs k = 0 := by rw [errTop, if_neg (by omega), if_neg h2]
  have hk := hk hz
  clear he hz h2
  simp only [decide_eq_false h3, decide_eq_false h4, go_sem, pickV, topk_new]
  refine CallA.mono (hO.new k S1 (fun y x S' => ∃ n : Nat, k = n ∧ 1 ≤ n ∧ n ≤ 64 ∧ y = .ptr S1.next 0 ∧ x = 0 ∧ Grow S1 S' ∧ HeapAt S' [S1.next] S1.next n []) hw (fun h => by omega) (fun n h5 h6 h7 S' h8 h9 => ⟨n, h5, h6, h7, rfl, rfl, h8, h9⟩)) ?_
  rintro r S2 ⟨y, x, rfl, n, rfl, hn1, hn2, rfl, rfl, g2, hH2⟩
  clear h3 h4
  simp only [Int.toNat_natCast] at hk
  have hb0 : S1.next < S2.next := hH2.lt _ hH2.mem
  simp only [go_sem, Ty.toV, group, List.take, List.drop]
  rw [ifSome_ifS]
  obtain ⟨S3a, g3a, m3a, n3a, e3a⟩ := new_facts g2.wf (Blk.cells [V.nilPtr] true)
  rw [e3a]
  refine st_mk g3a.wf m3a rfl (by simp [V.cells]) rfl fun S3 u3 m3 n3 => ?_
  simp only [V.cells, over] at m3
  have g3 : Grow S2 S3 := g3a.after u3 (fun i hi => by simp only [List.mem_singleton] at hi; exact .inl (by omega))
  simp only [go_sem, topk_err, decide_true, Bool.not_true, topk_hits]
  have hu3 := hu.grow (g2.trans g3)
  have hv3 := hv.grow (g2.trans g3)
  obtain ⟨ws, hv3'⟩ := hv3
  refine CallA.mono (flat_hits.run (K := fun y S' => y = .func (.func (N Fn.flat_hits_1)) [] [(V.ptr S3.next 0), (V.ptr (S3.next + 1) 0)] ∧ Grow S3 S' ∧ S'.get S3.next = some (.cells [v] true) ∧ S'.get (S3.next + 1) = some (.cells [u] true) ∧ S'.next = S3.next + 2) hO.hits (newS_mk g3.wf fun S4 g4 m4 n4 => newS_mk g4.wf fun S5 g5 m5 n5 => ⟨by rw [n4], g4.trans g5, ?_, ?_, by omega⟩)) ?_
  · rw [hv3'.sl.1.cells1] at m4; exact g5.get m4
  · rw [hu3.cells1, n4] at m5; exact m5
  rintro r S5 ⟨y, rfl, rfl, g5, m5v, m5u, n5⟩
  simp only [go_sem, Ty.toV, group, List.take, List.drop]
  generalize hfr0 : [v, u, V.int IntKind.i64 (n : Int), V.undef, V.undef, V.undef, V.nilSlice, V.int IntKind.i64 0,
                V.int IntKind.i64 (errAsk q rs), V.ptr S2.next 0, V.int IntKind.i64 0, V.undef, v, u,
                V.int IntKind.i64 (errAsk q rs), V.int IntKind.i64 (errAsk q rs), V.bool !decide (errAsk q rs = 0),
                V.undef, V.int IntKind.i64 (n : Int), V.bool false, V.bool false, V.int IntKind.i64 (n : Int), V.bool false,
                V.bool false, V.tuple [V.ptr S1.next 0, V.int IntKind.i64 0], V.int IntKind.i64 (n : Int),
                V.tuple [V.ptr S1.next 0, V.int IntKind.i64 0], V.ptr S1.next 0, V.int IntKind.i64 0,
                V.int IntKind.i64 0, V.bool false, V.undef, v, u,
                V.func (Fn.func (N Fn.flat_hits_1)) [] [V.ptr S3.next 0, V.ptr (S3.next + 1) 0], V.undef, V.undef,
                V.undef, V.undef, V.undef, V.undef] = fr0
  refine ⟨N Fn.flat_hits_1, _, rfl, hO.can, fun l D rec e1 e2 e3 e4 e5 => ?_⟩
  obtain ⟨S6a, g6a, m6a, n6a, e6a⟩ := new_facts g5.wf (Blk.odd D (Obj.deferred (some [])) [])
  obtain ⟨S6, g6b, m6, n6b, e6⟩ := new_facts g6a.wf (Blk.odd l (Obj.loop rec) fr0)
  rw [e6a, e6]
  rw [n6a] at m6
  have g36 : Grow S3 S6 := g5.trans (g6a.trans g6b)
  have n6 : S6.next = S5.next + 2 := by omega
  have mD : S6.get S5.next = some (Blk.odd D (Obj.deferred (some [])) []) := g6b.get m6a
  have g26 : Grow S2 S6 := g3.trans g36
  have m3' := g36.get m3
  have mv := Grow.get (g6a.trans g6b) m5v
  have mu := Grow.get (g6a.trans g6b) m5u
  have n3' : S3.next = S2.next + 1 := by omega
  let J : List Hit → St → Prop := fun pre S' => Grow S1 S' ∧ S6.next ≤ S'.next ∧ (∀ i, S2.next ≤ i → i < S6.next → S'.get i = S6.get i) ∧ ∃ D', HeapAt S' D' S1.next n (best n pre) ∧ ∀ i ∈ D', i = S1.next ∨ S6.next ≤ i
  have hJ0 : J [] S6 := ⟨g2.trans g26, Nat.le_refl _, fun _ _ _ => rfl, [S1.next], by simpa [best, sortH] using hH2.upd g26 (by simp), fun i hi => .inl (by simpa using hi)⟩
  have hv1 : RowsAt S1 v rs := hv
  obtain ⟨ws1, hv1'⟩ := hv1
  refine CallA.mono (flat_hits_1.spec (J := J) (l := l) (x1 := V.ptr S3.next 0) (x2 := V.ptr (S3.next + 1) 0) (v := v) (u := u) (ws := ws1) (q := q) (rs := rs) (K := fun S' => J (hitsOf q rs) S') hO.hits1 hO.dist ?_ ?_ ?_ (errAsk_dist h1) hJ0 (fun S' h => h)) ?_
  · rintro pre S' ⟨gJ, hle, hkp, D', hH, hD'⟩
    exact ⟨gJ.wf, ld ((hkp _ (by omega) (by omega)).trans mv) rfl, ld ((hkp _ (by omega) (by omega)).trans mu) rfl, hv1'.grow gJ, hu.grow gJ⟩
  · rintro pre S' S'' ⟨gJ, hle, hkp, D', hH, hD'⟩ g
    exact ⟨gJ.trans g, Nat.le_trans hle g.le, fun i a b => by rw [g.keep i (by omega) (by simp)]; exact hkp i a b, D', hH.upd g (by simp), hD'⟩
  · rintro pre x S7 K' ⟨gJ, hle, hkp, D', hH, hD'⟩ hlen hK
    have hil : S7.get (S5.next + 1) = some (Blk.odd l (Obj.loop rec) fr0) := (hkp _ (by omega) (by omega)).trans m6
    refine CallA.round (envP_ok P) hil e1 e3 e4 e5 rfl ?_
    simp only [topk_set, topk_body, putAll, wpA_region, wpA_block, runIs_alloc, put_some]
    obtain ⟨S8a, g8a, m8a, n8a, e8a⟩ := new_facts gJ.wf (Blk.cells [V.int .i64 0, V.int .u64 0, V.int .u64 0] true)
    rw [e8a]
    simp only [runIs_store]
    have hx11 : AX.ev ((fr0.set 35 (hitV x)).set 11 (V.ptr S7.next 0)) (AX.tmp 11) = V.ptr S7.next 0 := by rw [← hfr0]; rfl
    have hx35 : AX.ev ((fr0.set 35 (hitV x)).set 11 (V.ptr S7.next 0)) (AX.tmp 35) = hitV x := by rw [← hfr0]; rfl
    have hx9 : AX.ev ((fr0.set 35 (hitV x)).set 11 (V.ptr S7.next 0)) (AX.tmp 9) = V.ptr S2.next 0 := by rw [← hfr0]; rfl
    rw [hx11, hx35, ifSome_ifS]
    refine st_mk g8a.wf m8a rfl (by simp [V.cells]) rfl fun S8 u8 m8 n8 => ?_
    simp only [V.cells, over] at m8
    have g8 : Grow S7 S8 := g8a.after u8 (fun i hi => by simp only [List.mem_singleton] at hi; exact .inl (by omega))
    simp only [put_none, runIs_nil]
    refine ⟨g8.get hil, ?_⟩
    have hil8 := g8.get hil
    have hltl : S5.next + 1 < S8.next := g8.wf.lt hil8
    have u9 : Upd [S5.next + 1] S8 (S8.put (S5.next + 1) (some (Blk.odd l (Obj.loop { rec with state := .busy }) fr0))) := (Upd.refl g8.wf [S5.next + 1]).put hltl (.inr (by simp)) _
    generalize hS9 : S8.put (S5.next + 1) (some (Blk.odd l (Obj.loop { rec with state := .busy }) fr0)) = S9 at u9
    have hil9 : S9.get (S5.next + 1) = some (Blk.odd l (Obj.loop { rec with state := .busy }) fr0) := by rw [← hS9]; simp
    have n9 : S9.next = S8.next := by rw [← hS9]; rfl
    have mh : S9.get S2.next = some (.cells [V.ptr S1.next 0] true) := by
      rw [u9.keep _ (by omega) (by simp only [List.mem_singleton]; omega), g8.keep _ (by omega) (by simp), hkp _ (by omega) (by omega)]; exact m3'
    have mx : S9.get S7.next = some (.cells (hcells x) true) := u9.get m8 (by simp only [List.mem_singleton]; omega)
    simp only [runIs_load1, hx9, ifSome_ifS]
    refine ifS_mk (ld mh rfl) ?_
    simp only [runIs_loadN, put_some]
    have hy11 : AX.ev (((fr0.set 35 (hitV x)).set 11 (V.ptr S7.next 0)).set 36 (V.ptr S1.next 0)) (AX.tmp 11) = V.ptr S7.next 0 := by rw [← hfr0]; rfl
    rw [hy11, ifSome_ifS]
    refine ifS_mk (ldN (ds := hcells x) mx (by simp) rfl) ?_
    simp only [runIs_callF, List.map_cons, List.map_nil, put_some]
    have hz36 : AX.ev ((((fr0.set 35 (hitV x)).set 11 (V.ptr S7.next 0)).set 36 (V.ptr S1.next 0)).set 37 (V.agg (hcells x))) (AX.tmp 36) = V.ptr S1.next 0 := by rw [← hfr0]; rfl
    have hz37 : AX.ev ((((fr0.set 35 (hitV x)).set 11 (V.ptr S7.next 0)).set 36 (V.ptr S1.next 0)).set 37 (V.agg (hcells x))) (AX.tmp 37) = hitV x := by rw [← hfr0]; rfl
    rw [hz36, hz37]
    have hH9 : HeapAt S9 D' S1.next n (best n pre) := (hH.upd g8 (by simp)).upd u9 (fun i hi => by
      simp only [List.mem_singleton]
      rcases hD' i hi with h | h <;> omega)
    refine CallA.mono (hO.offer S9 D' S1.next n (best n pre) x (fun _ S' => ∃ D2, HeapAt S' D2 S1.next n (best n (pre ++ [x])) ∧ Upd D' S9 S' ∧ ∀ i ∈ D2, i ∈ D' ∨ S9.next ≤ i) hH9 hn1 hn2 (by rw [best_length]; omega) fun S' D2 a b c => ⟨D2, by rw [best_snoc]; exact a, b, c⟩) ?_
    rintro r S10 ⟨b, rfl, D2, hH10, u10, hD2⟩
    simp only [resK_ret, runIs_nil, blockQ_normal]
    have hnil : S5.next + 1 ∉ D' := fun hm => by rcases hD' _ hm with h | h <;> omega
    have hil10 := u10.get hil9 hnil
    refine ⟨hil10, true, rfl, hK _ ?_⟩
    have hlt10 : S5.next + 1 < S10.next := u10.wf.lt hil10
    have u11 : Upd [S5.next + 1] S10 (S10.put (S5.next + 1) (some (Blk.odd l (Obj.loop { rec with state := .ready, pending := none }) fr0))) := (Upd.refl u10.wf [S5.next + 1]).put hlt10 (.inr (by simp)) _
    have hrec : ({ rec with state := .ready, pending := none } : Loop) = rec := by cases rec; simp only at e1 e2; subst e1; subst e2; rfl
    rw [hrec] at u11 ⊢
    refine ⟨?_, ?_, ?_, D2, hH10.upd u11 (fun i hi => ?_), fun i hi => ?_⟩
    · have hall : Upd ((S5.next + 1) :: D') S7 (S10.put (S5.next + 1) (some (Blk.odd l (Obj.loop rec) fr0))) :=
        ((g8.mono (by simp)).trans (u9.mono (by simp))).trans ((u10.mono (fun i hi => .inl (List.mem_cons_of_mem _ hi))).trans (u11.mono (by simp)))
      refine gJ.after hall fun i hi => .inl ?_
      rcases List.mem_cons.mp hi with rfl | hi
      · have := g2.le; omega
      · rcases hD' i hi with h | h <;> have := g2.le <;> omega
    · have := u10.le; have := g8.le; simp only [St.next_put]; omega
    · intro i a b
      rw [St.get_put]
      split
      · rename_i hi; rw [hi]; exact m6.symm
      · rename_i hi
        have hiD : i ∉ D' := fun hm => by rcases hD' _ hm with h | h <;> omega
        rw [u10.keep i (by have := g8.le; omega) hiD, u9.keep i (by have := g8.le; omega) (by simpa using hi), g8.keep i (by omega) (by simp)]
        exact hkp i a b
    · simp only [List.mem_singleton]
      rcases hD2 i hi with h | h
      · rcases hD' i h with h | h <;> omega
      · have := g8.le; omega
    · rcases hD2 i hi with h | h
      · exact hD' i h
      · have := g8.le; exact .inr (by omega)
  · rintro r S7 ⟨rfl, gJ, hle, hkp, D', hH, hD'⟩
    have hil : S7.get (S5.next + 1) = some (Blk.odd l (Obj.loop rec) fr0) := (hkp _ (by omega) (by omega)).trans m6
    refine ⟨hil, ?_⟩
    have u8 : Upd [S5.next + 1] S7 (S7.put (S5.next + 1) (some (Blk.odd l (Obj.loop { rec with state := .exhausted }) fr0))) := (Upd.refl gJ.wf [S5.next + 1]).put (by omega) (.inr (by simp)) _
    generalize S7.put (S5.next + 1) (some (Blk.odd l (Obj.loop { rec with state := .exhausted }) fr0)) = S8 at u8
    have hH8 := hH.upd u8 (fun i hi => by
      simp only [List.mem_singleton]
      rcases hD' i hi with h | h <;> omega)
    have m8 : S8.get S2.next = some (.cells [V.ptr S1.next 0] true) := u8.get ((hkp _ (by omega) (by omega)).trans m3') (by simp only [List.mem_singleton]; omega)
    have mD8 : S8.get S5.next = some (Blk.odd D (Obj.deferred (some [])) []) := u8.get ((hkp _ (by omega) (by omega)).trans mD) (by simp only [List.mem_singleton]; omega)
    have hev9 : AX.ev fr0 (AX.tmp 9) = V.ptr S2.next 0 := by rw [← hfr0]; rfl
    simp only [topk_end, wpA_seq, wpA_region, runIs_load1, hev9, ifSome_ifS]
    refine ifS_mk (ld m8 rfl) ?_
    simp only [runIs_callF, List.map_cons, List.map_nil, put_some]
    have hx39 : AX.ev (fr0.set 39 (V.ptr S1.next 0)) (AX.tmp 39) = V.ptr S1.next 0 := by rw [← hfr0]; rfl
    rw [hx39]
    refine CallA.mono (topk_Heap_List.at_ (K := fun w S' => Built S8 S' 3 w (hitsE (best n (hitsOf q rs)))) hO.list hO.clone hO.sort hH8 (by rw [best_length]; omega) fun w S' h => h) ?_
    rintro r S9 ⟨w, rfl, hB⟩
    simp only [resK_ret, runIs_move, letV_eq, put_some, runIs_nil, thenQ_normal, wpA_ret, endW_ret]
    have g18 : Grow S1 S8 := gJ.after u8 (fun i hi => by simp only [List.mem_singleton] at hi; have := g2.le; exact .inl (by omega))
    have hltD : S5.next < S8.next := u8.wf.lt mD8
    refine ⟨D, S5.next, rfl, hB.grow.get mD8, ?_⟩
    simp only [leaveD_nil]
    have u10 : Upd [S5.next] S9 (S9.put S5.next (some (Blk.odd D (Obj.deferred none) []))) := (Upd.refl hB.grow.wf [S5.next]).put (Nat.lt_of_lt_of_le hltD hB.grow.le) (.inr (by simp)) _
    generalize S9.put S5.next (some (Blk.odd D (Obj.deferred none) [])) = S10 at u10
    have fin : retT [.one .any, .one (.int .i64)] K (.ret (tupled [w, .int .i64 0])) S10 := by
      refine ⟨w, 0, rfl, hk w S10 ⟨?_, ?_, hB.each⟩⟩
      · have : Grow S1 S9 := Upd.trans g18 hB.grow
        exact this.after u10 (fun i hi => by simp only [List.mem_singleton] at hi; have := g2.le; exact .inl (by omega))
      · exact (hB.acc.below g18.le).upd u10 (fun i hi => by have := hB.from i hi; simp only [List.mem_singleton]; omega)
    rw [← hfr0]
    exact fin

end Go.Th.L
end
