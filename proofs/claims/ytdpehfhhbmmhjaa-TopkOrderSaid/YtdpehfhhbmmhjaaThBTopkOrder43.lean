/- What the row of one statement stands on: a store, abstract code, functions of the program and their laws (ThHtopk2). -/
import Derived.Test.YtdpehfhhbmmhjaaThBTopkOrder42

section
/- topk: a heap in the store; New, Offer, Len, Full, Worst. -/
set_option linter.unusedSimpArgs false
set_option linter.unusedVariables false
set_option linter.unusedSectionVars false
namespace Go.Th.L
open Go Go.Th Go.Th.Pure Go.Sort
variable {P : Program} {N : Nat → Nat}

/-! ## what a call has built, as a row that is written in its place -/
theorem Acc.arr {α : Type} [Inhabited α] {E : Enc α} {S : St} (hw : S.Wf) {B i o n c k' : Nat} {t : Bool} {d : Array α} (h : Acc S B E.k (.slice i o n c k' t) n ((d.toList.map E.enc).flatten)) (hd : d.size = n) :
    k' = E.k ∧ ∃ pre post, o = pre.length ∧ ArrAt E S i pre post S d ∧ ∀ S' d', ArrAt E S i pre post S' d' → d'.size = n → Acc S' B E.k (.slice i o n c k' t) n ((d'.toList.map E.enc).flatten) := by
  obtain ⟨⟨h1, h2, h3⟩, hone, hown, hroom⟩ := h
  rcases h3 with ⟨h3, _⟩ | ⟨i', o', c', t', he, hc, hld⟩
  · cases h3
  cases he
  obtain ⟨hB, vs, hg⟩ := hown i (by simp [V.block])
  obtain ⟨vs2, hg2, hr⟩ := hroom
  rw [hg] at hg2; cases hg2
  have hnc : n * E.k ≤ c * E.k := Nat.mul_le_mul_right _ hc
  have hlv : o + n * E.k ≤ vs.length := by omega
  have hcs : (vs.drop o).take (n * E.k) = (d.toList.map E.enc).flatten := by
    rw [St.loads_of hg hlv] at hld; exact Option.some.inj hld
  have ho : o = (vs.take o).length := by rw [List.length_take, Nat.min_eq_left (by omega)]
  have hsplit : vs = vs.take o ++ (d.toList.map E.enc).flatten ++ vs.drop (o + n * E.k) := by
    rw [← hcs, List.append_assoc, ← List.drop_drop, List.take_append_drop, List.take_append_drop]
  have hfl : ∀ d' : Array α, d'.size = n → ((d'.toList.map E.enc).flatten).length = n * E.k := fun d' hd' => by
    rw [Enc.flat_len, Array.length_toList, hd']
  refine ⟨rfl, vs.take o, vs.drop (o + n * E.k), ho, ⟨Upd.refl hw _, by rw [← hsplit]; exact hg⟩, fun S' d' hA hd' => ?_⟩
  have hlen : (vs.take o ++ (d'.toList.map E.enc).flatten ++ vs.drop (o + n * E.k)).length = vs.length := by
    simp only [List.length_append, List.length_take, List.length_drop, hfl d' hd']; omega
  refine ⟨⟨h1, hfl d' hd', .inr ⟨i, o, c, t, rfl, hc, ?_⟩⟩, ?_, ?_, ⟨_, hA.get, by rw [hlen]; exact hr⟩⟩
  · rw [St.loads_of hA.get (by rw [hlen]; exact hlv)]
    congr 1
    rw [List.append_assoc, List.drop_left' ho.symm, List.take_left' (hfl d' hd')]
  · rw [List.all_eq_true]
    intro x hx
    obtain ⟨e, he, hxe⟩ := List.mem_flatten.mp hx
    obtain ⟨a, _, rfl⟩ := List.mem_map.mp he
    exact List.all_eq_true.mp (E.one a) x hxe
  · simp only [V.block, List.mem_singleton]; rintro j rfl; exact ⟨hB, _, hA.get⟩

abbrev hitsE (l : List Hit) : List (List V) := l.map hcells
abbrev hitsC (d : Array Hit) : List V := (d.toList.map hcells).flatten
theorem hitsE_len (l : List Hit) : (hitsE l).length = l.length := by simp
theorem hitsE_three {l : List Hit} : ∀ e ∈ hitsE l, e.length = 3 := by
  intro e he; obtain ⟨x, _, rfl⟩ := List.mem_map.mp he; rfl
theorem hitsE_one (l : List Hit) : (hitsE l).flatten.all V.one = true := by
  rw [List.all_eq_true]; intro x hx
  obtain ⟨e, he, hxe⟩ := List.mem_flatten.mp hx
  obtain ⟨a, _, rfl⟩ := List.mem_map.mp he
  simp only [hcells, List.mem_cons, List.not_mem_nil, or_false] at hxe
  rcases hxe with rfl | rfl | rfl <;> rfl
def HitsAt (S : St) (v : V) (l : List Hit) : Prop := SlE S 3 v (hitsE l)
theorem HitsAt.sl {S : St} {v : V} {l : List Hit} (h : HitsAt S v l) : SlE S 3 v (hitsE l) := h
theorem HitsAt.at_ {S : St} {v : V} {l : List Hit} (h : HitsAt S v l) : SlAt S 3 v l.length (hitsE l).flatten := by
  have := h.sl.1; rwa [hitsE_len] at this
theorem HitsAt.mk {S : St} {v : V} {l : List Hit} (h : SlAt S 3 v l.length (hitsE l).flatten) : HitsAt S v l := ⟨by rwa [hitsE_len], fun e he => hitsE_three e he⟩
theorem HitsAt.grow {S S' : St} {v : V} {l : List Hit} (h : HitsAt S v l) (g : Grow S S') : HitsAt S' v l := h.sl.grow g
theorem HitsAt.upd {D : List Nat} {S S' : St} {v : V} {l : List Hit} (h : HitsAt S v l) (g : Upd D S S') (hD : ∀ i ∈ v.block, i ∉ D) : HitsAt S' v l := h.sl.upd g hD
theorem HitsAt.ro {S : St} {v : V} {l : List Hit} (h : HitsAt S v l) : HitsAt S.ro v l := ⟨h.sl.1.ro, h.sl.2⟩
theorem HitsAt.len {S : St} {v : V} {l : List Hit} (h : HitsAt S v l) : lenV S 2 v = some (.int .i64 l.length) := by
  have := h.sl.len; rwa [hitsE_len] at this
theorem HitsAt.idx {S : St} {v : V} {l : List Hit} (h : HitsAt S v l) {j : Nat} (hj : j < l.length) : idxAddrV 3 v (.int .i64 (j : Int)) = some (eltV 3 v j 0) := h.sl.idx (by rw [hitsE_len]; exact hj)
theorem HitsAt.get {S : St} {v : V} {l : List Hit} (h : HitsAt S v l) {j : Nat} (hj : j < l.length) : loadNV S 3 (eltV 3 v j 0) = some (hitV l[j]) := by
  rw [h.sl.getN (by rw [hitsE_len]; exact hj) (by omega)]; simp
theorem _root_.Go.Th.Built.hits {S0 S : St} {v : V} {l : List Hit} (h : Built S0 S 3 v (hitsE l)) : HitsAt S v l := h.sl
/-- A part of hits. -/
theorem HitsAt.sub {S : St} {v : V} {l : List Hit} (h : HitsAt S v l) {lo hi : Option V} {a b : Nat} (hb : ∀ cap, l.length ≤ cap → bnds l.length cap lo hi none = some (a, b, cap)) (h0 : a ≤ b) (h1 : b ≤ l.length) :
    ∃ v', sliceSlV 3 v lo hi none = some v' ∧ HitsAt S v' ((l.drop a).take (b - a)) ∧ (∀ i ∈ v'.block, i ∈ v.block) := by
  obtain ⟨v', e1, e2, e3⟩ := SlAt.sub (c := 0) h.at_ hb h0 h1
  refine ⟨v', e1, HitsAt.mk ?_, e3⟩
  have hl : ((l.drop a).take (b - a)).length = b - a := by rw [List.length_take, List.length_drop]; omega
  rw [hl]
  have : ((hitsE l).flatten.drop (a * 3)).take ((b - a) * 3) = (hitsE ((l.drop a).take (b - a))).flatten := by
    have key : ∀ (l : List Hit) (n : Nat), (hitsE l).flatten.take (n * 3) = (hitsE (l.take n)).flatten ∧ (hitsE l).flatten.drop (n * 3) = (hitsE (l.drop n)).flatten := by
      intro l
      induction l with
      | nil => intro n; simp
      | cons x l ih =>
        intro n
        cases n with
        | zero => simp
        | succ n =>
          have := ih n
          simp only [hitsE, List.map_cons, List.flatten_cons, List.take_succ_cons, List.drop_succ_cons, hcells] at this ⊢
          rw [show (n + 1) * 3 = n * 3 + 1 + 1 + 1 by omega]
          simp [this.1, this.2]
    rw [(key l a).2, (key _ _).1]
  rw [this] at e2; exact e2

/-! ## a heap -/
structure HeapAt (S : St) (D : List Nat) (hb k : Nat) (w : List Hit) : Prop where
  wf : S.Wf
  lt : ∀ i ∈ D, i < S.next
  mem : hb ∈ D
  ex : ∃ v d, S.get hb = some (.cells [.int .i64 k, v] true) ∧ Acc S 0 3 v d.size (hitsC d) ∧ (∀ i ∈ v.block, i ∈ D ∧ i ≠ hb) ∧ HeapOf d w

theorem HeapAt.upd {D D' : List Nat} {S S' : St} {hb k : Nat} {w : List Hit} (h : HeapAt S D hb k w) (u : Upd D' S S') (hD : ∀ i ∈ D, i ∉ D') : HeapAt S' D hb k w := by
  obtain ⟨v, d, h1, h2, h3, h4⟩ := h.ex
  exact ⟨u.wf, fun i hi => Nat.lt_of_lt_of_le (h.lt i hi) u.le, h.mem, v, d, u.get h1 (hD _ h.mem), h2.upd u (fun i hi => hD i (h3 i hi).1), h3, h4⟩

theorem topk_hits_Push.spec (hF : topk_hits_Push.Ok P N) {S : St} (hw : S.Wf) {hb n : Nat} {kk : Int} {v : V} {cs : List V} {x : Hit} {K : St → Prop}
    (hg : S.get hb = some (.cells [.int .i64 kk, v] true)) (ha : Acc S 0 3 v n cs) (hne : ∀ i ∈ v.block, i ≠ hb) (hn : n < 1000000)
    (hk : ∀ v' S', S'.get hb = some (.cells [.int .i64 kk, v'] true) → Acc S' 0 3 v' (n + 1) (cs ++ hcells x) → (∀ i ∈ v'.block, i ∈ v.block ∨ S.next ≤ i) → Upd (hb :: v.block) S S' → K S') :
    CallA P (N Fn.topk_hits_Push) [.ptr hb 1, .iface (N Fn.ty_api_Hit) (hitV x)] S (retT [] K) := by
  have hlt : hb < S.next := hw.lt hg
  refine topk_hits_Push.run hF ⟨x.id, x.hi, x.lo, true, by simp [assertV], newS_mk hw fun S1 g1 m1 n1 => st_mk g1.wf m1 rfl (by simp [V.cells]) rfl fun S2 u2 m2 n2 => ifC_tt rfl ⟨rfl, ?_⟩⟩
  simp only [over, V.cells] at m2
  have gS2 : Grow S S2 := g1.after u2 (by simp)
  refine ifS_mk (ld (gS2.get hg) rfl) ⟨x.id, x.hi, x.lo, ldN m2 (by simp) rfl, newS_mk u2.wf fun S3 g3 m3 n3 => ⟨Same.of_grow g3 (by intro i hi; simp only [V.block, List.append_nil, List.mem_singleton] at hi; subst hi; omega), ?_⟩⟩
  have gS3 : Grow S S3 := gS2.trans g3
  have hs : srcV 3 S3 (.slice S2.next 0 1 1 3 true) = some (1, hcells x) := by
    simp only [srcV, if_true]
    rw [St.loads_of m3 (by simp)]; rfl
  obtain ⟨v', S4, e4, a4, u4, t4⟩ := (ha.grow gS3).app g3.wf (by omega) hs rfl rfl (bytes := 24) (by omega) (by omega)
  have hb4 : S4.get hb = some (.cells [.int .i64 kk, v] true) := u4.get (gS3.get hg) (fun h => hne _ h rfl)
  have hv' : ∀ i ∈ v'.block, i ≠ hb := fun i hi => by
    rcases t4 i hi with h | h
    · exact hne i h
    · have := gS3.le; omega
  refine ifP_mk e4 ⟨?_, rfl, ?_⟩
  · intro i hi
    simp only [List.mem_singleton] at hi; subst hi
    refine u4.keep _ (by have := gS3.le; have := gS2.le; omega) fun h => ?_
    have := ha.at_
    obtain ⟨_, vs, hgv⟩ := ha.own _ h
    have := hw.lt hgv; omega
  · have hone : v'.cells = [v'] := by rcases a4.at_.2.2 with ⟨rfl, _⟩ | ⟨i, o, c, t, rfl, _⟩ <;> rfl
    have hone2 : v'.one = true := a4.at_.one1
    refine st_mk u4.wf hb4 (by rw [hone]; rfl) (by rw [hone]; simp) (by rw [hone]; simp [hone2]) fun S5 u5 m5 n5 => hk v' S5 (by rw [m5, hone]; rfl) (a4.upd u5 fun i hi => by simpa using hv' i hi) (fun i hi => ?_) ?_
    · rcases t4 i hi with h | h
      · exact .inl h
      · exact .inr (by have := gS3.le; omega)
    · have h1 : Upd v.block S S4 := (gS3.mono (by simp) |>.trans u4)
      exact ((h1.mono (fun i hi => .inl (List.mem_cons_of_mem _ hi))).trans (u5.mono fun i hi => .inl (by simp only [List.mem_singleton] at hi; simp [hi])))

theorem topk_hits_Len.sl (hF : topk_hits_Len.Ok P N) {S : St} {v : V} {n : Nat} {cs : List V} (h : SlAt S 3 v n cs) {K : Int → St → Prop} (hk : K (n : Int) S) : CallA P (N Fn.topk_hits_Len) [v] S (retT [.one (.int .i64)] K) :=
  topk_hits_Len.run hF ⟨_, h.len, hk⟩

/-- What the heap's functions need of each other. -/
structure HeapOk (P : Program) (N : Nat → Nat) : Prop where
  meth : HeapM P N
  push : topk_hits_Push.Ok P N
  len : topk_hits_Len.Ok P N
  less : topk_hits_Less.Ok P N
  swap : topk_hits_Swap.Ok P N
  up : container_heap_up.Ok P N
  down : container_heap_down.Ok P N
  hpush : container_heap_Push.Ok P N
  fix : container_heap_Fix.Ok P N
  less0 : topk_Less.Spec P N

theorem heap_push (h : HeapOk P N) {S : St} {D : List Nat} {hb k : Nat} {w : List Hit} {x : Hit} {K : St → Prop} (hH : HeapAt S D hb k w) (hn : w.length < 1000)
    (hk : ∀ S' D', HeapAt S' D' hb k (insH x w) → Upd D S S' → (∀ i ∈ D', i ∈ D ∨ S.next ≤ i) → K S') : CallA P (N Fn.container_heap_Push) [.iface (N Fn.ty_ptopk_hits) (.ptr hb 1), .iface (N Fn.ty_api_Hit) (hitV x)] S (retT [] K) := by
  obtain ⟨v, d, h1, h2, h3, h4⟩ := hH.ex
  have hsz := h4.size
  refine container_heap_Push.run h.hpush (ifS_mk (invoke_val h.meth.push) (topk_hits_Push.spec h.push hH.wf h1 h2 (fun i hi => (h3 i hi).2) (by omega) fun v' S1 hg1 ha1 t1 u1 => ifS_mk (invoke_ld h.meth.len (ld hg1 rfl)) (topk_hits_Len.sl h.len ha1.at_ ?_)))
  have e1 : IntKind.i64.wrap (((d.size + 1 : Nat) : Int) - 1) = (d.size : Int) := by rw [IntKind.wrap_i64]; omega
  refine setI_mk e1 ?_
  obtain ⟨i, o, c, t, rfl⟩ : ∃ i o c t, v' = .slice i o (d.size + 1) c 3 t := by
    rcases ha1.at_.2.2 with ⟨_, h0⟩ | ⟨i, o, c, t, rfl, _⟩
    · omega
    · exact ⟨i, o, c, t, rfl⟩
  have hc : hitsC d ++ hcells x = ((d.push x).toList.map hitE.enc).flatten := by simp [hitsC]
  rw [hc] at ha1
  have hps : (d.push x).size = d.size + 1 := by simp
  obtain ⟨_, pre, post, rfl, hA, hback⟩ := Acc.arr (E := hitE) u1.wf ha1 hps
  have hlt : hb < S.next := hH.wf.lt h1
  have hne : hb ≠ i := fun e => by
    rcases t1 i (by simp [V.block]) with h' | h'
    · exact (h3 i h').2 e.symm
    · omega
  refine container_heap_up.spec h.up h.meth h.less h.swap h.less0 hA hps (by unfold big; omega) (by omega) (ld hg1 rfl) hne fun S2 hA2 hz2 => ?_
  refine hk S2 (i :: D) ⟨hA2.upd.wf, ?_, List.mem_cons_of_mem _ hH.mem, _, _, hA2.upd.get hg1 (by simpa using hne), ?_, ?_, h4.push x⟩ ?_ ?_
  · intro j hj
    rcases List.mem_cons.mp hj with rfl | hj
    · exact hA2.upd.wf.lt hA2.get
    · exact Nat.lt_of_lt_of_le (hH.lt j hj) (Nat.le_trans u1.le hA2.upd.le)
  · have := hback S2 _ hA2 hz2
    rw [show (upH d.size (d.push x)).size = d.size + 1 from hz2]
    exact this
  · simp only [V.block, List.mem_singleton]; rintro j rfl; exact ⟨List.mem_cons_self, fun e => hne e.symm⟩
  · refine Upd.after (u1.mono fun j hj => ?_) hA2.upd fun j hj => ?_
    · rcases List.mem_cons.mp hj with rfl | hj
      · exact .inl hH.mem
      · exact .inl (h3 j hj).1
    · simp only [List.mem_singleton] at hj; subst hj
      rcases t1 j (by simp [V.block]) with h' | h'
      · exact .inr (h3 j h').1
      · exact .inl h'
  · intro j hj
    rcases List.mem_cons.mp hj with rfl | hj
    · rcases t1 j (by simp [V.block]) with h' | h'
      · exact .inl (h3 j h').1
      · exact .inr h'
    · exact .inl hj

def topk_Heap_Offer.Spec (P : Program) (N : Nat → Nat) : Prop := ∀ (S : St) (D : List Nat) (hb k : Nat) (w : List Hit) (x : Hit) (K : Bool → St → Prop), HeapAt S D hb k w → 1 ≤ k → k ≤ 64 → w.length ≤ k →
  (∀ S' D', HeapAt S' D' hb k ((insH x w).take k) → Upd D S S' → (∀ i ∈ D', i ∈ D ∨ S.next ≤ i) → K (keptH k w x) S') → CallA P (N Fn.topk_Heap_Offer) [.ptr hb 0, hitV x] S (retT [.one .bool] K)
theorem topk_Heap_Offer.spec (hF : topk_Heap_Offer.Ok P N) (h : HeapOk P N) : topk_Heap_Offer.Spec P N := by
  intro S D hb k w x K hH hk1 hk2 hwl hk
  obtain ⟨v, d, h1, h2, h3, h4⟩ := hH.ex
  have hsz := h4.size
  have hlt : hb < S.next := hH.wf.lt h1
  refine topk_Heap_Offer.run hF (newS_mk hH.wf fun S1 g1 m1 n1 => ⟨false, rfl, ifC_ff rfl ⟨rfl, ifS_mk rfl (ifS_mk (ld (g1.get h1) rfl) ⟨_, (h2.grow g1).at_.len, rfl, ifS_mk rfl ⟨_, ld (g1.get h1) rfl, ifC_dec (fun hl => ?_) (fun hl => ?_)⟩⟩)⟩⟩)
  · have hl : w.length < k := by omega
    refine ⟨rfl, ifS_mk rfl ⟨x.id, x.hi, x.lo, ldN m1 (by simp) rfl, heap_push h (hH.upd g1 (by simp)) (by omega) fun S2 D2 hH2 u2 t2 => ⟨?_, ?_⟩⟩⟩
    · intro i hi
      simp only [List.mem_singleton] at hi; subst hi
      exact u2.keep _ (by omega) fun hd => by have := hH.lt _ hd; omega
    · have e : (insH x w).take k = insH x w := List.take_of_length_le (by rw [insH_length]; omega)
      have := hk S2 D2 (by rw [e]; exact hH2) ((g1.mono (by simp)).trans u2) (fun i hi => by
        rcases t2 i hi with h' | h'
        · exact .inl h'
        · exact .inr (by omega))
      rwa [keptH, decide_eq_true hl, Bool.true_or] at this
  · have hl : w.length = k := by omega
    have hw0 := h4.worst (k := k) (by omega) hl
    obtain ⟨i, o, c, t, rfl⟩ : ∃ i o c t, v = .slice i o d.size c 3 t := by
      rcases h2.at_.2.2 with ⟨_, h0⟩ | ⟨i, o, c, t, rfl, _⟩
      · omega
      · exact ⟨i, o, c, t, rfl⟩
    obtain ⟨_, pre, post, rfl, hA, hback⟩ := Acc.arr (E := hitE) g1.wf (h2.grow g1) rfl
    have hne : hb ≠ i := fun e => (h3 i (by simp [V.block])).2 e.symm
    have hiD : i ∈ D := (h3 i (by simp [V.block])).1
    have h0 : 0 < d.size := by omega
    have key : CallA P (N Fn.topk_Less) [hitV x, hitV d[0]!] S1 (retT [.one .bool] fun (x34 : Bool) (S3 : St) => S3 = S1 ∧ x34 = lessH x d[0]!) := h.less0 x d[0]! S1 _ ⟨rfl, rfl⟩
    refine ⟨x.id, x.hi, x.lo, ldN m1 (by simp) rfl, rfl, ifS_mk rfl (ifS_mk (ld (g1.get h1) rfl) (ifS_mk (arr_idx (j := 0) h0) ⟨_, _, _, hA.ldN h0, h.less0 x d[0]! S1 _ ⟨Same.refl _ _, ?_⟩⟩))⟩
    refine ifC_tt_ff (fun h5 => ?_) (fun h5 => ?_)
    · have h5 : lessH x d[0]! = false := by simpa using h5
      have hkf : keptH k w x = false := by
        rw [keptH, ← hw0, h5, decide_eq_false (by omega)]; rfl
      have e := keptH_not hk1 hwl h4.srt hkf
      have := hk S1 D (by rw [e]; exact hH.upd g1 (by simp)) (g1.mono (by simp)) (fun i hi => .inl hi)
      rwa [hkf] at this
    · have h5 : lessH x d[0]! = true := by simpa using h5
      have hkt : keptH k w x = true := by rw [keptH, ← hw0, h5, Bool.or_true]
      refine ⟨rfl, ifS_mk rfl (ifS_mk (ld (g1.get h1) rfl) ⟨x.id, x.hi, x.lo, ldN m1 (by simp) rfl, ifS_mk (arr_idx (j := 0) h0) (hA.set h0 x fun S4 hA4 => ⟨rfl, ifS_mk rfl ?_⟩)⟩)⟩
      have hz4 : (d.setIfInBounds 0 x).size = d.size := by simp
      have hb4 := hA4.upd.get (g1.get h1) (by simpa using hne)
      refine container_heap_Fix.spec h.fix h.up h.down h.meth h.len h.less h.swap h.less0 ⟨Upd.refl hA4.upd.wf _, hA4.get⟩ hz4 (by unfold big; omega) h0 (ld hb4 rfl) hne fun S5 hA5 => ?_
      have hfix := h4.fix (k := k) (by omega) hl h5
      have hz5 := hfix.size
      rw [List.length_take, insH_length] at hz5
      have hA5' := (hA4.upd.trans hA5.upd)
      have := hk S5 D ⟨hA5.upd.wf, fun j hj => Nat.lt_of_lt_of_le (hH.lt j hj) (by have := g1.le; have := hA5'.le; omega), hH.mem, _, _, hA5'.get (g1.get h1) (by simpa using hne), ?_, h3, hfix⟩ ?_ (fun i hi => .inl hi)
      · rwa [hkt] at this
      · have := hback S5 _ ⟨hA5', hA5.get⟩ (by omega)
        rw [show (siftDown lessH d.size 0 0 (d.setIfInBounds 0 x)).size = d.size by omega]
        exact this
      · exact (g1.mono (by simp)).after hA5' (fun j hj => by simp only [List.mem_singleton] at hj; subst hj; exact .inr hiD)

/-! ## what a heap tells -/
theorem topk_Heap_Len.at_ (hF : topk_Heap_Len.Ok P N) {S : St} {D : List Nat} {hb k : Nat} {w : List Hit} (hH : HeapAt S D hb k w) {K : Int → St → Prop} (hk : K (w.length : Int) S) : CallA P (N Fn.topk_Heap_Len) [.ptr hb 0] S (retT [.one (.int .i64)] K) := by
  obtain ⟨v, d, h1, h2, h3, h4⟩ := hH.ex
  refine topk_Heap_Len.run hF ⟨false, rfl, ifC_ff rfl ⟨rfl, ifS_mk rfl (ifS_mk (ld h1 rfl) ⟨_, h2.at_.len, ?_⟩)⟩⟩
  rw [h4.size]; exact hk
theorem topk_Heap_Full.at_ (hF : topk_Heap_Full.Ok P N) {S : St} {D : List Nat} {hb k : Nat} {w : List Hit} (hH : HeapAt S D hb k w) {K : Bool → St → Prop} (hk : K (decide (w.length = k)) S) : CallA P (N Fn.topk_Heap_Full) [.ptr hb 0] S (retT [.one .bool] K) := by
  obtain ⟨v, d, h1, h2, h3, h4⟩ := hH.ex
  refine topk_Heap_Full.run hF ⟨false, rfl, ifC_tt rfl ⟨rfl, ifS_mk rfl (ifS_mk (ld h1 rfl) ⟨_, h2.at_.len, rfl, ifS_mk rfl ⟨_, ld h1 rfl, ?_⟩⟩)⟩⟩
  rw [h4.size]
  have : decide ((w.length : Int) = (k : Int)) = decide (w.length = k) := decide_eq_decide.mpr (by omega)
  rw [this]; exact hk

def topk_New.Spec (P : Program) (N : Nat → Nat) : Prop := ∀ (k : Int) (S : St) (K : V → Int → St → Prop), S.Wf → ((k < 1 ∨ 64 < k) → K .nilPtr 1 S) →
  (∀ n : Nat, k = n → 1 ≤ n → n ≤ 64 → ∀ S', Grow S S' → HeapAt S' [S.next] S.next n [] → K (.ptr S.next 0) 0 S') → CallA P (N Fn.topk_New) [.int .i64 k] S (retT [.one .any, .one (.int .i64)] K)
theorem topk_New.spec (hF : topk_New.Ok P N) : topk_New.Spec P N := by
  intro k S K hw h1 h2
  refine topk_New.run hF (Join0.mid (fun S' => S' = S ∧ 1 ≤ k ∧ k ≤ 64) (ifC_dec (fun h => h1 (.inl h)) (fun h => ifC_dec (fun h' => h1 (.inr h')) (fun h' => ⟨rfl, by omega, by omega⟩))) ?_)
  rintro S1 ⟨rfl, ha, hb⟩
  refine newS_mk hw fun S2 g2 m2 n2 => ?_
  obtain ⟨n, rfl⟩ := Int.eq_ofNat_of_zero_le (show 0 ≤ k by omega)
  refine h2 n rfl (by omega) (by omega) S2 g2 ⟨g2.wf, by simp; omega, by simp, _, #[], m2, Acc.nil _ _ _, by simp [V.block], HeapOf.nil⟩

theorem topk_Heap_Worst.at_ (hF : topk_Heap_Worst.Ok P N) (hL : topk_Heap_Len.Ok P N) {S : St} {D : List Nat} {hb k : Nat} {w : List Hit} (hH : HeapAt S D hb k w) {K : Int → Int → Int → Bool → St → Prop}
    (h0 : w = [] → ∀ S', Grow S S' → K 0 0 0 false S') (h1 : ∀ x, w.getLast? = some x → ∀ S', Grow S S' → K x.id x.hi x.lo true S') :
    CallA P (N Fn.topk_Heap_Worst) [.ptr hb 0] S (retT [.agg [.int .i64, .int .u64, .int .u64], .one .bool] K) := by
  refine topk_Heap_Worst.run hF (newS_mk hH.wf fun S1 g1 m1 n1 => topk_Heap_Len.at_ hL (hH.upd g1 (by simp)) ?_)
  obtain ⟨v, d, e1, e2, e3, e4⟩ := hH.ex
  have hsz := e4.size
  refine ifC_dec (fun hz => ?_) (fun hz => ?_)
  · refine st_mk g1.wf m1 rfl (by simp [V.cells]) rfl fun S2 u2 m2 n2 => ⟨_, _, _, ldC m2 (by simp [over, V.cells]) rfl, h0 (List.length_eq_zero_iff.mp (by omega)) _ (g1.after u2 (by simp))⟩
  · have hp : 0 < d.size := by omega
    have hw0 := e4.worst (k := w.length) (by omega) rfl
    obtain ⟨i, o, c, t, rfl⟩ : ∃ i o c t, v = .slice i o d.size c 3 t := by
      rcases e2.at_.2.2 with ⟨_, h0⟩ | ⟨i, o, c, t, rfl, _⟩
      · omega
      · exact ⟨i, o, c, t, rfl⟩
    obtain ⟨_, pre, post, rfl, hA, hback⟩ := Acc.arr (E := hitE) g1.wf (e2.grow g1) rfl
    have hlast : w.getLast? = some d[0]! := by
      rw [hw0, List.getLast?_eq_getElem?, List.getElem?_eq_getElem (by omega)]; rfl
    refine ⟨rfl, ifS_mk rfl (ifS_mk (ld (g1.get e1) rfl) (ifS_mk (arr_idx (j := 0) hp) ⟨_, _, _, hA.ldN hp, st_mk g1.wf m1 rfl (by simp [V.cells]) rfl fun S2 u2 m2 n2 => ⟨_, _, _, ldC m2 (by simp [over, V.cells]) rfl, h1 _ hlast _ (g1.after u2 (by simp))⟩⟩))⟩

end Go.Th.L
end
