/- What the row of one statement stands on: a store, abstract code, functions of the program and their laws (ThHheap). -/
import Derived.Test.YtdjocmcbibedhaaGreatThBHsortH3
import Derived.Test.YtdjocmcbibedhaaGreatThBGslicesInt

section
/- container/heap over topk's hits: the methods. -/
set_option linter.unusedSimpArgs false
set_option linter.unusedVariables false
set_option linter.unusedSectionVars false
namespace Go.Th.L
open Go Go.Th Go.Th.Pure Go.Sort
variable {P : Program} {N : Nat → Nat}

theorem invoke_ld {S : St} {T : Nat} {name : String} {f : FuncId} {h o : Nat} {v : V} {args : List V} (hm : methEntry P name T = some (f, 1)) (hl : loadV S (.ptr h o) = some v) : invokeV (envP P) S name (.iface T (.ptr h o)) args = some (f, v :: args) := by
  have hm' : (envP P).meth name T = some (f, 1) := hm
  have hl' : S.load1 h o = some v := hl
  simp only [invokeV, hm', recvV, hl']
theorem invoke_val {S : St} {T : Nat} {name : String} {f : FuncId} {v : V} {args : List V} (hm : methEntry P name T = some (f, 0)) : invokeV (envP P) S name (.iface T v) args = some (f, v :: args) := by
  have hm' : (envP P).meth name T = some (f, 0) := hm
  simp only [invokeV, hm', recvV]

theorem topk_hits_Less.spec (hF : topk_hits_Less.Ok P N) (hl : topk_Less.Spec P N) {S0 S : St} {i n c x y : Nat} {t : Bool} {pre post : List V} {d : Array Hit} {K : Bool → St → Prop} (hA : ArrAt hitE S0 i pre post S d) (hz : d.size = n) (hx : x < n) (hy : y < n)
    (hk : K (lessH d[y]! d[x]!) S) : CallA P (N Fn.topk_hits_Less) [rowV i pre.length n c t, .int .i64 x, .int .i64 y] S (retT [.one .bool] K) :=
  topk_hits_Less.run hF (ifS_mk (arr_idx hy) ⟨_, _, _, hA.ldN (by omega), ifS_mk (arr_idx hx) ⟨_, _, _, hA.ldN (by omega), hl _ _ _ _ hk⟩⟩)

theorem topk_hits_Swap.spec (hF : topk_hits_Swap.Ok P N) {S0 S : St} {i n c x y : Nat} {t : Bool} {pre post : List V} {d : Array Hit} {K : St → Prop} (hA : ArrAt hitE S0 i pre post S d) (hz : d.size = n) (hx : x < n) (hy : y < n)
    (hk : ∀ S', ArrAt hitE S0 i pre post S' (swp d x y) → (swp d x y).size = n → K S') : CallA P (N Fn.topk_hits_Swap) [rowV i pre.length n c t, .int .i64 x, .int .i64 y] S (retT [] K) :=
  topk_hits_Swap.run hF (hA.swp_ hz hx hy hk)

theorem load_upd {D : List Nat} {S S' : St} (u : Upd D S S') {h o : Nat} {v : V} (hl : loadV S (.ptr h o) = some v) (hD : h ∉ D) : loadV S' (.ptr h o) = some v := by
  have hl' : S.load1 h o = some v := hl
  show S'.load1 h o = some v
  unfold St.load1 at hl' ⊢
  cases hg : S.get h with
  | none => rw [hg] at hl'; cases hl'
  | some b => rw [u.get hg hD]; rw [hg] at hl'; exact hl'

structure HeapM (P : Program) (N : Nat → Nat) : Prop where
  less : methEntry P "Less" (N Fn.ty_ptopk_hits) = some (N Fn.topk_hits_Less, 1)
  len : methEntry P "Len" (N Fn.ty_ptopk_hits) = some (N Fn.topk_hits_Len, 1)
  swap : methEntry P "Swap" (N Fn.ty_ptopk_hits) = some (N Fn.topk_hits_Swap, 1)
  push : methEntry P "Push" (N Fn.ty_ptopk_hits) = some (N Fn.topk_hits_Push, 0)

def upH (j : Nat) (d : Array Hit) : Array Hit :=
  if h : j = 0 then d else if lessH d[(j - 1) / 2]! d[j]! then upH ((j - 1) / 2) (swp d ((j - 1) / 2) j) else d
termination_by j
decreasing_by omega

theorem container_heap_up.spec (hF : container_heap_up.Ok P N) (hM : HeapM P N) (hL : topk_hits_Less.Ok P N) (hSw : topk_hits_Swap.Ok P N) (hl : topk_Less.Spec P N) {S0 S : St} {i n c h o j : Nat} {t : Bool} {pre post : List V} {d : Array Hit} {K : St → Prop}
    (hA : ArrAt hitE S0 i pre post S d) (hz : d.size = n) (hn : n < big) (hj : j < n) (hld : loadV S0 (.ptr h o) = some (rowV i pre.length n c t)) (hne : h ≠ i)
    (hk : ∀ S', ArrAt hitE S0 i pre post S' (upH j d) → (upH j d).size = n → K S') : CallA P (N Fn.container_heap_up) [.iface (N Fn.ty_ptopk_hits) (.ptr h o), .int .i64 j] S (retT [] K) := by
  unfold big at hn
  refine container_heap_up.run hF (Loop1.ind (fun m x S' => ∃ (q : Nat) (d1 : Array Hit), x = q ∧ q = m ∧ q < n ∧ d1.size = n ∧ ArrAt hitE S0 i pre post S' d1 ∧ upH q d1 = upH j d) j ⟨j, d, rfl, rfl, hj, hz, hA, rfl⟩ ?_)
  rintro m _ S1 ⟨q, d1, rfl, rfl, hq, hz1, hA1, hR⟩
  rw [upH] at hR
  have e1 : IntKind.i64.wrap ((q : Int) - 1) = (q : Int) - 1 := by rw [IntKind.wrap_i64]; omega
  refine setI_mk e1 ⟨by omega, ?_⟩
  rcases Nat.eq_zero_or_pos q with h0 | h0
  · subst h0
    rw [dif_pos rfl] at hR
    subst hR
    refine setI_mk (n := 0) (by decide) (ifC_pos rfl (hk _ hA1 hz1))
  · rw [dif_neg (by omega)] at hR
    have e2 : IntKind.i64.wrap (Int.tdiv ((q : Int) - 1) 2) = (((q - 1) / 2 : Nat) : Int) := by rw [IntKind.wrap_i64, Int.tdiv_eq_ediv_of_nonneg (by omega)]; omega
    refine setI_mk e2 (ifC_neg (by omega) (ifS_mk (invoke_ld hM.less (load_upd hA1.upd hld (by simpa using hne))) (topk_hits_Less.spec hL hl hA1 hz1 hq (by omega) (ifC_tt_ff (fun h1 => ?_) (fun h1 => ?_)))))
    · rw [if_neg (by simpa using h1)] at hR
      subst hR
      exact hk _ hA1 hz1
    · rw [if_pos (by simpa using h1)] at hR
      exact ifS_mk (invoke_ld hM.swap (load_upd hA1.upd hld (by simpa using hne))) (topk_hits_Swap.spec hSw hA1 hz1 (by omega) hq fun S2 hA2 hz2 => ⟨(q - 1) / 2, by omega, (q - 1) / 2, _, rfl, rfl, by omega, hz2, hA2, hR⟩)

theorem container_heap_down.spec (hF : container_heap_down.Ok P N) (hM : HeapM P N) (hL : topk_hits_Less.Ok P N) (hSw : topk_hits_Swap.Ok P N) (hl : topk_Less.Spec P N) {S0 S : St} {i n c h o j : Nat} {t : Bool} {pre post : List V} {d : Array Hit} {K : Bool → St → Prop}
    (hA : ArrAt hitE S0 i pre post S d) (hz : d.size = n) (hn : n < big) (hj : j < n) (hld : loadV S0 (.ptr h o) = some (rowV i pre.length n c t)) (hne : h ≠ i)
    (hk : ∀ S' b, ArrAt hitE S0 i pre post S' (siftDown lessH n 0 j d) → (b = false → siftDown lessH n 0 j d = d) → K b S') : CallA P (N Fn.container_heap_down) [.iface (N Fn.ty_ptopk_hits) (.ptr h o), .int .i64 j, .int .i64 n] S (retT [.one .bool] K) := by
  unfold big at hn
  refine container_heap_down.run hF (Loop1.ind (fun m x S' => ∃ (r : Nat) (d1 : Array Hit), x = r ∧ m = n - r ∧ r < n ∧ j ≤ r ∧ (r = j → d1 = d) ∧ d1.size = n ∧ ArrAt hitE S0 i pre post S' d1 ∧ siftDown lessH n 0 r d1 = siftDown lessH n 0 j d) (n - j) ⟨j, d, rfl, rfl, hj, Nat.le_refl _, fun _ => rfl, hz, hA, rfl⟩ ?_)
  rintro m _ S1 ⟨r, d1, rfl, rfl, hrn, hjr, hrj, hz1, hA1, hR⟩
  have fin : siftDown lessH n 0 r d1 = d1 → K (decide ((j : Int) < (r : Int))) S1 := by
    intro he
    rw [he] at hR
    refine hk S1 _ (hR ▸ hA1) (fun hb => ?_)
    have : r = j := by simp at hb; omega
    rw [← hR]; exact hrj this
  have e2 : IntKind.i64.wrap ((2 : Int) * (r : Int)) = ((2 * r : Nat) : Int) := by rw [IntKind.wrap_i64]; omega
  refine setI_mk e2 (setI_mk (i64_add1 (by omega)) (Join0.mid (fun S' => S' = S1 ∧ ¬ n ≤ 2 * r + 1) (ifC_dec (fun h1 => fin (siftDown_stop (by omega))) (fun h1 => ifC_neg (by omega) ⟨rfl, by omega⟩)) ?_))
  rintro S2 ⟨rfl, h1⟩
  obtain ⟨hc1, hc2⟩ := childOf_lt (lt := lessH) (first := 0) (d := d1) h1
  have ld : loadV S2 (.ptr h o) = some (rowV i pre.length n c t) := load_upd hA1.upd hld (by simpa using hne)
  refine Join1.mid (fun x S' => S' = S2 ∧ x = (childOf lessH n 0 r d1 : Nat)) (setI_mk (i64_add1 (by omega)) (ifC_dec (fun h2 => ?_) (fun h2 => ⟨rfl, ?_⟩))) ?_
  · refine ifS_mk (invoke_ld hM.less ld) (topk_hits_Less.spec hL hl hA1 hz1 (by omega) (by omega) (ifC_tt_ff (fun h3 => ⟨rfl, ?_⟩) (fun h3 => ⟨rfl, ?_⟩)))
    · rw [childOf, if_pos (by simp only [Bool.and_eq_true, decide_eq_true_eq, Nat.zero_add]; exact ⟨by omega, h3⟩)]
    · rw [childOf, if_neg (by simp only [Bool.and_eq_true, decide_eq_true_eq, Nat.zero_add]; rw [h3]; simp)]
  · rw [childOf, if_neg (by simp only [Bool.and_eq_true, decide_eq_true_eq]; omega)]
  rintro _ S3 ⟨rfl, rfl⟩
  generalize hch : childOf lessH n 0 r d1 = ch at hc1 hc2
  refine ifS_mk (invoke_ld hM.less ld) (topk_hits_Less.spec hL hl hA1 hz1 hc2 hrn (ifC_tt_ff (fun h3 => ?_) (fun h3 => ?_)))
  · exact fin (siftDown_no h1 (by rw [hch]; simpa using h3))
  · rw [siftDown_go h1 (by rw [hch]; simpa using h3), hch] at hR
    simp only [Nat.zero_add] at hR
    exact ifS_mk (invoke_ld hM.swap ld) (topk_hits_Swap.spec hSw hA1 hz1 hrn hc2 fun S4 hA4 hz4 => ⟨n - ch, by omega, ch, _, rfl, rfl, hc2, by omega, fun h => by omega, hz4, hA4, hR⟩)

theorem topk_hits_Len.spec (hF : topk_hits_Len.Ok P N) {S : St} {i o n c : Nat} {t : Bool} {K : Int → St → Prop} (hk : K (n : Int) S) : CallA P (N Fn.topk_hits_Len) [rowV i o n c t] S (retT [.one (.int .i64)] K) :=
  topk_hits_Len.run hF ⟨_, lenV_slice .., hk⟩

theorem container_heap_Fix.spec (hF : container_heap_Fix.Ok P N) (hU : container_heap_up.Ok P N) (hD : container_heap_down.Ok P N) (hM : HeapM P N) (hLn : topk_hits_Len.Ok P N) (hL : topk_hits_Less.Ok P N) (hSw : topk_hits_Swap.Ok P N) (hl : topk_Less.Spec P N)
    {S0 S : St} {i n c h o : Nat} {t : Bool} {pre post : List V} {d : Array Hit} {K : St → Prop}
    (hA : ArrAt hitE S0 i pre post S d) (hz : d.size = n) (hn : n < big) (hj : 0 < n) (hld : loadV S0 (.ptr h o) = some (rowV i pre.length n c t)) (hne : h ≠ i)
    (hk : ∀ S', ArrAt hitE S0 i pre post S' (siftDown lessH n 0 0 d) → K S') : CallA P (N Fn.container_heap_Fix) [.iface (N Fn.ty_ptopk_hits) (.ptr h o), .int .i64 0] S (retT [] K) := by
  have up0 : ∀ d : Array Hit, upH 0 d = d := fun d => by rw [upH, dif_pos rfl]
  refine container_heap_Fix.run hF (ifS_mk (invoke_ld hM.len (load_upd hA.upd hld (by simpa using hne))) (topk_hits_Len.spec hLn (container_heap_down.spec hD hM hL hSw hl (j := 0) hA hz hn hj hld hne fun S2 b hA2 hb => ifC_tt_ff (fun h1 => ?_) (fun h1 => hk _ hA2))))
  have hz2 : (siftDown lessH n 0 0 d).size = n := by rw [siftDown_size _ _ _ (Nat.le_refl _), hz]
  exact container_heap_up.spec hU hM hL hSw hl (j := 0) hA2 hz2 hn hj hld hne fun S3 hA3 _ => hk _ (by rw [up0] at hA3; exact hA3)

end Go.Th.L
end
