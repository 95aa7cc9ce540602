/- What the row of one statement stands on: a store, abstract code, functions of the program and their laws (ThTopkAll2). -/
import Derived.Test.YtdpehfhhbmmhjaaThBTopkAll
import Derived.Test.YtdpehfhhbmmhjaaThBHlaw02c

section
/- The seat's functions, each by its law: sorting, the heap, merging. -/
set_option linter.unusedVariables false
namespace Go.Th.Topk
open Go Go.Th Go.Th.L Go.Th.Pure

theorem s_canC : canEnter PP (N Fn.topk_compare) = true := by kernel_rfl
theorem s_cmpIs : CmpIs PP (.func (.func (N Fn.topk_compare)) [] []) lessH := cmp_is s_compare s_canC
theorem s_ins : slices_insertionSortCmpFunc_api_Hit.Spec PP N := slices_insertionSortCmpFunc_api_Hit.spec has_slices_insertionSortCmpFunc_api_Hit
theorem s_sift : slices_siftDownCmpFunc_api_Hit.Spec PP N := slices_siftDownCmpFunc_api_Hit.spec has_slices_siftDownCmpFunc_api_Hit
theorem s_heap : slices_heapSortCmpFunc_api_Hit.Spec PP N := slices_heapSortCmpFunc_api_Hit.spec has_slices_heapSortCmpFunc_api_Hit s_sift
theorem s_rev : slices_reverseRangeCmpFunc_api_Hit.Spec PP N := slices_reverseRangeCmpFunc_api_Hit.spec has_slices_reverseRangeCmpFunc_api_Hit
theorem s_order2 : slices_order2CmpFunc_api_Hit.Spec PP N := slices_order2CmpFunc_api_Hit.spec has_slices_order2CmpFunc_api_Hit
theorem s_median : slices_medianCmpFunc_api_Hit.Spec PP N := slices_medianCmpFunc_api_Hit.spec has_slices_medianCmpFunc_api_Hit s_order2
theorem s_medianA : slices_medianAdjacentCmpFunc_api_Hit.Spec PP N := slices_medianAdjacentCmpFunc_api_Hit.spec has_slices_medianAdjacentCmpFunc_api_Hit s_median
theorem s_part : slices_partitionCmpFunc_api_Hit.Spec PP N := slices_partitionCmpFunc_api_Hit.spec has_slices_partitionCmpFunc_api_Hit
theorem s_partE : slices_partitionEqualCmpFunc_api_Hit.Spec PP N := slices_partitionEqualCmpFunc_api_Hit.spec has_slices_partitionEqualCmpFunc_api_Hit
theorem s_pins : slices_partialInsertionSortCmpFunc_api_Hit.Spec PP N := slices_partialInsertionSortCmpFunc_api_Hit.spec has_slices_partialInsertionSortCmpFunc_api_Hit
theorem s_choose : slices_choosePivotCmpFunc_api_Hit.Spec PP N := slices_choosePivotCmpFunc_api_Hit.spec has_slices_choosePivotCmpFunc_api_Hit s_median s_medianA
theorem s_len64 : math_bits_Len64.Spec PP N := math_bits_Len64.spec has_math_bits_Len64
theorem s_lenB : math_bits_Len.Spec PP N := math_bits_Len.spec has_math_bits_Len s_len64
theorem s_next2 : slices_nextPowerOfTwo.Spec PP N := slices_nextPowerOfTwo.spec has_slices_nextPowerOfTwo s_lenB
theorem s_xor : slices_xorshift_Next.Spec PP N := slices_xorshift_Next.spec has_slices_xorshift_Next
theorem s_break : slices_breakPatternsCmpFunc_api_Hit.Spec PP N := slices_breakPatternsCmpFunc_api_Hit.spec has_slices_breakPatternsCmpFunc_api_Hit s_xor s_next2
theorem s_pdq (w : Nat) : slices_pdqsortCmpFunc_api_Hit.SpecAt PP N w := slices_pdqsortCmpFunc_api_Hit.spec has_slices_pdqsortCmpFunc_api_Hit s_ins s_heap s_break s_choose s_rev s_pins s_partE s_part w
theorem s_sortF : slices_SortFunc_Lapi_Hit.Spec PP N := slices_SortFunc_Lapi_Hit.spec has_slices_SortFunc_Lapi_Hit s_lenB s_pdq

theorem s_sortOk : SortOk PP N := ⟨s_sortF, has_slices_SortFunc_Lapi_Hit, has_slices_pdqsortCmpFunc_api_Hit, has_slices_insertionSortCmpFunc_api_Hit, s_lenB, s_cmpIs⟩
theorem s_heapM : HeapM PP N := ⟨by kernel_rfl, by kernel_rfl, by kernel_rfl, by kernel_rfl⟩
theorem s_heapOk : HeapOk PP N := ⟨s_heapM, has_topk_hits_Push, has_topk_hits_Len, has_topk_hits_Less, has_topk_hits_Swap, has_container_heap_up, has_container_heap_down, has_container_heap_Push, has_container_heap_Fix, s_Less⟩
theorem s_mergeOk : MergeOk PP N := ⟨topk_New.spec has_topk_New, topk_Heap_Offer.spec has_topk_Heap_Offer s_heapOk, has_topk_Heap_List, has_slices_Clone_Lapi_Hit, s_sortOk, has_topk_together_api_Hit⟩
theorem s_law02 : Law02Ok PP N := ⟨has_topk_Merge, s_mergeOk, has_law02_total, has_law02_hit, has_law02_spoil, has_ref02_Same, has_ref02_First, has_ref02_Sorted, has_ref02_With, s_Less2, s_awake⟩

theorem has_hitC {S : St} {cs : List V} (h : Has S hitSh cs) : ∃ a : Hit, cs = hcells a := has_hit (S := S) ⟨cs, rfl, by simpa [hitSh, Has] using h⟩

theorem has_hitsE {S : St} : ∀ {n : Nat} {es : List V} (hl : es.length = n * 3) (h : ∀ m, m < n → Has S hitSh ((es.drop (m * 3)).take 3)), ∃ l : List Hit, l.length = n ∧ es = (hitsE l).flatten
  | 0, es, hl, _ => ⟨[], rfl, List.length_eq_zero_iff.mp (by omega)⟩
  | n + 1, es, hl, h => by
    obtain ⟨l, h1, h2⟩ := has_hitsE (S := S) (n := n) (es := es.drop 3) (by rw [List.length_drop]; omega) fun m hm => by
      have := h (m + 1) (by omega)
      rw [List.drop_drop]
      rwa [show 3 + m * 3 = (m + 1) * 3 by omega]
    obtain ⟨a, ha⟩ := has_hitC (h 0 (by omega))
    rw [Nat.zero_mul, List.drop_zero] at ha
    refine ⟨a :: l, by simp [h1], ?_⟩
    rw [← List.take_append_drop 3 es, ha, h2]
    rfl

theorem has_hits {S : St} {v : V} {n : Nat} {es : List V} (hs : SlAt S 3 v n es) (h : ∀ m, m < n → Has S hitSh ((es.drop (m * 3)).take 3)) : ∃ l : List Hit, l.length = n ∧ HitsAt S v l := by
  obtain ⟨l, h1, rfl⟩ := has_hitsE hs.2.1 h
  exact ⟨l, h1, HitsAt.mk (by rw [h1]; exact hs)⟩

theorem has_lists {S : St} : ∀ {n : Nat} {es : List V} (hl : es.length = n * 1) (h : ∀ m, m < n → Has S (.slice 3 24 hitSh) ((es.drop (m * 1)).take 1)),
    ∃ ls : List (List Hit), ls.length = n ∧ (∀ j (h1 : j < es.length) (h2 : j < ls.length), HitsAt S es[j] ls[j]) ∧ ∀ l ∈ ls, l.length < 4611686018427387904
  | 0, es, hl, _ => ⟨[], rfl, fun j h1 h2 => by simp at h2, by simp⟩
  | n + 1, es, hl, h => by
    match es with
    | [] => simp at hl
    | e :: es =>
      obtain ⟨ls, h1, h2, h3⟩ := has_lists (S := S) (n := n) (es := es) (by simpa using hl) fun m hm => by
        have := h (m + 1) (by omega)
        simpa using this
      have h0 := h 0 (by omega)
      simp only [Nat.zero_mul, List.drop_zero, List.take_succ_cons, List.take_zero, Has] at h0
      obtain ⟨v, k, fs, hv, hsl, hr, hfs⟩ := h0
      simp only [List.cons.injEq, and_true] at hv
      subst hv
      obtain ⟨l, hl1, hl2⟩ := has_hits hsl hfs
      refine ⟨l :: ls, by simp [h1], ?_, ?_⟩
      · intro j q1 q2
        cases j with
        | zero => exact hl2
        | succ j => exact h2 j (by simpa using q1) (by simpa using q2)
      · intro q hq
        rcases List.mem_cons.mp hq with rfl | hq
        · have : reachBytes = 140737488351232 := rfl
          omega
        · exact h3 q hq

def law4_shapes : List Sh := [Sh.int IntKind.i64, Sh.slice 1 24 (Sh.slice 3 24 hitSh)]
theorem law4_spec (S : St) (av : List V) (hw : S.Wf) (h : HasAs S law4_shapes av) : CallA PP 4 av S (fun r _ => r = .ret (.bool true)) := by
  rw [← (show N Fn.law02_TopkMerges = 4 from by kernel_rfl)]
  simp only [law4_shapes, HasAs, HasA] at h
  obtain ⟨_, _, rfl, hk, _, _, rfl, hv, rfl⟩ := h
  simp only [Has] at hk hv
  obtain ⟨k, hk, _⟩ := hk
  obtain ⟨v, n, es, hv, hsl, hr, hes⟩ := hv
  cases hk; cases hv
  obtain ⟨ls, h1, h2, h3⟩ := has_lists (S := S) hsl.2.1 fun m hm => by simp only [Has]; exact hes m hm
  have he := hsl.2.1
  rw [Nat.mul_one] at he
  have hn := hsl.1
  subst he
  have : reachBytes = 140737488351232 := rfl
  exact (law02_TopkMerges.spec has_law02_TopkMerges s_law02 (vs := es) hw ⟨h1.symm, hsl, h2⟩ (by omega) h3 (K := fun b _ => b = true) (fun _ => rfl)).mono fun r S' h => retT_true h

def law5_shapes : List Sh := [Sh.int IntKind.i64, Sh.slice 3 24 hitSh, Sh.int IntKind.i64]
theorem law5_spec (S : St) (av : List V) (hw : S.Wf) (h : HasAs S law5_shapes av) : CallA PP 5 av S (fun r _ => r = .ret (.bool true)) := by
  rw [← (show N Fn.law02_TopkOrder = 5 from by kernel_rfl)]
  simp only [law5_shapes, HasAs, HasA] at h
  obtain ⟨_, _, rfl, hk, _, _, rfl, hv, _, _, rfl, hc, rfl⟩ := h
  simp only [Has] at hk hv hc
  obtain ⟨k, hk, _⟩ := hk
  obtain ⟨c, hc, hcw⟩ := hc
  obtain ⟨v, n, es, hv, hsl, hr, hes⟩ := hv
  cases hk; cases hv; cases hc
  obtain ⟨l, h1, h2⟩ := has_hits hsl hes
  have hn := hsl.1
  have : reachBytes = 140737488351232 := rfl
  exact (law02_TopkOrder.spec has_law02_TopkOrder s_law02 hw h2 (by omega) (lit_i64 hcw) (K := fun b _ => b = true) (fun _ => rfl)).mono fun r S' h => retT_true h

end Go.Th.Topk
end
