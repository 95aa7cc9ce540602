/- The seat's numbering of the library's functions, and that they are the program's (printed by tools/seat.py). -/
import Derived.Test.YtdpehfhhbmmhjaaThGcmp
import Derived.Test.YtdpehfhhbmmhjaaThGcontainer
import Derived.Test.YtdpehfhhbmmhjaaThGlaw02
import Derived.Test.YtdpehfhhbmmhjaaThGmath
import Derived.Test.YtdpehfhhbmmhjaaThGref02
import Derived.Test.YtdpehfhhbmmhjaaThGslices
import Derived.Test.YtdpehfhhbmmhjaaThGtopk
import Derived.Test.YtdpehfhhbmmhjaaThGwide
import Derived.Test.YtdpehfhhbmmhjaaThL
import Derived.Test.YtdpehfhhbmmhjaaProg
namespace Go.Th.Topk
open Go Go.Th Go.Th.L
set_option maxRecDepth 100000

noncomputable abbrev PP := Go.Proofs.Try.prog
def tabN : List (Nat × Nat) := [(51, 3), (52, 8), (53, 9), (54, 10), (55, 4), (56, 11), (57, 12), (58, 13), (59, 14), (60, 15), (61, 16), (62, 5), (63, 17), (64, 18), (65, 19), (66, 6), (67, 20), (68, 21), (69, 22), (70, 23), (71, 7), (72, 24), (73, 25), (74, 26), (75, 27), (76, 28), (77, 59), (78, 26), (79, 29), (80, 30), (81, 32), (82, 33), (83, 31), (84, 34), (85, 35), (86, 37), (87, 36), (88, 38), (89, 39), (90, 40), (91, 41), (92, 42), (93, 43), (94, 44), (95, 45), (96, 46), (97, 47), (98, 48), (99, 49), (100, 50), (101, 51), (102, 52), (103, 53), (104, 54), (105, 72), (106, 73), (107, 74), (108, 75)]
def N (k : Nat) : Nat := match tabN.find? (fun p => p.1 == k) with
  | some p => p.2
  | none => 0
theorem has_law02_TopkLess : afun PP (N Fn.law02_TopkLess) = some (law02_TopkLess.F N) := by kernel_rfl
theorem has_law02_TopkMerges : afun PP (N Fn.law02_TopkMerges) = some (law02_TopkMerges.F N) := by kernel_rfl
theorem has_law02_TopkOrder : afun PP (N Fn.law02_TopkOrder) = some (law02_TopkOrder.F N) := by kernel_rfl
theorem has_law02_TopkOffers : afun PP (N Fn.law02_TopkOffers) = some (law02_TopkOffers.F N) := by kernel_rfl
theorem has_law02_TopkNil : afun PP (N Fn.law02_TopkNil) = some (law02_TopkNil.F N) := by kernel_rfl
theorem has_topk_Less : afun PP (N Fn.topk_Less) = some (topk_Less.F N) := by kernel_rfl
theorem has_ref02_Less : afun PP (N Fn.ref02_Less) = some (ref02_Less.F N) := by kernel_rfl
theorem has_law02_awake : afun PP (N Fn.law02_awake) = some (law02_awake.F N) := by kernel_rfl
theorem has_law02_total : afun PP (N Fn.law02_total) = some (law02_total.F N) := by kernel_rfl
theorem has_law02_hit : afun PP (N Fn.law02_hit) = some (law02_hit.F N) := by kernel_rfl
theorem has_topk_Merge : afun PP (N Fn.topk_Merge) = some (topk_Merge.F N) := by kernel_rfl
theorem has_ref02_Same : afun PP (N Fn.ref02_Same) = some (ref02_Same.F N) := by kernel_rfl
theorem has_law02_spoil : afun PP (N Fn.law02_spoil) = some (law02_spoil.F N) := by kernel_rfl
theorem has_ref02_First : afun PP (N Fn.ref02_First) = some (ref02_First.F N) := by kernel_rfl
theorem has_topk_New : afun PP (N Fn.topk_New) = some (topk_New.F N) := by kernel_rfl
theorem has_topk_Heap_Offer : afun PP (N Fn.topk_Heap_Offer) = some (topk_Heap_Offer.F N) := by kernel_rfl
theorem has_topk_Heap_List : afun PP (N Fn.topk_Heap_List) = some (topk_Heap_List.F N) := by kernel_rfl
theorem has_ref02_With : afun PP (N Fn.ref02_With) = some (ref02_With.F N) := by kernel_rfl
theorem has_topk_Heap_Worst : afun PP (N Fn.topk_Heap_Worst) = some (topk_Heap_Worst.F N) := by kernel_rfl
theorem has_topk_Heap_Len : afun PP (N Fn.topk_Heap_Len) = some (topk_Heap_Len.F N) := by kernel_rfl
theorem has_topk_Heap_Full : afun PP (N Fn.topk_Heap_Full) = some (topk_Heap_Full.F N) := by kernel_rfl
theorem has_topk_compare : afun PP (N Fn.topk_compare) = some (topk_compare.F N) := by kernel_rfl
theorem has_topk_together_api_Hit : afun PP (N Fn.topk_together_api_Hit) = some (topk_together_api_Hit.F N) := by kernel_rfl
theorem has_ref02_Sorted : afun PP (N Fn.ref02_Sorted) = some (ref02_Sorted.F N) := by kernel_rfl
theorem has_container_heap_Push : afun PP (N Fn.container_heap_Push) = some (container_heap_Push.F N) := by kernel_rfl
theorem has_container_heap_Fix : afun PP (N Fn.container_heap_Fix) = some (container_heap_Fix.F N) := by kernel_rfl
theorem has_slices_Clone_Lapi_Hit : afun PP (N Fn.slices_Clone_Lapi_Hit) = some (slices_Clone_Lapi_Hit.F N) := by kernel_rfl
theorem has_slices_SortFunc_Lapi_Hit : afun PP (N Fn.slices_SortFunc_Lapi_Hit) = some (slices_SortFunc_Lapi_Hit.F N) := by kernel_rfl
theorem has_cmp_Or_int : afun PP (N Fn.cmp_Or_int) = some (cmp_Or_int.F N) := by kernel_rfl
theorem has_wide_Cmp : afun PP (N Fn.wide_Cmp) = some (wide_Cmp.F N) := by kernel_rfl
theorem has_cmp_Compare_int : afun PP (N Fn.cmp_Compare_int) = some (cmp_Compare_int.F N) := by kernel_rfl
theorem has_container_heap_up : afun PP (N Fn.container_heap_up) = some (container_heap_up.F N) := by kernel_rfl
theorem has_container_heap_down : afun PP (N Fn.container_heap_down) = some (container_heap_down.F N) := by kernel_rfl
theorem has_slices_pdqsortCmpFunc_api_Hit : afun PP (N Fn.slices_pdqsortCmpFunc_api_Hit) = some (slices_pdqsortCmpFunc_api_Hit.F N) := by kernel_rfl
theorem has_math_bits_Len : afun PP (N Fn.math_bits_Len) = some (math_bits_Len.F N) := by kernel_rfl
theorem has_cmp_isNaN_int : afun PP (N Fn.cmp_isNaN_int) = some (cmp_isNaN_int.F N) := by kernel_rfl
theorem has_slices_insertionSortCmpFunc_api_Hit : afun PP (N Fn.slices_insertionSortCmpFunc_api_Hit) = some (slices_insertionSortCmpFunc_api_Hit.F N) := by kernel_rfl
theorem has_slices_heapSortCmpFunc_api_Hit : afun PP (N Fn.slices_heapSortCmpFunc_api_Hit) = some (slices_heapSortCmpFunc_api_Hit.F N) := by kernel_rfl
theorem has_slices_breakPatternsCmpFunc_api_Hit : afun PP (N Fn.slices_breakPatternsCmpFunc_api_Hit) = some (slices_breakPatternsCmpFunc_api_Hit.F N) := by kernel_rfl
theorem has_slices_choosePivotCmpFunc_api_Hit : afun PP (N Fn.slices_choosePivotCmpFunc_api_Hit) = some (slices_choosePivotCmpFunc_api_Hit.F N) := by kernel_rfl
theorem has_slices_reverseRangeCmpFunc_api_Hit : afun PP (N Fn.slices_reverseRangeCmpFunc_api_Hit) = some (slices_reverseRangeCmpFunc_api_Hit.F N) := by kernel_rfl
theorem has_slices_partialInsertionSortCmpFunc_api_Hit : afun PP (N Fn.slices_partialInsertionSortCmpFunc_api_Hit) = some (slices_partialInsertionSortCmpFunc_api_Hit.F N) := by kernel_rfl
theorem has_slices_partitionEqualCmpFunc_api_Hit : afun PP (N Fn.slices_partitionEqualCmpFunc_api_Hit) = some (slices_partitionEqualCmpFunc_api_Hit.F N) := by kernel_rfl
theorem has_slices_partitionCmpFunc_api_Hit : afun PP (N Fn.slices_partitionCmpFunc_api_Hit) = some (slices_partitionCmpFunc_api_Hit.F N) := by kernel_rfl
theorem has_math_bits_Len32 : afun PP (N Fn.math_bits_Len32) = some (math_bits_Len32.F N) := by kernel_rfl
theorem has_math_bits_Len64 : afun PP (N Fn.math_bits_Len64) = some (math_bits_Len64.F N) := by kernel_rfl
theorem has_slices_siftDownCmpFunc_api_Hit : afun PP (N Fn.slices_siftDownCmpFunc_api_Hit) = some (slices_siftDownCmpFunc_api_Hit.F N) := by kernel_rfl
theorem has_slices_nextPowerOfTwo : afun PP (N Fn.slices_nextPowerOfTwo) = some (slices_nextPowerOfTwo.F N) := by kernel_rfl
theorem has_slices_xorshift_Next : afun PP (N Fn.slices_xorshift_Next) = some (slices_xorshift_Next.F N) := by kernel_rfl
theorem has_slices_medianAdjacentCmpFunc_api_Hit : afun PP (N Fn.slices_medianAdjacentCmpFunc_api_Hit) = some (slices_medianAdjacentCmpFunc_api_Hit.F N) := by kernel_rfl
theorem has_slices_medianCmpFunc_api_Hit : afun PP (N Fn.slices_medianCmpFunc_api_Hit) = some (slices_medianCmpFunc_api_Hit.F N) := by kernel_rfl
theorem has_slices_order2CmpFunc_api_Hit : afun PP (N Fn.slices_order2CmpFunc_api_Hit) = some (slices_order2CmpFunc_api_Hit.F N) := by kernel_rfl
theorem has_topk_hits_Len : afun PP (N Fn.topk_hits_Len) = some (topk_hits_Len.F N) := by kernel_rfl
theorem has_topk_hits_Less : afun PP (N Fn.topk_hits_Less) = some (topk_hits_Less.F N) := by kernel_rfl
theorem has_topk_hits_Swap : afun PP (N Fn.topk_hits_Swap) = some (topk_hits_Swap.F N) := by kernel_rfl
theorem has_topk_hits_Push : afun PP (N Fn.topk_hits_Push) = some (topk_hits_Push.F N) := by kernel_rfl
def tabL : List (Nat × AF) := [(3, law02_TopkLess.F N), (4, law02_TopkMerges.F N), (5, law02_TopkOrder.F N), (6, law02_TopkOffers.F N), (7, law02_TopkNil.F N), (8, topk_Less.F N), (9, ref02_Less.F N), (10, law02_awake.F N), (11, law02_total.F N), (12, law02_hit.F N), (13, topk_Merge.F N), (14, ref02_Same.F N), (15, law02_spoil.F N), (16, ref02_First.F N), (17, topk_New.F N), (18, topk_Heap_Offer.F N), (19, topk_Heap_List.F N), (20, ref02_With.F N), (21, topk_Heap_Worst.F N), (22, topk_Heap_Len.F N), (23, topk_Heap_Full.F N), (24, topk_compare.F N), (25, topk_together_api_Hit.F N), (26, ref02_Sorted.F N), (27, container_heap_Push.F N), (28, container_heap_Fix.F N), (29, slices_Clone_Lapi_Hit.F N), (30, slices_SortFunc_Lapi_Hit.F N), (31, cmp_Or_int.F N), (32, wide_Cmp.F N), (33, cmp_Compare_int.F N), (34, container_heap_up.F N), (35, container_heap_down.F N), (36, slices_pdqsortCmpFunc_api_Hit.F N), (37, math_bits_Len.F N), (38, cmp_isNaN_int.F N), (39, slices_insertionSortCmpFunc_api_Hit.F N), (40, slices_heapSortCmpFunc_api_Hit.F N), (41, slices_breakPatternsCmpFunc_api_Hit.F N), (42, slices_choosePivotCmpFunc_api_Hit.F N), (43, slices_reverseRangeCmpFunc_api_Hit.F N), (44, slices_partialInsertionSortCmpFunc_api_Hit.F N), (45, slices_partitionEqualCmpFunc_api_Hit.F N), (46, slices_partitionCmpFunc_api_Hit.F N), (47, math_bits_Len32.F N), (48, math_bits_Len64.F N), (49, slices_siftDownCmpFunc_api_Hit.F N), (50, slices_nextPowerOfTwo.F N), (51, slices_xorshift_Next.F N), (52, slices_medianAdjacentCmpFunc_api_Hit.F N), (53, slices_medianCmpFunc_api_Hit.F N), (54, slices_order2CmpFunc_api_Hit.F N), (72, topk_hits_Len.F N), (73, topk_hits_Less.F N), (74, topk_hits_Swap.F N), (75, topk_hits_Push.F N)]
theorem tabL_ok : ∀ p ∈ tabL, afun PP p.1 = some p.2 := by
  unfold tabL
  refine List.forall_mem_cons.mpr ⟨has_law02_TopkLess, ?_⟩
  refine List.forall_mem_cons.mpr ⟨has_law02_TopkMerges, ?_⟩
  refine List.forall_mem_cons.mpr ⟨has_law02_TopkOrder, ?_⟩
  refine List.forall_mem_cons.mpr ⟨has_law02_TopkOffers, ?_⟩
  refine List.forall_mem_cons.mpr ⟨has_law02_TopkNil, ?_⟩
  refine List.forall_mem_cons.mpr ⟨has_topk_Less, ?_⟩
  refine List.forall_mem_cons.mpr ⟨has_ref02_Less, ?_⟩
  refine List.forall_mem_cons.mpr ⟨has_law02_awake, ?_⟩
  refine List.forall_mem_cons.mpr ⟨has_law02_total, ?_⟩
  refine List.forall_mem_cons.mpr ⟨has_law02_hit, ?_⟩
  refine List.forall_mem_cons.mpr ⟨has_topk_Merge, ?_⟩
  refine List.forall_mem_cons.mpr ⟨has_ref02_Same, ?_⟩
  refine List.forall_mem_cons.mpr ⟨has_law02_spoil, ?_⟩
  refine List.forall_mem_cons.mpr ⟨has_ref02_First, ?_⟩
  refine List.forall_mem_cons.mpr ⟨has_topk_New, ?_⟩
  refine List.forall_mem_cons.mpr ⟨has_topk_Heap_Offer, ?_⟩
  refine List.forall_mem_cons.mpr ⟨has_topk_Heap_List, ?_⟩
  refine List.forall_mem_cons.mpr ⟨has_ref02_With, ?_⟩
  refine List.forall_mem_cons.mpr ⟨has_topk_Heap_Worst, ?_⟩
  refine List.forall_mem_cons.mpr ⟨has_topk_Heap_Len, ?_⟩
  refine List.forall_mem_cons.mpr ⟨has_topk_Heap_Full, ?_⟩
  refine List.forall_mem_cons.mpr ⟨has_topk_compare, ?_⟩
  refine List.forall_mem_cons.mpr ⟨has_topk_together_api_Hit, ?_⟩
  refine List.forall_mem_cons.mpr ⟨has_ref02_Sorted, ?_⟩
  refine List.forall_mem_cons.mpr ⟨has_container_heap_Push, ?_⟩
  refine List.forall_mem_cons.mpr ⟨has_container_heap_Fix, ?_⟩
  refine List.forall_mem_cons.mpr ⟨has_slices_Clone_Lapi_Hit, ?_⟩
  refine List.forall_mem_cons.mpr ⟨has_slices_SortFunc_Lapi_Hit, ?_⟩
  refine List.forall_mem_cons.mpr ⟨has_cmp_Or_int, ?_⟩
  refine List.forall_mem_cons.mpr ⟨has_wide_Cmp, ?_⟩
  refine List.forall_mem_cons.mpr ⟨has_cmp_Compare_int, ?_⟩
  refine List.forall_mem_cons.mpr ⟨has_container_heap_up, ?_⟩
  refine List.forall_mem_cons.mpr ⟨has_container_heap_down, ?_⟩
  refine List.forall_mem_cons.mpr ⟨has_slices_pdqsortCmpFunc_api_Hit, ?_⟩
  refine List.forall_mem_cons.mpr ⟨has_math_bits_Len, ?_⟩
  refine List.forall_mem_cons.mpr ⟨has_cmp_isNaN_int, ?_⟩
  refine List.forall_mem_cons.mpr ⟨has_slices_insertionSortCmpFunc_api_Hit, ?_⟩
  refine List.forall_mem_cons.mpr ⟨has_slices_heapSortCmpFunc_api_Hit, ?_⟩
  refine List.forall_mem_cons.mpr ⟨has_slices_breakPatternsCmpFunc_api_Hit, ?_⟩
  refine List.forall_mem_cons.mpr ⟨has_slices_choosePivotCmpFunc_api_Hit, ?_⟩
  refine List.forall_mem_cons.mpr ⟨has_slices_reverseRangeCmpFunc_api_Hit, ?_⟩
  refine List.forall_mem_cons.mpr ⟨has_slices_partialInsertionSortCmpFunc_api_Hit, ?_⟩
  refine List.forall_mem_cons.mpr ⟨has_slices_partitionEqualCmpFunc_api_Hit, ?_⟩
  refine List.forall_mem_cons.mpr ⟨has_slices_partitionCmpFunc_api_Hit, ?_⟩
  refine List.forall_mem_cons.mpr ⟨has_math_bits_Len32, ?_⟩
  refine List.forall_mem_cons.mpr ⟨has_math_bits_Len64, ?_⟩
  refine List.forall_mem_cons.mpr ⟨has_slices_siftDownCmpFunc_api_Hit, ?_⟩
  refine List.forall_mem_cons.mpr ⟨has_slices_nextPowerOfTwo, ?_⟩
  refine List.forall_mem_cons.mpr ⟨has_slices_xorshift_Next, ?_⟩
  refine List.forall_mem_cons.mpr ⟨has_slices_medianAdjacentCmpFunc_api_Hit, ?_⟩
  refine List.forall_mem_cons.mpr ⟨has_slices_medianCmpFunc_api_Hit, ?_⟩
  refine List.forall_mem_cons.mpr ⟨has_slices_order2CmpFunc_api_Hit, ?_⟩
  refine List.forall_mem_cons.mpr ⟨has_topk_hits_Len, ?_⟩
  refine List.forall_mem_cons.mpr ⟨has_topk_hits_Less, ?_⟩
  refine List.forall_mem_cons.mpr ⟨has_topk_hits_Swap, ?_⟩
  refine List.forall_mem_cons.mpr ⟨has_topk_hits_Push, ?_⟩
  intro p h; cases h
def tabF (f : Nat) : Option AF := (tabL.find? (·.1 == f)).map (·.2)
theorem tabF_ok : ∀ f F, tabF f = some F → afun PP f = some F := by
  intro f F h
  unfold tabF at h
  cases hf : tabL.find? (·.1 == f) with
  | none => rw [hf] at h; cases h
  | some p =>
    rw [hf] at h; cases h
    have h1 := List.mem_of_find?_eq_some hf
    have h2 := List.find?_some hf
    have h3 : p.1 = f := by simpa using h2
    rw [← h3]; exact tabL_ok p h1
def okF (f : Nat) : Bool := [3, 4, 5, 6, 7, 8, 9, 10, 11, 12, 13, 14, 15, 16, 17, 18, 19, 20, 21, 22, 23, 24, 25, 26, 27, 28, 29, 30, 31, 32, 33, 34, 35, 36, 37, 38, 39, 40, 41, 42, 43, 44, 45, 46, 47, 48, 49, 50, 51, 52, 53, 54, 72, 73, 74, 75].contains f
theorem okF_ok : ∀ f, okF f = true → canEnter PP f = true := by
  intro f h
  have hm : f ∈ [3, 4, 5, 6, 7, 8, 9, 10, 11, 12, 13, 14, 15, 16, 17, 18, 19, 20, 21, 22, 23, 24, 25, 26, 27, 28, 29, 30, 31, 32, 33, 34, 35, 36, 37, 38, 39, 40, 41, 42, 43, 44, 45, 46, 47, 48, 49, 50, 51, 52, 53, 54, 72, 73, 74, 75] := by simpa [okF] using h
  have hall : ([3, 4, 5, 6, 7, 8, 9, 10, 11, 12, 13, 14, 15, 16, 17, 18, 19, 20, 21, 22, 23, 24, 25, 26, 27, 28, 29, 30, 31, 32, 33, 34, 35, 36, 37, 38, 39, 40, 41, 42, 43, 44, 45, 46, 47, 48, 49, 50, 51, 52, 53, 54, 72, 73, 74, 75].all fun f => canEnter PP f) = true := by kernel_rfl
  exact List.all_eq_true.mp hall f hm
noncomputable def envF : Env := ⟨okF, methEntry PP⟩
theorem envF_ok : EnvOk PP envF := ⟨okF_ok, fun _ _ _ h => h⟩
end Go.Th.Topk
