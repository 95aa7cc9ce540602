/- What the row of one statement stands on: a store, abstract code, functions of the program and their laws (ThTopkN). -/
import Derived.Test.YtdpehfhhbmmhjaaThBGwide
import Derived.Test.YtdpehfhhbmmhjaaThBM
import Derived.Test.YtdpehfhhbmmhjaaProg

section
/- The seat's numbering of the library's functions, and that they are the program's (printed by tools/seat.py). -/
namespace Go.Th.Topk
open Go Go.Th Go.Th.L
set_option maxRecDepth 100000
set_option maxHeartbeats 2000000

noncomputable abbrev PP := Go.Proofs.Try.prog
def tabN : List (Nat × Nat) := [(51, 3), (52, 8), (53, 9), (54, 10), (55, 4), (56, 11), (57, 12), (58, 13), (59, 14), (60, 15), (61, 16), (62, 5), (63, 17), (64, 18), (65, 19), (66, 6), (67, 20), (68, 21), (69, 22), (70, 23), (71, 7), (72, 24), (73, 25), (74, 26), (75, 27), (76, 28), (77, 59), (78, 26), (79, 29), (80, 30), (81, 32), (82, 33), (83, 31), (84, 34), (85, 35), (86, 37), (87, 36), (88, 38), (89, 39), (90, 40), (91, 41), (92, 42), (93, 43), (94, 44), (95, 45), (96, 46), (97, 47), (98, 48), (99, 49), (100, 50), (101, 51), (102, 52), (103, 53), (104, 54), (105, 72), (106, 73), (107, 74), (108, 75)]
def N (k : Nat) : Nat := match tabN.find? (fun p => p.1 == k) with
  | some p => p.2
  | none => 0
theorem has_law02_TopkLess : law02_TopkLess.Ok PP N := Reads.of (by kernel_rfl)
theorem has_law02_TopkMerges : law02_TopkMerges.Ok PP N := Reads.of (by kernel_rfl)
theorem has_law02_TopkOrder : law02_TopkOrder.Ok PP N := Reads.of (by kernel_rfl)
theorem has_law02_TopkOffers : law02_TopkOffers.Ok PP N := Reads.of (by kernel_rfl)
theorem has_law02_TopkNil : law02_TopkNil.Ok PP N := Reads.of (by kernel_rfl)
theorem has_topk_Less : topk_Less.Ok PP N := Reads.of (by kernel_rfl)
theorem has_ref02_Less : ref02_Less.Ok PP N := Reads.of (by kernel_rfl)
theorem has_law02_awake : law02_awake.Ok PP N := Reads.of (by kernel_rfl)
theorem has_law02_total : law02_total.Ok PP N := Reads.of (by kernel_rfl)
theorem has_law02_hit : law02_hit.Ok PP N := Reads.of (by kernel_rfl)
theorem has_topk_Merge : topk_Merge.Ok PP N := Reads.of (by kernel_rfl)
theorem has_ref02_Same : ref02_Same.Ok PP N := Reads.of (by kernel_rfl)
theorem has_law02_spoil : law02_spoil.Ok PP N := Reads.of (by kernel_rfl)
theorem has_ref02_First : ref02_First.Ok PP N := Reads.of (by kernel_rfl)
theorem has_topk_New : topk_New.Ok PP N := Reads.of (by kernel_rfl)
theorem has_topk_Heap_Offer : topk_Heap_Offer.Ok PP N := Reads.of (by kernel_rfl)
theorem has_topk_Heap_List : topk_Heap_List.Ok PP N := Reads.of (by kernel_rfl)
theorem has_ref02_With : ref02_With.Ok PP N := Reads.of (by kernel_rfl)
theorem has_topk_Heap_Worst : topk_Heap_Worst.Ok PP N := Reads.of (by kernel_rfl)
theorem has_topk_Heap_Len : topk_Heap_Len.Ok PP N := Reads.of (by kernel_rfl)
theorem has_topk_Heap_Full : topk_Heap_Full.Ok PP N := Reads.of (by kernel_rfl)
theorem has_topk_compare : topk_compare.Ok PP N := Reads.of (by kernel_rfl)
theorem has_topk_together_api_Hit : topk_together_api_Hit.Ok PP N := Reads.of (by kernel_rfl)
theorem has_ref02_Sorted : ref02_Sorted.Ok PP N := Reads.of (by kernel_rfl)
theorem has_container_heap_Push : container_heap_Push.Ok PP N := Reads.of (by kernel_rfl)
theorem has_container_heap_Fix : container_heap_Fix.Ok PP N := Reads.of (by kernel_rfl)
theorem has_slices_Clone_Lapi_Hit : slices_Clone_Lapi_Hit.Ok PP N := Reads.of (by kernel_rfl)
theorem has_slices_SortFunc_Lapi_Hit : slices_SortFunc_Lapi_Hit.Ok PP N := Reads.of (by kernel_rfl)
theorem has_cmp_Or_int : cmp_Or_int.Ok PP N := Reads.of (by kernel_rfl)
theorem has_wide_Cmp : wide_Cmp.Ok PP N := Reads.of (by kernel_rfl)
theorem has_cmp_Compare_int : cmp_Compare_int.Ok PP N := Reads.of (by kernel_rfl)
theorem has_container_heap_up : container_heap_up.Ok PP N := Reads.of (by kernel_rfl)
theorem has_container_heap_down : container_heap_down.Ok PP N := Reads.of (by kernel_rfl)
theorem has_slices_pdqsortCmpFunc_api_Hit : slices_pdqsortCmpFunc_api_Hit.Ok PP N := Reads.of (by kernel_rfl)
theorem has_math_bits_Len : math_bits_Len.Ok PP N := Reads.of (by kernel_rfl)
theorem has_cmp_isNaN_int : cmp_isNaN_int.Ok PP N := Reads.of (by kernel_rfl)
theorem has_slices_insertionSortCmpFunc_api_Hit : slices_insertionSortCmpFunc_api_Hit.Ok PP N := Reads.of (by kernel_rfl)
theorem has_slices_heapSortCmpFunc_api_Hit : slices_heapSortCmpFunc_api_Hit.Ok PP N := Reads.of (by kernel_rfl)
theorem has_slices_breakPatternsCmpFunc_api_Hit : slices_breakPatternsCmpFunc_api_Hit.Ok PP N := Reads.of (by kernel_rfl)
theorem has_slices_choosePivotCmpFunc_api_Hit : slices_choosePivotCmpFunc_api_Hit.Ok PP N := Reads.of (by kernel_rfl)
theorem has_slices_reverseRangeCmpFunc_api_Hit : slices_reverseRangeCmpFunc_api_Hit.Ok PP N := Reads.of (by kernel_rfl)
theorem has_slices_partialInsertionSortCmpFunc_api_Hit : slices_partialInsertionSortCmpFunc_api_Hit.Ok PP N := Reads.of (by kernel_rfl)
theorem has_slices_partitionEqualCmpFunc_api_Hit : slices_partitionEqualCmpFunc_api_Hit.Ok PP N := Reads.of (by kernel_rfl)
theorem has_slices_partitionCmpFunc_api_Hit : slices_partitionCmpFunc_api_Hit.Ok PP N := Reads.of (by kernel_rfl)
theorem has_math_bits_Len32 : math_bits_Len32.Ok PP N := Reads.of (by kernel_rfl)
theorem has_math_bits_Len64 : math_bits_Len64.Ok PP N := Reads.of (by kernel_rfl)
theorem has_slices_siftDownCmpFunc_api_Hit : slices_siftDownCmpFunc_api_Hit.Ok PP N := Reads.of (by kernel_rfl)
theorem has_slices_nextPowerOfTwo : slices_nextPowerOfTwo.Ok PP N := Reads.of (by kernel_rfl)
theorem has_slices_xorshift_Next : slices_xorshift_Next.Ok PP N := Reads.of (by kernel_rfl)
theorem has_slices_medianAdjacentCmpFunc_api_Hit : slices_medianAdjacentCmpFunc_api_Hit.Ok PP N := Reads.of (by kernel_rfl)
theorem has_slices_medianCmpFunc_api_Hit : slices_medianCmpFunc_api_Hit.Ok PP N := Reads.of (by kernel_rfl)
theorem has_slices_order2CmpFunc_api_Hit : slices_order2CmpFunc_api_Hit.Ok PP N := Reads.of (by kernel_rfl)
theorem has_topk_hits_Len : topk_hits_Len.Ok PP N := Reads.of (by kernel_rfl)
theorem has_topk_hits_Less : topk_hits_Less.Ok PP N := Reads.of (by kernel_rfl)
theorem has_topk_hits_Swap : topk_hits_Swap.Ok PP N := Reads.of (by kernel_rfl)
theorem has_topk_hits_Push : topk_hits_Push.Ok PP N := Reads.of (by kernel_rfl)
noncomputable def tabF (f : Nat) : Option AF := afun PP f
theorem tabF_ok : ∀ f F, tabF f = some F → afun PP f = some F := fun _ _ h => h
def okF (f : Nat) : Bool := [3, 4, 5, 6, 7, 8, 9, 10, 11, 12, 13, 14, 15, 16, 17, 18, 19, 20, 21, 22, 23, 24, 25, 26, 27, 28, 29, 30, 31, 32, 33, 34, 35, 36, 37, 38, 39, 40, 41, 42, 43, 44, 45, 46, 47, 48, 49, 50, 51, 52, 53, 54, 72, 73, 74, 75].contains f
theorem okF_ok : ∀ f, okF f = true → canEnter PP f = true := by
  intro f h
  have hm : f ∈ [3, 4, 5, 6, 7, 8, 9, 10, 11, 12, 13, 14, 15, 16, 17, 18, 19, 20, 21, 22, 23, 24, 25, 26, 27, 28, 29, 30, 31, 32, 33, 34, 35, 36, 37, 38, 39, 40, 41, 42, 43, 44, 45, 46, 47, 48, 49, 50, 51, 52, 53, 54, 72, 73, 74, 75] := by simpa [okF] using h
  have hall : ([3, 4, 5, 6, 7, 8, 9, 10, 11, 12, 13, 14, 15, 16, 17, 18, 19, 20, 21, 22, 23, 24, 25, 26, 27, 28, 29, 30, 31, 32, 33, 34, 35, 36, 37, 38, 39, 40, 41, 42, 43, 44, 45, 46, 47, 48, 49, 50, 51, 52, 53, 54, 72, 73, 74, 75].all fun f => canEnter PP f) = true := by kernel_rfl
  exact List.all_eq_true.mp hall f hm
noncomputable def envF : Env := ⟨okF, methEntry PP⟩
theorem envF_ok : EnvOk PP envF := ⟨okF_ok, fun _ _ _ h => h⟩
end Go.Th.Topk
end
