/- What the row of one statement stands on: a store, abstract code, functions of the program and their laws (ThCertN). -/
import Derived.Test.YtdjocmcbibedhaaThBGref13
import Derived.Test.YtdjocmcbibedhaaThBGvec
import Derived.Test.YtdjocmcbibedhaaThBR4
import Derived.Test.YtdjocmcbibedhaaProg

section
/- The seat's numbering of the library's functions, and that they are the program's (printed by tools/seat.py). -/
namespace Go.Th.Cert
open Go Go.Th Go.Th.L
set_option maxRecDepth 100000
set_option maxHeartbeats 2000000

noncomputable abbrev PP := Go.Proofs.Try.prog
def tabN : List (Nat × Nat) := [(37, 14), (42, 37), (47, 35), (50, 34), (52, 41), (63, 22), (64, 24), (65, 25), (69, 90), (72, 45), (75, 40), (76, 42), (77, 86), (78, 42), (79, 43), (80, 44), (81, 16), (82, 53), (83, 52), (84, 48), (85, 49), (86, 51), (87, 50), (88, 65), (89, 55), (90, 56), (91, 57), (92, 58), (93, 59), (94, 60), (95, 61), (96, 62), (97, 63), (98, 64), (99, 66), (100, 67), (101, 68), (102, 69), (103, 70), (104, 71), (105, 91), (106, 92), (107, 93), (108, 94), (110, 39), (115, 19), (116, 15), (130, 32), (135, 18), (136, 29), (137, 36), (138, 30), (139, 31), (140, 33), (153, 13), (157, 46), (158, 47), (164, 28), (287, 3), (288, 6), (289, 7), (290, 8), (291, 9), (292, 10), (293, 11), (294, 4), (295, 12), (296, 5), (297, 17), (298, 20), (299, 26), (300, 27), (301, 21), (302, 23), (303, 38)]
def N (k : Nat) : Nat := match tabN.find? (fun p => p.1 == k) with
  | some p => p.2
  | none => 0
theorem has_law13_CertSpoilt : law13_CertSpoilt.Ok PP N := Reads.of (by kernel_rfl)
theorem has_law13_big : law13_big.Ok PP N := Reads.of (by kernel_rfl)
theorem has_cert_Certain : cert_Certain.Ok PP N := Reads.of (by kernel_rfl)
theorem has_cert_Sound : cert_Sound.Ok PP N := Reads.of (by kernel_rfl)
theorem has_law13_awake : law13_awake.Ok PP N := Reads.of (by kernel_rfl)
theorem has_law13_lent : law13_lent.Ok PP N := Reads.of (by kernel_rfl)
theorem has_keep_Vectors : keep_Vectors.Ok PP N := Reads.of (by kernel_rfl)
theorem has_vec_Bound : vec_Bound.Ok PP N := Reads.of (by kernel_rfl)
theorem has_wide_Cmp : wide_Cmp.Ok PP N := Reads.of (by kernel_rfl)
theorem has_cert_Sound_1 : cert_Sound_1.Ok PP N := Reads.of (by kernel_rfl)
theorem has_vec_CheckRegion : vec_CheckRegion.Ok PP N := Reads.of (by kernel_rfl)
theorem has_vec_Inside : vec_Inside.Ok PP N := Reads.of (by kernel_rfl)
theorem has_slices_Equal_Lapi_Hit : slices_Equal_Lapi_Hit.Ok PP N := Reads.of (by kernel_rfl)
theorem has_flat_asked : flat_asked.Ok PP N := Reads.of (by kernel_rfl)
theorem has_topk_New : topk_New.Ok PP N := Reads.of (by kernel_rfl)
theorem has_flat_hits : flat_hits.Ok PP N := Reads.of (by kernel_rfl)
theorem has_topk_Heap_Offer : topk_Heap_Offer.Ok PP N := Reads.of (by kernel_rfl)
theorem has_topk_Heap_List : topk_Heap_List.Ok PP N := Reads.of (by kernel_rfl)
theorem has_law13_rows : law13_rows.Ok PP N := Reads.of (by kernel_rfl)
theorem has_law13_told : law13_told.Ok PP N := Reads.of (by kernel_rfl)
theorem has_vec_both : vec_both.Ok PP N := Reads.of (by kernel_rfl)
theorem has_vec_plus : vec_plus.Ok PP N := Reads.of (by kernel_rfl)
theorem has_wide_Sqrt : wide_Sqrt.Ok PP N := Reads.of (by kernel_rfl)
theorem has_vec_far : vec_far.Ok PP N := Reads.of (by kernel_rfl)
theorem has_wide_Mul : wide_Mul.Ok PP N := Reads.of (by kernel_rfl)
theorem has_vec_dim : vec_dim.Ok PP N := Reads.of (by kernel_rfl)
theorem has_vec_Check : vec_Check.Ok PP N := Reads.of (by kernel_rfl)
theorem has_vec_Inside_1 : vec_Inside_1.Ok PP N := Reads.of (by kernel_rfl)
theorem has_flat_Check : flat_Check.Ok PP N := Reads.of (by kernel_rfl)
theorem has_flat_hits_1 : flat_hits_1.Ok PP N := Reads.of (by kernel_rfl)
theorem has_vec_Dist : vec_Dist.Ok PP N := Reads.of (by kernel_rfl)
theorem has_container_heap_Push : container_heap_Push.Ok PP N := Reads.of (by kernel_rfl)
theorem has_topk_Less : topk_Less.Ok PP N := Reads.of (by kernel_rfl)
theorem has_container_heap_Fix : container_heap_Fix.Ok PP N := Reads.of (by kernel_rfl)
theorem has_slices_Clone_Lapi_Hit : slices_Clone_Lapi_Hit.Ok PP N := Reads.of (by kernel_rfl)
theorem has_slices_SortFunc_Lapi_Hit : slices_SortFunc_Lapi_Hit.Ok PP N := Reads.of (by kernel_rfl)
theorem has_topk_compare : topk_compare.Ok PP N := Reads.of (by kernel_rfl)
theorem has_wide_Add : wide_Add.Ok PP N := Reads.of (by kernel_rfl)
theorem has_math_bits_Mul64 : math_bits_Mul64.Ok PP N := Reads.of (by kernel_rfl)
theorem has_container_heap_up : container_heap_up.Ok PP N := Reads.of (by kernel_rfl)
theorem has_container_heap_down : container_heap_down.Ok PP N := Reads.of (by kernel_rfl)
theorem has_slices_pdqsortCmpFunc_api_Hit : slices_pdqsortCmpFunc_api_Hit.Ok PP N := Reads.of (by kernel_rfl)
theorem has_math_bits_Len : math_bits_Len.Ok PP N := Reads.of (by kernel_rfl)
theorem has_cmp_Or_int : cmp_Or_int.Ok PP N := Reads.of (by kernel_rfl)
theorem has_cmp_Compare_int : cmp_Compare_int.Ok PP N := Reads.of (by kernel_rfl)
theorem has_slices_insertionSortCmpFunc_api_Hit : slices_insertionSortCmpFunc_api_Hit.Ok PP N := Reads.of (by kernel_rfl)
theorem has_slices_heapSortCmpFunc_api_Hit : slices_heapSortCmpFunc_api_Hit.Ok PP N := Reads.of (by kernel_rfl)
theorem has_slices_breakPatternsCmpFunc_api_Hit : slices_breakPatternsCmpFunc_api_Hit.Ok PP N := Reads.of (by kernel_rfl)
theorem has_slices_choosePivotCmpFunc_api_Hit : slices_choosePivotCmpFunc_api_Hit.Ok PP N := Reads.of (by kernel_rfl)
theorem has_slices_reverseRangeCmpFunc_api_Hit : slices_reverseRangeCmpFunc_api_Hit.Ok PP N := Reads.of (by kernel_rfl)
theorem has_slices_partialInsertionSortCmpFunc_api_Hit : slices_partialInsertionSortCmpFunc_api_Hit.Ok PP N := Reads.of (by kernel_rfl)
theorem has_slices_partitionEqualCmpFunc_api_Hit : slices_partitionEqualCmpFunc_api_Hit.Ok PP N := Reads.of (by kernel_rfl)
theorem has_slices_partitionCmpFunc_api_Hit : slices_partitionCmpFunc_api_Hit.Ok PP N := Reads.of (by kernel_rfl)
theorem has_math_bits_Len64 : math_bits_Len64.Ok PP N := Reads.of (by kernel_rfl)
theorem has_cmp_isNaN_int : cmp_isNaN_int.Ok PP N := Reads.of (by kernel_rfl)
theorem has_slices_siftDownCmpFunc_api_Hit : slices_siftDownCmpFunc_api_Hit.Ok PP N := Reads.of (by kernel_rfl)
theorem has_slices_nextPowerOfTwo : slices_nextPowerOfTwo.Ok PP N := Reads.of (by kernel_rfl)
theorem has_slices_xorshift_Next : slices_xorshift_Next.Ok PP N := Reads.of (by kernel_rfl)
theorem has_slices_medianAdjacentCmpFunc_api_Hit : slices_medianAdjacentCmpFunc_api_Hit.Ok PP N := Reads.of (by kernel_rfl)
theorem has_slices_medianCmpFunc_api_Hit : slices_medianCmpFunc_api_Hit.Ok PP N := Reads.of (by kernel_rfl)
theorem has_slices_order2CmpFunc_api_Hit : slices_order2CmpFunc_api_Hit.Ok PP N := Reads.of (by kernel_rfl)
theorem has_topk_hits_Len : topk_hits_Len.Ok PP N := Reads.of (by kernel_rfl)
theorem has_topk_hits_Less : topk_hits_Less.Ok PP N := Reads.of (by kernel_rfl)
theorem has_topk_hits_Swap : topk_hits_Swap.Ok PP N := Reads.of (by kernel_rfl)
theorem has_topk_hits_Push : topk_hits_Push.Ok PP N := Reads.of (by kernel_rfl)
end Go.Th.Cert
end
