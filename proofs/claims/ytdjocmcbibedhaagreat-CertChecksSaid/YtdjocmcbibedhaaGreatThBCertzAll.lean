/- What the row of one statement stands on: a store, abstract code, functions of the program and their laws (ThCertzAll). -/
import Derived.Test.YtdjocmcbibedhaaGreatThBCertzN
import Derived.Test.YtdjocmcbibedhaaGreatThBHcert11
import Derived.Test.YtdjocmcbibedhaaGreatThBHcertR

section
/- The seat's functions, each by its law: CertChecks. -/
set_option linter.unusedVariables false
set_option maxRecDepth 100000
namespace Go.Th.Certz
open Go Go.Th Go.Th.L Go.Th.Pure

theorem s_dim : vec_dim.Spec PP N := vec_dim.spec has_vec_dim
theorem s_Check : ChecksV PP (N Fn.vec_Check) := vec_Check.spec has_vec_Check s_dim
theorem s_fCheck : ChecksR PP (N Fn.flat_Check) := flat_Check.spec has_flat_Check s_Check
theorem s_Mul64 : math_bits_Mul64.Spec PP N := math_bits_Mul64.spec has_math_bits_Mul64
theorem s_wMul : wide_Mul.Spec PP N := wide_Mul.spec has_wide_Mul s_Mul64
theorem s_wAdd : wide_Add.Spec PP N := wide_Add.spec has_wide_Add
theorem s_Cmp : wide_Cmp.Spec PP N := wide_Cmp.spec has_wide_Cmp
theorem s_wSqrt : wide_Sqrt.Spec PP N := wide_Sqrt.spec has_wide_Sqrt s_wMul s_Cmp
theorem s_plus : vec_plus.Spec PP N := vec_plus.spec has_vec_plus s_wMul s_wAdd
theorem s_far : FarOk PP (N Fn.vec_far) := vec_far.spec has_vec_far s_plus
theorem s_Dist : DistOk PP (N Fn.vec_Dist) := vec_Dist.spec has_vec_Dist s_Check s_far
theorem s_rCheck : ChecksReg PP (N Fn.vec_CheckRegion) := vec_CheckRegion.spec has_vec_CheckRegion s_dim s_Check
theorem s_both : vec_both.Spec PP N := vec_both.spec has_vec_both s_rCheck s_Check
theorem s_can1 : canEnter PP (N Fn.vec_Inside_1) = true := by kernel_rfl
theorem s_Inside : InsideOk PP (N Fn.vec_Inside) := vec_Inside.spec has_vec_Inside has_vec_Inside_1 s_can1 s_both s_far s_Cmp
theorem s_Bound : BoundOk PP (N Fn.vec_Bound) := vec_Bound.spec has_vec_Bound s_both s_plus s_far s_wSqrt s_wMul
theorem s_isNaN : cmp_isNaN_int.Spec PP N := cmp_isNaN_int.spec has_cmp_isNaN_int
theorem s_Compare : cmp_Compare_int.Spec PP N := cmp_Compare_int.spec has_cmp_Compare_int s_isNaN
theorem s_Or : cmp_Or_int.Spec PP N := cmp_Or_int.spec has_cmp_Or_int
theorem s_compare : topk_compare.Spec PP N := topk_compare.spec has_topk_compare s_Cmp s_Compare s_Or
theorem s_Less : topk_Less.Spec PP N := topk_Less.spec has_topk_Less s_compare
theorem s_canC : canEnter PP (N Fn.topk_compare) = true := by kernel_rfl
theorem s_cmpIs : CmpIs PP (.func (.func (N Fn.topk_compare)) [] []) lessH := cmp_is s_compare s_canC
theorem s_ins : slices_insertionSortCmpFunc_api_Hit.Spec PP N := slices_insertionSortCmpFunc_api_Hit.spec has_slices_insertionSortCmpFunc_api_Hit
theorem s_sift : slices_siftDownCmpFunc_api_Hit.Spec PP N := slices_siftDownCmpFunc_api_Hit.spec has_slices_siftDownCmpFunc_api_Hit
theorem s_heap : slices_heapSortCmpFunc_api_Hit.Spec PP N := slices_heapSortCmpFunc_api_Hit.spec has_slices_heapSortCmpFunc_api_Hit s_sift
theorem s_rev : slices_reverseRangeCmpFunc_api_Hit.Spec PP N := slices_reverseRangeCmpFunc_api_Hit.spec has_slices_reverseRangeCmpFunc_api_Hit
theorem s_order2 : slices_order2CmpFunc_api_Hit.Spec PP N := slices_order2CmpFunc_api_Hit.spec has_slices_order2CmpFunc_api_Hit
theorem s_median : slices_medianCmpFunc_api_Hit.Spec PP N := slices_medianCmpFunc_api_Hit.spec has_slices_medianCmpFunc_api_Hit s_order2
theorem s_medianA : slices_medianAdjacentCmpFunc_api_Hit.Spec PP N := slices_medianAdjacentCmpFunc_api_Hit.spec has_slices_medianAdjacentCmpFunc_api_Hit s_median
theorem s_part : slices_partitionCmpFunc_api_Hit.Spec PP N := slices_partitionCmpFunc_api_Hit.spec has_slices_partitionCmpFunc_api_Hit
theorem s_partE : slices_partitionEqualCmpFunc_api_Hit.Spec PP N := slices_partitionEqualCmpFunc_api_Hit.spec has_slices_partitionEqualCmpFunc_api_Hit
theorem s_pins : slices_partialInsertionSortCmpFunc_api_Hit.Spec PP N := slices_partialInsertionSortCmpFunc_api_Hit.spec has_slices_partialInsertionSortCmpFunc_api_Hit
theorem s_choose : slices_choosePivotCmpFunc_api_Hit.Spec PP N := slices_choosePivotCmpFunc_api_Hit.spec has_slices_choosePivotCmpFunc_api_Hit s_median s_medianA
theorem s_len64 : math_bits_Len64.Spec PP N := math_bits_Len64.spec has_math_bits_Len64
theorem s_lenB : math_bits_Len.Spec PP N := math_bits_Len.spec has_math_bits_Len s_len64
theorem s_next2 : slices_nextPowerOfTwo.Spec PP N := slices_nextPowerOfTwo.spec has_slices_nextPowerOfTwo s_lenB
theorem s_xor : slices_xorshift_Next.Spec PP N := slices_xorshift_Next.spec has_slices_xorshift_Next
theorem s_break : slices_breakPatternsCmpFunc_api_Hit.Spec PP N := slices_breakPatternsCmpFunc_api_Hit.spec has_slices_breakPatternsCmpFunc_api_Hit s_xor s_next2
theorem s_pdq (w : Nat) : slices_pdqsortCmpFunc_api_Hit.SpecAt PP N w := slices_pdqsortCmpFunc_api_Hit.spec has_slices_pdqsortCmpFunc_api_Hit s_ins s_heap s_break s_choose s_rev s_pins s_partE s_part w
theorem s_sortF : slices_SortFunc_Lapi_Hit.Spec PP N := slices_SortFunc_Lapi_Hit.spec has_slices_SortFunc_Lapi_Hit s_lenB s_pdq
theorem s_sortOk : SortOk PP N := ⟨s_sortF, has_slices_SortFunc_Lapi_Hit, has_slices_pdqsortCmpFunc_api_Hit, has_slices_insertionSortCmpFunc_api_Hit, s_lenB, s_cmpIs⟩
theorem s_heapM : HeapM PP N := ⟨by kernel_rfl, by kernel_rfl, by kernel_rfl, by kernel_rfl⟩
theorem s_heapOk : HeapOk PP N := ⟨s_heapM, has_topk_hits_Push, has_topk_hits_Len, has_topk_hits_Less, has_topk_hits_Swap, has_container_heap_up, has_container_heap_down, has_container_heap_Push, has_container_heap_Fix, s_Less⟩

theorem has_flat_TopK : flat_TopK.Ok PP N := by unfold flat_TopK.Ok; kernel_rfl
theorem s_asked : AsksOk PP (N Fn.flat_asked) := flat_asked.spec has_flat_asked s_Check s_fCheck
theorem s_canH : canEnter PP (N Fn.flat_hits_1) = true := by kernel_rfl
theorem s_canT : canEnter PP (N Fn.cert_Sound_1) = true := by kernel_rfl
theorem s_topOk : TopOk PP N := ⟨has_flat_TopK, has_flat_hits, has_flat_hits_1, s_canH, s_asked, topk_New.spec has_topk_New, s_Dist, topk_Heap_Offer.spec has_topk_Heap_Offer s_heapOk, has_topk_Heap_List, has_slices_Clone_Lapi_Hit, s_sortOk⟩
theorem s_certOk : CertOk PP N := ⟨s_topOk, has_cert_Sound, has_cert_Sound_1, s_canT, has_slices_Equal_Lapi_Hit, s_rCheck, s_Inside, has_cert_Certain, s_Bound, s_Cmp⟩
theorem s_awake : AwakeF PP (N Fn.law13_awake) := law13_awake.spec has_law13_awake has_law13_rows has_law13_told s_certOk
theorem s_law13 : Law13Ok PP N := ⟨s_certOk, has_law13_big, keep_Vectors.spec has_keep_Vectors, s_awake⟩
theorem s_With : ref03_With.Spec PP N := ref03_With.spec has_ref03_With
theorem s_Ids : ref03_Ids.Spec PP N := ref03_Ids.spec has_ref03_Ids s_With

theorem s_Check' : ChecksV PP (N Fn.ref03_Check) := ref03_Check.spec has_ref03_Check
theorem s_Id : ref03_Id.Spec PP N := ref03_Id.spec has_ref03_Id
theorem s_Rows : ref03_Rows.Spec PP N := ref03_Rows.spec has_ref03_Rows s_Id s_Check'
theorem s_rfCheck : ChecksR PP (N Fn.ref05_Check) := ref05_Check.spec has_ref05_Check s_Rows
theorem s_Square : ref03_Square.Spec PP N := ref03_Square.spec has_ref03_Square
theorem s_Sum : ref03_Sum.Spec PP N := ref03_Sum.spec has_ref03_Sum
theorem s_far' : FarOk PP (N Fn.ref03_Far) := ref03_Far.spec has_ref03_Far s_Square s_Sum
theorem s_Of : ref01_Of.Spec PP N := ref01_Of.spec has_ref01_Of
theorem s_NWide : ref01_Num_Wide.Spec PP N := ref01_Num_Wide.spec has_ref01_Num_Wide
theorem s_Nplus : ref01_Num_plus.Spec PP N := ref01_Num_plus.spec has_ref01_Num_plus
theorem s_NTimes : ref01_Num_Times.Spec PP N := ref01_Num_Times.spec has_ref01_Num_Times s_Nplus
theorem s_NCmp : ref01_Cmp.Spec PP N := ref01_Cmp.spec has_ref01_Cmp
theorem s_rLess : ref01_Less.Spec PP N := ref01_Less.spec has_ref01_Less s_Of s_NCmp
theorem s_Mul : ref01_Mul.Spec PP N := ref01_Mul.spec has_ref01_Mul s_Of s_NTimes s_NWide
theorem s_Root : ref03_Root.Spec PP N := ref03_Root.spec has_ref03_Root s_Mul s_rLess
theorem s_form : ref03_form.Spec PP N := ref03_form.spec has_ref03_form
theorem s_ids' : ref03_ids.Spec PP N := ref03_ids.spec has_ref03_ids s_Id
theorem s_rCheck' : ChecksReg PP (N Fn.ref03_CheckRegion) := ref03_CheckRegion.spec has_ref03_CheckRegion s_form s_ids' s_Check'
theorem s_Near : ref03_Near.Spec PP N := ref03_Near.spec has_ref03_Near s_Square s_Sum s_far' s_Root s_Mul
theorem s_Before : ref05_Before.Spec PP N := ref05_Before.spec has_ref05_Before s_rLess
theorem s_rAsked : AsksOk PP (N Fn.ref05_Asked) := AsksR.spec has_ref05_Asked s_Check' s_rfCheck
theorem s_refOk : RefOk PP N := ⟨has_ref05_find, has_ref05_region, has_ref05_Sound, has_ref05_Certain, has_ref05_TopK, has_ref05_Hits, has_ref05_First, s_rAsked, s_far', s_Before, s_rCheck', has_ref03_In, s_rLess, s_Near, s_With, s_Ids, ref03_Ints.spec has_ref03_Ints, has_ref13_Sound, has_ref13_Certain, has_ref13_Asked⟩
theorem s_Ints : keep_Ints.Spec PP N := keep_Ints.spec has_keep_Ints

def law3_shapes : List Sh := [rowsS, intsS, Sh.int IntKind.i64, ansS]
theorem law3_spec (S : St) (av : List V) (hw : S.Wf) (h : HasAs S law3_shapes av) : CallA PP 3 av S (fun r _ => r = .ret (.bool true)) := by
  rw [← (show N Fn.law13_CertChecks = 3 from by kernel_rfl)]
  simp only [law3_shapes, HasAs] at h
  obtain ⟨v, _, rfl, hv, u, _, rfl, hu, k, _, rfl, hk, y, _, rfl, hy, rfl⟩ := h
  obtain ⟨rs, q, x, a, b, c, rfl, hg⟩ := rd_given hv hu hy
  obtain ⟨k, rfl, _⟩ := rd_int hk
  exact (law13_CertChecks.spec has_law13_CertChecks has_law13_lent has_keep_Answer has_keep_Hits s_Ints has_keep_Region s_refOk s_law13 hw hg (K := fun b _ => b = true) (fun _ => rfl)).mono fun r S' h => retT_true h

end Go.Th.Certz
end
