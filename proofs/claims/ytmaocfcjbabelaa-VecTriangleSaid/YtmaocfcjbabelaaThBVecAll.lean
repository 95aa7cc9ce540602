/- What the row of one statement stands on: a store, abstract code, functions of the program and their laws (ThVecAll). -/
import Derived.Test.YtmaocfcjbabelaaThBVecN
import Derived.Test.YtmaocfcjbabelaaThBHlaw03c
import Derived.Test.YtmaocfcjbabelaaThBQ10

section
/- The seat's functions, each by its law: distances. -/
set_option linter.unusedVariables false
namespace Go.Th.Vec
open Go Go.Th Go.Th.L Go.Th.Pure

theorem s_dim : vec_dim.Spec PP N := vec_dim.spec has_vec_dim
theorem s_Check : ChecksV PP (N Fn.vec_Check) := vec_Check.spec has_vec_Check s_dim
theorem s_Check' : ChecksV PP (N Fn.ref03_Check) := ref03_Check.spec has_ref03_Check
theorem s_Mul64 : math_bits_Mul64.Spec PP N := math_bits_Mul64.spec has_math_bits_Mul64
theorem s_wMul : wide_Mul.Spec PP N := wide_Mul.spec has_wide_Mul s_Mul64
theorem s_wAdd : wide_Add.Spec PP N := wide_Add.spec has_wide_Add
theorem s_wCmp : wide_Cmp.Spec PP N := wide_Cmp.spec has_wide_Cmp
theorem s_wSqrt : wide_Sqrt.Spec PP N := wide_Sqrt.spec has_wide_Sqrt s_wMul s_wCmp
theorem s_plus : vec_plus.Spec PP N := vec_plus.spec has_vec_plus s_wMul s_wAdd
theorem s_far : FarOk PP (N Fn.vec_far) := vec_far.spec has_vec_far s_plus
theorem s_Dist : DistOk PP (N Fn.vec_Dist) := vec_Dist.spec has_vec_Dist s_Check s_far
theorem s_Square : ref03_Square.Spec PP N := ref03_Square.spec has_ref03_Square
theorem s_Sum : ref03_Sum.Spec PP N := ref03_Sum.spec has_ref03_Sum
theorem s_far' : FarOk PP (N Fn.ref03_Far) := ref03_Far.spec has_ref03_Far s_Square s_Sum
theorem s_Dist' : DistOk PP (N Fn.ref03_Dist) := ref03_Dist.spec has_ref03_Dist s_Check' s_far'
theorem s_Of : ref01_Of.Spec PP N := ref01_Of.spec has_ref01_Of
theorem s_NWide : ref01_Num_Wide.Spec PP N := ref01_Num_Wide.spec has_ref01_Num_Wide
theorem s_Nplus : ref01_Num_plus.Spec PP N := ref01_Num_plus.spec has_ref01_Num_plus
theorem s_NPlus : ref01_Num_Plus.Spec PP N := ref01_Num_Plus.spec has_ref01_Num_Plus s_Nplus
theorem s_NTimes : ref01_Num_Times.Spec PP N := ref01_Num_Times.spec has_ref01_Num_Times s_Nplus
theorem s_NCmp : ref01_Cmp.Spec PP N := ref01_Cmp.spec has_ref01_Cmp
theorem s_Less : ref01_Less.Spec PP N := ref01_Less.spec has_ref01_Less s_Of s_NCmp
theorem s_Mul : ref01_Mul.Spec PP N := ref01_Mul.spec has_ref01_Mul s_Of s_NTimes s_NWide
theorem s_Add : ref01_Add.Spec PP N := ref01_Add.spec has_ref01_Add s_Of s_NPlus s_NWide
theorem s_Root : ref03_Root.Spec PP N := ref03_Root.spec has_ref03_Root s_Mul s_Less
theorem s_Ints : keep_Ints.Spec PP N := keep_Ints.spec has_keep_Ints
theorem s_Lend : keep_Lend.Spec PP N := keep_Lend.spec has_keep_Lend
theorem s_Back : keep_Back.Spec PP N := keep_Back.spec has_keep_Back s_Ints
theorem s_rCheck : ChecksReg PP (N Fn.vec_CheckRegion) := vec_CheckRegion.spec has_vec_CheckRegion s_dim s_Check
theorem s_both : vec_both.Spec PP N := vec_both.spec has_vec_both s_rCheck s_Check
theorem s_can1 : canEnter PP (N Fn.vec_Inside_1) = true := by kernel_rfl
theorem s_Inside : InsideOk PP (N Fn.vec_Inside) := vec_Inside.spec has_vec_Inside has_vec_Inside_1 s_can1 s_both s_far s_wCmp
theorem s_Bound : BoundOk PP (N Fn.vec_Bound) := vec_Bound.spec has_vec_Bound s_both s_plus s_far s_wSqrt s_wMul
theorem s_ins : I.slices_insertionSortOrdered_int.Spec PP N := I.slices_insertionSortOrdered_int.spec has_slices_insertionSortOrdered_int
theorem s_sift : I.slices_siftDownOrdered_int.Spec PP N := I.slices_siftDownOrdered_int.spec has_slices_siftDownOrdered_int
theorem s_heap : I.slices_heapSortOrdered_int.Spec PP N := I.slices_heapSortOrdered_int.spec has_slices_heapSortOrdered_int s_sift
theorem s_rev : I.slices_reverseRangeOrdered_int.Spec PP N := I.slices_reverseRangeOrdered_int.spec has_slices_reverseRangeOrdered_int
theorem s_order2 : I.slices_order2Ordered_int.Spec PP N := I.slices_order2Ordered_int.spec has_slices_order2Ordered_int
theorem s_median : I.slices_medianOrdered_int.Spec PP N := I.slices_medianOrdered_int.spec has_slices_medianOrdered_int s_order2
theorem s_medianA : I.slices_medianAdjacentOrdered_int.Spec PP N := I.slices_medianAdjacentOrdered_int.spec has_slices_medianAdjacentOrdered_int s_median
theorem s_part : I.slices_partitionOrdered_int.Spec PP N := I.slices_partitionOrdered_int.spec has_slices_partitionOrdered_int
theorem s_partE : I.slices_partitionEqualOrdered_int.Spec PP N := I.slices_partitionEqualOrdered_int.spec has_slices_partitionEqualOrdered_int
theorem s_pins : I.slices_partialInsertionSortOrdered_int.Spec PP N := I.slices_partialInsertionSortOrdered_int.spec has_slices_partialInsertionSortOrdered_int
theorem s_choose : I.slices_choosePivotOrdered_int.Spec PP N := I.slices_choosePivotOrdered_int.spec has_slices_choosePivotOrdered_int s_median s_medianA
theorem s_len64 : math_bits_Len64.Spec PP N := math_bits_Len64.spec has_math_bits_Len64
theorem s_lenB : math_bits_Len.Spec PP N := math_bits_Len.spec has_math_bits_Len s_len64
theorem s_next2 : slices_nextPowerOfTwo.Spec PP N := slices_nextPowerOfTwo.spec has_slices_nextPowerOfTwo s_lenB
theorem s_xor : slices_xorshift_Next.Spec PP N := slices_xorshift_Next.spec has_slices_xorshift_Next
theorem s_break : I.slices_breakPatternsOrdered_int.Spec PP N := I.slices_breakPatternsOrdered_int.spec has_slices_breakPatternsOrdered_int s_xor s_next2
theorem s_pdq (w : Nat) : I.slices_pdqsortOrdered_int.SpecAt PP N w := I.slices_pdqsortOrdered_int.spec has_slices_pdqsortOrdered_int s_ins s_heap s_break s_choose s_rev s_pins s_partE s_part w
theorem s_sortF : I.slices_Sort_Lint.Spec PP N := I.slices_Sort_Lint.spec has_slices_Sort_Lint s_lenB s_pdq
theorem s_sortOk : SortIOk PP N := ⟨s_sortF, has_slices_Sort_Lint, has_slices_pdqsortOrdered_int, has_slices_insertionSortOrdered_int, s_lenB, cmp_Less_int.spec has_cmp_Less_int (cmp_isNaN_int.spec has_cmp_isNaN_int)⟩
theorem s_ids : vec_ids.Spec PP N := vec_ids.spec has_vec_ids s_Check s_sortOk
theorem s_Box : vec_Box.Spec PP N := vec_Box.spec has_vec_Box s_dim s_ids has_slices_Clone_Lint
theorem s_awake : AwakeF PP (N Fn.law03_awake) := law03_awake.spec has_law03_awake ⟨s_Dist, s_Inside, s_Bound, s_Box, s_Check, s_Ints, has_law03_lo, has_law03_box, has_law03_ball⟩
theorem s_law03 : Law03Ok PP N := ⟨s_Dist, s_Dist', s_Check, s_Check', s_Lend, s_Back, s_Ints, s_Add, s_Root, s_awake⟩

def intsSh : Sh := Sh.slice 1 8 (Sh.int IntKind.i64)
theorem has_ints {S : St} {a : V} (h : HasA S intsSh a) : ∃ l : List Int, IntsAt S a l ∧ ∀ x ∈ l, -9223372036854775808 ≤ x ∧ x ≤ 9223372036854775807 := by
  simp only [intsSh, HasA, Has] at h
  obtain ⟨v, n, es, hv, hsl, _, hes⟩ := h
  cases hv
  obtain ⟨l, hl, rfl, hx⟩ := has_i64s (S := S) hsl.2.1 (fun m hm => by simp only [Has]; exact hes m hm)
  subst hl
  exact ⟨l, hsl, hx⟩

def law3_shapes : List Sh := [intsSh, intsSh, Sh.int IntKind.i64]
theorem law3_spec (S : St) (av : List V) (hw : S.Wf) (h : HasAs S law3_shapes av) : CallA PP 3 av S (fun r _ => r = .ret (.bool true)) := by
  rw [← (show N Fn.law03_VecDists = 3 from by kernel_rfl)]
  simp only [law3_shapes, HasAs] at h
  obtain ⟨u, _, rfl, hu, v, _, rfl, hv, d, _, rfl, hd, rfl⟩ := h
  obtain ⟨a, ha, _⟩ := has_ints hu
  obtain ⟨b, hb, _⟩ := has_ints hv
  simp only [HasA, Has] at hd
  obtain ⟨d, hd, _⟩ := hd
  cases hd
  exact (law03_VecDists.spec has_law03_VecDists s_law03 u v a b d S (fun b _ => b = true) hw ha hb (fun _ => rfl)).mono fun r S' h => retT_true h

def law6_shapes : List Sh := [intsSh, intsSh, intsSh]
theorem law6_spec (S : St) (av : List V) (hw : S.Wf) (h : HasAs S law6_shapes av) : CallA PP 6 av S (fun r _ => r = .ret (.bool true)) := by
  rw [← (show N Fn.law03_VecMoves = 6 from by kernel_rfl)]
  simp only [law6_shapes, HasAs] at h
  obtain ⟨u, _, rfl, hu, v, _, rfl, hv, w, _, rfl, hc, rfl⟩ := h
  obtain ⟨a, ha, _⟩ := has_ints hu
  obtain ⟨b, hb, _⟩ := has_ints hv
  obtain ⟨c, hc, hcr⟩ := has_ints hc
  exact (law03_VecMoves.spec has_law03_VecMoves s_law03 u v w a b c S (fun b _ => b = true) hw ha hb hc hcr (fun _ => rfl)).mono fun r S' h => retT_true h

def law7_shapes : List Sh := [intsSh, intsSh]
theorem law7_spec (S : St) (av : List V) (hw : S.Wf) (h : HasAs S law7_shapes av) : CallA PP 7 av S (fun r _ => r = .ret (.bool true)) := by
  rw [← (show N Fn.law03_VecScale = 7 from by kernel_rfl)]
  simp only [law7_shapes, HasAs] at h
  obtain ⟨u, _, rfl, hu, v, _, rfl, hv, rfl⟩ := h
  obtain ⟨a, ha, _⟩ := has_ints hu
  obtain ⟨b, hb, _⟩ := has_ints hv
  exact (law03_VecScale.spec has_law03_VecScale s_law03 u v a b S (fun b _ => b = true) hw ha hb (fun _ => rfl)).mono fun r S' h => retT_true h

def law8_shapes : List Sh := [intsSh, intsSh, intsSh]
theorem law8_spec (S : St) (av : List V) (hw : S.Wf) (h : HasAs S law8_shapes av) : CallA PP 8 av S (fun r _ => r = .ret (.bool true)) := by
  rw [← (show N Fn.law03_VecTriangle = 8 from by kernel_rfl)]
  simp only [law8_shapes, HasAs] at h
  obtain ⟨u, _, rfl, hu, v, _, rfl, hv, w, _, rfl, hc, rfl⟩ := h
  obtain ⟨a, ha, _⟩ := has_ints hu
  obtain ⟨b, hb, _⟩ := has_ints hv
  obtain ⟨c, hc, _⟩ := has_ints hc
  exact (law03_VecTriangle.spec has_law03_VecTriangle s_law03 u v w a b c S (fun b _ => b = true) hw ha hb hc (fun _ => rfl)).mono fun r S' h => retT_true h

end Go.Th.Vec
end
