/- What the row of one statement stands on: a store, abstract code, functions of the program and their laws (ThVecN). -/
import Derived.Test.YtmaocfcjbabelaaThBGref01
import Derived.Test.YtmaocfcjbabelaaThBGwide
import Derived.Test.YtmaocfcjbabelaaThBM
import Derived.Test.YtmaocfcjbabelaaProg

section
/- The seat's numbering of the library's functions, and that they are the program's (printed by tools/seat.py). -/
namespace Go.Th.Vec
open Go Go.Th Go.Th.L
set_option maxRecDepth 100000
set_option maxHeartbeats 2000000

noncomputable abbrev PP := Go.Proofs.Try.prog
def tabN : List (Nat × Nat) := [(14, 11), (16, 14), (18, 30), (20, 33), (28, 26), (37, 29), (39, 67), (40, 17), (47, 13), (48, 60), (50, 38), (81, 45), (86, 74), (88, 91), (97, 84), (98, 85), (100, 87), (101, 88), (109, 3), (110, 12), (111, 15), (112, 16), (113, 5), (114, 18), (115, 20), (116, 21), (117, 25), (118, 6), (119, 7), (120, 27), (121, 8), (122, 28), (123, 9), (124, 31), (125, 32), (126, 34), (127, 35), (128, 36), (129, 10), (130, 37), (131, 39), (132, 40), (133, 41), (134, 42), (135, 19), (136, 43), (137, 44), (138, 46), (139, 47), (140, 48), (141, 22), (142, 24), (143, 49), (144, 23), (145, 50), (146, 51), (147, 52), (148, 54), (149, 53), (150, 57), (151, 58), (152, 59), (153, 61), (154, 62), (155, 64), (156, 63), (157, 65), (158, 66), (159, 55), (160, 68), (161, 56), (162, 69), (163, 70), (164, 71), (165, 73), (166, 75), (167, 76), (168, 77), (169, 78), (170, 79), (171, 80), (172, 81), (173, 82), (174, 83), (175, 86), (176, 89), (177, 90), (178, 92), (179, 4)]
def N (k : Nat) : Nat := match tabN.find? (fun p => p.1 == k) with
  | some p => p.2
  | none => 0
theorem has_law03_VecDists : law03_VecDists.Ok PP N := Reads.of (by kernel_rfl)
theorem has_law03_VecRegions : law03_VecRegions.Ok PP N := Reads.of (by kernel_rfl)
theorem has_law03_VecBounds : law03_VecBounds.Ok PP N := Reads.of (by kernel_rfl)
theorem has_law03_VecMoves : law03_VecMoves.Ok PP N := Reads.of (by kernel_rfl)
theorem has_law03_VecScale : law03_VecScale.Ok PP N := Reads.of (by kernel_rfl)
theorem has_law03_VecTriangle : law03_VecTriangle.Ok PP N := Reads.of (by kernel_rfl)
theorem has_law03_VecShapes : law03_VecShapes.Ok PP N := Reads.of (by kernel_rfl)
theorem has_law03_VecHolds : law03_VecHolds.Ok PP N := Reads.of (by kernel_rfl)
theorem has_keep_Lend : keep_Lend.Ok PP N := Reads.of (by kernel_rfl)
theorem has_vec_Dist : vec_Dist.Ok PP N := Reads.of (by kernel_rfl)
theorem has_vec_Check : vec_Check.Ok PP N := Reads.of (by kernel_rfl)
theorem has_keep_Back : keep_Back.Ok PP N := Reads.of (by kernel_rfl)
theorem has_ref03_Dist : ref03_Dist.Ok PP N := Reads.of (by kernel_rfl)
theorem has_law03_awake : law03_awake.Ok PP N := Reads.of (by kernel_rfl)
theorem has_ref03_Check : ref03_Check.Ok PP N := Reads.of (by kernel_rfl)
theorem has_law03_big : law03_big.Ok PP N := Reads.of (by kernel_rfl)
theorem has_vec_CheckRegion : vec_CheckRegion.Ok PP N := Reads.of (by kernel_rfl)
theorem has_vec_Inside : vec_Inside.Ok PP N := Reads.of (by kernel_rfl)
theorem has_vec_Bound : vec_Bound.Ok PP N := Reads.of (by kernel_rfl)
theorem has_ref03_Inside : ref03_Inside.Ok PP N := Reads.of (by kernel_rfl)
theorem has_ref03_Bound : ref03_Bound.Ok PP N := Reads.of (by kernel_rfl)
theorem has_ref03_CheckRegion : ref03_CheckRegion.Ok PP N := Reads.of (by kernel_rfl)
theorem has_ref01_Less : ref01_Less.Ok PP N := Reads.of (by kernel_rfl)
theorem has_keep_Ints : keep_Ints.Ok PP N := Reads.of (by kernel_rfl)
theorem has_ref01_Add : ref01_Add.Ok PP N := Reads.of (by kernel_rfl)
theorem has_ref03_Root : ref03_Root.Ok PP N := Reads.of (by kernel_rfl)
theorem has_keep_Vectors : keep_Vectors.Ok PP N := Reads.of (by kernel_rfl)
theorem has_keep_LendRows : keep_LendRows.Ok PP N := Reads.of (by kernel_rfl)
theorem has_vec_Box : vec_Box.Ok PP N := Reads.of (by kernel_rfl)
theorem has_vec_Ball : vec_Ball.Ok PP N := Reads.of (by kernel_rfl)
theorem has_keep_BackRows : keep_BackRows.Ok PP N := Reads.of (by kernel_rfl)
theorem has_ref03_Box : ref03_Box.Ok PP N := Reads.of (by kernel_rfl)
theorem has_ref03_Ball : ref03_Ball.Ok PP N := Reads.of (by kernel_rfl)
theorem has_ref03_Same : ref03_Same.Ok PP N := Reads.of (by kernel_rfl)
theorem has_vec_far : vec_far.Ok PP N := Reads.of (by kernel_rfl)
theorem has_vec_dim : vec_dim.Ok PP N := Reads.of (by kernel_rfl)
theorem has_ref03_Far : ref03_Far.Ok PP N := Reads.of (by kernel_rfl)
theorem has_law03_box : law03_box.Ok PP N := Reads.of (by kernel_rfl)
theorem has_law03_ball : law03_ball.Ok PP N := Reads.of (by kernel_rfl)
theorem has_law03_lo : law03_lo.Ok PP N := Reads.of (by kernel_rfl)
theorem has_vec_both : vec_both.Ok PP N := Reads.of (by kernel_rfl)
theorem has_vec_Inside_1 : vec_Inside_1.Ok PP N := Reads.of (by kernel_rfl)
theorem has_wide_Cmp : wide_Cmp.Ok PP N := Reads.of (by kernel_rfl)
theorem has_vec_plus : vec_plus.Ok PP N := Reads.of (by kernel_rfl)
theorem has_wide_Sqrt : wide_Sqrt.Ok PP N := Reads.of (by kernel_rfl)
theorem has_wide_Mul : wide_Mul.Ok PP N := Reads.of (by kernel_rfl)
theorem has_ref03_In : ref03_In.Ok PP N := Reads.of (by kernel_rfl)
theorem has_ref03_Near : ref03_Near.Ok PP N := Reads.of (by kernel_rfl)
theorem has_ref03_form : ref03_form.Ok PP N := Reads.of (by kernel_rfl)
theorem has_ref03_ids : ref03_ids.Ok PP N := Reads.of (by kernel_rfl)
theorem has_ref01_Cmp : ref01_Cmp.Ok PP N := Reads.of (by kernel_rfl)
theorem has_ref01_Of : ref01_Of.Ok PP N := Reads.of (by kernel_rfl)
theorem has_ref01_Num_Plus : ref01_Num_Plus.Ok PP N := Reads.of (by kernel_rfl)
theorem has_ref01_Num_Wide : ref01_Num_Wide.Ok PP N := Reads.of (by kernel_rfl)
theorem has_ref01_Mul : ref01_Mul.Ok PP N := Reads.of (by kernel_rfl)
theorem has_vec_ids : vec_ids.Ok PP N := Reads.of (by kernel_rfl)
theorem has_slices_Clone_Lint : slices_Clone_Lint.Ok PP N := Reads.of (by kernel_rfl)
theorem has_ref03_Rows : ref03_Rows.Ok PP N := Reads.of (by kernel_rfl)
theorem has_ref03_Ids : ref03_Ids.Ok PP N := Reads.of (by kernel_rfl)
theorem has_ref03_Ints : ref03_Ints.Ok PP N := Reads.of (by kernel_rfl)
theorem has_ref03_Sum : ref03_Sum.Ok PP N := Reads.of (by kernel_rfl)
theorem has_ref03_Square : ref03_Square.Ok PP N := Reads.of (by kernel_rfl)
theorem has_wide_Add : wide_Add.Ok PP N := Reads.of (by kernel_rfl)
theorem has_math_bits_Mul64 : math_bits_Mul64.Ok PP N := Reads.of (by kernel_rfl)
theorem has_ref03_Id : ref03_Id.Ok PP N := Reads.of (by kernel_rfl)
theorem has_ref01_Num_plus : ref01_Num_plus.Ok PP N := Reads.of (by kernel_rfl)
theorem has_ref01_Num_Times : ref01_Num_Times.Ok PP N := Reads.of (by kernel_rfl)
theorem has_slices_Sort_Lint : slices_Sort_Lint.Ok PP N := Reads.of (by kernel_rfl)
theorem has_ref03_With : ref03_With.Ok PP N := Reads.of (by kernel_rfl)
theorem has_slices_pdqsortOrdered_int : slices_pdqsortOrdered_int.Ok PP N := Reads.of (by kernel_rfl)
theorem has_math_bits_Len : math_bits_Len.Ok PP N := Reads.of (by kernel_rfl)
theorem has_slices_insertionSortOrdered_int : slices_insertionSortOrdered_int.Ok PP N := Reads.of (by kernel_rfl)
theorem has_slices_heapSortOrdered_int : slices_heapSortOrdered_int.Ok PP N := Reads.of (by kernel_rfl)
theorem has_slices_breakPatternsOrdered_int : slices_breakPatternsOrdered_int.Ok PP N := Reads.of (by kernel_rfl)
theorem has_slices_choosePivotOrdered_int : slices_choosePivotOrdered_int.Ok PP N := Reads.of (by kernel_rfl)
theorem has_slices_reverseRangeOrdered_int : slices_reverseRangeOrdered_int.Ok PP N := Reads.of (by kernel_rfl)
theorem has_slices_partialInsertionSortOrdered_int : slices_partialInsertionSortOrdered_int.Ok PP N := Reads.of (by kernel_rfl)
theorem has_cmp_Less_int : cmp_Less_int.Ok PP N := Reads.of (by kernel_rfl)
theorem has_slices_partitionEqualOrdered_int : slices_partitionEqualOrdered_int.Ok PP N := Reads.of (by kernel_rfl)
theorem has_slices_partitionOrdered_int : slices_partitionOrdered_int.Ok PP N := Reads.of (by kernel_rfl)
theorem has_math_bits_Len32 : math_bits_Len32.Ok PP N := Reads.of (by kernel_rfl)
theorem has_math_bits_Len64 : math_bits_Len64.Ok PP N := Reads.of (by kernel_rfl)
theorem has_slices_siftDownOrdered_int : slices_siftDownOrdered_int.Ok PP N := Reads.of (by kernel_rfl)
theorem has_slices_nextPowerOfTwo : slices_nextPowerOfTwo.Ok PP N := Reads.of (by kernel_rfl)
theorem has_slices_xorshift_Next : slices_xorshift_Next.Ok PP N := Reads.of (by kernel_rfl)
theorem has_slices_medianAdjacentOrdered_int : slices_medianAdjacentOrdered_int.Ok PP N := Reads.of (by kernel_rfl)
theorem has_slices_medianOrdered_int : slices_medianOrdered_int.Ok PP N := Reads.of (by kernel_rfl)
theorem has_cmp_isNaN_int : cmp_isNaN_int.Ok PP N := Reads.of (by kernel_rfl)
theorem has_slices_order2Ordered_int : slices_order2Ordered_int.Ok PP N := Reads.of (by kernel_rfl)
noncomputable def tabF (f : Nat) : Option AF := afun PP f
theorem tabF_ok : ∀ f F, tabF f = some F → afun PP f = some F := fun _ _ h => h
def okF (f : Nat) : Bool := [3, 4, 5, 6, 7, 8, 9, 10, 11, 12, 13, 14, 15, 16, 17, 18, 19, 20, 21, 22, 23, 24, 25, 26, 27, 28, 29, 30, 31, 32, 33, 34, 35, 36, 37, 38, 39, 40, 41, 42, 43, 44, 45, 46, 47, 48, 49, 50, 51, 52, 53, 54, 55, 56, 57, 58, 59, 60, 61, 62, 63, 64, 65, 66, 67, 68, 69, 70, 71, 73, 74, 75, 76, 77, 78, 79, 80, 81, 82, 83, 84, 85, 86, 87, 88, 89, 90, 91, 92].contains f
theorem okF_ok : ∀ f, okF f = true → canEnter PP f = true := by
  intro f h
  have hm : f ∈ [3, 4, 5, 6, 7, 8, 9, 10, 11, 12, 13, 14, 15, 16, 17, 18, 19, 20, 21, 22, 23, 24, 25, 26, 27, 28, 29, 30, 31, 32, 33, 34, 35, 36, 37, 38, 39, 40, 41, 42, 43, 44, 45, 46, 47, 48, 49, 50, 51, 52, 53, 54, 55, 56, 57, 58, 59, 60, 61, 62, 63, 64, 65, 66, 67, 68, 69, 70, 71, 73, 74, 75, 76, 77, 78, 79, 80, 81, 82, 83, 84, 85, 86, 87, 88, 89, 90, 91, 92] := by simpa [okF] using h
  have hall : ([3, 4, 5, 6, 7, 8, 9, 10, 11, 12, 13, 14, 15, 16, 17, 18, 19, 20, 21, 22, 23, 24, 25, 26, 27, 28, 29, 30, 31, 32, 33, 34, 35, 36, 37, 38, 39, 40, 41, 42, 43, 44, 45, 46, 47, 48, 49, 50, 51, 52, 53, 54, 55, 56, 57, 58, 59, 60, 61, 62, 63, 64, 65, 66, 67, 68, 69, 70, 71, 73, 74, 75, 76, 77, 78, 79, 80, 81, 82, 83, 84, 85, 86, 87, 88, 89, 90, 91, 92].all fun f => canEnter PP f) = true := by kernel_rfl
  exact List.all_eq_true.mp hall f hm
noncomputable def envF : Env := ⟨okF, methEntry PP⟩
theorem envF_ok : EnvOk PP envF := ⟨okF_ok, fun _ _ _ h => h⟩
end Go.Th.Vec
end
