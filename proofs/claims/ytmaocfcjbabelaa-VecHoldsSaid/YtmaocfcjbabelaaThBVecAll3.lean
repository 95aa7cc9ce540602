/- What the row of one statement stands on: a store, abstract code, functions of the program and their laws (ThVecAll3). -/
import Derived.Test.YtmaocfcjbabelaaThBVecAll
import Derived.Test.YtmaocfcjbabelaaThBHlaw03d

section
/- The seat's functions, each by its law: the least box and the ball. -/
set_option linter.unusedVariables false
namespace Go.Th.Vec
open Go Go.Th Go.Th.L Go.Th.Pure

theorem s_Id3 : ref03_Id.Spec PP N := ref03_Id.spec has_ref03_Id
theorem s_Rows' : ref03_Rows.Spec PP N := ref03_Rows.spec has_ref03_Rows s_Id3 s_Check'
theorem s_With' : ref03_With.Spec PP N := ref03_With.spec has_ref03_With
theorem s_Ids3 : ref03_Ids.Spec PP N := ref03_Ids.spec has_ref03_Ids s_With'
theorem s_Ball : vec_Ball.Spec PP N := vec_Ball.spec has_vec_Ball s_Check s_ids s_far s_wCmp has_slices_Clone_Lint
theorem s_Box' : ref03_Box.Spec PP N := ref03_Box.spec has_ref03_Box s_Rows' s_Ids3
theorem s_Ball' : ref03_Ball.Spec PP N := ref03_Ball.spec has_ref03_Ball s_Check' s_Rows' s_Ids3 s_far' s_Less
theorem s_Same : ref03_Same.Spec PP N := ref03_Same.spec has_ref03_Same (ref03_Ints.spec has_ref03_Ints)
theorem s_Vectors : keep_Vectors.Spec PP N := keep_Vectors.spec has_keep_Vectors
theorem s_LendR : keep_LendRows.Spec PP N := keep_LendRows.spec has_keep_LendRows s_Lend
theorem s_BackR : keep_BackRows.Spec PP N := keep_BackRows.spec has_keep_BackRows s_Back
theorem s_law03d : Law03dOk PP N := ⟨s_Vectors, s_LendR, s_BackR, s_Box, s_Ball, s_Box', s_Ball', s_Same, s_Inside, s_awake⟩

theorem has_rowsA {S : St} {a : V} (h : HasA S (Sh.slice 2 32 shRow) a) : ∃ rs : List Row, RowsAt S a rs ∧ rs.length ≤ 17592186044416 ∧ ∀ r ∈ rs, r.2.length ≤ 17592186044416 := by
  simp only [HasA, Has] at h
  obtain ⟨v, n, es, hv, hsl, hn, hes⟩ := h
  cases hv
  obtain ⟨rs, h1, h2, h3, _⟩ := has_rows hsl hn hes
  exact ⟨rs, h1, h2, h3⟩

def law9_shapes : List Sh := [Sh.slice 2 32 shRow, Sh.int IntKind.i64, intsSh]
theorem law9_spec (S : St) (av : List V) (hw : S.Wf) (h : HasAs S law9_shapes av) : CallA PP 9 av S (fun r _ => r = .ret (.bool true)) := by
  rw [← (show N Fn.law03_VecShapes = 9 from by kernel_rfl)]
  simp only [law9_shapes, HasAs] at h
  obtain ⟨u, _, rfl, hu, d, _, rfl, hd, q, _, rfl, hq, rfl⟩ := h
  obtain ⟨rs, h1, h2, h3⟩ := has_rowsA hu
  obtain ⟨y, hy, _⟩ := has_ints hq
  simp only [HasA, Has] at hd
  obtain ⟨d, hd, _⟩ := hd
  cases hd
  exact (law03_VecShapes.spec has_law03_VecShapes s_law03d q u y rs d S (fun b _ => b = true) hw h1 h2 h3 hy (fun _ => rfl)).mono fun r S' h => retT_true h

def law10_shapes : List Sh := [Sh.slice 2 32 shRow, intsSh, Sh.int IntKind.i64]
theorem law10_spec (S : St) (av : List V) (hw : S.Wf) (h : HasAs S law10_shapes av) : CallA PP 10 av S (fun r _ => r = .ret (.bool true)) := by
  rw [← (show N Fn.law03_VecHolds = 10 from by kernel_rfl)]
  simp only [law10_shapes, HasAs] at h
  obtain ⟨u, _, rfl, hu, q, _, rfl, hq, d, _, rfl, hd, rfl⟩ := h
  obtain ⟨rs, h1, h2, h3⟩ := has_rowsA hu
  obtain ⟨y, hy, _⟩ := has_ints hq
  simp only [HasA, Has] at hd
  obtain ⟨d, hd, _⟩ := hd
  cases hd
  exact (law03_VecHolds.spec has_law03_VecHolds s_law03d q u y rs d S (fun b _ => b = true) hw h1 h2 h3 hy (fun _ => rfl)).mono fun r S' h => retT_true h

end Go.Th.Vec
end
