/- What the row of one statement stands on: a store, abstract code, functions of the program and their laws (ThTopkAll). -/
import Derived.Test.YtdpehfhhbmmhjaaThBTopkN
import Derived.Test.YtdpehfhhbmmhjaaThBHlaw02
import Derived.Test.YtdpehfhhbmmhjaaThBQ9

section
/- The seat's functions, each by its law. -/
set_option linter.unusedVariables false
namespace Go.Th.Topk
open Go Go.Th Go.Th.L Go.Th.Pure

theorem s_awake : AwakeF PP (N Fn.law02_awake) := fun S K h => CallA.run envF_ok tabF_ok 1000 (.ret (.bool true)) (by kernel_rfl) rfl rfl ⟨_, rfl, h⟩
theorem s_Cmp : wide_Cmp.Spec PP N := wide_Cmp.spec has_wide_Cmp
theorem s_isNaN : cmp_isNaN_int.Spec PP N := cmp_isNaN_int.spec has_cmp_isNaN_int
theorem s_Compare : cmp_Compare_int.Spec PP N := cmp_Compare_int.spec has_cmp_Compare_int s_isNaN
theorem s_Or : cmp_Or_int.Spec PP N := cmp_Or_int.spec has_cmp_Or_int
theorem s_compare : topk_compare.Spec PP N := topk_compare.spec has_topk_compare s_Cmp s_Compare s_Or
theorem s_Less : topk_Less.Spec PP N := topk_Less.spec has_topk_Less s_compare
theorem s_Less2 : ref02_Less.Spec PP N := ref02_Less.spec has_ref02_Less

def hitSh : Sh := Sh.agg (Fs.cons 1 (Sh.int IntKind.i64) (Fs.cons 2 (Sh.agg (Fs.cons 1 (Sh.int IntKind.u64) (Fs.cons 1 (Sh.int IntKind.u64) Fs.nil))) Fs.nil))

theorem has_hit {S : St} {cs : List V} (h : HasA S hitSh (.agg cs)) : ∃ a : Hit, cs = hcells a := by
  simp only [hitSh, HasA, HasF, Has, V.agg.injEq] at h
  obtain ⟨cs', rfl, ⟨i, hi, _⟩, ⟨⟨a, ha, _⟩, ⟨b, hb, _⟩, h4⟩, h5⟩ := h
  match cs with
  | [] => simp at hi
  | [x] => simp at ha
  | [x, y] => simp at hb
  | x :: y :: z :: w :: r => simp at h5
  | [x, y, z] =>
    simp at hi ha hb
    exact ⟨⟨i, a, b⟩, by rw [hi, ha, hb]⟩

def law3_shapes : List Sh := [hitSh, hitSh, hitSh]
theorem law3_spec (S : St) (av : List V) (hw : S.Wf) (h : HasAs S law3_shapes av) : CallA PP 3 av S (fun r _ => r = .ret (.bool true)) := by
  rw [← (show N Fn.law02_TopkLess = 3 from by kernel_rfl)]
  simp only [law3_shapes, HasAs] at h
  obtain ⟨a, _, rfl, ha, b, _, rfl, hb, c, _, rfl, hc, rfl⟩ := h
  obtain ⟨a0, rfl, _⟩ := id ha
  obtain ⟨b0, rfl, _⟩ := id hb
  obtain ⟨c0, rfl, _⟩ := id hc
  obtain ⟨a, rfl⟩ := has_hit ha
  obtain ⟨b, rfl⟩ := has_hit hb
  obtain ⟨c, rfl⟩ := has_hit hc
  exact (law02_TopkLess.spec has_law02_TopkLess s_Less s_Less2 s_awake a b c S (fun b _ => b = true) hw (fun _ => rfl)).mono fun r S' h => retT_true h

def law7_shapes : List Sh := [hitSh]
theorem law7_spec (S : St) (av : List V) (hw : S.Wf) (h : HasAs S law7_shapes av) : CallA PP 7 av S (fun r _ => r = .ret (.bool true)) := by
  rw [← (show N Fn.law02_TopkNil = 7 from by kernel_rfl)]
  simp only [law7_shapes, HasAs] at h
  obtain ⟨a, _, rfl, ha, rfl⟩ := h
  obtain ⟨a0, rfl, _⟩ := id ha
  obtain ⟨a, rfl⟩ := has_hit ha
  exact (law02_TopkNil.spec has_law02_TopkNil has_topk_Heap_Len has_topk_Heap_Full has_topk_Heap_List has_topk_Heap_Offer has_topk_Heap_Worst s_awake a S (fun b _ => b = true) hw (fun _ => rfl)).mono fun r S' h => retT_true h

end Go.Th.Topk
end
