/- What the row of one statement stands on: a store, abstract code, functions of the program and their laws (ThTopkAll3). -/
import Derived.Test.YtdpehfhhbmmhjaaThBTopkAll2
import Derived.Test.YtdpehfhhbmmhjaaThBHlaw02d

section
/- The seat's functions, each by its law: what a heap was offered. -/
set_option linter.unusedVariables false
namespace Go.Th.Topk
open Go Go.Th Go.Th.L Go.Th.Pure

def law6_shapes : List Sh := [Sh.int IntKind.i64, Sh.slice 3 24 hitSh]
theorem law6_spec (S : St) (av : List V) (hw : S.Wf) (h : HasAs S law6_shapes av) : CallA PP 6 av S (fun r _ => r = .ret (.bool true)) := by
  rw [← (show N Fn.law02_TopkOffers = 6 from by kernel_rfl)]
  simp only [law6_shapes, HasAs, HasA] at h
  obtain ⟨_, _, rfl, hk, _, _, rfl, hv, rfl⟩ := h
  simp only [Has] at hk hv
  obtain ⟨k, hk, _⟩ := hk
  obtain ⟨v, n, es, hv, hsl, hr, hes⟩ := hv
  cases hk; cases hv
  obtain ⟨l, h1, h2⟩ := has_hits hsl hes
  have hn := hsl.1
  have : reachBytes = 140737488351232 := rfl
  exact (law02_TopkOffers.spec has_law02_TopkOffers s_law02 has_topk_Heap_Worst has_topk_Heap_Len has_topk_Heap_Full hw h2 (by omega) (K := fun b _ => b = true) (fun _ => rfl)).mono fun r S' h => retT_true h

end Go.Th.Topk
end
