/- What the row of one statement stands on: a store, abstract code, functions of the program and their laws (ThJsondAll2). -/
import Derived.Test.YtconjbbmdjaehaaDoorThBJsondAll
import Derived.Test.YtconjbbmdjaehaaDoorThBHlaw20c

section
/- json's door: JsonRound. -/
set_option linter.unusedVariables false
namespace Go.Th.Jsond
open Go Go.Th Go.Th.L Go.Th.Pure
set_option maxRecDepth 100000

theorem s_ValTy : ValTy PP 26 9 := ValTy.of (tso := 22) (ti := 3) (tl := 23) (tn := 24) Go.Proofs.Tryd.underlying26 (fun f => rfl) Go.Proofs.Tryd.underlying22 Go.Proofs.Tryd.underlying3 Go.Proofs.Tryd.underlying9 Go.Proofs.Tryd.underlying23 Go.Proofs.Tryd.underlying24 (by kernel_rfl) (by kernel_rfl) (by kernel_rfl) (by kernel_rfl)
theorem law3_ty : ∀ u ∈ Go.Proofs.Tryd.f3.params.toList, ∀ g, (shOfR PP g u).isSome = true := s_ValTy.args
theorem law3_spec (S : St) (av : List V) (hw : S.Wf) (hg : ErrTab [3, 4] 0 S) (h : HasAsR PP S Go.Proofs.Tryd.f3.params.toList av) : CallA PP 3 av S (fun r _ => r = .ret (.bool true)) := by
  rw [← (show N Fn.law20_JsonRound = 3 from by kernel_rfl)]
  obtain ⟨v, lv, nv, s, rfl, r, f⟩ := s_ValTy.two hw h
  exact (law20_JsonRound.spec hw (s_Awake hg) has_ref20_Same has_law20_big has_law20_parts has_law20_wide has_law20_JsonRound hg.1 r f (K := fun b _ => b = true) (fun _ => rfl)).mono fun r S' h => retT_true h

end Go.Th.Jsond
end
