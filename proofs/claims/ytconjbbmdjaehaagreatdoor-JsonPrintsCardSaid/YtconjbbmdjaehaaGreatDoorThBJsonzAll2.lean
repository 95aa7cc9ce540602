/- What the row of one statement stands on: a store, abstract code, functions of the program and their laws (ThJsonzAll2). -/
import Derived.Test.YtconjbbmdjaehaaGreatDoorThBJsonzAll
import Derived.Test.YtconjbbmdjaehaaGreatDoorThBHlaw20f

section
/- json's great door: JsonPrints. -/
set_option linter.unusedVariables false
namespace Go.Th.Jsonz
open Go Go.Th Go.Th.L Go.Th.Pure
set_option maxRecDepth 100000

theorem s_ValTy : ValTy PP 26 9 := ValTy.of (tso := 22) (ti := 3) (tl := 23) (tn := 24) Go.Proofs.Tryz.underlying26 (fun f => rfl) Go.Proofs.Tryz.underlying22 Go.Proofs.Tryz.underlying3 Go.Proofs.Tryz.underlying9 Go.Proofs.Tryz.underlying23 Go.Proofs.Tryz.underlying24 (by kernel_rfl) (by kernel_rfl) (by kernel_rfl) (by kernel_rfl)
theorem s_Prints : PrintsF PP N := ⟨has_law20_JsonPrints, has_law20_big, has_law20_parts, has_law20_wide, has_law20_copied, has_ref20_Same, s_Check, s_RefCheck, ⟨has_ref20_text, has_ref20_quoted, has_ref20_Number, has_ref20_digits⟩, has_ref20_Print, has_ref20_Get⟩
theorem law4_ty : ∀ u ∈ Go.Proofs.Tryz.f4.params.toList, ∀ g, (shOfR PP g u).isSome = true := s_ValTy.args
theorem law4_spec (S : St) (av : List V) (hw : S.Wf) (hg : ErrTab [2, 3] 4 S) (h : HasAsR PP S Go.Proofs.Tryz.f4.params.toList av) : CallA PP 4 av S (fun r _ => r = .ret (.bool true)) := by
  rw [← (show N Fn.law20_JsonPrints = 4 from by kernel_rfl)]
  obtain ⟨v, lv, nv, s, rfl, r, f⟩ := s_ValTy.two hw h
  exact (law20_JsonPrints.spec hw (s_Awake hg) s_Prints hg.1 r f (K := fun b _ => b = true) (fun _ => rfl)).mono fun r S' h => retT_true h

end Go.Th.Jsonz
end
