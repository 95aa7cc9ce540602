/- What the row of one statement stands on: a store, abstract code, functions of the program and their laws (ThCertAll2). -/
import Derived.Test.YtdjocmcbibedhaaThBCertAll
import Derived.Test.YtdjocmcbibedhaaThBHcert12

section
/- The seat's functions, each by its law: CertSpoilt. -/
set_option linter.unusedVariables false
set_option maxRecDepth 100000
namespace Go.Th.Cert
open Go Go.Th Go.Th.L Go.Th.Pure

def law4_shapes : List Sh := [rowsS, intsS, Sh.int IntKind.i64, ansS, Sh.int IntKind.i64]
theorem law4_spec (S : St) (av : List V) (hw : S.Wf) (h : HasAs S law4_shapes av) : CallA PP 4 av S (fun r _ => r = .ret (.bool true)) := by
  rw [← (show N Fn.law13_CertSpoilt = 4 from by kernel_rfl)]
  simp only [law4_shapes, HasAs] at h
  obtain ⟨v, _, rfl, hv, u, _, rfl, hu, k, _, rfl, hk, y, _, rfl, hy, n, _, rfl, hn, rfl⟩ := h
  obtain ⟨rs, q, x, a, b, c, rfl, hg⟩ := rd_given hv hu hy
  obtain ⟨k, rfl, _⟩ := rd_int hk
  obtain ⟨n, rfl, hn'⟩ := rd_int hn
  exact (law13_CertSpoilt.spec has_law13_CertSpoilt has_law13_lent s_law13 hw (by exact hn') hg (K := fun b _ => b = true) (fun _ => rfl)).mono fun r S' h => retT_true h

end Go.Th.Cert
end
