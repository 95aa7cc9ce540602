/- What the row of one statement stands on: a store, abstract code, functions of the program and their laws (ThHtopk0). -/
import Derived.Test.YtdjocmcbibedhaaGreatThBHcmp
import Derived.Test.YtdjocmcbibedhaaGreatThBGwide
import Derived.Test.YtdjocmcbibedhaaGreatThBGslicesInt

section
/- topk, the document: hits compared. -/
set_option linter.unusedSimpArgs false
set_option linter.unusedVariables false
namespace Go.Th.Pure
open Go

structure Hit where
  id : Int
  hi : Int
  lo : Int
deriving DecidableEq

def cmpH (a b : Hit) : Int := if cmpW a.hi a.lo b.hi b.lo ≠ 0 then cmpW a.hi a.lo b.hi b.lo else cmpI a.id b.id
def lessH (a b : Hit) : Bool := decide (a.hi < b.hi ∨ a.hi = b.hi ∧ (a.lo < b.lo ∨ a.lo = b.lo ∧ a.id < b.id))

theorem cmpH_less (a b : Hit) : decide (cmpH a b < 0) = lessH a b := by
  unfold cmpH lessH cmpW cmpI
  by_cases h1 : a.hi = b.hi ∧ a.lo = b.lo
  · rw [if_pos h1]
    by_cases h2 : a.id < b.id
    · simp [h1.1, h1.2, h2]
    · by_cases h3 : b.id < a.id <;> simp [h1.1, h1.2, h2, h3]
  · rw [if_neg h1]
    by_cases h2 : a.hi < b.hi ∨ a.hi = b.hi ∧ a.lo < b.lo
    · rw [if_pos h2]
      have : a.hi < b.hi ∨ a.hi = b.hi ∧ (a.lo < b.lo ∨ a.lo = b.lo ∧ a.id < b.id) := by omega
      simp [this]
    · rw [if_neg h2]
      have : ¬ (a.hi < b.hi ∨ a.hi = b.hi ∧ (a.lo < b.lo ∨ a.lo = b.lo ∧ a.id < b.id)) := by omega
      simp [this]

theorem less_irrefl (a : Hit) : lessH a a = false := by simp [lessH]
theorem less_asymm {a b : Hit} (h : lessH a b = true) : lessH b a = false := by
  simp only [lessH, decide_eq_true_eq] at h
  simp only [lessH, decide_eq_false_iff_not]; omega
theorem less_trans {a b c : Hit} (h : lessH a b = true) (h' : lessH b c = true) : lessH a c = true := by
  simp only [lessH, decide_eq_true_eq] at h h' ⊢; omega
theorem less_total {a b : Hit} (h : lessH a b = false) (h' : lessH b a = false) : a = b := by
  simp only [lessH, decide_eq_false_iff_not] at h h'
  cases a; cases b
  simp only [Hit.mk.injEq] at *
  omega

end Go.Th.Pure

namespace Go.Th.L
open Go Go.Th Go.Th.Pure
variable {P : Program} {N : Nat → Nat}

abbrev hcells (a : Hit) : List V := [.int .i64 a.id, .int .u64 a.hi, .int .u64 a.lo]
abbrev hitV (a : Hit) : V := .agg (hcells a)

theorem eqH_mk (a b : Hit) : eqV 6 [1, 1, 1] (hitV a) (hitV b) = some (decide (a = b)) := by
  cases a; cases b
  simp [eqV, eqA, eqL, eqT, Hit.mk.injEq]

def topk_compare.Spec (P : Program) (N : Nat → Nat) : Prop := ∀ (a b : Hit) (S : St) (K : Int → St → Prop), K (cmpH a b) S → CallA P (N Fn.topk_compare) [hitV a, hitV b] S (retT [.one (.int .i64)] K)
theorem topk_compare.spec (hF : topk_compare.Ok P N) (hw0 : wide_Cmp.Spec P N) (hc : cmp_Compare_int.Spec P N) (ho : cmp_Or_int.Spec P N) : topk_compare.Spec P N := by
  intro a b S K h
  refine CallA.gc1 (t := .int .i64) rfl _ h fun K' hw hk => ?_
  refine topk_compare.run hF (newS_mk hw fun S1 g1 m1 n1 => newS_mk g1.wf fun S2 g2 m2 n2 => ?_)
  have m1' := g2.get m1
  refine ⟨_, _, ldN m1' (by simp) rfl, _, _, ldN m2 (by simp) rfl, _, ld m1' rfl, _, ld m2 rfl, hw0 _ _ _ _ _ _ ⟨Same.refl _ _, hc _ _ _ _ ⟨Same.refl _ _, newS_mk g2.wf fun S3 g3 m3 n3 => ⟨Same.of_grow g3 (by intro i hi; simp only [List.mem_cons, List.not_mem_nil, or_false] at hi; omega), ho _ _ _ _ _ ?_ ⟨Same.refl _ _, hk _⟩⟩⟩⟩⟩
  refine ⟨by simp, rfl, .inr ⟨_, 0, 2, true, rfl, by simp, ?_⟩⟩
  rw [St.loads, m3]; rfl

def topk_Less.Spec (P : Program) (N : Nat → Nat) : Prop := ∀ (a b : Hit) (S : St) (K : Bool → St → Prop), K (lessH a b) S → CallA P (N Fn.topk_Less) [hitV a, hitV b] S (retT [.one .bool] K)
theorem topk_Less.spec (hF : topk_Less.Ok P N) (hc : topk_compare.Spec P N) : topk_Less.Spec P N := by
  intro a b S K h
  refine CallA.gc1 (t := .bool) rfl _ h fun K' hw hk => ?_
  refine topk_Less.run hF (newS_mk hw fun S1 g1 m1 n1 => newS_mk g1.wf fun S2 g2 m2 n2 => ?_)
  refine ⟨_, _, _, ldN (g2.get m1) (by simp) rfl, _, _, _, ldN m2 (by simp) rfl, hc _ _ _ _ ?_⟩
  rw [cmpH_less]; exact hk _

end Go.Th.L
end
