/- What the row of one statement stands on: a store, abstract code, functions of the program and their laws (ThHcmp). -/
import Derived.Test.YtdjocmcbibedhaaGreatThBQ10
import Derived.Test.YtdjocmcbibedhaaGreatThBGwide
import Derived.Test.YtdjocmcbibedhaaGreatThBGslicesInt

section
/- Numbers compared. -/
set_option linter.unusedSimpArgs false
set_option linter.unusedVariables false
namespace Go.Th.Pure
open Go

def cmpW (ah al bh bl : Int) : Int := if ah = bh ∧ al = bl then 0 else if ah < bh ∨ ah = bh ∧ al < bl then -1 else 1
def cmpI (a b : Int) : Int := if a < b then -1 else if b < a then 1 else 0

end Go.Th.Pure

namespace Go.Th.L
open Go Go.Th Go.Th.Pure
variable {P : Program} {N : Nat → Nat}

def AwakeF (P : Program) (f : Nat) : Prop := ∀ (S : St) (K : Bool → St → Prop), K true S → CallA P f [] S (retT [.one .bool] K)

theorem eq2_mk (k k' : IntKind) (a b c d : Int) : eqV 6 [1, 1] (.agg [.int k a, .int k' b]) (.agg [.int k c, .int k' d]) = some (decide (a = c ∧ b = d)) := by
  simp [eqV, eqA, eqL, eqT]

def wide_Cmp.Spec (P : Program) (N : Nat → Nat) : Prop := ∀ (a b c d : Int) (S : St) (K : Int → St → Prop), K (cmpW a b c d) S → CallA P (N Fn.wide_Cmp) [.agg [.int .u64 a, .int .u64 b], .agg [.int .u64 c, .int .u64 d]] S (retT [.one (.int .i64)] K)
theorem wide_Cmp.spec (hF : wide_Cmp.Ok P N) : wide_Cmp.Spec P N := by
  intro a b c d S K h
  refine CallA.gc1 (t := .int .i64) rfl _ h fun K' hw hk => ?_
  refine wide_Cmp.run hF (newS_mk hw fun S1 g1 m1 n1 => newS_mk g1.wf fun S2 g2 m2 n2 => ?_)
  have m1' := g2.get m1
  refine ⟨_, _, ldN m1' (by simp) rfl, _, _, ldN m2 (by simp) rfl, _, eq2_mk _ _ _ _ _ _, ifC_dec (fun h1 => ?_) (fun h1 => ?_)⟩
  · have := hk S2; rwa [cmpW, if_pos h1] at this
  refine ⟨_, ld m1' rfl, _, ld m2 rfl, ifC_dec (fun h2 => ?_) (fun h2 => ?_)⟩
  · have := hk S2; rwa [cmpW, if_neg h1, if_pos (.inl h2)] at this
  refine ⟨_, ld m1' rfl, _, ld m2 rfl, ifC_dec (fun h3 => ?_) (fun h3 => ?_)⟩
  · refine ⟨_, ld m1' rfl, _, ld m2 rfl, ifC_dec (fun h4 => ?_) (fun h4 => ?_)⟩
    · have := hk S2; rwa [cmpW, if_neg h1, if_pos (.inr ⟨h3, h4⟩)] at this
    · have := hk S2; rwa [cmpW, if_neg h1, if_neg (by omega)] at this
  · have := hk S2; rwa [cmpW, if_neg h1, if_neg (by omega)] at this

def cmp_isNaN_int.Spec (P : Program) (N : Nat → Nat) : Prop := ∀ (a : Int) (S : St) (K : Bool → St → Prop), K false S → CallA P (N Fn.cmp_isNaN_int) [.int .i64 a] S (retT [.one .bool] K)
theorem cmp_isNaN_int.spec (hF : cmp_isNaN_int.Ok P N) : cmp_isNaN_int.Spec P N := by
  intro a S K h
  refine cmp_isNaN_int.run hF ?_
  show K _ S
  simpa using h

def cmp_Compare_int.Spec (P : Program) (N : Nat → Nat) : Prop := ∀ (a b : Int) (S : St) (K : Int → St → Prop), K (cmpI a b) S → CallA P (N Fn.cmp_Compare_int) [.int .i64 a, .int .i64 b] S (retT [.one (.int .i64)] K)
theorem cmp_Compare_int.spec (hF : cmp_Compare_int.Ok P N) (hn : cmp_isNaN_int.Spec P N) : cmp_Compare_int.Spec P N := by
  intro a b S K h
  refine cmp_Compare_int.run hF (hn _ _ _ (hn _ _ _ (ifC_ff rfl (ifC_ff rfl (ifC_dec (fun h1 => ?_) (fun h1 => ifC_dec (fun h2 => ?_) (fun h2 => ?_)))))))
  · rwa [cmpI, if_pos h1] at h
  · rwa [cmpI, if_neg h1, if_pos h2] at h
  · rwa [cmpI, if_neg h1, if_neg h2] at h

def cmp_Or_int.Spec (P : Program) (N : Nat → Nat) : Prop := ∀ (a b : Int) (v : V) (S : St) (K : Int → St → Prop), IntsAt S v [a, b] → K (if a ≠ 0 then a else b) S → CallA P (N Fn.cmp_Or_int) [v] S (retT [.one (.int .i64)] K)
theorem cmp_Or_int.spec (hF : cmp_Or_int.Ok P N) : cmp_Or_int.Spec P N := by
  intro a b v S K hv h
  refine cmp_Or_int.run hF ⟨_, hv.length, Loop1.ind (fun n x S' => S' = S ∧ ∃ j : Nat, x = j ∧ n = 2 - j ∧ (0 < j → a = 0) ∧ (1 < j → b = 0)) 2 ⟨rfl, 0, rfl, rfl, by omega, by omega⟩ ?_⟩
  rintro n x S' ⟨rfl, j, rfl, rfl, h0, h1⟩
  refine ifC_dec (fun hj => ?_) (fun hj => ?_)
  · have hj' : j < 2 := by simp at hj; omega
    have hj2 : j < [a, b].length := hj'
    refine ifS_mk (hv.idx hj2) ⟨_, hv.get hj2, ifC_ndec (fun h2 => ?_) (fun h2 => ?_)⟩
    · have hjj : j = 0 ∨ j = 1 := by omega
      rcases hjj with rfl | rfl
      · simp only [List.getElem_cons_zero] at h2 ⊢; rwa [if_pos h2] at h
      · simp only [List.getElem_cons_succ, List.getElem_cons_zero] at h2 ⊢; rwa [if_neg (by simpa using h0 (by omega))] at h
    · refine setI_mk (wrap_nat (by omega)) ⟨2 - (j + 1), by omega, rfl, j + 1, rfl, rfl, fun _ => ?_, fun _ => ?_⟩
      · have hjj : j = 0 ∨ j = 1 := by omega
        rcases hjj with rfl | rfl
        · simpa using h2
        · exact h0 (by omega)
      · have hjj : j = 1 := by omega
        subst hjj; simpa using h2
  · have hj' : ¬ j < 2 := by simp at hj; omega
    rw [if_neg (by simpa using h0 (by omega)), h1 (by omega)] at h
    exact h

end Go.Th.L
end
