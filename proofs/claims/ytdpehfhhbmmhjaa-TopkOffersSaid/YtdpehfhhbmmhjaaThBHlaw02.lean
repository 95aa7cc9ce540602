/- What the row of one statement stands on: a store, abstract code, functions of the program and their laws (ThHtopk0, ThHlaw02). -/
import Derived.Test.YtdpehfhhbmmhjaaThBHcmp
import Derived.Test.YtdpehfhhbmmhjaaThBGwide

section
/- topk, the document: hits compared. -/
set_option linter.unusedSimpArgs false
set_option linter.unusedVariables false
namespace Go.Th.Pure
open Go

structure Hit where
  id : Int
  hi : Int
  lo : Int
deriving DecidableEq

def cmpH (a b : Hit) : Int := if cmpW a.hi a.lo b.hi b.lo ≠ 0 then cmpW a.hi a.lo b.hi b.lo else cmpI a.id b.id
def lessH (a b : Hit) : Bool := decide (a.hi < b.hi ∨ a.hi = b.hi ∧ (a.lo < b.lo ∨ a.lo = b.lo ∧ a.id < b.id))

theorem cmpH_less (a b : Hit) : decide (cmpH a b < 0) = lessH a b := by
  unfold cmpH lessH cmpW cmpI
  by_cases h1 : a.hi = b.hi ∧ a.lo = b.lo
  · rw [if_pos h1]
    by_cases h2 : a.id < b.id
    · simp [h1.1, h1.2, h2]
    · by_cases h3 : b.id < a.id <;> simp [h1.1, h1.2, h2, h3]
  · rw [if_neg h1]
    by_cases h2 : a.hi < b.hi ∨ a.hi = b.hi ∧ a.lo < b.lo
    · rw [if_pos h2]
      have : a.hi < b.hi ∨ a.hi = b.hi ∧ (a.lo < b.lo ∨ a.lo = b.lo ∧ a.id < b.id) := by omega
      simp [this]
    · rw [if_neg h2]
      have : ¬ (a.hi < b.hi ∨ a.hi = b.hi ∧ (a.lo < b.lo ∨ a.lo = b.lo ∧ a.id < b.id)) := by omega
      simp [this]

theorem less_irrefl (a : Hit) : lessH a a = false := by simp [lessH]
theorem less_asymm {a b : Hit} (h : lessH a b = true) : lessH b a = false := by
  simp only [lessH, decide_eq_true_eq] at h
  simp only [lessH, decide_eq_false_iff_not]; omega
theorem less_trans {a b c : Hit} (h : lessH a b = true) (h' : lessH b c = true) : lessH a c = true := by
  simp only [lessH, decide_eq_true_eq] at h h' ⊢; omega
theorem less_total {a b : Hit} (h : lessH a b = false) (h' : lessH b a = false) : a = b := by
  simp only [lessH, decide_eq_false_iff_not] at h h'
  cases a; cases b
  simp only [Hit.mk.injEq] at *
  omega

end Go.Th.Pure

namespace Go.Th.L
open Go Go.Th Go.Th.Pure
variable {P : Program} {N : Nat → Nat}

abbrev hcells (a : Hit) : List V := [.int .i64 a.id, .int .u64 a.hi, .int .u64 a.lo]
abbrev hitV (a : Hit) : V := .agg (hcells a)

theorem eqH_mk (a b : Hit) : eqV 6 [1, 1, 1] (hitV a) (hitV b) = some (decide (a = b)) := by
  cases a; cases b
  simp [eqV, eqA, eqL, eqT, Hit.mk.injEq]

def topk_compare.Spec (P : Program) (N : Nat → Nat) : Prop := ∀ (a b : Hit) (S : St) (K : Int → St → Prop), K (cmpH a b) S → CallA P (N Fn.topk_compare) [hitV a, hitV b] S (retT [.one (.int .i64)] K)
theorem topk_compare.spec (hF : topk_compare.Ok P N) (hw0 : wide_Cmp.Spec P N) (hc : cmp_Compare_int.Spec P N) (ho : cmp_Or_int.Spec P N) : topk_compare.Spec P N := by
  intro a b S K h
  refine CallA.gc1 (t := .int .i64) rfl _ h fun K' hw hk => ?_
  refine topk_compare.run hF (newS_mk hw fun S1 g1 m1 n1 => newS_mk g1.wf fun S2 g2 m2 n2 => ?_)
  have m1' := g2.get m1
  refine ⟨_, _, ldN m1' (by simp) rfl, _, _, ldN m2 (by simp) rfl, _, ld m1' rfl, _, ld m2 rfl, hw0 _ _ _ _ _ _ ⟨Same.refl _ _, hc _ _ _ _ ⟨Same.refl _ _, newS_mk g2.wf fun S3 g3 m3 n3 => ⟨Same.of_grow g3 (by intro i hi; simp only [List.mem_cons, List.not_mem_nil, or_false] at hi; omega), ho _ _ _ _ _ ?_ ⟨Same.refl _ _, hk _⟩⟩⟩⟩⟩
  refine ⟨by simp, rfl, .inr ⟨_, 0, 2, true, rfl, by simp, ?_⟩⟩
  rw [St.loads, m3]; rfl

def topk_Less.Spec (P : Program) (N : Nat → Nat) : Prop := ∀ (a b : Hit) (S : St) (K : Bool → St → Prop), K (lessH a b) S → CallA P (N Fn.topk_Less) [hitV a, hitV b] S (retT [.one .bool] K)
theorem topk_Less.spec (hF : topk_Less.Ok P N) (hc : topk_compare.Spec P N) : topk_Less.Spec P N := by
  intro a b S K h
  refine CallA.gc1 (t := .bool) rfl _ h fun K' hw hk => ?_
  refine topk_Less.run hF (newS_mk hw fun S1 g1 m1 n1 => newS_mk g1.wf fun S2 g2 m2 n2 => ?_)
  refine ⟨_, _, _, ldN (g2.get m1) (by simp) rfl, _, _, _, ldN m2 (by simp) rfl, hc _ _ _ _ ?_⟩
  rw [cmpH_less]; exact hk _

def ref02_Less.Spec (P : Program) (N : Nat → Nat) : Prop := ∀ (a b : Hit) (S : St) (K : Bool → St → Prop), K (lessH a b) S → CallA P (N Fn.ref02_Less) [hitV a, hitV b] S (retT [.one .bool] K)
theorem ref02_Less.spec (hF : ref02_Less.Ok P N) : ref02_Less.Spec P N := by
  intro a b S K h
  refine CallA.gc1 (t := .bool) rfl _ h fun K' hw hk => ?_
  refine ref02_Less.run hF (newS_mk hw fun S1 g1 m1 n1 => newS_mk g1.wf fun S2 g2 m2 n2 => ?_)
  have m1' := g2.get m1
  have hk2 := hk S2
  simp only [lessH] at hk2
  refine ⟨_, ld m1' rfl, _, ld m2 rfl, ifC_ndec (fun h1 => ⟨_, ld m1' rfl, _, ld m2 rfl, ?_⟩) (fun h1 => ⟨_, ld m1' rfl, _, ld m2 rfl, ifC_ndec (fun h2 => ⟨_, ld m1' rfl, _, ld m2 rfl, ?_⟩) (fun h2 => ⟨_, ld m1' rfl, _, ld m2 rfl, ?_⟩)⟩)⟩
  · have : (a.hi < b.hi ∨ a.hi = b.hi ∧ (a.lo < b.lo ∨ a.lo = b.lo ∧ a.id < b.id)) ↔ a.hi < b.hi := by omega
    rwa [decide_eq_decide.mpr this] at hk2
  · have : (a.hi < b.hi ∨ a.hi = b.hi ∧ (a.lo < b.lo ∨ a.lo = b.lo ∧ a.id < b.id)) ↔ a.lo < b.lo := by omega
    rwa [decide_eq_decide.mpr this] at hk2
  · have : (a.hi < b.hi ∨ a.hi = b.hi ∧ (a.lo < b.lo ∨ a.lo = b.lo ∧ a.id < b.id)) ↔ a.id < b.id := by omega
    rwa [decide_eq_decide.mpr this] at hk2

end Go.Th.L
end

section
/- The laws of layer 2. -/
set_option linter.unusedSimpArgs false
set_option linter.unusedVariables false
namespace Go.Th.L
open Go Go.Th Go.Th.Pure
variable {P : Program} {N : Nat → Nat}

def law02_TopkLess.Spec (P : Program) (N : Nat → Nat) : Prop := ∀ (a b c : Hit) (S : St) (K : Bool → St → Prop), S.Wf → (∀ S', K true S') → CallA P (N Fn.law02_TopkLess) [hitV a, hitV b, hitV c] S (retT [.one .bool] K)
theorem law02_TopkLess.spec (hF : law02_TopkLess.Ok P N) (hl : topk_Less.Spec P N) (hr : ref02_Less.Spec P N) (ha : AwakeF P (N Fn.law02_awake)) : law02_TopkLess.Spec P N := by
  intro a b c S K hw hk
  refine law02_TopkLess.run hF (newS_mk hw fun S1 g1 m1 n1 => newS_mk g1.wf fun S2 g2 m2 n2 => newS_mk g2.wf fun S3 g3 m3 n3 => ?_)
  have m1' := g3.get (g2.get m1)
  have m2' := g3.get m2
  refine ⟨_, _, _, ldN m1' (by simp) rfl, _, _, _, ldN m2' (by simp) rfl, hl a b _ _ ⟨_, _, _, ldN m2' (by simp) rfl, _, _, _, ldN m1' (by simp) rfl, hl b a _ _ ⟨_, _, _, ldN m2' (by simp) rfl, _, _, _, ldN m3 (by simp) rfl, hl b c _ _ ⟨_, _, _, ldN m1' (by simp) rfl, _, _, _, ldN m3 (by simp) rfl, hl a c _ _ ?_⟩⟩⟩⟩
  refine Join0.mid (fun S' => S' = S3) ⟨_, _, _, ldN m1' (by simp) rfl, _, _, _, ldN m2' (by simp) rfl, hr a b _ _ (ifC_ff (by simp) ?_)⟩ ?_
  · have key : CallA P (N Fn.topk_Less) [hitV a, hitV a] S3 (retT [.one .bool] fun (x : Bool) (S10 : St) => ifC x (K false S10) (ifC (lessH a b) (ifC (lessH b c) (ifC (!lessH a c) (K false S10) (S10 = S3)) (S10 = S3)) (S10 = S3))) := by
      refine hl a a _ _ (ifC_ff (less_irrefl a) (ifC_tt_ff (fun h1 => ifC_tt_ff (fun h2 => ifC_ff ?_ rfl) fun _ => rfl) fun _ => rfl))
      rw [less_trans h1 h2]; rfl
    refine ifC_tt_ff (fun h1 => ifC_ff (less_asymm h1) ⟨_, _, _, ldN m1' (by simp) rfl, _, _, _, ldN m1' (by simp) rfl, key⟩) (fun h1 => ⟨_, _, _, ldN m1' (by simp) rfl, _, _, _, ldN m1' (by simp) rfl, key⟩)
  rintro S8 rfl
  refine ha _ _ (ifC_tt rfl (ifC_tt_ff (fun _ => hk _) fun h1 => ifC_tt_ff (fun _ => hk _) fun h2 => ⟨_, _, _, ldN m1' (by simp) rfl, _, _, _, ldN m2' (by simp) rfl, _, eqH_mk a b, ?_⟩))
  rw [decide_eq_true (less_total h1 h2)]; exact hk _

/-! ## no heap -/
theorem topk_Heap_Len.nil_ (hF : topk_Heap_Len.Ok P N) {S : St} {K : Int → St → Prop} (h : K 0 S) : CallA P (N Fn.topk_Heap_Len) [.nilPtr] S (retT [.one (.int .i64)] K) :=
  topk_Heap_Len.run hF ⟨true, rfl, ifC_tt rfl h⟩
theorem topk_Heap_Full.nil_ (hF : topk_Heap_Full.Ok P N) {S : St} {K : Bool → St → Prop} (h : K false S) : CallA P (N Fn.topk_Heap_Full) [.nilPtr] S (retT [.one .bool] K) :=
  topk_Heap_Full.run hF ⟨true, rfl, ifC_ff rfl h⟩
theorem topk_Heap_List.nil_ (hF : topk_Heap_List.Ok P N) {S : St} {K : V → St → Prop} (h : K .nilSlice S) : CallA P (N Fn.topk_Heap_List) [.nilPtr] S (retT [.one .any] K) :=
  topk_Heap_List.run hF ⟨true, rfl, ifC_tt rfl h⟩
theorem topk_Heap_Offer.nil_ (hF : topk_Heap_Offer.Ok P N) {S : St} {a : Hit} {K : Bool → St → Prop} (h : K false S) : CallA P (N Fn.topk_Heap_Offer) [.nilPtr, hitV a] S (retT [.one .bool] K) :=
  CallA.gc1 (t := .bool) rfl _ h fun K' hw hk => topk_Heap_Offer.run hF (newS_mk hw fun S1 g1 m1 n1 => ⟨true, rfl, ifC_tt rfl (hk _)⟩)
theorem topk_Heap_Worst.nil_ (hF : topk_Heap_Worst.Ok P N) (hL : topk_Heap_Len.Ok P N) {S : St} (hw : S.Wf) {K : Int → Int → Int → Bool → St → Prop} (h : ∀ S', Grow S S' → K 0 0 0 false S') :
    CallA P (N Fn.topk_Heap_Worst) [.nilPtr] S (retT [.agg [.int .i64, .int .u64, .int .u64], .one .bool] K) :=
  topk_Heap_Worst.run hF (newS_mk hw fun S1 g1 m1 n1 => topk_Heap_Len.nil_ hL (ifC_pos rfl (st_mk g1.wf m1 rfl (by simp [V.cells]) rfl fun S2 u2 m2 n2 => ⟨_, _, _, ldC m2 (by simp [over, V.cells]) rfl, h _ (g1.after u2 (by simp))⟩)))

def law02_TopkNil.Spec (P : Program) (N : Nat → Nat) : Prop := ∀ (a : Hit) (S : St) (K : Bool → St → Prop), S.Wf → (∀ S', K true S') → CallA P (N Fn.law02_TopkNil) [hitV a] S (retT [.one .bool] K)
theorem law02_TopkNil.spec (hF : law02_TopkNil.Ok P N) (h1 : topk_Heap_Len.Ok P N) (h2 : topk_Heap_Full.Ok P N) (h3 : topk_Heap_List.Ok P N) (h4 : topk_Heap_Offer.Ok P N) (h5 : topk_Heap_Worst.Ok P N) (ha : AwakeF P (N Fn.law02_awake)) : law02_TopkNil.Spec P N := by
  intro a S K hw hk
  refine law02_TopkNil.run hF (newS_mk hw fun S1 g1 m1 n1 => topk_Heap_Worst.nil_ h5 h1 g1.wf fun S2 g2 => newS_mk g2.wf fun S3 g3 m3 n3 => st_mk g3.wf m3 rfl (by simp [V.cells]) rfl fun S4 u4 m4 n4 => ha _ _ (ifC_tt rfl ?_))
  have m1' := Grow.get (g3.after u4 (by simp)) (g2.get m1)
  refine ⟨_, _, _, ldN m1' (by simp) rfl, topk_Heap_Offer.nil_ (a := a) h4 (ifC_tt rfl (topk_Heap_Len.nil_ h1 (ifC_pos rfl (topk_Heap_Full.nil_ h2 (ifC_tt rfl ⟨_, _, _, ldN m4 (by simp [over, V.cells]) rfl, _, eqH_mk ⟨0, 0, 0⟩ ⟨0, 0, 0⟩, ifC_tt (by simp) (ifC_tt rfl (topk_Heap_List.nil_ h3 ⟨_, lenV_nil _, ?_⟩))⟩)))))⟩
  exact hk _

end Go.Th.L
end
