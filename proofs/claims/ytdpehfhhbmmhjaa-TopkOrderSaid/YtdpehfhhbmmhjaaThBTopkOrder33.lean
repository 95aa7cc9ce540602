/- What the row of one statement stands on: a store, abstract code, functions of the program and their laws (ThHlaw02). -/
import Derived.Test.YtdpehfhhbmmhjaaThBTopkOrder32

section
/- The laws of layer 2. -/
set_option linter.unusedSimpArgs false
set_option linter.unusedVariables false
namespace Go.Th.L
open Go Go.Th Go.Th.Pure
variable {P : Program} {N : Nat → Nat}

/-- A function that is always true. -/
def AwakeF (P : Program) (f : Nat) : Prop := ∀ (S : St) (K : Bool → St → Prop), K true S → CallA P f [] S (retT [.one .bool] K)

def law02_TopkLess.Spec (P : Program) (N : Nat → Nat) : Prop := ∀ (a b c : Hit) (S : St) (K : Bool → St → Prop), S.Wf → (∀ S', K true S') → CallA P (N Fn.law02_TopkLess) [hitV a, hitV b, hitV c] S (retT [.one .bool] K)
theorem law02_TopkLess.spec (hF : law02_TopkLess.Ok P N) (hl : topk_Less.Spec P N) (hr : ref02_Less.Spec P N) (ha : AwakeF P (N Fn.law02_awake)) : law02_TopkLess.Spec P N := by
  intro a b c S K hw hk
  refine law02_TopkLess.run hF (newS_mk hw fun S1 g1 m1 n1 => newS_mk g1.wf fun S2 g2 m2 n2 => newS_mk g2.wf fun S3 g3 m3 n3 => ?_)
  have m1' := g3.get (g2.get m1)
  have m2' := g3.get m2
  refine ⟨_, _, _, ldN m1' (by simp) rfl, _, _, _, ldN m2' (by simp) rfl, hl a b _ _ ⟨_, _, _, ldN m2' (by simp) rfl, _, _, _, ldN m1' (by simp) rfl, hl b a _ _ ⟨_, _, _, ldN m2' (by simp) rfl, _, _, _, ldN m3 (by simp) rfl, hl b c _ _ ⟨_, _, _, ldN m1' (by simp) rfl, _, _, _, ldN m3 (by simp) rfl, hl a c _ _ ?_⟩⟩⟩⟩
  refine Join0.mid (fun S' => S' = S3) ⟨_, _, _, ldN m1' (by simp) rfl, _, _, _, ldN m2' (by simp) rfl, hr a b _ _ (ifC_ff (by simp) ?_)⟩ ?_
  · have key : CallA P (N Fn.topk_Less) [hitV a, hitV a] S3 (retT [.one .bool] fun (x : Bool) (S10 : St) => ifC x (K false S10) (ifC (lessH a b) (ifC (lessH b c) (ifC (!lessH a c) (K false S10) (S10 = S3)) (S10 = S3)) (S10 = S3))) := by
      refine hl a a _ _ (ifC_ff (less_irrefl a) (ifC_tt_ff (fun h1 => ifC_tt_ff (fun h2 => ifC_ff ?_ rfl) fun _ => rfl) fun _ => rfl))
      rw [less_trans h1 h2]; rfl
    refine ifC_tt_ff (fun h1 => ifC_ff (less_asymm h1) ⟨_, _, _, ldN m1' (by simp) rfl, _, _, _, ldN m1' (by simp) rfl, key⟩) (fun h1 => ⟨_, _, _, ldN m1' (by simp) rfl, _, _, _, ldN m1' (by simp) rfl, key⟩)
  rintro S8 rfl
  refine ha _ _ (ifC_tt rfl (ifC_tt_ff (fun _ => hk _) fun h1 => ifC_tt_ff (fun _ => hk _) fun h2 => ⟨_, _, _, ldN m1' (by simp) rfl, _, _, _, ldN m2' (by simp) rfl, _, eqH_mk a b, ?_⟩))
  rw [decide_eq_true (less_total h1 h2)]; exact hk _

/-! ## no heap -/
theorem topk_Heap_Len.nil_ (hF : topk_Heap_Len.Ok P N) {S : St} {K : Int → St → Prop} (h : K 0 S) : CallA P (N Fn.topk_Heap_Len) [.nilPtr] S (retT [.one (.int .i64)] K) :=
  topk_Heap_Len.run hF ⟨true, rfl, ifC_tt rfl h⟩
theorem topk_Heap_Full.nil_ (hF : topk_Heap_Full.Ok P N) {S : St} {K : Bool → St → Prop} (h : K false S) : CallA P (N Fn.topk_Heap_Full) [.nilPtr] S (retT [.one .bool] K) :=
  topk_Heap_Full.run hF ⟨true, rfl, ifC_ff rfl h⟩
theorem topk_Heap_List.nil_ (hF : topk_Heap_List.Ok P N) {S : St} {K : V → St → Prop} (h : K .nilSlice S) : CallA P (N Fn.topk_Heap_List) [.nilPtr] S (retT [.one .any] K) :=
  topk_Heap_List.run hF ⟨true, rfl, ifC_tt rfl h⟩
theorem topk_Heap_Offer.nil_ (hF : topk_Heap_Offer.Ok P N) {S : St} {a : Hit} {K : Bool → St → Prop} (h : K false S) : CallA P (N Fn.topk_Heap_Offer) [.nilPtr, hitV a] S (retT [.one .bool] K) :=
  CallA.gc1 (t := .bool) rfl _ h fun K' hw hk => topk_Heap_Offer.run hF (newS_mk hw fun S1 g1 m1 n1 => ⟨true, rfl, ifC_tt rfl (hk _)⟩)
theorem topk_Heap_Worst.nil_ (hF : topk_Heap_Worst.Ok P N) (hL : topk_Heap_Len.Ok P N) {S : St} (hw : S.Wf) {K : Int → Int → Int → Bool → St → Prop} (h : ∀ S', Grow S S' → K 0 0 0 false S') :
    CallA P (N Fn.topk_Heap_Worst) [.nilPtr] S (retT [.agg [.int .i64, .int .u64, .int .u64], .one .bool] K) :=
  topk_Heap_Worst.run hF (newS_mk hw fun S1 g1 m1 n1 => topk_Heap_Len.nil_ hL (ifC_pos rfl (st_mk g1.wf m1 rfl (by simp [V.cells]) rfl fun S2 u2 m2 n2 => ⟨_, _, _, ldC m2 (by simp [over, V.cells]) rfl, h _ (g1.after u2 (by simp))⟩)))

def law02_TopkNil.Spec (P : Program) (N : Nat → Nat) : Prop := ∀ (a : Hit) (S : St) (K : Bool → St → Prop), S.Wf → (∀ S', K true S') → CallA P (N Fn.law02_TopkNil) [hitV a] S (retT [.one .bool] K)
theorem law02_TopkNil.spec (hF : law02_TopkNil.Ok P N) (h1 : topk_Heap_Len.Ok P N) (h2 : topk_Heap_Full.Ok P N) (h3 : topk_Heap_List.Ok P N) (h4 : topk_Heap_Offer.Ok P N) (h5 : topk_Heap_Worst.Ok P N) (ha : AwakeF P (N Fn.law02_awake)) : law02_TopkNil.Spec P N := by
  intro a S K hw hk
  refine law02_TopkNil.run hF (newS_mk hw fun S1 g1 m1 n1 => topk_Heap_Worst.nil_ h5 h1 g1.wf fun S2 g2 => newS_mk g2.wf fun S3 g3 m3 n3 => st_mk g3.wf m3 rfl (by simp [V.cells]) rfl fun S4 u4 m4 n4 => ha _ _ (ifC_tt rfl ?_))
  have m1' := Grow.get (g3.after u4 (by simp)) (g2.get m1)
  refine ⟨_, _, _, ldN m1' (by simp) rfl, topk_Heap_Offer.nil_ (a := a) h4 (ifC_tt rfl (topk_Heap_Len.nil_ h1 (ifC_pos rfl (topk_Heap_Full.nil_ h2 (ifC_tt rfl ⟨_, _, _, ldN m4 (by simp [over, V.cells]) rfl, _, eqH_mk ⟨0, 0, 0⟩ ⟨0, 0, 0⟩, ifC_tt (by simp) (ifC_tt rfl (topk_Heap_List.nil_ h3 ⟨_, lenV_nil _, ?_⟩))⟩)))))⟩
  exact hk _

end Go.Th.L
end
