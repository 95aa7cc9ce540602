/- What the row of one statement stands on: a store, abstract code, functions of the program and their laws (ThHsortH). -/
import Derived.Test.YtdpehfhhbmmhjaaThBTopkOrder35
import Derived.Test.YtdpehfhhbmmhjaaThBTopkOrder32
import Derived.Test.YtdpehfhhbmmhjaaThBTopkOrder24

section
/- slices.SortFunc's functions at hits, each against its plain twin. -/
set_option linter.unusedSimpArgs false
set_option linter.unusedVariables false
set_option linter.unusedSectionVars false
namespace Go.Th.L
open Go Go.Th Go.Th.Pure Go.Sort
variable {P : Program} {N : Nat → Nat}

instance : Inhabited Hit := ⟨⟨0, 0, 0⟩⟩

@[reducible] def hitE : Enc Hit := ⟨3, hitV, hcells, fun _ => rfl, fun _ => rfl, fun _ => rfl⟩

/-- What is asked of a function that compares. -/
def CmpIs (P : Program) (v : V) (lt : Hit → Hit → Bool) : Prop := ∀ (a b : Hit) (S : St) (K : Int → St → Prop), (∀ n : Int, decide (n < 0) = lt a b → K n S) →
  ifS (calleeV (envP P) v [hitV a, hitV b]) fun p => CallA P p.1 p.2 S (retT [.one (.int .i64)] K)

theorem cmp_is (hc : topk_compare.Spec P N) (hE : canEnter P (N Fn.topk_compare) = true) : CmpIs P (.func (.func (N Fn.topk_compare)) [] []) lessH :=
  fun a b S K h => ifS_mk (callee_mk hE) (hc a b S K (h _ (cmpH_less a b)))

@[simp] theorem swp_size {α : Type} [Inhabited α] (d : Array α) (i j : Nat) : (swp d i j).size = d.size := by simp [swp]

abbrev big : Nat := 4611686018427387904
theorem i64_add {a b : Nat} (h : a + b < 9223372036854775808) : IntKind.i64.wrap ((a : Int) + (b : Int)) = ((a + b : Nat) : Int) := by rw [IntKind.wrap_i64]; omega
theorem i64_add1 {a : Nat} (h : a + 1 < 9223372036854775808) : IntKind.i64.wrap ((a : Int) + 1) = ((a + 1 : Nat) : Int) := by rw [IntKind.wrap_i64]; omega
theorem i64_sub {a b : Nat} (hb : b ≤ a) (h : a < 9223372036854775808) : IntKind.i64.wrap ((a : Int) - (b : Int)) = ((a - b : Nat) : Int) := by rw [IntKind.wrap_i64]; omega
theorem i64_sub1 {a : Nat} (hb : 1 ≤ a) (h : a < 9223372036854775808) : IntKind.i64.wrap ((a : Int) - 1) = ((a - 1 : Nat) : Int) := by rw [IntKind.wrap_i64]; omega

abbrev rowV (i o n c : Nat) (t : Bool) : V := .slice i o n c 3 t

def slices_insertionSortCmpFunc_api_Hit.Spec (P : Program) (N : Nat → Nat) : Prop := ∀ (lt : Hit → Hit → Bool) (cv : V) (S0 S : St) (i n c a b : Nat) (t : Bool) (pre post : List V) (d : Array Hit) (K : St → Prop), CmpIs P cv lt → ArrAt hitE S0 i pre post S d → d.size = n → n < big → a ≤ b → b ≤ n →
  (∀ S', ArrAt hitE S0 i pre post S' (insertionSort lt d a b) → K S') → CallA P (N Fn.slices_insertionSortCmpFunc_api_Hit) [rowV i pre.length n c t, .int .i64 a, .int .i64 b, cv] S (retT [] K)
theorem slices_insertionSortCmpFunc_api_Hit.spec (hF : slices_insertionSortCmpFunc_api_Hit.Ok P N) : slices_insertionSortCmpFunc_api_Hit.Spec P N := by
  intro lt cv S0 S i n c a b t pre post d K hcmp hA hz hn hab hbn hk
  unfold big at hn
  refine slices_insertionSortCmpFunc_api_Hit.run hF (setI_mk (i64_add1 (by omega)) (Loop1.ind (fun m x S' => ∃ (k : Nat) (d1 : Array Hit), x = k ∧ m = b - k ∧ k ≤ b + 1 ∧ a < k ∧ d1.size = n ∧ ArrAt hitE S0 i pre post S' d1 ∧ insOuter lt a b k d1 = insertionSort lt d a b) (b - (a + 1)) ⟨a + 1, d, rfl, rfl, by omega, by omega, hz, hA, rfl⟩ ?_))
  rintro m _ S1 ⟨k, d1, rfl, rfl, hkb, hak, hz1, hA1, hR⟩
  refine ifC_dec (fun h1 => ?_) (fun h1 => ?_)
  · have h1 : k < b := by omega
    have next : ∀ (d2 : Array Hit) (S2 : St), d2.size = n → ArrAt hitE S0 i pre post S2 d2 → insOuter lt a b (k + 1) d2 = insertionSort lt d a b → setI (IntKind.i64.wrap ((k : Int) + 1)) fun (x16 : Int) => ∃ m', m' < b - k ∧ ∃ (k' : Nat) (d1 : Array Hit), x16 = k' ∧ m' = b - k' ∧ k' ≤ b + 1 ∧ a < k' ∧ d1.size = n ∧ ArrAt hitE S0 i pre post S2 d1 ∧ insOuter lt a b k' d1 = insertionSort lt d a b :=
      fun d2 S2 hz2 hA2 hR2 => setI_mk (i64_add1 (by omega)) ⟨b - (k + 1), by omega, k + 1, d2, rfl, rfl, by omega, by omega, hz2, hA2, hR2⟩
    rw [insOuter, if_pos h1] at hR
    refine Loop1.ind (fun m x S' => ∃ (j : Nat) (d2 : Array Hit), x = j ∧ j = m ∧ j ≤ k ∧ d2.size = n ∧ ArrAt hitE S0 i pre post S' d2 ∧ insOuter lt a b (k + 1) (insInner lt a j d2) = insertionSort lt d a b) k ⟨k, d1, rfl, rfl, Nat.le_refl _, hz1, hA1, hR⟩ ?_
    rintro m _ S2 ⟨j, d2, rfl, rfl, hjk, hz2, hA2, hR2⟩
    refine Join0.mid (fun S' => S' = S2 ∧ a < j ∧ lt d2[j]! d2[j - 1]! = true) (ifC_dec (fun h2 => ?_) (fun h2 => ?_)) ?_
    · have h2 : a < j := by omega
      have hj1 : j < d2.size := by omega
      have hj2 : j - 1 < d2.size := by omega
      refine ifS_mk (arr_idx (by omega)) ⟨_, _, _, hA2.ldN hj1, setI_mk (i64_sub1 (by omega) (by omega)) (ifS_mk (arr_idx (by omega)) ⟨_, _, _, hA2.ldN hj2, hcmp _ _ _ _ fun x hx => ?_⟩)⟩
      rw [hx]
      refine ifC_tt_ff (fun h3 => ⟨rfl, h2, h3⟩) (fun h3 => next d2 S2 hz2 hA2 ?_)
      obtain ⟨j', rfl⟩ : ∃ j', j = j' + 1 := ⟨j - 1, by omega⟩
      rw [insInner, if_neg (by simpa using fun _ => h3)] at hR2
      exact hR2
    · refine next d2 S2 hz2 hA2 ?_
      cases j with
      | zero => exact hR2
      | succ j => rw [insInner, if_neg (by simp; omega)] at hR2; exact hR2
    rintro S3 ⟨rfl, h2, h3⟩
    have hj1 : j < d2.size := by omega
    have hj2 : j - 1 < d2.size := by omega
    have e1 : IntKind.i64.wrap ((j : Int) - 1) = ((j - 1 : Nat) : Int) := i64_sub1 (by omega) (by omega)
    refine setI_mk e1 (setI_mk e1 (ifS_mk (arr_idx (by omega)) ⟨_, _, _, hA2.ldN hj2, ifS_mk (arr_idx (by omega)) ⟨_, _, _, hA2.ldN hj1, ifS_mk (arr_idx (by omega)) (hA2.set hj1 _ fun S5 h5 => ifS_mk (arr_idx (by omega)) (h5.set (by simpa using hj2) _ fun S6 h6 => setI_mk e1 ⟨j - 1, by omega, j - 1, _, rfl, rfl, by omega, ?_, h6, ?_⟩))⟩⟩))
    · simp [hz2]
    · obtain ⟨j', rfl⟩ : ∃ j', j = j' + 1 := ⟨j - 1, by omega⟩
      rw [insInner, if_pos (by simp only [Bool.and_eq_true, decide_eq_true_eq]; exact ⟨by omega, h3⟩)] at hR2
      exact hR2
  · rw [insOuter, if_neg (by omega)] at hR
    exact hk _ (hR ▸ hA1)

/-! ## the heap -/
/-- The child that is looked at. -/
def childOf (lt : Hit → Hit → Bool) (hi first r : Nat) (d : Array Hit) : Nat :=
  if (2 * r + 1 + 1 < hi && lt d[first + (2 * r + 1)]! d[first + (2 * r + 1) + 1]!) = true then 2 * r + 2 else 2 * r + 1
theorem siftDown_stop {lt : Hit → Hit → Bool} {hi first r : Nat} {d : Array Hit} (h : hi ≤ 2 * r + 1) : siftDown lt hi first r d = d := by
  rw [siftDown, dif_pos h]
theorem siftDown_no {lt : Hit → Hit → Bool} {hi first r : Nat} {d : Array Hit} (h : ¬ hi ≤ 2 * r + 1) (h2 : lt d[first + r]! d[first + childOf lt hi first r d]! = false) : siftDown lt hi first r d = d := by
  rw [siftDown, dif_neg h]
  unfold childOf at h2
  split
  · rename_i h3; rw [if_pos h3] at h2; rw [if_pos (by rw [h2]; rfl)]
  · rename_i h3; rw [if_neg h3] at h2; rw [if_pos (by rw [h2]; rfl)]
theorem siftDown_go {lt : Hit → Hit → Bool} {hi first r : Nat} {d : Array Hit} (h : ¬ hi ≤ 2 * r + 1) (h2 : lt d[first + r]! d[first + childOf lt hi first r d]! = true) :
    siftDown lt hi first r d = siftDown lt hi first (childOf lt hi first r d) (swp d (first + r) (first + childOf lt hi first r d)) := by
  rw [siftDown, dif_neg h]
  unfold childOf at h2 ⊢
  split
  · rename_i h3; rw [if_pos h3] at h2; rw [if_neg (by rw [h2]; simp)]
    simp only [Bool.and_eq_true, decide_eq_true_eq] at h3
    rw [dif_pos (by omega)]
  · rename_i h3; rw [if_neg h3] at h2; rw [if_neg (by rw [h2]; simp)]
theorem childOf_lt {lt : Hit → Hit → Bool} {hi first r : Nat} {d : Array Hit} (h : ¬ hi ≤ 2 * r + 1) : r < childOf lt hi first r d ∧ childOf lt hi first r d < hi := by
  unfold childOf
  split
  · rename_i h3
    simp only [Bool.and_eq_true, decide_eq_true_eq] at h3
    omega
  · omega

theorem siftDown_size {lt : Hit → Hit → Bool} {hi first : Nat} : ∀ (m r : Nat) (d : Array Hit), hi - r ≤ m → (siftDown lt hi first r d).size = d.size := by
  intro m
  induction m with
  | zero => intro r d h; rw [siftDown_stop (by omega)]
  | succ m ih =>
    intro r d h
    by_cases h1 : hi ≤ 2 * r + 1
    · rw [siftDown_stop h1]
    · cases h2 : lt d[first + r]! d[first + childOf lt hi first r d]! with
      | false => rw [siftDown_no h1 h2]
      | true =>
        have := childOf_lt (lt := lt) (first := first) (d := d) h1
        rw [siftDown_go h1 h2, ih _ _ (by omega), swp_size]

def slices_siftDownCmpFunc_api_Hit.Spec (P : Program) (N : Nat → Nat) : Prop := ∀ (lt : Hit → Hit → Bool) (cv : V) (S0 S : St) (i n c lo hi first : Nat) (t : Bool) (pre post : List V) (d : Array Hit) (K : St → Prop), CmpIs P cv lt → ArrAt hitE S0 i pre post S d → d.size = n → n < big → lo ≤ n → first + hi ≤ n →
  (∀ S', ArrAt hitE S0 i pre post S' (siftDown lt hi first lo d) → K S') → CallA P (N Fn.slices_siftDownCmpFunc_api_Hit) [rowV i pre.length n c t, .int .i64 lo, .int .i64 hi, .int .i64 first, cv] S (retT [] K)
theorem slices_siftDownCmpFunc_api_Hit.spec (hF : slices_siftDownCmpFunc_api_Hit.Ok P N) : slices_siftDownCmpFunc_api_Hit.Spec P N := by
  intro lt cv S0 S i n c lo hi first t pre post d K hcmp hA hz hn hlo hhi hk
  unfold big at hn
  refine slices_siftDownCmpFunc_api_Hit.run hF (Loop1.ind (fun m x S' => ∃ (r : Nat) (d1 : Array Hit), x = r ∧ m = hi - r ∧ r ≤ n ∧ d1.size = n ∧ ArrAt hitE S0 i pre post S' d1 ∧ siftDown lt hi first r d1 = siftDown lt hi first lo d) (hi - lo) ⟨lo, d, rfl, rfl, hlo, hz, hA, rfl⟩ ?_)
  rintro m _ S1 ⟨r, d1, rfl, rfl, hrn, hz1, hA1, hR⟩
  have e2 : IntKind.i64.wrap ((2 : Int) * (r : Int)) = ((2 * r : Nat) : Int) := by rw [IntKind.wrap_i64]; omega
  refine setI_mk e2 (setI_mk (i64_add1 (by omega)) (ifC_dec (fun h1 => ?_) (fun h1 => ?_)))
  · rw [siftDown_stop (by omega)] at hR
    exact hk _ (hR ▸ hA1)
  have h1 : ¬ hi ≤ 2 * r + 1 := by omega
  obtain ⟨hc1, hc2⟩ := childOf_lt (lt := lt) (first := first) (d := d1) h1
  refine Join1.mid (fun x S' => S' = S1 ∧ x = (childOf lt hi first r d1 : Nat)) (Join1.mid (fun b S' => S' = S1 ∧ b = (2 * r + 1 + 1 < hi && lt d1[first + (2 * r + 1)]! d1[first + (2 * r + 1) + 1]!)) (setI_mk (i64_add1 (by omega)) (ifC_dec (fun h2 => ?_) (fun h2 => ?_))) ?_) ?_
  · have h2 : 2 * r + 1 + 1 < hi := by omega
    refine setI_mk (i64_add (by omega)) (ifS_mk (arr_idx (by omega)) ⟨_, _, _, hA1.ldN (by omega), setI_mk (i64_add (by omega)) (setI_mk (i64_add1 (by omega)) (ifS_mk (arr_idx (by omega)) ⟨_, _, _, hA1.ldN (by omega), hcmp _ _ _ _ fun x hx => ⟨rfl, ?_⟩⟩))⟩)
    rw [hx]; simp [h2]
  · have h2 : ¬ 2 * r + 1 + 1 < hi := by omega
    exact ⟨rfl, by simp [h2]⟩
  · rintro b S' ⟨rfl, rfl⟩
    refine ifC_tt_ff (fun h3 => setI_mk (i64_add1 (by omega)) ⟨rfl, ?_⟩) (fun h3 => ⟨rfl, ?_⟩)
    · rw [childOf, if_pos h3]
    · rw [childOf, if_neg (by rw [h3]; simp)]
  rintro x S' ⟨rfl, rfl⟩
  generalize hch : childOf lt hi first r d1 = ch at hc1 hc2
  refine setI_mk (i64_add (by omega)) (ifS_mk (arr_idx (by omega)) ⟨_, _, _, hA1.ldN (by omega), setI_mk (i64_add (by omega)) (ifS_mk (arr_idx (by omega)) ⟨_, _, _, hA1.ldN (by omega), hcmp _ _ _ _ fun x hx => ?_⟩)⟩)
  rw [hx]
  refine ifC_tt_ff (fun h3 => ?_) (fun h3 => ?_)
  · rw [siftDown_no h1 (by rw [hch]; simpa using h3)] at hR
    exact hk _ (hR ▸ hA1)
  · rw [siftDown_go h1 (by rw [hch]; simpa using h3), hch] at hR
    have e1 : IntKind.i64.wrap ((first : Int) + (r : Int)) = ((first + r : Nat) : Int) := i64_add (by omega)
    have e3 : IntKind.i64.wrap ((first : Int) + (ch : Int)) = ((first + ch : Nat) : Int) := i64_add (by omega)
    refine setI_mk e1 (setI_mk e3 (setI_mk e3 (ifS_mk (arr_idx (by omega)) ⟨_, _, _, hA1.ldN (by omega), setI_mk e1 (ifS_mk (arr_idx (by omega)) ⟨_, _, _, hA1.ldN (by omega), ifS_mk (arr_idx (by omega)) (hA1.set (by omega) _ fun S5 h5 => ifS_mk (arr_idx (by omega)) (h5.set (by simp; omega) _ fun S6 h6 => ⟨hi - ch, by omega, ch, _, rfl, rfl, by omega, ?_, h6, hR⟩))⟩)⟩)))
    simp [hz1]

def slices_heapSortCmpFunc_api_Hit.Spec (P : Program) (N : Nat → Nat) : Prop := ∀ (lt : Hit → Hit → Bool) (cv : V) (S0 S : St) (i n c a b : Nat) (t : Bool) (pre post : List V) (d : Array Hit) (K : St → Prop), CmpIs P cv lt → ArrAt hitE S0 i pre post S d → d.size = n → n < big → a < b → b ≤ n →
  (∀ S', ArrAt hitE S0 i pre post S' (heapSort lt d a b) → K S') → CallA P (N Fn.slices_heapSortCmpFunc_api_Hit) [rowV i pre.length n c t, .int .i64 a, .int .i64 b, cv] S (retT [] K)
theorem slices_heapSortCmpFunc_api_Hit.spec (hF : slices_heapSortCmpFunc_api_Hit.Ok P N) (hs : slices_siftDownCmpFunc_api_Hit.Spec P N) : slices_heapSortCmpFunc_api_Hit.Spec P N := by
  intro lt cv S0 S i n c a b t pre post d K hcmp hA hz hn hab hbn hk
  have hn' := hn
  unfold big at hn
  have ed : Int.tdiv ((b - a - 1 : Nat) : Int) 2 = (((b - a - 1) / 2 : Nat) : Int) := by rw [Int.tdiv_eq_ediv_of_nonneg (by omega)]; omega
  refine slices_heapSortCmpFunc_api_Hit.run hF (setI_mk (i64_sub (by omega) (by omega)) (setI_mk (i64_sub1 (by omega) (by omega)) ⟨by omega, setI_mk (n := (((b - a - 1) / 2 : Nat) : Int)) (by rw [ed, IntKind.wrap_i64] <;> omega) (Loop1.ind (fun m x S' => ∃ (k : Nat) (d1 : Array Hit), x = (k : Int) - 1 ∧ k = m ∧ k ≤ b - a ∧ d1.size = n ∧ ArrAt hitE S0 i pre post S' d1 ∧ heapPop lt a (b - a) (heapBuild lt (b - a) a k d1) = heapSort lt d a b) ((b - a - 1) / 2 + 1) ⟨(b - a - 1) / 2 + 1, d, by omega, rfl, by omega, hz, hA, rfl⟩ ?_)⟩))
  rintro m _ S1 ⟨k, d1, rfl, rfl, hkb, hz1, hA1, hR⟩
  refine ifC_dec (fun h1 => ?_) (fun h1 => ?_)
  · obtain ⟨k, rfl⟩ : ∃ q, k = q + 1 := ⟨k - 1, by omega⟩
    have e1 : ((k + 1 : Nat) : Int) - 1 = (k : Int) := by omega
    rw [e1]
    refine hs lt cv S0 S1 i n c k (b - a) a t pre post d1 _ hcmp hA1 hz1 hn' (by omega) (by omega) fun S2 hA2 => ?_
    refine setI_mk (n := (k : Int) - 1) (by rw [IntKind.wrap_i64]; omega) ⟨k, by omega, k, _, rfl, rfl, by omega, ?_, hA2, hR⟩
    rw [siftDown_size _ _ _ (Nat.le_refl _), hz1]
  · have h1 : k = 0 := by omega
    subst h1
    refine setI_mk (i64_sub1 (by omega) (by omega)) ?_
    refine Loop1.ind (fun m x S' => ∃ (k : Nat) (d2 : Array Hit), x = (k : Int) - 1 ∧ k = m ∧ k ≤ b - a ∧ d2.size = n ∧ ArrAt hitE S0 i pre post S' d2 ∧ heapPop lt a k d2 = heapSort lt d a b) (b - a) ⟨b - a, d1, by omega, rfl, by omega, hz1, hA1, hR⟩ ?_
    rintro m _ S3 ⟨k, d2, rfl, rfl, hkb, hz2, hA2, hR2⟩
    refine ifC_dec (fun h2 => ?_) (fun h2 => ?_)
    · obtain ⟨k, rfl⟩ : ∃ q, k = q + 1 := ⟨k - 1, by omega⟩
      have e1 : ((k + 1 : Nat) : Int) - 1 = (k : Int) := by omega
      rw [e1]
      have e2 : IntKind.i64.wrap ((a : Int) + (k : Int)) = ((a + k : Nat) : Int) := i64_add (by omega)
      refine setI_mk e2 (setI_mk e2 (ifS_mk (arr_idx (by omega)) ⟨_, _, _, hA2.ldN (by omega), ifS_mk (arr_idx (by omega)) ⟨_, _, _, hA2.ldN (by omega), ifS_mk (arr_idx (by omega)) (hA2.set (by omega) _ fun S5 h5 => ifS_mk (arr_idx (by omega)) (h5.set (by simp; omega) _ fun S6 h6 => ?_))⟩⟩))
      refine hs lt cv S0 S6 i n c 0 k a t pre post _ _ hcmp h6 (by simp [hz2]) hn' (by omega) (by omega) fun S7 hA7 => ?_
      refine setI_mk (n := (k : Int) - 1) (by rw [IntKind.wrap_i64]; omega) ⟨k, by omega, k, _, rfl, rfl, by omega, ?_, hA7, hR2⟩
      rw [siftDown_size _ _ _ (Nat.le_refl _)]; simp [hz2]
    · have h2 : k = 0 := by omega
      subst h2
      exact hk _ (hR2 ▸ hA2)

/-! ## places that are only looked at, a number that counts -/
theorem reverseLoop_size {d : Array Hit} : ∀ (m i j : Nat) (d : Array Hit), j - i ≤ m → (reverseLoop i j d).size = d.size := by
  intro m
  induction m with
  | zero => intro i j d h; rw [reverseLoop, if_neg (by omega)]
  | succ m ih =>
    intro i j d h
    rw [reverseLoop]
    split
    · rw [ih _ _ _ (by omega), swp_size]
    · rfl

def slices_reverseRangeCmpFunc_api_Hit.Spec (P : Program) (N : Nat → Nat) : Prop := ∀ (cv : V) (S0 S : St) (i n c a b : Nat) (t : Bool) (pre post : List V) (d : Array Hit) (K : St → Prop), ArrAt hitE S0 i pre post S d → d.size = n → n < big → a < b → b ≤ n →
  (∀ S', ArrAt hitE S0 i pre post S' (reverseRange d a b) → K S') → CallA P (N Fn.slices_reverseRangeCmpFunc_api_Hit) [rowV i pre.length n c t, .int .i64 a, .int .i64 b, cv] S (retT [] K)
theorem slices_reverseRangeCmpFunc_api_Hit.spec (hF : slices_reverseRangeCmpFunc_api_Hit.Ok P N) : slices_reverseRangeCmpFunc_api_Hit.Spec P N := by
  intro cv S0 S i n c a b t pre post d K hA hz hn hab hbn hk
  unfold big at hn
  refine slices_reverseRangeCmpFunc_api_Hit.run hF (setI_mk (i64_sub1 (by omega) (by omega)) (Loop2.ind (fun m x y S' => ∃ (p q : Nat) (d1 : Array Hit), x = p ∧ y = q ∧ m = q - p ∧ q < n ∧ p ≤ n ∧ d1.size = n ∧ ArrAt hitE S0 i pre post S' d1 ∧ reverseLoop p q d1 = reverseRange d a b) (b - 1 - a) ⟨a, b - 1, d, rfl, rfl, rfl, by omega, by omega, hz, hA, rfl⟩ ?_))
  rintro m _ _ S1 ⟨p, q, d1, rfl, rfl, rfl, hq, hp, hz1, hA1, hR⟩
  rw [reverseLoop] at hR
  refine ifC_dec (fun h1 => ?_) (fun h1 => ?_)
  · have h1 : p < q := by omega
    rw [if_pos h1] at hR
    refine ifS_mk (arr_idx (by omega)) ⟨_, _, _, hA1.ldN (by omega), ifS_mk (arr_idx (by omega)) ⟨_, _, _, hA1.ldN (by omega), ifS_mk (arr_idx (by omega)) (hA1.set (by omega) _ fun S5 h5 => ifS_mk (arr_idx (by omega)) (h5.set (by simp; omega) _ fun S6 h6 => setI_mk (i64_add1 (by omega)) (setI_mk (i64_sub1 (by omega) (by omega)) ⟨q - 1 - (p + 1), by omega, p + 1, q - 1, _, rfl, rfl, rfl, by omega, by omega, ?_, h6, hR⟩)))⟩⟩
    simp [hz1]
  · rw [if_neg (by omega)] at hR
    exact hk _ (hR ▸ hA1)

/-- A row to be read, and a cell that counts. -/
structure SwAt (S0 : St) (i : Nat) (pre post : List V) (d : Array Hit) (q : Nat) (S : St) (s : Nat) : Prop where
  upd : Upd [q] S0 S
  next : S.next = S0.next
  row : ∃ o, S.get i = some (.cells (pre ++ (d.toList.map hcells).flatten ++ post) o)
  cnt : S.get q = some (.cells [.int .i64 s] true)
  ne : i ≠ q

theorem SwAt.ldN {S0 S : St} {i q s : Nat} {pre post : List V} {d : Array Hit} (h : SwAt S0 i pre post d q S s) {j : Nat} (hj : j < d.size) : loadNV S 3 (.ptr i (pre.length + j * 3)) = some (.agg (hcells d[j]!)) := by
  obtain ⟨o, hg⟩ := h.row
  exact Go.Th.ldN hg (Enc.le (E := hitE) hj) (Enc.drop (E := hitE) hj)
theorem SwAt.set {S0 S : St} {i q s s' : Nat} {pre post : List V} {d : Array Hit} (h : SwAt S0 i pre post d q S s) {K : St → Prop} (hk : ∀ S', SwAt S0 i pre post d q S' s' → K S') : ifS (storeV S 1 (.ptr q 0) (.int .i64 s')) K := by
  refine st_mk h.upd.wf h.cnt rfl (by simp [V.cells]) rfl fun S' u m n => hk S' ⟨h.upd.trans u, n.trans h.next, h.row.elim fun o hg => ⟨o, u.get hg (by simp; exact h.ne)⟩, ?_, h.ne⟩
  simpa [over, V.cells] using m

def slices_order2CmpFunc_api_Hit.Spec (P : Program) (N : Nat → Nat) : Prop := ∀ (lt : Hit → Hit → Bool) (cv : V) (S0 S : St) (i n c a b q s : Nat) (t : Bool) (pre post : List V) (d : Array Hit) (K : Int → Int → St → Prop), CmpIs P cv lt → SwAt S0 i pre post d q S s → d.size = n → n < big → s < big → a < n → b < n →
  (∀ S', SwAt S0 i pre post d q S' (order2 lt d a b s).2.2 → K (order2 lt d a b s).1 (order2 lt d a b s).2.1 S') → CallA P (N Fn.slices_order2CmpFunc_api_Hit) [rowV i pre.length n c t, .int .i64 a, .int .i64 b, .ptr q 0, cv] S (retT [.one (.int .i64), .one (.int .i64)] K)
theorem slices_order2CmpFunc_api_Hit.spec (hF : slices_order2CmpFunc_api_Hit.Ok P N) : slices_order2CmpFunc_api_Hit.Spec P N := by
  intro lt cv S0 S i n c a b q s t pre post d K hcmp hA hz hn hs ha hb hk
  unfold big at hn hs
  refine slices_order2CmpFunc_api_Hit.run hF (ifS_mk (arr_idx hb) ⟨_, _, _, hA.ldN (by omega), ifS_mk (arr_idx ha) ⟨_, _, _, hA.ldN (by omega), hcmp _ _ _ _ fun x hx => ?_⟩⟩)
  rw [hx]
  refine ifC_tt_ff (fun h1 => ?_) (fun h1 => ?_)
  · refine ⟨rfl, _, ld hA.cnt rfl, setI_mk (i64_add1 (by omega)) ⟨rfl, hA.set fun S' h' => ?_⟩⟩
    have e : order2 lt d a b s = (b, a, s + 1) := by rw [order2, if_pos h1]
    rw [e] at hk
    exact hk S' h'
  · have e : order2 lt d a b s = (a, b, s) := by rw [order2, if_neg (by rw [h1]; simp)]
    rw [e] at hk
    exact hk S hA

theorem order2_bd {lt : Hit → Hit → Bool} {d : Array Hit} {a b s n : Nat} (ha : a < n) (hb : b < n) : (order2 lt d a b s).1 < n ∧ (order2 lt d a b s).2.1 < n ∧ (order2 lt d a b s).2.2 ≤ s + 1 := by
  unfold order2; split <;> simp <;> omega

def slices_medianCmpFunc_api_Hit.Spec (P : Program) (N : Nat → Nat) : Prop := ∀ (lt : Hit → Hit → Bool) (cv : V) (S0 S : St) (i n c a b e q s : Nat) (t : Bool) (pre post : List V) (d : Array Hit) (K : Int → St → Prop), CmpIs P cv lt → SwAt S0 i pre post d q S s → d.size = n → n < big → s + 3 < big → a < n → b < n → e < n →
  (∀ S', SwAt S0 i pre post d q S' (Sort.median lt d a b e s).2 → K (Sort.median lt d a b e s).1 S') → CallA P (N Fn.slices_medianCmpFunc_api_Hit) [rowV i pre.length n c t, .int .i64 a, .int .i64 b, .int .i64 e, .ptr q 0, cv] S (retT [.one (.int .i64)] K)
theorem slices_medianCmpFunc_api_Hit.spec (hF : slices_medianCmpFunc_api_Hit.Ok P N) (ho : slices_order2CmpFunc_api_Hit.Spec P N) : slices_medianCmpFunc_api_Hit.Spec P N := by
  intro lt cv S0 S i n c a b e q s t pre post d K hcmp hA hz hn hs ha hb he hk
  obtain ⟨b1, b2, b3⟩ := order2_bd (lt := lt) (d := d) (s := s) ha hb
  obtain ⟨c1, c2, c3⟩ := order2_bd (lt := lt) (d := d) (s := (order2 lt d a b s).2.2) b2 he
  refine slices_medianCmpFunc_api_Hit.run hF (ho lt cv S0 S i n c a b q s t pre post d _ hcmp hA hz hn (by omega) ha hb fun S1 h1 => ho lt cv S0 S1 i n c _ e q _ t pre post d _ hcmp h1 hz hn (by omega) b2 he fun S2 h2 => ho lt cv S0 S2 i n c _ _ q _ t pre post d _ hcmp h2 hz hn (by omega) b1 c1 fun S3 h3 => hk S3 h3)

theorem median_bd {lt : Hit → Hit → Bool} {d : Array Hit} {a b e s n : Nat} (ha : a < n) (hb : b < n) (he : e < n) : (Sort.median lt d a b e s).1 < n ∧ (Sort.median lt d a b e s).2 ≤ s + 3 := by
  obtain ⟨b1, b2, b3⟩ := order2_bd (lt := lt) (d := d) (s := s) ha hb
  obtain ⟨c1, c2, c3⟩ := order2_bd (lt := lt) (d := d) (s := (order2 lt d a b s).2.2) b2 he
  obtain ⟨d1, d2, d3⟩ := order2_bd (lt := lt) (d := d) (s := (order2 lt d (order2 lt d a b s).2.1 e (order2 lt d a b s).2.2).2.2) b1 c1
  refine ⟨d2, ?_⟩
  show (order2 lt d (order2 lt d a b s).1 (order2 lt d (order2 lt d a b s).2.1 e (order2 lt d a b s).2.2).1 (order2 lt d (order2 lt d a b s).2.1 e (order2 lt d a b s).2.2).2.2).2.2 ≤ s + 3
  omega

def slices_medianAdjacentCmpFunc_api_Hit.Spec (P : Program) (N : Nat → Nat) : Prop := ∀ (lt : Hit → Hit → Bool) (cv : V) (S0 S : St) (i n c a q s : Nat) (t : Bool) (pre post : List V) (d : Array Hit) (K : Int → St → Prop), CmpIs P cv lt → SwAt S0 i pre post d q S s → d.size = n → n < big → s + 3 < big → 1 ≤ a → a + 1 < n →
  (∀ S', SwAt S0 i pre post d q S' (medianAdjacent lt d a s).2 → K (medianAdjacent lt d a s).1 S') → CallA P (N Fn.slices_medianAdjacentCmpFunc_api_Hit) [rowV i pre.length n c t, .int .i64 a, .ptr q 0, cv] S (retT [.one (.int .i64)] K)
theorem slices_medianAdjacentCmpFunc_api_Hit.spec (hF : slices_medianAdjacentCmpFunc_api_Hit.Ok P N) (hm : slices_medianCmpFunc_api_Hit.Spec P N) : slices_medianAdjacentCmpFunc_api_Hit.Spec P N := by
  intro lt cv S0 S i n c a q s t pre post d K hcmp hA hz hn hs h1 h2 hk
  have hn' := hn
  unfold big at hn
  exact slices_medianAdjacentCmpFunc_api_Hit.run hF (setI_mk (i64_sub1 (by omega) (by omega)) (setI_mk (i64_add1 (by omega)) (hm lt cv S0 S i n c _ a _ q s t pre post d _ hcmp hA hz hn' hs (by omega) (by omega) (by omega) hk)))

end Go.Th.L
end
