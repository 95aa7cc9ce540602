/- What the row of one statement stands on: a store, abstract code, functions of the program and their laws (ThHsortH, ThHsortH2, ThHsortH3). -/
import Derived.Test.YtdjocmcbibedhaaGreatThBHsort0
import Derived.Test.YtdjocmcbibedhaaGreatThBHtopk0
import Derived.Test.YtdjocmcbibedhaaGreatThBGwide

section
/- slices.SortFunc's functions at hits, each against its plain twin. -/
set_option linter.unusedSimpArgs false
set_option linter.unusedVariables false
set_option linter.unusedSectionVars false
namespace Go.Th.L
open Go Go.Th Go.Th.Pure Go.Sort
variable {P : Program} {N : Nat → Nat}

instance : Inhabited Hit := ⟨⟨0, 0, 0⟩⟩

@[reducible] def hitE : Enc Hit := ⟨3, hitV, hcells, fun _ => rfl, fun _ => rfl, fun _ => rfl⟩

def CmpIs (P : Program) (v : V) (lt : Hit → Hit → Bool) : Prop := ∀ (a b : Hit) (S : St) (K : Int → St → Prop), (∀ n : Int, decide (n < 0) = lt a b → K n S) →
  ifS (calleeV (envP P) v [hitV a, hitV b]) fun p => CallA P p.1 p.2 S (retT [.one (.int .i64)] K)

theorem cmp_is (hc : topk_compare.Spec P N) (hE : canEnter P (N Fn.topk_compare) = true) : CmpIs P (.func (.func (N Fn.topk_compare)) [] []) lessH :=
  fun a b S K h => ifS_mk (callee_mk hE) (hc a b S K (h _ (cmpH_less a b)))

abbrev rowV (i o n c : Nat) (t : Bool) : V := .slice i o n c 3 t

def slices_insertionSortCmpFunc_api_Hit.Spec (P : Program) (N : Nat → Nat) : Prop := ∀ (lt : Hit → Hit → Bool) (cv : V) (S0 S : St) (i n c a b : Nat) (t : Bool) (pre post : List V) (d : Array Hit) (K : St → Prop), CmpIs P cv lt → ArrAt hitE S0 i pre post S d → d.size = n → n < big → a ≤ b → b ≤ n →
  (∀ S', ArrAt hitE S0 i pre post S' (insertionSort lt d a b) → K S') → CallA P (N Fn.slices_insertionSortCmpFunc_api_Hit) [rowV i pre.length n c t, .int .i64 a, .int .i64 b, cv] S (retT [] K)
theorem slices_insertionSortCmpFunc_api_Hit.spec (hF : slices_insertionSortCmpFunc_api_Hit.Ok P N) : slices_insertionSortCmpFunc_api_Hit.Spec P N := by
  intro lt cv S0 S i n c a b t pre post d K hcmp hA hz hn hab hbn hk
  unfold big at hn
  refine slices_insertionSortCmpFunc_api_Hit.run hF (setI_mk (i64_add1 (by omega)) (Loop1.ind (fun m x S' => ∃ (k : Nat) (d1 : Array Hit), x = k ∧ m = b - k ∧ k ≤ b + 1 ∧ a < k ∧ d1.size = n ∧ ArrAt hitE S0 i pre post S' d1 ∧ insOuter lt a b k d1 = insertionSort lt d a b) (b - (a + 1)) ⟨a + 1, d, rfl, rfl, by omega, by omega, hz, hA, rfl⟩ ?_))
  rintro m _ S1 ⟨k, d1, rfl, rfl, hkb, hak, hz1, hA1, hR⟩
  refine ifC_dec (fun h1 => ?_) (fun h1 => ?_)
  · have h1 : k < b := by omega
    have next : ∀ (d2 : Array Hit) (S2 : St), d2.size = n → ArrAt hitE S0 i pre post S2 d2 → insOuter lt a b (k + 1) d2 = insertionSort lt d a b → setI (IntKind.i64.wrap ((k : Int) + 1)) fun (x16 : Int) => ∃ m', m' < b - k ∧ ∃ (k' : Nat) (d1 : Array Hit), x16 = k' ∧ m' = b - k' ∧ k' ≤ b + 1 ∧ a < k' ∧ d1.size = n ∧ ArrAt hitE S0 i pre post S2 d1 ∧ insOuter lt a b k' d1 = insertionSort lt d a b :=
      fun d2 S2 hz2 hA2 hR2 => setI_mk (i64_add1 (by omega)) ⟨b - (k + 1), by omega, k + 1, d2, rfl, rfl, by omega, by omega, hz2, hA2, hR2⟩
    rw [insOuter, if_pos h1] at hR
    refine Loop1.ind (fun m x S' => ∃ (j : Nat) (d2 : Array Hit), x = j ∧ j = m ∧ j ≤ k ∧ d2.size = n ∧ ArrAt hitE S0 i pre post S' d2 ∧ insOuter lt a b (k + 1) (insInner lt a j d2) = insertionSort lt d a b) k ⟨k, d1, rfl, rfl, Nat.le_refl _, hz1, hA1, hR⟩ ?_
    rintro m _ S2 ⟨j, d2, rfl, rfl, hjk, hz2, hA2, hR2⟩
    refine Join0.mid (fun S' => S' = S2 ∧ a < j ∧ lt d2[j]! d2[j - 1]! = true) (ifC_dec (fun h2 => ?_) (fun h2 => ?_)) ?_
    · have h2 : a < j := by omega
      have hj1 : j < d2.size := by omega
      have hj2 : j - 1 < d2.size := by omega
      refine ifS_mk (arr_idx (by omega)) ⟨_, _, _, hA2.ldN hj1, setI_mk (i64_sub1 (by omega) (by omega)) (ifS_mk (arr_idx (by omega)) ⟨_, _, _, hA2.ldN hj2, hcmp _ _ _ _ fun x hx => ?_⟩)⟩
      rw [hx]
      refine ifC_tt_ff (fun h3 => ⟨rfl, h2, h3⟩) (fun h3 => next d2 S2 hz2 hA2 ?_)
      obtain ⟨j', rfl⟩ : ∃ j', j = j' + 1 := ⟨j - 1, by omega⟩
      rw [insInner, if_neg (by simpa using fun _ => h3)] at hR2
      exact hR2
    · refine next d2 S2 hz2 hA2 ?_
      cases j with
      | zero => exact hR2
      | succ j => rw [insInner, if_neg (by simp; omega)] at hR2; exact hR2
    rintro S3 ⟨rfl, h2, h3⟩
    have hj1 : j < d2.size := by omega
    have hj2 : j - 1 < d2.size := by omega
    have e1 : IntKind.i64.wrap ((j : Int) - 1) = ((j - 1 : Nat) : Int) := i64_sub1 (by omega) (by omega)
    refine setI_mk e1 (setI_mk e1 (ifS_mk (arr_idx (by omega)) ⟨_, _, _, hA2.ldN hj2, ifS_mk (arr_idx (by omega)) ⟨_, _, _, hA2.ldN hj1, ifS_mk (arr_idx (by omega)) (hA2.set hj1 _ fun S5 h5 => ifS_mk (arr_idx (by omega)) (h5.set (by simpa using hj2) _ fun S6 h6 => setI_mk e1 ⟨j - 1, by omega, j - 1, _, rfl, rfl, by omega, ?_, h6, ?_⟩))⟩⟩))
    · simp [hz2]
    · obtain ⟨j', rfl⟩ : ∃ j', j = j' + 1 := ⟨j - 1, by omega⟩
      rw [insInner, if_pos (by simp only [Bool.and_eq_true, decide_eq_true_eq]; exact ⟨by omega, h3⟩)] at hR2
      exact hR2
  · rw [insOuter, if_neg (by omega)] at hR
    exact hk _ (hR ▸ hA1)

def childOf (lt : Hit → Hit → Bool) (hi first r : Nat) (d : Array Hit) : Nat :=
  if (2 * r + 1 + 1 < hi && lt d[first + (2 * r + 1)]! d[first + (2 * r + 1) + 1]!) = true then 2 * r + 2 else 2 * r + 1
theorem siftDown_stop {lt : Hit → Hit → Bool} {hi first r : Nat} {d : Array Hit} (h : hi ≤ 2 * r + 1) : siftDown lt hi first r d = d := by
  rw [siftDown, dif_pos h]
theorem siftDown_no {lt : Hit → Hit → Bool} {hi first r : Nat} {d : Array Hit} (h : ¬ hi ≤ 2 * r + 1) (h2 : lt d[first + r]! d[first + childOf lt hi first r d]! = false) : siftDown lt hi first r d = d := by
  rw [siftDown, dif_neg h]
  unfold childOf at h2
  split
  · rename_i h3; rw [if_pos h3] at h2; rw [if_pos (by rw [h2]; rfl)]
  · rename_i h3; rw [if_neg h3] at h2; rw [if_pos (by rw [h2]; rfl)]
theorem siftDown_go {lt : Hit → Hit → Bool} {hi first r : Nat} {d : Array Hit} (h : ¬ hi ≤ 2 * r + 1) (h2 : lt d[first + r]! d[first + childOf lt hi first r d]! = true) :
    siftDown lt hi first r d = siftDown lt hi first (childOf lt hi first r d) (swp d (first + r) (first + childOf lt hi first r d)) := by
  rw [siftDown, dif_neg h]
  unfold childOf at h2 ⊢
  split
  · rename_i h3; rw [if_pos h3] at h2; rw [if_neg (by rw [h2]; simp)]
    simp only [Bool.and_eq_true, decide_eq_true_eq] at h3
    rw [dif_pos (by omega)]
  · rename_i h3; rw [if_neg h3] at h2; rw [if_neg (by rw [h2]; simp)]
theorem childOf_lt {lt : Hit → Hit → Bool} {hi first r : Nat} {d : Array Hit} (h : ¬ hi ≤ 2 * r + 1) : r < childOf lt hi first r d ∧ childOf lt hi first r d < hi := by
  unfold childOf
  split
  · rename_i h3
    simp only [Bool.and_eq_true, decide_eq_true_eq] at h3
    omega
  · omega

theorem siftDown_size {lt : Hit → Hit → Bool} {hi first : Nat} : ∀ (m r : Nat) (d : Array Hit), hi - r ≤ m → (siftDown lt hi first r d).size = d.size := by
  intro m
  induction m with
  | zero => intro r d h; rw [siftDown_stop (by omega)]
  | succ m ih =>
    intro r d h
    by_cases h1 : hi ≤ 2 * r + 1
    · rw [siftDown_stop h1]
    · cases h2 : lt d[first + r]! d[first + childOf lt hi first r d]! with
      | false => rw [siftDown_no h1 h2]
      | true =>
        have := childOf_lt (lt := lt) (first := first) (d := d) h1
        rw [siftDown_go h1 h2, ih _ _ (by omega), swp_size]

def slices_siftDownCmpFunc_api_Hit.Spec (P : Program) (N : Nat → Nat) : Prop := ∀ (lt : Hit → Hit → Bool) (cv : V) (S0 S : St) (i n c lo hi first : Nat) (t : Bool) (pre post : List V) (d : Array Hit) (K : St → Prop), CmpIs P cv lt → ArrAt hitE S0 i pre post S d → d.size = n → n < big → lo ≤ n → first + hi ≤ n →
  (∀ S', ArrAt hitE S0 i pre post S' (siftDown lt hi first lo d) → K S') → CallA P (N Fn.slices_siftDownCmpFunc_api_Hit) [rowV i pre.length n c t, .int .i64 lo, .int .i64 hi, .int .i64 first, cv] S (retT [] K)
theorem slices_siftDownCmpFunc_api_Hit.spec (hF : slices_siftDownCmpFunc_api_Hit.Ok P N) : slices_siftDownCmpFunc_api_Hit.Spec P N := by
  intro lt cv S0 S i n c lo hi first t pre post d K hcmp hA hz hn hlo hhi hk
  unfold big at hn
  refine slices_siftDownCmpFunc_api_Hit.run hF (Loop1.ind (fun m x S' => ∃ (r : Nat) (d1 : Array Hit), x = r ∧ m = hi - r ∧ r ≤ n ∧ d1.size = n ∧ ArrAt hitE S0 i pre post S' d1 ∧ siftDown lt hi first r d1 = siftDown lt hi first lo d) (hi - lo) ⟨lo, d, rfl, rfl, hlo, hz, hA, rfl⟩ ?_)
  rintro m _ S1 ⟨r, d1, rfl, rfl, hrn, hz1, hA1, hR⟩
  have e2 : IntKind.i64.wrap ((2 : Int) * (r : Int)) = ((2 * r : Nat) : Int) := by rw [IntKind.wrap_i64]; omega
  refine setI_mk e2 (setI_mk (i64_add1 (by omega)) (ifC_dec (fun h1 => ?_) (fun h1 => ?_)))
  · rw [siftDown_stop (by omega)] at hR
    exact hk _ (hR ▸ hA1)
  have h1 : ¬ hi ≤ 2 * r + 1 := by omega
  obtain ⟨hc1, hc2⟩ := childOf_lt (lt := lt) (first := first) (d := d1) h1
  refine Join1.mid (fun x S' => S' = S1 ∧ x = (childOf lt hi first r d1 : Nat)) (Join1.mid (fun b S' => S' = S1 ∧ b = (2 * r + 1 + 1 < hi && lt d1[first + (2 * r + 1)]! d1[first + (2 * r + 1) + 1]!)) (setI_mk (i64_add1 (by omega)) (ifC_dec (fun h2 => ?_) (fun h2 => ?_))) ?_) ?_
  · have h2 : 2 * r + 1 + 1 < hi := by omega
    refine setI_mk (i64_add (by omega)) (ifS_mk (arr_idx (by omega)) ⟨_, _, _, hA1.ldN (by omega), setI_mk (i64_add (by omega)) (setI_mk (i64_add1 (by omega)) (ifS_mk (arr_idx (by omega)) ⟨_, _, _, hA1.ldN (by omega), hcmp _ _ _ _ fun x hx => ⟨rfl, ?_⟩⟩))⟩)
    rw [hx]; simp [h2]
  · have h2 : ¬ 2 * r + 1 + 1 < hi := by omega
    exact ⟨rfl, by simp [h2]⟩
  · rintro b S' ⟨rfl, rfl⟩
    refine ifC_tt_ff (fun h3 => setI_mk (i64_add1 (by omega)) ⟨rfl, ?_⟩) (fun h3 => ⟨rfl, ?_⟩)
    · rw [childOf, if_pos h3]
    · rw [childOf, if_neg (by rw [h3]; simp)]
  rintro x S' ⟨rfl, rfl⟩
  generalize hch : childOf lt hi first r d1 = ch at hc1 hc2
  refine setI_mk (i64_add (by omega)) (ifS_mk (arr_idx (by omega)) ⟨_, _, _, hA1.ldN (by omega), setI_mk (i64_add (by omega)) (ifS_mk (arr_idx (by omega)) ⟨_, _, _, hA1.ldN (by omega), hcmp _ _ _ _ fun x hx => ?_⟩)⟩)
  rw [hx]
  refine ifC_tt_ff (fun h3 => ?_) (fun h3 => ?_)
  · rw [siftDown_no h1 (by rw [hch]; simpa using h3)] at hR
    exact hk _ (hR ▸ hA1)
  · rw [siftDown_go h1 (by rw [hch]; simpa using h3), hch] at hR
    have e1 : IntKind.i64.wrap ((first : Int) + (r : Int)) = ((first + r : Nat) : Int) := i64_add (by omega)
    have e3 : IntKind.i64.wrap ((first : Int) + (ch : Int)) = ((first + ch : Nat) : Int) := i64_add (by omega)
    refine setI_mk e1 (setI_mk e3 (setI_mk e3 (ifS_mk (arr_idx (by omega)) ⟨_, _, _, hA1.ldN (by omega), setI_mk e1 (ifS_mk (arr_idx (by omega)) ⟨_, _, _, hA1.ldN (by omega), ifS_mk (arr_idx (by omega)) (hA1.set (by omega) _ fun S5 h5 => ifS_mk (arr_idx (by omega)) (h5.set (by simp; omega) _ fun S6 h6 => ⟨hi - ch, by omega, ch, _, rfl, rfl, by omega, ?_, h6, hR⟩))⟩)⟩)))
    simp [hz1]

def slices_heapSortCmpFunc_api_Hit.Spec (P : Program) (N : Nat → Nat) : Prop := ∀ (lt : Hit → Hit → Bool) (cv : V) (S0 S : St) (i n c a b : Nat) (t : Bool) (pre post : List V) (d : Array Hit) (K : St → Prop), CmpIs P cv lt → ArrAt hitE S0 i pre post S d → d.size = n → n < big → a < b → b ≤ n →
  (∀ S', ArrAt hitE S0 i pre post S' (heapSort lt d a b) → K S') → CallA P (N Fn.slices_heapSortCmpFunc_api_Hit) [rowV i pre.length n c t, .int .i64 a, .int .i64 b, cv] S (retT [] K)
theorem slices_heapSortCmpFunc_api_Hit.spec (hF : slices_heapSortCmpFunc_api_Hit.Ok P N) (hs : slices_siftDownCmpFunc_api_Hit.Spec P N) : slices_heapSortCmpFunc_api_Hit.Spec P N := by
  intro lt cv S0 S i n c a b t pre post d K hcmp hA hz hn hab hbn hk
  have hn' := hn
  unfold big at hn
  have ed : Int.tdiv ((b - a - 1 : Nat) : Int) 2 = (((b - a - 1) / 2 : Nat) : Int) := by rw [Int.tdiv_eq_ediv_of_nonneg (by omega)]; omega
  refine slices_heapSortCmpFunc_api_Hit.run hF (setI_mk (i64_sub (by omega) (by omega)) (setI_mk (i64_sub1 (by omega) (by omega)) ⟨by omega, setI_mk (n := (((b - a - 1) / 2 : Nat) : Int)) (by rw [ed, IntKind.wrap_i64] <;> omega) (Loop1.ind (fun m x S' => ∃ (k : Nat) (d1 : Array Hit), x = (k : Int) - 1 ∧ k = m ∧ k ≤ b - a ∧ d1.size = n ∧ ArrAt hitE S0 i pre post S' d1 ∧ heapPop lt a (b - a) (heapBuild lt (b - a) a k d1) = heapSort lt d a b) ((b - a - 1) / 2 + 1) ⟨(b - a - 1) / 2 + 1, d, by omega, rfl, by omega, hz, hA, rfl⟩ ?_)⟩))
  rintro m _ S1 ⟨k, d1, rfl, rfl, hkb, hz1, hA1, hR⟩
  refine ifC_dec (fun h1 => ?_) (fun h1 => ?_)
  · obtain ⟨k, rfl⟩ : ∃ q, k = q + 1 := ⟨k - 1, by omega⟩
    have e1 : ((k + 1 : Nat) : Int) - 1 = (k : Int) := by omega
    rw [e1]
    refine hs lt cv S0 S1 i n c k (b - a) a t pre post d1 _ hcmp hA1 hz1 hn' (by omega) (by omega) fun S2 hA2 => ?_
    refine setI_mk (n := (k : Int) - 1) (by rw [IntKind.wrap_i64]; omega) ⟨k, by omega, k, _, rfl, rfl, by omega, ?_, hA2, hR⟩
    rw [siftDown_size _ _ _ (Nat.le_refl _), hz1]
  · have h1 : k = 0 := by omega
    subst h1
    refine setI_mk (i64_sub1 (by omega) (by omega)) ?_
    refine Loop1.ind (fun m x S' => ∃ (k : Nat) (d2 : Array Hit), x = (k : Int) - 1 ∧ k = m ∧ k ≤ b - a ∧ d2.size = n ∧ ArrAt hitE S0 i pre post S' d2 ∧ heapPop lt a k d2 = heapSort lt d a b) (b - a) ⟨b - a, d1, by omega, rfl, by omega, hz1, hA1, hR⟩ ?_
    rintro m _ S3 ⟨k, d2, rfl, rfl, hkb, hz2, hA2, hR2⟩
    refine ifC_dec (fun h2 => ?_) (fun h2 => ?_)
    · obtain ⟨k, rfl⟩ : ∃ q, k = q + 1 := ⟨k - 1, by omega⟩
      have e1 : ((k + 1 : Nat) : Int) - 1 = (k : Int) := by omega
      rw [e1]
      have e2 : IntKind.i64.wrap ((a : Int) + (k : Int)) = ((a + k : Nat) : Int) := i64_add (by omega)
      refine setI_mk e2 (setI_mk e2 (ifS_mk (arr_idx (by omega)) ⟨_, _, _, hA2.ldN (by omega), ifS_mk (arr_idx (by omega)) ⟨_, _, _, hA2.ldN (by omega), ifS_mk (arr_idx (by omega)) (hA2.set (by omega) _ fun S5 h5 => ifS_mk (arr_idx (by omega)) (h5.set (by simp; omega) _ fun S6 h6 => ?_))⟩⟩))
      refine hs lt cv S0 S6 i n c 0 k a t pre post _ _ hcmp h6 (by simp [hz2]) hn' (by omega) (by omega) fun S7 hA7 => ?_
      refine setI_mk (n := (k : Int) - 1) (by rw [IntKind.wrap_i64]; omega) ⟨k, by omega, k, _, rfl, rfl, by omega, ?_, hA7, hR2⟩
      rw [siftDown_size _ _ _ (Nat.le_refl _)]; simp [hz2]
    · have h2 : k = 0 := by omega
      subst h2
      exact hk _ (hR2 ▸ hA2)

def slices_reverseRangeCmpFunc_api_Hit.Spec (P : Program) (N : Nat → Nat) : Prop := ∀ (cv : V) (S0 S : St) (i n c a b : Nat) (t : Bool) (pre post : List V) (d : Array Hit) (K : St → Prop), ArrAt hitE S0 i pre post S d → d.size = n → n < big → a < b → b ≤ n →
  (∀ S', ArrAt hitE S0 i pre post S' (reverseRange d a b) → K S') → CallA P (N Fn.slices_reverseRangeCmpFunc_api_Hit) [rowV i pre.length n c t, .int .i64 a, .int .i64 b, cv] S (retT [] K)
theorem slices_reverseRangeCmpFunc_api_Hit.spec (hF : slices_reverseRangeCmpFunc_api_Hit.Ok P N) : slices_reverseRangeCmpFunc_api_Hit.Spec P N := by
  intro cv S0 S i n c a b t pre post d K hA hz hn hab hbn hk
  unfold big at hn
  refine slices_reverseRangeCmpFunc_api_Hit.run hF (setI_mk (i64_sub1 (by omega) (by omega)) (Loop2.ind (fun m x y S' => ∃ (p q : Nat) (d1 : Array Hit), x = p ∧ y = q ∧ m = q - p ∧ q < n ∧ p ≤ n ∧ d1.size = n ∧ ArrAt hitE S0 i pre post S' d1 ∧ reverseLoop p q d1 = reverseRange d a b) (b - 1 - a) ⟨a, b - 1, d, rfl, rfl, rfl, by omega, by omega, hz, hA, rfl⟩ ?_))
  rintro m _ _ S1 ⟨p, q, d1, rfl, rfl, rfl, hq, hp, hz1, hA1, hR⟩
  rw [reverseLoop] at hR
  refine ifC_dec (fun h1 => ?_) (fun h1 => ?_)
  · have h1 : p < q := by omega
    rw [if_pos h1] at hR
    refine ifS_mk (arr_idx (by omega)) ⟨_, _, _, hA1.ldN (by omega), ifS_mk (arr_idx (by omega)) ⟨_, _, _, hA1.ldN (by omega), ifS_mk (arr_idx (by omega)) (hA1.set (by omega) _ fun S5 h5 => ifS_mk (arr_idx (by omega)) (h5.set (by simp; omega) _ fun S6 h6 => setI_mk (i64_add1 (by omega)) (setI_mk (i64_sub1 (by omega) (by omega)) ⟨q - 1 - (p + 1), by omega, p + 1, q - 1, _, rfl, rfl, rfl, by omega, by omega, ?_, h6, hR⟩)))⟩⟩
    simp [hz1]
  · rw [if_neg (by omega)] at hR
    exact hk _ (hR ▸ hA1)

structure SwAt (S0 : St) (i : Nat) (pre post : List V) (d : Array Hit) (q : Nat) (S : St) (s : Nat) : Prop where
  upd : Upd [q] S0 S
  next : S.next = S0.next
  row : ∃ o, S.get i = some (.cells (pre ++ (d.toList.map hcells).flatten ++ post) o)
  cnt : S.get q = some (.cells [.int .i64 s] true)
  ne : i ≠ q

theorem SwAt.ldN {S0 S : St} {i q s : Nat} {pre post : List V} {d : Array Hit} (h : SwAt S0 i pre post d q S s) {j : Nat} (hj : j < d.size) : loadNV S 3 (.ptr i (pre.length + j * 3)) = some (.agg (hcells d[j]!)) := by
  obtain ⟨o, hg⟩ := h.row
  exact Go.Th.ldN hg (Enc.le (E := hitE) hj) (Enc.drop (E := hitE) hj)
theorem SwAt.set {S0 S : St} {i q s s' : Nat} {pre post : List V} {d : Array Hit} (h : SwAt S0 i pre post d q S s) {K : St → Prop} (hk : ∀ S', SwAt S0 i pre post d q S' s' → K S') : ifS (storeV S 1 (.ptr q 0) (.int .i64 s')) K := by
  refine st_mk h.upd.wf h.cnt rfl (by simp [V.cells]) rfl fun S' u m n => hk S' ⟨h.upd.trans u, n.trans h.next, h.row.elim fun o hg => ⟨o, u.get hg (by simp; exact h.ne)⟩, ?_, h.ne⟩
  simpa [over, V.cells] using m

def slices_order2CmpFunc_api_Hit.Spec (P : Program) (N : Nat → Nat) : Prop := ∀ (lt : Hit → Hit → Bool) (cv : V) (S0 S : St) (i n c a b q s : Nat) (t : Bool) (pre post : List V) (d : Array Hit) (K : Int → Int → St → Prop), CmpIs P cv lt → SwAt S0 i pre post d q S s → d.size = n → n < big → s < big → a < n → b < n →
  (∀ S', SwAt S0 i pre post d q S' (order2 lt d a b s).2.2 → K (order2 lt d a b s).1 (order2 lt d a b s).2.1 S') → CallA P (N Fn.slices_order2CmpFunc_api_Hit) [rowV i pre.length n c t, .int .i64 a, .int .i64 b, .ptr q 0, cv] S (retT [.one (.int .i64), .one (.int .i64)] K)
theorem slices_order2CmpFunc_api_Hit.spec (hF : slices_order2CmpFunc_api_Hit.Ok P N) : slices_order2CmpFunc_api_Hit.Spec P N := by
  intro lt cv S0 S i n c a b q s t pre post d K hcmp hA hz hn hs ha hb hk
  unfold big at hn hs
  refine slices_order2CmpFunc_api_Hit.run hF (ifS_mk (arr_idx hb) ⟨_, _, _, hA.ldN (by omega), ifS_mk (arr_idx ha) ⟨_, _, _, hA.ldN (by omega), hcmp _ _ _ _ fun x hx => ?_⟩⟩)
  rw [hx]
  refine ifC_tt_ff (fun h1 => ?_) (fun h1 => ?_)
  · refine ⟨rfl, _, ld hA.cnt rfl, setI_mk (i64_add1 (by omega)) ⟨rfl, hA.set fun S' h' => ?_⟩⟩
    have e : order2 lt d a b s = (b, a, s + 1) := by rw [order2, if_pos h1]
    rw [e] at hk
    exact hk S' h'
  · have e : order2 lt d a b s = (a, b, s) := by rw [order2, if_neg (by rw [h1]; simp)]
    rw [e] at hk
    exact hk S hA

theorem order2_bd {lt : Hit → Hit → Bool} {d : Array Hit} {a b s n : Nat} (ha : a < n) (hb : b < n) : (order2 lt d a b s).1 < n ∧ (order2 lt d a b s).2.1 < n ∧ (order2 lt d a b s).2.2 ≤ s + 1 := by
  unfold order2; split <;> simp <;> omega

def slices_medianCmpFunc_api_Hit.Spec (P : Program) (N : Nat → Nat) : Prop := ∀ (lt : Hit → Hit → Bool) (cv : V) (S0 S : St) (i n c a b e q s : Nat) (t : Bool) (pre post : List V) (d : Array Hit) (K : Int → St → Prop), CmpIs P cv lt → SwAt S0 i pre post d q S s → d.size = n → n < big → s + 3 < big → a < n → b < n → e < n →
  (∀ S', SwAt S0 i pre post d q S' (Sort.median lt d a b e s).2 → K (Sort.median lt d a b e s).1 S') → CallA P (N Fn.slices_medianCmpFunc_api_Hit) [rowV i pre.length n c t, .int .i64 a, .int .i64 b, .int .i64 e, .ptr q 0, cv] S (retT [.one (.int .i64)] K)
theorem slices_medianCmpFunc_api_Hit.spec (hF : slices_medianCmpFunc_api_Hit.Ok P N) (ho : slices_order2CmpFunc_api_Hit.Spec P N) : slices_medianCmpFunc_api_Hit.Spec P N := by
  intro lt cv S0 S i n c a b e q s t pre post d K hcmp hA hz hn hs ha hb he hk
  obtain ⟨b1, b2, b3⟩ := order2_bd (lt := lt) (d := d) (s := s) ha hb
  obtain ⟨c1, c2, c3⟩ := order2_bd (lt := lt) (d := d) (s := (order2 lt d a b s).2.2) b2 he
  refine slices_medianCmpFunc_api_Hit.run hF (ho lt cv S0 S i n c a b q s t pre post d _ hcmp hA hz hn (by omega) ha hb fun S1 h1 => ho lt cv S0 S1 i n c _ e q _ t pre post d _ hcmp h1 hz hn (by omega) b2 he fun S2 h2 => ho lt cv S0 S2 i n c _ _ q _ t pre post d _ hcmp h2 hz hn (by omega) b1 c1 fun S3 h3 => hk S3 h3)

theorem median_bd {lt : Hit → Hit → Bool} {d : Array Hit} {a b e s n : Nat} (ha : a < n) (hb : b < n) (he : e < n) : (Sort.median lt d a b e s).1 < n ∧ (Sort.median lt d a b e s).2 ≤ s + 3 := by
  obtain ⟨b1, b2, b3⟩ := order2_bd (lt := lt) (d := d) (s := s) ha hb
  obtain ⟨c1, c2, c3⟩ := order2_bd (lt := lt) (d := d) (s := (order2 lt d a b s).2.2) b2 he
  obtain ⟨d1, d2, d3⟩ := order2_bd (lt := lt) (d := d) (s := (order2 lt d (order2 lt d a b s).2.1 e (order2 lt d a b s).2.2).2.2) b1 c1
  refine ⟨d2, ?_⟩
  show (order2 lt d (order2 lt d a b s).1 (order2 lt d (order2 lt d a b s).2.1 e (order2 lt d a b s).2.2).1 (order2 lt d (order2 lt d a b s).2.1 e (order2 lt d a b s).2.2).2.2).2.2 ≤ s + 3
  omega

def slices_medianAdjacentCmpFunc_api_Hit.Spec (P : Program) (N : Nat → Nat) : Prop := ∀ (lt : Hit → Hit → Bool) (cv : V) (S0 S : St) (i n c a q s : Nat) (t : Bool) (pre post : List V) (d : Array Hit) (K : Int → St → Prop), CmpIs P cv lt → SwAt S0 i pre post d q S s → d.size = n → n < big → s + 3 < big → 1 ≤ a → a + 1 < n →
  (∀ S', SwAt S0 i pre post d q S' (medianAdjacent lt d a s).2 → K (medianAdjacent lt d a s).1 S') → CallA P (N Fn.slices_medianAdjacentCmpFunc_api_Hit) [rowV i pre.length n c t, .int .i64 a, .ptr q 0, cv] S (retT [.one (.int .i64)] K)
theorem slices_medianAdjacentCmpFunc_api_Hit.spec (hF : slices_medianAdjacentCmpFunc_api_Hit.Ok P N) (hm : slices_medianCmpFunc_api_Hit.Spec P N) : slices_medianAdjacentCmpFunc_api_Hit.Spec P N := by
  intro lt cv S0 S i n c a q s t pre post d K hcmp hA hz hn hs h1 h2 hk
  have hn' := hn
  unfold big at hn
  exact slices_medianAdjacentCmpFunc_api_Hit.run hF (setI_mk (i64_sub1 (by omega) (by omega)) (setI_mk (i64_add1 (by omega)) (hm lt cv S0 S i n c _ a _ q s t pre post d _ hcmp hA hz hn' hs (by omega) (by omega) (by omega) hk)))

end Go.Th.L
end

section
/- slices.SortFunc's functions at hits: partitions, partial insertion, the pivot. -/
set_option linter.unusedSimpArgs false
set_option linter.unusedVariables false
set_option linter.unusedSectionVars false
namespace Go.Th.L
open Go Go.Th Go.Th.Pure Go.Sort
variable {P : Program} {N : Nat → Nat}

section
variable {S0 S : St} {i n c : Nat} {t : Bool} {pre post : List V} {d : Array Hit} (hA : ArrAt hitE S0 i pre post S d) (hz : d.size = n)
include hA hz

theorem ArrAt.cmp {lt : Hit → Hit → Bool} {cv : V} (hcmp : CmpIs P cv lt) {x y : Nat} (hx : x < n) (hy : y < n) {K : Int → St → Prop} (h : ∀ r : Int, decide (r < 0) = lt d[x]! d[y]! → K r S) :
    ifS (idxAddrV 3 (rowV i pre.length n c t) (.int .i64 x)) fun p => ∃ a : Int, ∃ b : Int, ∃ e : Int, loadNV S 3 p = some (.agg [.int .i64 a, .int .u64 b, .int .u64 e]) ∧
    ifS (idxAddrV 3 (rowV i pre.length n c t) (.int .i64 y)) fun q => ∃ a' : Int, ∃ b' : Int, ∃ e' : Int, loadNV S 3 q = some (.agg [.int .i64 a', .int .u64 b', .int .u64 e']) ∧
    ifS (calleeV (envP P) cv [.agg [.int .i64 a, .int .u64 b, .int .u64 e], .agg [.int .i64 a', .int .u64 b', .int .u64 e']]) fun p => CallA P p.1 p.2 S (retT [.one (.int .i64)] K) :=
  ifS_mk (arr_idx hx) ⟨_, _, _, hA.ldN (by omega), ifS_mk (arr_idx hy) ⟨_, _, _, hA.ldN (by omega), hcmp _ _ _ _ h⟩⟩

theorem ArrAt.swp_ {x y : Nat} (hx : x < n) (hy : y < n) {K : St → Prop} (h : ∀ S', ArrAt hitE S0 i pre post S' (swp d x y) → (swp d x y).size = n → K S') :
    ifS (idxAddrV 3 (rowV i pre.length n c t) (.int .i64 y)) fun p => ∃ a : Int, ∃ b : Int, ∃ e : Int, loadNV S 3 p = some (.agg [.int .i64 a, .int .u64 b, .int .u64 e]) ∧
    ifS (idxAddrV 3 (rowV i pre.length n c t) (.int .i64 x)) fun q => ∃ a' : Int, ∃ b' : Int, ∃ e' : Int, loadNV S 3 q = some (.agg [.int .i64 a', .int .u64 b', .int .u64 e']) ∧
    ifS (idxAddrV 3 (rowV i pre.length n c t) (.int .i64 x)) fun r => ifS (storeV S 3 r (.agg [.int .i64 a, .int .u64 b, .int .u64 e])) fun S1 =>
    ifS (idxAddrV 3 (rowV i pre.length n c t) (.int .i64 y)) fun u => ifS (storeV S1 3 u (.agg [.int .i64 a', .int .u64 b', .int .u64 e'])) K :=
  ifS_mk (arr_idx hy) ⟨_, _, _, hA.ldN (by omega), ifS_mk (arr_idx hx) ⟨_, _, _, hA.ldN (by omega), ifS_mk (arr_idx hx) (hA.set (by omega) _ fun S5 h5 => ifS_mk (arr_idx hy) (h5.set (by simp; omega) _ fun S6 h6 => h S6 h6 (by simp [hz])))⟩⟩
end

theorem scanUp_stop {p : Hit → Bool} {d : Array Hit} {j i : Nat} (h : ¬ (i ≤ j ∧ p d[i]! = true)) : scanUp p d j i = i := by
  rw [scanUp, if_neg (by simpa using h)]
theorem scanUp_go {p : Hit → Bool} {d : Array Hit} {j i : Nat} (h : i ≤ j) (h2 : p d[i]! = true) : scanUp p d j i = scanUp p d j (i + 1) := by
  rw [scanUp, if_pos (by simp [h, h2])]
theorem scanDown_stop {p : Hit → Bool} {d : Array Hit} {j i : Nat} (hi : 1 ≤ i) (h : ¬ (i ≤ j ∧ p d[j]! = true)) : scanDown p d i j = j := by
  cases j with
  | zero => rfl
  | succ j => rw [scanDown, if_neg (by simpa using h)]
theorem scanDown_go {p : Hit → Bool} {d : Array Hit} {j i : Nat} (hi : 1 ≤ i) (h : i ≤ j) (h2 : p d[j]! = true) : scanDown p d i j = scanDown p d i (j - 1) := by
  obtain ⟨j, rfl⟩ : ∃ q, j = q + 1 := ⟨j - 1, by omega⟩
  rw [scanDown, if_pos (by simp [h, h2])]; rfl

section
variable {S0 S : St} {i n c a : Nat} {t : Bool} {pre post : List V} {d : Array Hit} (hA : ArrAt hitE S0 i pre post S d) (hz : d.size = n) {lt : Hit → Hit → Bool} {cv : V} (hcmp : CmpIs P cv lt) (hn : n < big) (ha : a < n)
include hA hz hcmp hn ha

theorem scanLt {b p : Nat} (hb : b < n) (hp : p ≤ n) {k1 : Int → St → Prop} (hk : p ≤ scanUp (fun x => lt x d[a]!) d b p → scanUp (fun x => lt x d[a]!) d b p ≤ n → k1 (scanUp (fun x => lt x d[a]!) d b p : Nat) S) :
    Loop1 (fun (k2 : Int → St → Prop) (x : Int) (S4 : St) => ifC (decide (x ≤ (b : Int)))
      (ifS (idxAddrV 3 (rowV i pre.length n c t) (.int .i64 x)) fun p => ∃ x1 : Int, ∃ x2 : Int, ∃ x3 : Int, loadNV S4 3 p = some (.agg [.int .i64 x1, .int .u64 x2, .int .u64 x3]) ∧
        ifS (idxAddrV 3 (rowV i pre.length n c t) (.int .i64 a)) fun q => ∃ y1 : Int, ∃ y2 : Int, ∃ y3 : Int, loadNV S4 3 q = some (.agg [.int .i64 y1, .int .u64 y2, .int .u64 y3]) ∧
        ifS (calleeV (envP P) cv [.agg [.int .i64 x1, .int .u64 x2, .int .u64 x3], .agg [.int .i64 y1, .int .u64 y2, .int .u64 y3]]) fun f => CallA P f.1 f.2 S4 (retT [.one (.int .i64)] fun (r : Int) (S5 : St) =>
          ifC (decide (r < (0 : Int))) (setI (IntKind.i64.wrap (x + (1 : Int))) fun y => k2 y S5) (k1 x S5)))
      (k1 x S4)) (p : Int) S := by
  unfold big at hn
  refine Loop1.ind (fun m x S' => ∃ q : Nat, x = q ∧ m = b + 1 - q ∧ p ≤ q ∧ q ≤ n ∧ S' = S ∧ scanUp (fun x => lt x d[a]!) d b q = scanUp (fun x => lt x d[a]!) d b p) (b + 1 - p) ⟨p, rfl, rfl, Nat.le_refl _, hp, rfl, rfl⟩ ?_
  rintro m _ _ ⟨q, rfl, rfl, hpq, hqn, rfl, hR⟩
  refine ifC_dec (fun h1 => hA.cmp hz hcmp (by omega) ha fun r hr => ?_) (fun h1 => ?_)
  · rw [hr]
    refine ifC_tt_ff (fun h2 => setI_mk (i64_add1 (by omega)) ⟨b + 1 - (q + 1), by omega, q + 1, rfl, rfl, by omega, by omega, rfl, ?_⟩) (fun h2 => ?_)
    · rw [← hR, scanUp_go (p := fun x => lt x d[a]!) (i := q) (by omega) h2]
    · rw [scanUp_stop (by rw [h2]; simp)] at hR
      rw [← hR] at hk; exact hk hpq hqn
  · rw [scanUp_stop (fun h => h1 (by have := h.1; omega))] at hR
    rw [← hR] at hk; exact hk hpq hqn

theorem scanGe {e p : Nat} (he : 1 ≤ e) (hp : p < n) {k1 : Int → St → Prop} (hk : scanDown (fun x => !lt x d[a]!) d e p ≤ p → k1 (scanDown (fun x => !lt x d[a]!) d e p : Nat) S) :
    Loop1 (fun (k2 : Int → St → Prop) (x : Int) (S4 : St) => ifC (decide ((e : Int) ≤ x))
      (ifS (idxAddrV 3 (rowV i pre.length n c t) (.int .i64 x)) fun p => ∃ x1 : Int, ∃ x2 : Int, ∃ x3 : Int, loadNV S4 3 p = some (.agg [.int .i64 x1, .int .u64 x2, .int .u64 x3]) ∧
        ifS (idxAddrV 3 (rowV i pre.length n c t) (.int .i64 a)) fun q => ∃ y1 : Int, ∃ y2 : Int, ∃ y3 : Int, loadNV S4 3 q = some (.agg [.int .i64 y1, .int .u64 y2, .int .u64 y3]) ∧
        ifS (calleeV (envP P) cv [.agg [.int .i64 x1, .int .u64 x2, .int .u64 x3], .agg [.int .i64 y1, .int .u64 y2, .int .u64 y3]]) fun f => CallA P f.1 f.2 S4 (retT [.one (.int .i64)] fun (r : Int) (S5 : St) =>
          ifC (!(decide (r < (0 : Int)))) (setI (IntKind.i64.wrap (x - (1 : Int))) fun y => k2 y S5) (k1 x S5)))
      (k1 x S4)) (p : Int) S := by
  unfold big at hn
  refine Loop1.ind (fun m x S' => ∃ q : Nat, x = q ∧ q = m ∧ q ≤ p ∧ S' = S ∧ scanDown (fun x => !lt x d[a]!) d e q = scanDown (fun x => !lt x d[a]!) d e p) p ⟨p, rfl, rfl, Nat.le_refl _, rfl, rfl⟩ ?_
  rintro m _ _ ⟨q, rfl, rfl, hpq, rfl, hR⟩
  refine ifC_dec (fun h1 => hA.cmp hz hcmp (by omega) ha fun r hr => ?_) (fun h1 => ?_)
  · rw [hr]
    refine ifC_tt_ff (fun h2 => setI_mk (i64_sub1 (by omega) (by omega)) ⟨q - 1, by omega, q - 1, rfl, rfl, by omega, rfl, ?_⟩) (fun h2 => ?_)
    · rw [← hR, scanDown_go (p := fun x => !lt x d[a]!) (j := q) he (by omega) h2]
    · rw [scanDown_stop he (by rw [h2]; simp)] at hR
      rw [← hR] at hk; exact hk hpq
  · rw [scanDown_stop he (fun h => h1 (by have := h.1; omega))] at hR
    rw [← hR] at hk; exact hk hpq
end

theorem partLoop_eq {lt : Hit → Hit → Bool} {a i j : Nat} {d : Array Hit} : partLoop lt a i j d =
    (if scanUp (fun x => lt x d[a]!) d j i > scanDown (fun x => !lt x d[a]!) d (scanUp (fun x => lt x d[a]!) d j i) j then (scanDown (fun x => !lt x d[a]!) d (scanUp (fun x => lt x d[a]!) d j i) j, d) else
      if (scanDown (fun x => !lt x d[a]!) d (scanUp (fun x => lt x d[a]!) d j i) j - 1) + 1 - (scanUp (fun x => lt x d[a]!) d j i + 1) < j + 1 - i then
        partLoop lt a (scanUp (fun x => lt x d[a]!) d j i + 1) (scanDown (fun x => !lt x d[a]!) d (scanUp (fun x => lt x d[a]!) d j i) j - 1) (swp d (scanUp (fun x => lt x d[a]!) d j i) (scanDown (fun x => !lt x d[a]!) d (scanUp (fun x => lt x d[a]!) d j i) j))
      else (scanDown (fun x => !lt x d[a]!) d (scanUp (fun x => lt x d[a]!) d j i) j, d)) := by
  rw [partLoop]
  simp only [dite_eq_ite]

def slices_partitionCmpFunc_api_Hit.Spec (P : Program) (N : Nat → Nat) : Prop := ∀ (lt : Hit → Hit → Bool) (cv : V) (S0 S : St) (i n c a b pv : Nat) (t : Bool) (pre post : List V) (d : Array Hit) (K : Int → Bool → St → Prop), CmpIs P cv lt → ArrAt hitE S0 i pre post S d → d.size = n → n < big → a ≤ pv → pv < b → b ≤ n →
  (∀ S', ArrAt hitE S0 i pre post S' (Sort.partition lt d a b pv).2.2 → K (Sort.partition lt d a b pv).1 (Sort.partition lt d a b pv).2.1 S') → CallA P (N Fn.slices_partitionCmpFunc_api_Hit) [rowV i pre.length n c t, .int .i64 a, .int .i64 b, .int .i64 pv, cv] S (retT [.one (.int .i64), .one .bool] K)
theorem slices_partitionCmpFunc_api_Hit.spec (hF : slices_partitionCmpFunc_api_Hit.Ok P N) : slices_partitionCmpFunc_api_Hit.Spec P N := by
  intro lt cv S0 S i n c a b pv t pre post d K hcmp hA hz hn hap hpb hbn hk
  have hn' := hn
  unfold big at hn
  have ha : a < n := by omega
  refine slices_partitionCmpFunc_api_Hit.run hF (hA.swp_ hz ha (by omega) fun S2 hA2 hz2 => setI_mk (i64_add1 (by omega)) (setI_mk (i64_sub1 (by omega) (by omega)) ?_))
  generalize hd2 : swp d a pv = d2 at hA2 hz2
  refine Join1.mid (fun x S' => S' = S2 ∧ x = (scanUp (fun x => lt x d2[a]!) d2 (b - 1) (a + 1) : Nat) ∧ a + 1 ≤ scanUp (fun x => lt x d2[a]!) d2 (b - 1) (a + 1) ∧ scanUp (fun x => lt x d2[a]!) d2 (b - 1) (a + 1) ≤ n) (scanLt hA2 hz2 hcmp hn' ha (by omega) (by omega) fun h1 h2 => ⟨rfl, rfl, h1, h2⟩) ?_
  rintro _ T1 ⟨rfl, rfl, h1, h2⟩
  generalize hI : scanUp (fun x => lt x d2[a]!) d2 (b - 1) (a + 1) = I at h1 h2
  refine Join1.mid (fun x S' => S' = T1 ∧ x = (scanDown (fun x => !lt x d2[a]!) d2 I (b - 1) : Nat) ∧ scanDown (fun x => !lt x d2[a]!) d2 I (b - 1) ≤ b - 1) (scanGe hA2 hz2 hcmp hn' ha (by omega) (by omega) fun h3 => ⟨rfl, rfl, h3⟩) ?_
  rintro _ T2 ⟨rfl, rfl, h3⟩
  have hP : Sort.partition lt d a b pv = if I > scanDown (fun x => !lt x d2[a]!) d2 I (b - 1) then (scanDown (fun x => !lt x d2[a]!) d2 I (b - 1), true, swp d2 (scanDown (fun x => !lt x d2[a]!) d2 I (b - 1)) a) else
      ((partLoop lt a (I + 1) (scanDown (fun x => !lt x d2[a]!) d2 I (b - 1) - 1) (swp d2 I (scanDown (fun x => !lt x d2[a]!) d2 I (b - 1)))).1, false, swp (partLoop lt a (I + 1) (scanDown (fun x => !lt x d2[a]!) d2 I (b - 1) - 1) (swp d2 I (scanDown (fun x => !lt x d2[a]!) d2 I (b - 1)))).2 (partLoop lt a (I + 1) (scanDown (fun x => !lt x d2[a]!) d2 I (b - 1) - 1) (swp d2 I (scanDown (fun x => !lt x d2[a]!) d2 I (b - 1)))).1 a) := by
    unfold Sort.partition
    rw [hd2]
    simp only [hI]
  generalize hJ : scanDown (fun x => !lt x d2[a]!) d2 I (b - 1) = J at h3 hP
  refine ifC_dec (fun h4 => ?_) (fun h4 => ?_)
  · rw [if_pos (by omega)] at hP
    rw [hP] at hk
    exact hA2.swp_ hz2 (by omega) ha fun S3 hA3 _ => hk S3 hA3
  · rw [if_neg (by omega)] at hP
    refine hA2.swp_ hz2 (by omega) (by omega) fun S3 hA3 hz3 => setI_mk (i64_add1 (by omega)) (setI_mk (i64_sub1 (by omega) (by omega)) ?_)
    generalize hd3 : swp d2 I J = d3 at hA3 hz3 hP
    refine Loop2.ind (fun m x y S' => ∃ (p q : Nat) (d4 : Array Hit), x = p ∧ y = q ∧ m = q + 1 - p ∧ a + 1 ≤ p ∧ p ≤ n ∧ q < n ∧ d4.size = n ∧ ArrAt hitE S0 i pre post S' d4 ∧ partLoop lt a p q d4 = partLoop lt a (I + 1) (J - 1) d3) (J - 1 + 1 - (I + 1)) ⟨I + 1, J - 1, d3, rfl, rfl, rfl, by omega, by omega, by omega, hz3, hA3, rfl⟩ ?_
    rintro m _ _ S4 ⟨p, q, d4, rfl, rfl, rfl, hp1, hp2, hq, hz4, hA4, hR⟩
    refine Join1.mid (fun x S' => S' = S4 ∧ x = (scanUp (fun x => lt x d4[a]!) d4 q p : Nat) ∧ p ≤ scanUp (fun x => lt x d4[a]!) d4 q p ∧ scanUp (fun x => lt x d4[a]!) d4 q p ≤ n) (scanLt hA4 hz4 hcmp hn' ha (by omega) (by omega) fun h1 h2 => ⟨rfl, rfl, h1, h2⟩) ?_
    rintro _ T3 ⟨rfl, rfl, g1, g2⟩
    rw [partLoop_eq] at hR
    generalize hI' : scanUp (fun x => lt x d4[a]!) d4 q p = I' at g1 g2 hR
    refine Join1.mid (fun x S' => S' = T3 ∧ x = (scanDown (fun x => !lt x d4[a]!) d4 I' q : Nat) ∧ scanDown (fun x => !lt x d4[a]!) d4 I' q ≤ q) (scanGe hA4 hz4 hcmp hn' ha (by omega) (by omega) fun h3 => ⟨rfl, rfl, h3⟩) ?_
    rintro _ T4 ⟨rfl, rfl, g3⟩
    generalize hJ' : scanDown (fun x => !lt x d4[a]!) d4 I' q = J' at g3 hR
    refine ifC_dec (fun h5 => ?_) (fun h5 => ?_)
    · rw [if_pos (by omega)] at hR
      rw [← hR] at hP
      rw [hP] at hk
      exact hA4.swp_ hz4 (by omega) ha fun S5 hA5 _ => hk S5 hA5
    · rw [if_neg (by omega), if_pos (by omega)] at hR
      exact hA4.swp_ hz4 (by omega) (by omega) fun S5 hA5 hz5 => setI_mk (i64_add1 (by omega)) (setI_mk (i64_sub1 (by omega) (by omega)) ⟨J' - 1 + 1 - (I' + 1), by omega, I' + 1, J' - 1, _, rfl, rfl, rfl, by omega, by omega, by omega, hz5, hA5, hR⟩)

section
variable {S0 S : St} {i n c a : Nat} {t : Bool} {pre post : List V} {d : Array Hit} (hA : ArrAt hitE S0 i pre post S d) (hz : d.size = n) {lt : Hit → Hit → Bool} {cv : V} (hcmp : CmpIs P cv lt) (hn : n < big) (ha : a < n)
include hA hz hcmp hn ha

theorem scanNl {b p : Nat} (hb : b < n) (hp : p ≤ n) {k1 : Int → St → Prop} (hk : p ≤ scanUp (fun x => !lt d[a]! x) d b p → scanUp (fun x => !lt d[a]! x) d b p ≤ n → k1 (scanUp (fun x => !lt d[a]! x) d b p : Nat) S) :
    Loop1 (fun (k2 : Int → St → Prop) (x : Int) (S4 : St) => ifC (decide (x ≤ (b : Int)))
      (ifS (idxAddrV 3 (rowV i pre.length n c t) (.int .i64 a)) fun p => ∃ x1 : Int, ∃ x2 : Int, ∃ x3 : Int, loadNV S4 3 p = some (.agg [.int .i64 x1, .int .u64 x2, .int .u64 x3]) ∧
        ifS (idxAddrV 3 (rowV i pre.length n c t) (.int .i64 x)) fun q => ∃ y1 : Int, ∃ y2 : Int, ∃ y3 : Int, loadNV S4 3 q = some (.agg [.int .i64 y1, .int .u64 y2, .int .u64 y3]) ∧
        ifS (calleeV (envP P) cv [.agg [.int .i64 x1, .int .u64 x2, .int .u64 x3], .agg [.int .i64 y1, .int .u64 y2, .int .u64 y3]]) fun f => CallA P f.1 f.2 S4 (retT [.one (.int .i64)] fun (r : Int) (S5 : St) =>
          ifC (!(decide (r < (0 : Int)))) (setI (IntKind.i64.wrap (x + (1 : Int))) fun y => k2 y S5) (k1 x S5)))
      (k1 x S4)) (p : Int) S := by
  unfold big at hn
  refine Loop1.ind (fun m x S' => ∃ q : Nat, x = q ∧ m = b + 1 - q ∧ p ≤ q ∧ q ≤ n ∧ S' = S ∧ scanUp (fun x => !lt d[a]! x) d b q = scanUp (fun x => !lt d[a]! x) d b p) (b + 1 - p) ⟨p, rfl, rfl, Nat.le_refl _, hp, rfl, rfl⟩ ?_
  rintro m _ _ ⟨q, rfl, rfl, hpq, hqn, rfl, hR⟩
  refine ifC_dec (fun h1 => hA.cmp hz hcmp ha (by omega) fun r hr => ?_) (fun h1 => ?_)
  · rw [hr]
    refine ifC_tt_ff (fun h2 => setI_mk (i64_add1 (by omega)) ⟨b + 1 - (q + 1), by omega, q + 1, rfl, rfl, by omega, by omega, rfl, ?_⟩) (fun h2 => ?_)
    · rw [← hR, scanUp_go (p := fun x => !lt d[a]! x) (i := q) (by omega) h2]
    · rw [scanUp_stop (by rw [h2]; simp)] at hR
      rw [← hR] at hk; exact hk hpq hqn
  · rw [scanUp_stop (fun h => h1 (by have := h.1; omega))] at hR
    rw [← hR] at hk; exact hk hpq hqn

theorem scanGt {e p : Nat} (he : 1 ≤ e) (hp : p < n) {k1 : Int → St → Prop} (hk : scanDown (fun x => lt d[a]! x) d e p ≤ p → k1 (scanDown (fun x => lt d[a]! x) d e p : Nat) S) :
    Loop1 (fun (k2 : Int → St → Prop) (x : Int) (S4 : St) => ifC (decide ((e : Int) ≤ x))
      (ifS (idxAddrV 3 (rowV i pre.length n c t) (.int .i64 a)) fun p => ∃ x1 : Int, ∃ x2 : Int, ∃ x3 : Int, loadNV S4 3 p = some (.agg [.int .i64 x1, .int .u64 x2, .int .u64 x3]) ∧
        ifS (idxAddrV 3 (rowV i pre.length n c t) (.int .i64 x)) fun q => ∃ y1 : Int, ∃ y2 : Int, ∃ y3 : Int, loadNV S4 3 q = some (.agg [.int .i64 y1, .int .u64 y2, .int .u64 y3]) ∧
        ifS (calleeV (envP P) cv [.agg [.int .i64 x1, .int .u64 x2, .int .u64 x3], .agg [.int .i64 y1, .int .u64 y2, .int .u64 y3]]) fun f => CallA P f.1 f.2 S4 (retT [.one (.int .i64)] fun (r : Int) (S5 : St) =>
          ifC (decide (r < (0 : Int))) (setI (IntKind.i64.wrap (x - (1 : Int))) fun y => k2 y S5) (k1 x S5)))
      (k1 x S4)) (p : Int) S := by
  unfold big at hn
  refine Loop1.ind (fun m x S' => ∃ q : Nat, x = q ∧ q = m ∧ q ≤ p ∧ S' = S ∧ scanDown (fun x => lt d[a]! x) d e q = scanDown (fun x => lt d[a]! x) d e p) p ⟨p, rfl, rfl, Nat.le_refl _, rfl, rfl⟩ ?_
  rintro m _ _ ⟨q, rfl, rfl, hpq, rfl, hR⟩
  refine ifC_dec (fun h1 => hA.cmp hz hcmp ha (by omega) fun r hr => ?_) (fun h1 => ?_)
  · rw [hr]
    refine ifC_tt_ff (fun h2 => setI_mk (i64_sub1 (by omega) (by omega)) ⟨q - 1, by omega, q - 1, rfl, rfl, by omega, rfl, ?_⟩) (fun h2 => ?_)
    · rw [← hR, scanDown_go (p := fun x => lt d[a]! x) (j := q) he (by omega) h2]
    · rw [scanDown_stop he (by rw [h2]; simp)] at hR
      rw [← hR] at hk; exact hk hpq
  · rw [scanDown_stop he (fun h => h1 (by have := h.1; omega))] at hR
    rw [← hR] at hk; exact hk hpq
end

theorem partEqLoop_eq {lt : Hit → Hit → Bool} {a i j : Nat} {d : Array Hit} : partEqLoop lt a i j d =
    (if scanUp (fun x => !lt d[a]! x) d j i > scanDown (fun x => lt d[a]! x) d (scanUp (fun x => !lt d[a]! x) d j i) j then (scanUp (fun x => !lt d[a]! x) d j i, d) else
      if (scanDown (fun x => lt d[a]! x) d (scanUp (fun x => !lt d[a]! x) d j i) j - 1) + 1 - (scanUp (fun x => !lt d[a]! x) d j i + 1) < j + 1 - i then
        partEqLoop lt a (scanUp (fun x => !lt d[a]! x) d j i + 1) (scanDown (fun x => lt d[a]! x) d (scanUp (fun x => !lt d[a]! x) d j i) j - 1) (swp d (scanUp (fun x => !lt d[a]! x) d j i) (scanDown (fun x => lt d[a]! x) d (scanUp (fun x => !lt d[a]! x) d j i) j))
      else (scanUp (fun x => !lt d[a]! x) d j i, d)) := by
  rw [partEqLoop]
  simp only [dite_eq_ite]

def slices_partitionEqualCmpFunc_api_Hit.Spec (P : Program) (N : Nat → Nat) : Prop := ∀ (lt : Hit → Hit → Bool) (cv : V) (S0 S : St) (i n c a b pv : Nat) (t : Bool) (pre post : List V) (d : Array Hit) (K : Int → St → Prop), CmpIs P cv lt → ArrAt hitE S0 i pre post S d → d.size = n → n < big → a ≤ pv → pv < b → b ≤ n →
  (∀ S', ArrAt hitE S0 i pre post S' (partitionEqual lt d a b pv).2 → K (partitionEqual lt d a b pv).1 S') → CallA P (N Fn.slices_partitionEqualCmpFunc_api_Hit) [rowV i pre.length n c t, .int .i64 a, .int .i64 b, .int .i64 pv, cv] S (retT [.one (.int .i64)] K)
theorem slices_partitionEqualCmpFunc_api_Hit.spec (hF : slices_partitionEqualCmpFunc_api_Hit.Ok P N) : slices_partitionEqualCmpFunc_api_Hit.Spec P N := by
  intro lt cv S0 S i n c a b pv t pre post d K hcmp hA hz hn hap hpb hbn hk
  have hn' := hn
  unfold big at hn
  have ha : a < n := by omega
  unfold partitionEqual at hk
  refine slices_partitionEqualCmpFunc_api_Hit.run hF (hA.swp_ hz ha (by omega) fun S2 hA2 hz2 => setI_mk (i64_add1 (by omega)) (setI_mk (i64_sub1 (by omega) (by omega)) ?_))
  generalize hd2 : swp d a pv = d2 at hA2 hz2 hk
  refine Loop2.ind (fun m x y S' => ∃ (p q : Nat) (d4 : Array Hit), x = p ∧ y = q ∧ m = q + 1 - p ∧ a + 1 ≤ p ∧ p ≤ n ∧ q < n ∧ d4.size = n ∧ ArrAt hitE S0 i pre post S' d4 ∧ partEqLoop lt a p q d4 = partEqLoop lt a (a + 1) (b - 1) d2) (b - 1 + 1 - (a + 1)) ⟨a + 1, b - 1, d2, rfl, rfl, rfl, by omega, by omega, by omega, hz2, hA2, rfl⟩ ?_
  rintro m _ _ S4 ⟨p, q, d4, rfl, rfl, rfl, hp1, hp2, hq, hz4, hA4, hR⟩
  refine Join1.mid (fun x S' => S' = S4 ∧ x = (scanUp (fun x => !lt d4[a]! x) d4 q p : Nat) ∧ p ≤ scanUp (fun x => !lt d4[a]! x) d4 q p ∧ scanUp (fun x => !lt d4[a]! x) d4 q p ≤ n) (scanNl hA4 hz4 hcmp hn' ha (by omega) (by omega) fun h1 h2 => ⟨rfl, rfl, h1, h2⟩) ?_
  rintro _ T3 ⟨rfl, rfl, g1, g2⟩
  rw [partEqLoop_eq] at hR
  generalize hI' : scanUp (fun x => !lt d4[a]! x) d4 q p = I' at g1 g2 hR
  refine Join1.mid (fun x S' => S' = T3 ∧ x = (scanDown (fun x => lt d4[a]! x) d4 I' q : Nat) ∧ scanDown (fun x => lt d4[a]! x) d4 I' q ≤ q) (scanGt hA4 hz4 hcmp hn' ha (by omega) (by omega) fun h3 => ⟨rfl, rfl, h3⟩) ?_
  rintro _ T4 ⟨rfl, rfl, g3⟩
  generalize hJ' : scanDown (fun x => lt d4[a]! x) d4 I' q = J' at g3 hR
  refine ifC_dec (fun h5 => ?_) (fun h5 => ?_)
  · rw [if_pos (by omega)] at hR
    rw [← hR] at hk
    exact hk _ hA4
  · rw [if_neg (by omega), if_pos (by omega)] at hR
    exact hA4.swp_ hz4 (by omega) (by omega) fun S5 hA5 hz5 => setI_mk (i64_add1 (by omega)) (setI_mk (i64_sub1 (by omega) (by omega)) ⟨J' - 1 + 1 - (I' + 1), by omega, I' + 1, J' - 1, _, rfl, rfl, rfl, by omega, by omega, by omega, hz5, hA5, hR⟩)

section
variable {S0 S : St} {i n c : Nat} {t : Bool} {pre post : List V} {d : Array Hit} (hA : ArrAt hitE S0 i pre post S d) (hz : d.size = n) (hn : n < big)
include hA hz hn

theorem ArrAt.cmp1 {lt : Hit → Hit → Bool} {cv : V} (hcmp : CmpIs P cv lt) {x : Nat} (h1 : 1 ≤ x) (hx : x < n) {K : Int → St → Prop} (h : ∀ r : Int, decide (r < 0) = lt d[x]! d[x - 1]! → K r S) :
    ifS (idxAddrV 3 (rowV i pre.length n c t) (.int .i64 x)) fun p => ∃ a : Int, ∃ b : Int, ∃ e : Int, loadNV S 3 p = some (.agg [.int .i64 a, .int .u64 b, .int .u64 e]) ∧ setI (IntKind.i64.wrap ((x : Int) - 1)) fun y =>
    ifS (idxAddrV 3 (rowV i pre.length n c t) (.int .i64 y)) fun q => ∃ a' : Int, ∃ b' : Int, ∃ e' : Int, loadNV S 3 q = some (.agg [.int .i64 a', .int .u64 b', .int .u64 e']) ∧
    ifS (calleeV (envP P) cv [.agg [.int .i64 a, .int .u64 b, .int .u64 e], .agg [.int .i64 a', .int .u64 b', .int .u64 e']]) fun p => CallA P p.1 p.2 S (retT [.one (.int .i64)] K) := by
  unfold big at hn
  exact ifS_mk (arr_idx hx) ⟨_, _, _, hA.ldN (by omega), setI_mk (i64_sub1 h1 (by omega)) (ifS_mk (arr_idx (by omega)) ⟨_, _, _, hA.ldN (by omega), hcmp _ _ _ _ h⟩)⟩

theorem ArrAt.swp1 {x : Nat} (h1 : 1 ≤ x) (hx : x < n) {K : St → Prop} (h : ∀ S', ArrAt hitE S0 i pre post S' (swp d x (x - 1)) → (swp d x (x - 1)).size = n → K S') :
    setI (IntKind.i64.wrap ((x : Int) - 1)) fun y => setI (IntKind.i64.wrap ((x : Int) - 1)) fun z => ifS (idxAddrV 3 (rowV i pre.length n c t) (.int .i64 z)) fun p => ∃ a : Int, ∃ b : Int, ∃ e : Int, loadNV S 3 p = some (.agg [.int .i64 a, .int .u64 b, .int .u64 e]) ∧
    ifS (idxAddrV 3 (rowV i pre.length n c t) (.int .i64 x)) fun q => ∃ a' : Int, ∃ b' : Int, ∃ e' : Int, loadNV S 3 q = some (.agg [.int .i64 a', .int .u64 b', .int .u64 e']) ∧
    ifS (idxAddrV 3 (rowV i pre.length n c t) (.int .i64 x)) fun r => ifS (storeV S 3 r (.agg [.int .i64 a, .int .u64 b, .int .u64 e])) fun S1 =>
    ifS (idxAddrV 3 (rowV i pre.length n c t) (.int .i64 y)) fun u => ifS (storeV S1 3 u (.agg [.int .i64 a', .int .u64 b', .int .u64 e'])) K := by
  unfold big at hn
  exact setI_mk (i64_sub1 h1 (by omega)) (setI_mk (i64_sub1 h1 (by omega)) (hA.swp_ hz hx (by omega) h))
end

theorem scanSorted_go {lt : Hit → Hit → Bool} {d : Array Hit} {b i : Nat} (h : i < b) (h2 : lt d[i]! d[i - 1]! = false) : scanSorted lt d b i = scanSorted lt d b (i + 1) := by
  rw [scanSorted, if_pos (by simp [h, h2])]
theorem scanSorted_stop {lt : Hit → Hit → Bool} {d : Array Hit} {b i : Nat} (h : ¬ (i < b ∧ lt d[i]! d[i - 1]! = false)) : scanSorted lt d b i = i := by
  rw [scanSorted, if_neg (by simpa using h)]

def slices_partialInsertionSortCmpFunc_api_Hit.Spec (P : Program) (N : Nat → Nat) : Prop := ∀ (lt : Hit → Hit → Bool) (cv : V) (S0 S : St) (i n c a b : Nat) (t : Bool) (pre post : List V) (d : Array Hit) (K : Bool → St → Prop), CmpIs P cv lt → ArrAt hitE S0 i pre post S d → d.size = n → n < big → a < b → b ≤ n →
  (∀ S', ArrAt hitE S0 i pre post S' (partialInsertionSort lt d a b).1 → K (partialInsertionSort lt d a b).2 S') → CallA P (N Fn.slices_partialInsertionSortCmpFunc_api_Hit) [rowV i pre.length n c t, .int .i64 a, .int .i64 b, cv] S (retT [.one .bool] K)
theorem slices_partialInsertionSortCmpFunc_api_Hit.spec (hF : slices_partialInsertionSortCmpFunc_api_Hit.Ok P N) : slices_partialInsertionSortCmpFunc_api_Hit.Spec P N := by
  intro lt cv S0 S i n c a b t pre post d K hcmp hA hz hn hab hbn hk
  have hn' := hn
  unfold big at hn
  unfold partialInsertionSort at hk
  refine slices_partialInsertionSortCmpFunc_api_Hit.run hF (setI_mk (i64_add1 (by omega)) (Loop2.ind (fun m x y S' => ∃ (p s : Nat) (d1 : Array Hit), x = p ∧ y = s ∧ m + s = 5 ∧ a + 1 ≤ p ∧ p ≤ b ∧ d1.size = n ∧ ArrAt hitE S0 i pre post S' d1 ∧ partialIns lt a b m p d1 = partialIns lt a b 5 (a + 1) d) 5 ⟨a + 1, 0, d, rfl, rfl, rfl, Nat.le_refl _, by omega, hz, hA, rfl⟩ ?_))
  rintro m _ _ S1 ⟨p, s, d1, rfl, rfl, hm, hp1, hp2, hz1, hA1, hR⟩
  refine ifC_dec (fun h1 => ?_) (fun h1 => ?_)
  · obtain ⟨m, rfl⟩ : ∃ q, m = q + 1 := ⟨m - 1, by omega⟩
    rw [partialIns] at hR
    refine Join1.mid (fun x S' => S' = S1 ∧ x = (scanSorted lt d1 b p : Nat) ∧ p ≤ scanSorted lt d1 b p ∧ scanSorted lt d1 b p ≤ b) (Loop1.ind (fun m x S' => ∃ q : Nat, x = q ∧ m = b - q ∧ p ≤ q ∧ q ≤ b ∧ S' = S1 ∧ scanSorted lt d1 b q = scanSorted lt d1 b p) (b - p) ⟨p, rfl, rfl, Nat.le_refl _, hp2, rfl, rfl⟩ ?_) ?_
    · rintro m _ T1 ⟨q, rfl, rfl, hq1, hq2, rfl, hQ⟩
      refine ifC_dec (fun h2 => hA1.cmp1 hz1 hn' hcmp (by omega) (by omega) fun r hr => ?_) (fun h2 => ?_)
      · rw [hr]
        refine ifC_tt_ff (fun h3 => setI_mk (i64_add1 (by omega)) ⟨b - (q + 1), by omega, q + 1, rfl, rfl, by omega, by omega, rfl, ?_⟩) (fun h3 => ?_)
        · rw [← hQ, scanSorted_go (i := q) (by omega) (by simpa using h3)]
        · rw [scanSorted_stop (by simp at h3; simp [h3])] at hQ
          rw [← hQ]; exact ⟨rfl, rfl, hq1, hq2⟩
      · rw [scanSorted_stop (fun h => h2 (by have := h.1; omega))] at hQ
        rw [← hQ]; exact ⟨rfl, rfl, hq1, hq2⟩
    rintro _ T1 ⟨rfl, rfl, g1, g2⟩
    generalize hI : scanSorted lt d1 b p = I at g1 g2 hR
    simp only at hR
    refine ifC_dec (fun h2 => ?_) (fun h2 => ?_)
    · rw [if_pos (by omega)] at hR
      rw [← hR] at hk
      exact hk _ hA1
    rw [if_neg (by omega)] at hR
    refine setI_mk (i64_sub (by omega) (by omega)) (ifC_dec (fun h3 => ?_) (fun h3 => ?_))
    · rw [if_pos (by omega)] at hR
      rw [← hR] at hk
      exact hk _ hA1
    rw [if_neg (by omega)] at hR
    refine hA1.swp1 hz1 hn' (by omega) (by omega) fun S6 hA6 hz6 => ?_
    generalize swp d1 I (I - 1) = d6 at hA6 hz6 hR
    refine Join0.mid (fun S' => ∃ d7 : Array Hit, d7.size = n ∧ ArrAt hitE S0 i pre post S' d7 ∧ d7 = if I - a ≥ 2 then shiftDown lt (I - 1) d6 else d6) (setI_mk (i64_sub (by omega) (by omega)) (ifC_dec (fun h4 => ?_) (fun h4 => ⟨d6, hz6, hA6, by rw [if_neg (by omega)]⟩))) ?_
    · refine setI_mk (i64_sub1 (by omega) (by omega)) (Loop1.ind (fun m x S' => ∃ (j : Nat) (d8 : Array Hit), x = j ∧ j = m ∧ j < n ∧ d8.size = n ∧ ArrAt hitE S0 i pre post S' d8 ∧ shiftDown lt j d8 = shiftDown lt (I - 1) d6) (I - 1) ⟨I - 1, d6, rfl, rfl, by omega, hz6, hA6, rfl⟩ ?_)
      rintro m _ S8 ⟨j, d8, rfl, rfl, hj, hz8, hA8, hS⟩
      refine ifC_dec (fun h5 => hA8.cmp1 hz8 hn' hcmp (by omega) hj fun r hr => ?_) (fun h5 => ?_)
      · obtain ⟨j, rfl⟩ : ∃ q, j = q + 1 := ⟨j - 1, by omega⟩
        rw [shiftDown] at hS
        rw [hr]
        refine ifC_tt_ff (fun h6 => ?_) (fun h6 => ?_) <;> simp only [Nat.add_sub_cancel] at h6
        · rw [if_pos h6] at hS
          exact ⟨d8, hz8, hA8, by rw [if_pos (by omega), hS]⟩
        · rw [if_neg (by rw [h6]; simp)] at hS
          exact hA8.swp1 hz8 hn' (by omega) hj fun S9 hA9 hz9 => setI_mk (i64_sub1 (by omega) (by omega)) ⟨j, by omega, j, _, rfl, rfl, by omega, hz9, hA9, hS⟩
      · have h5 : j = 0 := by omega
        subst h5
        rw [shiftDown] at hS
        exact ⟨d8, hz8, hA8, by rw [if_pos (by omega), hS]⟩
    rintro S7 ⟨d7, hz7, hA7, hd7⟩
    rw [← hd7] at hR
    have next : ∀ (S' : St) (d9 : Array Hit), d9.size = n → ArrAt hitE S0 i pre post S' d9 → d9 = (if b - I ≥ 2 then shiftUp lt b (I + 1) d7 else d7) → setI (IntKind.i64.wrap ((s : Int) + 1)) fun y => ∃ m', m' < m + 1 ∧ ∃ (p s : Nat) (d1 : Array Hit), (I : Int) = p ∧ y = s ∧ m' + s = 5 ∧ a + 1 ≤ p ∧ p ≤ b ∧ d1.size = n ∧ ArrAt hitE S0 i pre post S' d1 ∧ partialIns lt a b m' p d1 = partialIns lt a b 5 (a + 1) d := by
      intro S' d9 hz9 hA9 hd9
      rw [← hd9] at hR
      exact setI_mk (i64_add1 (by omega)) ⟨m, by omega, I, s + 1, d9, rfl, rfl, by omega, by omega, g2, hz9, hA9, hR⟩
    refine setI_mk (i64_sub (by omega) (by omega)) (ifC_dec (fun h4 => ?_) (fun h4 => next _ d7 hz7 hA7 (by rw [if_neg (by omega)])))
    refine setI_mk (i64_add1 (by omega)) (Loop1.ind (fun m x S' => ∃ (j : Nat) (d8 : Array Hit), x = j ∧ m = b - j ∧ 1 ≤ j ∧ j ≤ b ∧ d8.size = n ∧ ArrAt hitE S0 i pre post S' d8 ∧ shiftUp lt b j d8 = shiftUp lt b (I + 1) d7) (b - (I + 1)) ⟨I + 1, d7, rfl, rfl, by omega, by omega, hz7, hA7, rfl⟩ ?_)
    rintro m2 _ S8 ⟨j, d8, rfl, rfl, hj1, hj2, hz8, hA8, hS⟩
    rw [shiftUp] at hS
    refine ifC_dec (fun h5 => hA8.cmp1 hz8 hn' hcmp (by omega) (by omega) fun r hr => ?_) (fun h5 => ?_)
    · rw [if_pos (by omega)] at hS
      rw [hr]
      refine ifC_tt_ff (fun h6 => ?_) (fun h6 => ?_)
      · rw [if_pos h6] at hS
        exact next _ d8 hz8 hA8 (by rw [if_pos (by omega), hS])
      · rw [if_neg (by rw [h6]; simp)] at hS
        exact hA8.swp1 hz8 hn' (by omega) (by omega) fun S9 hA9 hz9 => setI_mk (i64_add1 (by omega)) ⟨b - (j + 1), by omega, j + 1, _, rfl, rfl, by omega, by omega, hz9, hA9, hS⟩
    · rw [if_neg (by omega)] at hS
      exact next _ d8 hz8 hA8 (by rw [if_pos (by omega), hS])
  · have h1 : m = 0 := by omega
    subst h1
    rw [partialIns] at hR
    rw [← hR] at hk
    exact hk _ hA1

def hintI : Hint → Int
  | .unknown => 0
  | .increasing => 1
  | .decreasing => 2

def pivR (lt : Hit → Hit → Bool) (d : Array Hit) (a b : Nat) : Nat × Nat :=
  if b - a ≥ 8 then
    if b - a ≥ 50 then
      Sort.median lt d (medianAdjacent lt d (a + (b - a) / 4 * 1) 0).1 (medianAdjacent lt d (a + (b - a) / 4 * 2) (medianAdjacent lt d (a + (b - a) / 4 * 1) 0).2).1
        (medianAdjacent lt d (a + (b - a) / 4 * 3) (medianAdjacent lt d (a + (b - a) / 4 * 2) (medianAdjacent lt d (a + (b - a) / 4 * 1) 0).2).2).1
        (medianAdjacent lt d (a + (b - a) / 4 * 3) (medianAdjacent lt d (a + (b - a) / 4 * 2) (medianAdjacent lt d (a + (b - a) / 4 * 1) 0).2).2).2
    else Sort.median lt d (a + (b - a) / 4 * 1) (a + (b - a) / 4 * 2) (a + (b - a) / 4 * 3) 0
  else (a + (b - a) / 4 * 2, 0)
theorem choosePivot_eq (lt : Hit → Hit → Bool) (d : Array Hit) (a b : Nat) : choosePivot lt d a b = ((pivR lt d a b).1, if (pivR lt d a b).2 = 0 then .increasing else if (pivR lt d a b).2 = 12 then .decreasing else .unknown) := rfl

theorem medAdj_bd {lt : Hit → Hit → Bool} {d : Array Hit} {a s n : Nat} (h1 : 1 ≤ a) (h2 : a + 1 < n) : (medianAdjacent lt d a s).1 < n ∧ (medianAdjacent lt d a s).2 ≤ s + 3 := median_bd (by omega) (by omega) h2

def slices_choosePivotCmpFunc_api_Hit.Spec (P : Program) (N : Nat → Nat) : Prop := ∀ (lt : Hit → Hit → Bool) (cv : V) (S : St) (i n c a b : Nat) (t o : Bool) (pre post : List V) (d : Array Hit) (K : Int → Int → St → Prop), CmpIs P cv lt → S.get i = some (.cells (pre ++ (d.toList.map hcells).flatten ++ post) o) → d.size = n → n < big → a < b → b ≤ n →
  K (choosePivot lt d a b).1 (hintI (choosePivot lt d a b).2) S → CallA P (N Fn.slices_choosePivotCmpFunc_api_Hit) [rowV i pre.length n c t, .int .i64 a, .int .i64 b, cv] S (retT [.one (.int .i64), .one (.int .i64)] K)
theorem slices_choosePivotCmpFunc_api_Hit.spec (hF : slices_choosePivotCmpFunc_api_Hit.Ok P N) (hm : slices_medianCmpFunc_api_Hit.Spec P N) (hma : slices_medianAdjacentCmpFunc_api_Hit.Spec P N) : slices_choosePivotCmpFunc_api_Hit.Spec P N := by
  intro lt cv S i n c a b t o pre post d K hcmp hrow hz hn hab hbn hK
  have hn' := hn
  unfold big at hn
  refine CallA.gc2 (t := .int .i64) (u := .int .i64) rfl rfl _ _ hK fun K' hw hk => ?_
  have hrow' : ∃ o, S.ro.get i = some (.cells (pre ++ (d.toList.map hcells).flatten ++ post) o) := ⟨_, by rw [St.get_ro, hrow]; rfl⟩
  generalize S.ro = T at hw hk hrow'
  rw [choosePivot_eq] at hk
  have e4 : IntKind.i64.wrap (Int.tdiv ((b - a : Nat) : Int) 4) = (((b - a) / 4 : Nat) : Int) := by rw [IntKind.wrap_i64, Int.tdiv_eq_ediv_of_nonneg (by omega)]; omega
  have em : ∀ k : Nat, k ≤ 3 → IntKind.i64.wrap ((((b - a) / 4 : Nat) : Int) * (k : Int)) = (((b - a) / 4 * k : Nat) : Int) := by
    intro k hk
    have h3 : (b - a) / 4 * k ≤ (b - a) / 4 * 3 := Nat.mul_le_mul_left _ hk
    rw [IntKind.wrap_i64, ← Int.natCast_mul]; omega
  refine slices_choosePivotCmpFunc_api_Hit.run hF (setI_mk (i64_sub (by omega) (by omega)) (newS_mk hw fun S1 g1 m1 n1 => ⟨by omega, setI_mk e4 (setI_mk (em 1 (by omega)) (setI_mk (i64_add (by omega)) ⟨by omega, setI_mk e4 (setI_mk (em 2 (by omega)) (setI_mk (i64_add (by omega)) ⟨by omega, setI_mk e4 (setI_mk (em 3 (by omega)) (setI_mk (i64_add (by omega)) ?_))⟩))⟩))⟩))
  obtain ⟨o', hg⟩ := hrow'
  have hA1 : SwAt S1 i pre post d T.next S1 0 := ⟨Upd.refl g1.wf _, rfl, ⟨o', g1.get hg⟩, m1, Nat.ne_of_lt (hw.lt hg)⟩
  refine Join1.mid (fun x S' => SwAt S1 i pre post d T.next S' (pivR lt d a b).2 ∧ x = ((pivR lt d a b).1 : Nat)) (ifC_dec (fun h8 => ifC_dec (fun h50 => ?_) (fun h50 => ?_)) (fun h8 => ?_)) ?_
  · have hp : pivR lt d a b = Sort.median lt d (medianAdjacent lt d (a + (b - a) / 4 * 1) 0).1 (medianAdjacent lt d (a + (b - a) / 4 * 2) (medianAdjacent lt d (a + (b - a) / 4 * 1) 0).2).1
        (medianAdjacent lt d (a + (b - a) / 4 * 3) (medianAdjacent lt d (a + (b - a) / 4 * 2) (medianAdjacent lt d (a + (b - a) / 4 * 1) 0).2).2).1
        (medianAdjacent lt d (a + (b - a) / 4 * 3) (medianAdjacent lt d (a + (b - a) / 4 * 2) (medianAdjacent lt d (a + (b - a) / 4 * 1) 0).2).2).2 := by
      rw [pivR, if_pos (by omega), if_pos (by omega)]
    rw [hp]
    obtain ⟨b1, b2⟩ := medAdj_bd (lt := lt) (d := d) (a := a + (b - a) / 4 * 1) (s := 0) (n := n) (by omega) (by omega)
    obtain ⟨c1, c2⟩ := medAdj_bd (lt := lt) (d := d) (a := a + (b - a) / 4 * 2) (s := (medianAdjacent lt d (a + (b - a) / 4 * 1) 0).2) (n := n) (by omega) (by omega)
    obtain ⟨d1, d2⟩ := medAdj_bd (lt := lt) (d := d) (a := a + (b - a) / 4 * 3) (s := (medianAdjacent lt d (a + (b - a) / 4 * 2) (medianAdjacent lt d (a + (b - a) / 4 * 1) 0).2).2) (n := n) (by omega) (by omega)
    refine hma lt cv S1 S1 i n c _ _ _ t pre post d _ hcmp hA1 hz hn' (by simp only [big]; omega) (by omega) (by omega) fun S3 h3 => ?_
    refine hma lt cv S1 S3 i n c _ _ _ t pre post d _ hcmp h3 hz hn' (by simp only [big]; omega) (by omega) (by omega) fun S4 h4 => ?_
    refine hma lt cv S1 S4 i n c _ _ _ t pre post d _ hcmp h4 hz hn' (by simp only [big]; omega) (by omega) (by omega) fun S5 h5 => ?_
    exact hm lt cv S1 S5 i n c _ _ _ _ _ t pre post d _ hcmp h5 hz hn' (by simp only [big]; omega) b1 c1 d1 fun S6 h6 => ⟨h6, rfl⟩
  · have hp : pivR lt d a b = Sort.median lt d (a + (b - a) / 4 * 1) (a + (b - a) / 4 * 2) (a + (b - a) / 4 * 3) 0 := by
      rw [pivR, if_pos (by omega), if_neg (by omega)]
    rw [hp]
    exact hm lt cv S1 S1 i n c _ _ _ _ _ t pre post d _ hcmp hA1 hz hn' (by simp only [big]; omega) (by omega) (by omega) (by omega) fun S6 h6 => ⟨h6, rfl⟩
  · have hp : pivR lt d a b = (a + (b - a) / 4 * 2, 0) := by rw [pivR, if_neg (by omega)]
    rw [hp]
    exact ⟨hA1, rfl⟩
  rintro _ S2 ⟨h2, rfl⟩
  refine ⟨_, ld h2.cnt rfl, ifC_dec (fun h => ?_) (fun h => ifC_dec (fun h' => ?_) (fun h' => ?_))⟩
  · have := hk S2
    rw [if_pos (by omega)] at this
    exact this
  · have := hk S2
    rw [if_neg (by omega), if_pos (by omega)] at this
    exact this
  · have := hk S2
    rw [if_neg (by omega), if_neg (by omega)] at this
    exact this

end Go.Th.L
end

section
/- slices.SortFunc at hits: pdqsort. -/
set_option linter.unusedSimpArgs false
set_option linter.unusedVariables false
set_option linter.unusedSectionVars false
namespace Go.Th.L
open Go Go.Th Go.Th.Pure Go.Sort
variable {P : Program} {N : Nat → Nat}

def slices_breakPatternsCmpFunc_api_Hit.Spec (P : Program) (N : Nat → Nat) : Prop := ∀ (cv : V) (S0 S : St) (i n c a b : Nat) (t : Bool) (pre post : List V) (d : Array Hit) (K : St → Prop), ArrAt hitE S0 i pre post S d → d.size = n → n < big → a ≤ b → b ≤ n →
  (∀ S' d', ArrAt hitE S0 i pre post S' d' → PermIn a b d d' → K S') → CallA P (N Fn.slices_breakPatternsCmpFunc_api_Hit) [rowV i pre.length n c t, .int .i64 a, .int .i64 b, cv] S (retT [] K)

def slices_pdqsortCmpFunc_api_Hit.SpecAt (P : Program) (N : Nat → Nat) (w : Nat) : Prop := ∀ (lt : Hit → Hit → Bool) (cv : V) (S0 S : St) (i n c a b limit : Nat) (t : Bool) (pre post : List V) (d : Array Hit) (K : St → Prop), b - a ≤ w → SWO lt → CmpIs P cv lt → ArrAt hitE S0 i pre post S d → d.size = n → n < big → a ≤ b → b ≤ n → limit < big → Below lt a b d →
  (∀ S' d', ArrAt hitE S0 i pre post S' d' → PermIn a b d d' → SortedIn lt a b d' → K S') → CallA P (N Fn.slices_pdqsortCmpFunc_api_Hit) [rowV i pre.length n c t, .int .i64 a, .int .i64 b, .int .i64 limit, cv] S (retT [] K)

theorem slices_pdqsortCmpFunc_api_Hit.spec (hF : slices_pdqsortCmpFunc_api_Hit.Ok P N) (hi : slices_insertionSortCmpFunc_api_Hit.Spec P N) (hh : slices_heapSortCmpFunc_api_Hit.Spec P N) (hb : slices_breakPatternsCmpFunc_api_Hit.Spec P N)
    (hc : slices_choosePivotCmpFunc_api_Hit.Spec P N) (hr : slices_reverseRangeCmpFunc_api_Hit.Spec P N) (hp : slices_partialInsertionSortCmpFunc_api_Hit.Spec P N) (hpe : slices_partitionEqualCmpFunc_api_Hit.Spec P N) (hpt : slices_partitionCmpFunc_api_Hit.Spec P N) :
    ∀ w, slices_pdqsortCmpFunc_api_Hit.SpecAt P N w := by
  intro w
  induction w using Nat.strongRecOn with
  | _ w ih =>
  intro lt cv S0 S i n c a b limit t pre post d K hw hO hcmp hA hz hn hab hbn hlim hB hk
  have hn' := hn
  unfold big at hn
  refine slices_pdqsortCmpFunc_api_Hit.run hF (Loop5.ind (fun m x y z wb wp S' => ∃ (a' b' l' : Nat) (d1 : Array Hit), x = a' ∧ y = b' ∧ z = l' ∧ m = b' - a' ∧ a ≤ a' ∧ b' ≤ b ∧ a' ≤ b' ∧ l' < big ∧ d1.size = n ∧ ArrAt hitE S0 i pre post S' d1 ∧ Below lt a' b' d1 ∧
    (∀ R, PermIn a' b' d1 R → SortedIn lt a' b' R → PermIn a b d R ∧ SortedIn lt a b R)) (b - a) ⟨a, b, limit, d, rfl, rfl, rfl, rfl, Nat.le_refl _, Nat.le_refl _, hab, hlim, hz, hA, hB, fun R h1 h2 => ⟨h1, h2⟩⟩ ?_)
  rintro m _ _ _ wb wp S1 ⟨a', b', l', d1, rfl, rfl, rfl, rfl, ha, hb', hab', hl', hz1, hA1, hB1, hG⟩
  have hbn1 : b' ≤ d1.size := by omega
  refine setI_mk (i64_sub hab' (by omega)) (ifC_dec (fun h1 => ?_) (fun h1 => ifC_dec (fun h2 => ?_) (fun h2 => ?_)))
  · refine hi lt cv S0 S1 i n c a' b' t pre post d1 _ hcmp hA1 hz1 hn' hab' (by omega) fun S2 hA2 => ?_
    obtain ⟨p1, p2⟩ := insertionSort_holds hO d1 a' b' hab' hbn1
    obtain ⟨q1, q2⟩ := hG _ p1 p2
    exact hk _ _ hA2 q1 q2
  · refine hh lt cv S0 S1 i n c a' b' t pre post d1 _ hcmp hA1 hz1 hn' (by omega) (by omega) fun S2 hA2 => ?_
    obtain ⟨p1, p2⟩ := heapSort_holds hO d1 a' b' hab' hbn1
    obtain ⟨q1, q2⟩ := hG _ p1 p2
    exact hk _ _ hA2 q1 q2
  refine Join1.mid (fun x S' => ∃ (l2 : Nat) (d2 : Array Hit), x = l2 ∧ l2 < big ∧ ArrAt hitE S0 i pre post S' d2 ∧ PermIn a' b' d1 d2) (ifC_tt_ff (fun h3 => ?_) (fun h3 => ⟨l', d1, rfl, hl', hA1, permIn_refl _ _ _⟩)) ?_
  · refine hb cv S0 S1 i n c a' b' t pre post d1 _ hA1 hz1 hn' hab' (by omega) fun S2 d2 hA2 hP2 => setI_mk (i64_sub1 (by omega) (by unfold big at hl'; omega)) ⟨l' - 1, d2, rfl, by unfold big at *; omega, hA2, hP2⟩
  rintro _ S4 ⟨l2, d2, rfl, hl2, hA2, hP2⟩
  have hz2 : d2.size = n := by rw [hP2.1, hz1]
  have hB2 : Below lt a' b' d2 := hB1.perm hbn1 hP2
  obtain ⟨hc1, hc2⟩ := choosePivot_holds lt d2 a' b' (by omega)
  refine hc lt cv S4 i n c a' b' t true pre post d2 _ hcmp hA2.get hz2 hn' (by omega) (by omega) ?_
  refine Join2.mid (fun x y S' => ∃ (pv : Nat) (d3 : Array Hit), x = pv ∧ a' ≤ pv ∧ pv < b' ∧ ArrAt hitE S0 i pre post S' d3 ∧ PermIn a' b' d2 d3) (ifC_dec (fun h3 => ?_) (fun h3 => ⟨_, d2, rfl, hc1, hc2, hA2, permIn_refl _ _ _⟩)) ?_
  · refine hr cv S0 S4 i n c a' b' t pre post d2 _ hA2 hz2 hn' (by omega) (by omega) fun S5 hA5 => setI_mk (i64_sub1 (by omega) (by omega)) (setI_mk (i64_sub hc1 (by omega)) (setI_mk (i64_sub (by omega) (by omega)) ⟨_, _, rfl, by omega, by omega, hA5, reverseRange_holds d2 a' b' hab' (by omega)⟩))
  rintro _ hint S7 ⟨pv, d3, rfl, hpv1, hpv2, hA3, hP3⟩
  have hz3 : d3.size = n := by rw [hP3.1, hz2]
  have hB3 : Below lt a' b' d3 := hB2.perm (by omega) hP3
  have hP13 : PermIn a' b' d1 d3 := permIn_trans _ _ _ a' b' hP2 hP3
  refine Join0.mid (fun S' => ∃ d4 : Array Hit, ArrAt hitE S0 i pre post S' d4 ∧ PermIn a' b' d1 d4) (Join1.mid (fun _ S' => S' = S7) (ifC_tt_ff (fun _ => ifC_tt_ff (fun _ => rfl) (fun _ => rfl)) (fun _ => rfl)) ?_) ?_
  · rintro x S' rfl
    refine ifC_tt_ff (fun _ => ?_) (fun _ => ⟨d3, hA3, hP13⟩)
    refine hp lt cv S0 _ i n c a' b' t pre post d3 _ hcmp hA3 hz3 hn' (by omega) (by omega) fun S5 hA5 => ?_
    obtain ⟨p1, p2⟩ := partialInsertionSort_holds hO d3 a' b' (by omega) (by omega) hB3
    have p3 := permIn_trans _ _ _ a' b' hP13 p1
    refine ifC_tt_ff (fun h4 => ?_) (fun h4 => ⟨_, hA5, p3⟩)
    obtain ⟨q1, q2⟩ := hG _ p3 (p2 h4)
    exact hk _ _ hA5 q1 q2
  rintro S9 ⟨d4, hA4, hP4⟩
  have hz4 : d4.size = n := by rw [hP4.1, hz1]
  have hB4 : Below lt a' b' d4 := hB1.perm hbn1 hP4
  refine Join1.mid (fun x S' => S' = S9 ∧ (x = true → 0 < a' ∧ lt d4[a' - 1]! d4[pv]! = false)) (ifC_dec (fun h4 => ?_) (fun h4 => ⟨rfl, fun h => by cases h⟩)) ?_
  · refine setI_mk (i64_sub1 (by omega) (by omega)) (hA4.cmp hz4 hcmp (by omega) (by omega) fun x hx => ⟨rfl, fun h5 => ⟨by omega, ?_⟩⟩)
    rw [hx] at h5; simpa using h5
  rintro x S' ⟨rfl, h5⟩
  refine ifC_tt_ff (fun h6 => ?_) (fun h6 => ?_)
  · obtain ⟨h7, h8⟩ := h5 h6
    refine hpe lt cv S0 _ i n c a' b' pv t pre post d4 _ hcmp hA4 hz4 hn' hpv1 hpv2 (by omega) fun S5 hA5 => ?_
    obtain ⟨r1, r2, r3, r4, r5⟩ := round_eq hO (partitionEqual_holds lt) h7 hpv1 hpv2 (by omega) hB4 h8 (mid := (partitionEqual lt d4 a' b' pv).1) (d4 := (partitionEqual lt d4 a' b' pv).2) rfl
    refine ⟨b' - (partitionEqual lt d4 a' b' pv).1, by omega, _, b', l2, _, rfl, rfl, rfl, rfl, by omega, hb', r2, hl2, by rw [r3, hz4], hA5, r4, fun R hR1 hR2 => ?_⟩
    obtain ⟨q1, q2⟩ := r5 R hR1 hR2
    exact hG R (permIn_trans _ _ _ a' b' hP4 q1) q2
  · refine hpt lt cv S0 _ i n c a' b' pv t pre post d4 _ hcmp hA4 hz4 hn' hpv1 hpv2 (by omega) fun S5 hA5 => ?_
    obtain ⟨r1, r2, r3, r4, r5, r6, r7⟩ := round_part hO (partition_holds lt) hpv1 hpv2 (by omega) hB4 (mid := (Sort.partition lt d4 a' b' pv).1) (ap := (Sort.partition lt d4 a' b' pv).2.1) (d4 := (Sort.partition lt d4 a' b' pv).2.2) rfl
    generalize (Sort.partition lt d4 a' b' pv).1 = mid at *
    generalize (Sort.partition lt d4 a' b' pv).2.1 = ap at *
    generalize (Sort.partition lt d4 a' b' pv).2.2 = d5 at *
    have hz5 : d5.size = n := by rw [r3, hz4]
    have e8 : IntKind.i64.wrap (Int.tdiv ((b' - a' : Nat) : Int) 8) = (((b' - a') / 8 : Nat) : Int) := by rw [IntKind.wrap_i64, Int.tdiv_eq_ediv_of_nonneg (by omega)]; omega
    refine setI_mk (i64_sub r1 (by omega)) (setI_mk (i64_sub (by omega) (by omega)) ⟨by omega, setI_mk e8 (ifC_dec (fun h7 => ?_) (fun h7 => setI_mk (i64_add1 (by omega)) ?_))⟩)
    · refine ih (mid - a') (by omega) lt cv S0 S5 i n c a' mid l2 t pre post d5 _ (Nat.le_refl _) hO hcmp hA5 hz5 hn' r1 (by omega) hl2 r4 fun S6 d6 hA6 hP6 hS6 => setI_mk (i64_add1 (by omega)) ?_
      obtain ⟨g1, g2⟩ := r6 d6 hP6 hS6
      refine ⟨b' - (mid + 1), by omega, mid + 1, b', l2, d6, rfl, rfl, rfl, rfl, by omega, hb', by omega, hl2, by rw [hP6.1, hz5], hA6, g1, fun R hR1 hR2 => ?_⟩
      obtain ⟨q1, q2⟩ := g2 R hR1 hR2
      exact hG R (permIn_trans _ _ _ a' b' hP4 q1) q2
    · refine ih (b' - (mid + 1)) (by omega) lt cv S0 S5 i n c (mid + 1) b' l2 t pre post d5 _ (Nat.le_refl _) hO hcmp hA5 hz5 hn' (by omega) (by omega) hl2 r5 fun S6 d6 hA6 hP6 hS6 => ?_
      obtain ⟨g1, g2⟩ := r7 d6 hP6 hS6
      refine ⟨mid - a', by omega, a', mid, l2, d6, rfl, rfl, rfl, rfl, ha, by omega, r1, hl2, by rw [hP6.1, hz5], hA6, g1, fun R hR1 hR2 => ?_⟩
      obtain ⟨q1, q2⟩ := g2 R hR1 hR2
      exact hG R (permIn_trans _ _ _ a' b' hP4 q1) q2

end Go.Th.L
end
