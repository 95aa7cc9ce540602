/- What the row of one statement stands on: a store, abstract code, functions of the program and their laws (ThHsortH3). -/
import Derived.Test.YtdpehfhhbmmhjaaThBHsortH2

section
/- slices.SortFunc at hits: pdqsort. -/
set_option linter.unusedSimpArgs false
set_option linter.unusedVariables false
set_option linter.unusedSectionVars false
namespace Go.Th.L
open Go Go.Th Go.Th.Pure Go.Sort
variable {P : Program} {N : Nat → Nat}

/-- Some places are mixed, nothing else. -/
def slices_breakPatternsCmpFunc_api_Hit.Spec (P : Program) (N : Nat → Nat) : Prop := ∀ (cv : V) (S0 S : St) (i n c a b : Nat) (t : Bool) (pre post : List V) (d : Array Hit) (K : St → Prop), ArrAt hitE S0 i pre post S d → d.size = n → n < big → a ≤ b → b ≤ n →
  (∀ S' d', ArrAt hitE S0 i pre post S' d' → PermIn a b d d' → K S') → CallA P (N Fn.slices_breakPatternsCmpFunc_api_Hit) [rowV i pre.length n c t, .int .i64 a, .int .i64 b, cv] S (retT [] K)

def slices_pdqsortCmpFunc_api_Hit.SpecAt (P : Program) (N : Nat → Nat) (w : Nat) : Prop := ∀ (lt : Hit → Hit → Bool) (cv : V) (S0 S : St) (i n c a b limit : Nat) (t : Bool) (pre post : List V) (d : Array Hit) (K : St → Prop), b - a ≤ w → SWO lt → CmpIs P cv lt → ArrAt hitE S0 i pre post S d → d.size = n → n < big → a ≤ b → b ≤ n → limit < big → Below lt a b d →
  (∀ S' d', ArrAt hitE S0 i pre post S' d' → PermIn a b d d' → SortedIn lt a b d' → K S') → CallA P (N Fn.slices_pdqsortCmpFunc_api_Hit) [rowV i pre.length n c t, .int .i64 a, .int .i64 b, .int .i64 limit, cv] S (retT [] K)

theorem slices_pdqsortCmpFunc_api_Hit.spec (hF : slices_pdqsortCmpFunc_api_Hit.Ok P N) (hi : slices_insertionSortCmpFunc_api_Hit.Spec P N) (hh : slices_heapSortCmpFunc_api_Hit.Spec P N) (hb : slices_breakPatternsCmpFunc_api_Hit.Spec P N)
    (hc : slices_choosePivotCmpFunc_api_Hit.Spec P N) (hr : slices_reverseRangeCmpFunc_api_Hit.Spec P N) (hp : slices_partialInsertionSortCmpFunc_api_Hit.Spec P N) (hpe : slices_partitionEqualCmpFunc_api_Hit.Spec P N) (hpt : slices_partitionCmpFunc_api_Hit.Spec P N) :
    ∀ w, slices_pdqsortCmpFunc_api_Hit.SpecAt P N w := by
  intro w
  induction w using Nat.strongRecOn with
  | _ w ih =>
  intro lt cv S0 S i n c a b limit t pre post d K hw hO hcmp hA hz hn hab hbn hlim hB hk
  have hn' := hn
  unfold big at hn
  refine slices_pdqsortCmpFunc_api_Hit.run hF (Loop5.ind (fun m x y z wb wp S' => ∃ (a' b' l' : Nat) (d1 : Array Hit), x = a' ∧ y = b' ∧ z = l' ∧ m = b' - a' ∧ a ≤ a' ∧ b' ≤ b ∧ a' ≤ b' ∧ l' < big ∧ d1.size = n ∧ ArrAt hitE S0 i pre post S' d1 ∧ Below lt a' b' d1 ∧
    (∀ R, PermIn a' b' d1 R → SortedIn lt a' b' R → PermIn a b d R ∧ SortedIn lt a b R)) (b - a) ⟨a, b, limit, d, rfl, rfl, rfl, rfl, Nat.le_refl _, Nat.le_refl _, hab, hlim, hz, hA, hB, fun R h1 h2 => ⟨h1, h2⟩⟩ ?_)
  rintro m _ _ _ wb wp S1 ⟨a', b', l', d1, rfl, rfl, rfl, rfl, ha, hb', hab', hl', hz1, hA1, hB1, hG⟩
  have hbn1 : b' ≤ d1.size := by omega
  refine setI_mk (i64_sub hab' (by omega)) (ifC_dec (fun h1 => ?_) (fun h1 => ifC_dec (fun h2 => ?_) (fun h2 => ?_)))
  · refine hi lt cv S0 S1 i n c a' b' t pre post d1 _ hcmp hA1 hz1 hn' hab' (by omega) fun S2 hA2 => ?_
    obtain ⟨p1, p2⟩ := insertionSort_holds hO d1 a' b' hab' hbn1
    obtain ⟨q1, q2⟩ := hG _ p1 p2
    exact hk _ _ hA2 q1 q2
  · refine hh lt cv S0 S1 i n c a' b' t pre post d1 _ hcmp hA1 hz1 hn' (by omega) (by omega) fun S2 hA2 => ?_
    obtain ⟨p1, p2⟩ := heapSort_holds hO d1 a' b' hab' hbn1
    obtain ⟨q1, q2⟩ := hG _ p1 p2
    exact hk _ _ hA2 q1 q2
  refine Join1.mid (fun x S' => ∃ (l2 : Nat) (d2 : Array Hit), x = l2 ∧ l2 < big ∧ ArrAt hitE S0 i pre post S' d2 ∧ PermIn a' b' d1 d2) (ifC_tt_ff (fun h3 => ?_) (fun h3 => ⟨l', d1, rfl, hl', hA1, permIn_refl _ _ _⟩)) ?_
  · refine hb cv S0 S1 i n c a' b' t pre post d1 _ hA1 hz1 hn' hab' (by omega) fun S2 d2 hA2 hP2 => setI_mk (i64_sub1 (by omega) (by unfold big at hl'; omega)) ⟨l' - 1, d2, rfl, by unfold big at *; omega, hA2, hP2⟩
  rintro _ S4 ⟨l2, d2, rfl, hl2, hA2, hP2⟩
  have hz2 : d2.size = n := by rw [hP2.1, hz1]
  have hB2 : Below lt a' b' d2 := hB1.perm hbn1 hP2
  obtain ⟨hc1, hc2⟩ := choosePivot_holds lt d2 a' b' (by omega)
  refine hc lt cv S4 i n c a' b' t true pre post d2 _ hcmp hA2.get hz2 hn' (by omega) (by omega) ?_
  refine Join2.mid (fun x y S' => ∃ (pv : Nat) (d3 : Array Hit), x = pv ∧ a' ≤ pv ∧ pv < b' ∧ ArrAt hitE S0 i pre post S' d3 ∧ PermIn a' b' d2 d3) (ifC_dec (fun h3 => ?_) (fun h3 => ⟨_, d2, rfl, hc1, hc2, hA2, permIn_refl _ _ _⟩)) ?_
  · refine hr cv S0 S4 i n c a' b' t pre post d2 _ hA2 hz2 hn' (by omega) (by omega) fun S5 hA5 => setI_mk (i64_sub1 (by omega) (by omega)) (setI_mk (i64_sub hc1 (by omega)) (setI_mk (i64_sub (by omega) (by omega)) ⟨_, _, rfl, by omega, by omega, hA5, reverseRange_holds d2 a' b' hab' (by omega)⟩))
  rintro _ hint S7 ⟨pv, d3, rfl, hpv1, hpv2, hA3, hP3⟩
  have hz3 : d3.size = n := by rw [hP3.1, hz2]
  have hB3 : Below lt a' b' d3 := hB2.perm (by omega) hP3
  have hP13 : PermIn a' b' d1 d3 := permIn_trans _ _ _ a' b' hP2 hP3
  refine Join0.mid (fun S' => ∃ d4 : Array Hit, ArrAt hitE S0 i pre post S' d4 ∧ PermIn a' b' d1 d4) (Join1.mid (fun _ S' => S' = S7) (ifC_tt_ff (fun _ => ifC_tt_ff (fun _ => rfl) (fun _ => rfl)) (fun _ => rfl)) ?_) ?_
  · rintro x S' rfl
    refine ifC_tt_ff (fun _ => ?_) (fun _ => ⟨d3, hA3, hP13⟩)
    refine hp lt cv S0 _ i n c a' b' t pre post d3 _ hcmp hA3 hz3 hn' (by omega) (by omega) fun S5 hA5 => ?_
    obtain ⟨p1, p2⟩ := partialInsertionSort_holds hO d3 a' b' (by omega) (by omega) hB3
    have p3 := permIn_trans _ _ _ a' b' hP13 p1
    refine ifC_tt_ff (fun h4 => ?_) (fun h4 => ⟨_, hA5, p3⟩)
    obtain ⟨q1, q2⟩ := hG _ p3 (p2 h4)
    exact hk _ _ hA5 q1 q2
  rintro S9 ⟨d4, hA4, hP4⟩
  have hz4 : d4.size = n := by rw [hP4.1, hz1]
  have hB4 : Below lt a' b' d4 := hB1.perm hbn1 hP4
  refine Join1.mid (fun x S' => S' = S9 ∧ (x = true → 0 < a' ∧ lt d4[a' - 1]! d4[pv]! = false)) (ifC_dec (fun h4 => ?_) (fun h4 => ⟨rfl, fun h => by cases h⟩)) ?_
  · refine setI_mk (i64_sub1 (by omega) (by omega)) (hA4.cmp hz4 hcmp (by omega) (by omega) fun x hx => ⟨rfl, fun h5 => ⟨by omega, ?_⟩⟩)
    rw [hx] at h5; simpa using h5
  rintro x S' ⟨rfl, h5⟩
  refine ifC_tt_ff (fun h6 => ?_) (fun h6 => ?_)
  · obtain ⟨h7, h8⟩ := h5 h6
    refine hpe lt cv S0 _ i n c a' b' pv t pre post d4 _ hcmp hA4 hz4 hn' hpv1 hpv2 (by omega) fun S5 hA5 => ?_
    obtain ⟨r1, r2, r3, r4, r5⟩ := round_eq hO (partitionEqual_holds lt) h7 hpv1 hpv2 (by omega) hB4 h8 (mid := (partitionEqual lt d4 a' b' pv).1) (d4 := (partitionEqual lt d4 a' b' pv).2) rfl
    refine ⟨b' - (partitionEqual lt d4 a' b' pv).1, by omega, _, b', l2, _, rfl, rfl, rfl, rfl, by omega, hb', r2, hl2, by rw [r3, hz4], hA5, r4, fun R hR1 hR2 => ?_⟩
    obtain ⟨q1, q2⟩ := r5 R hR1 hR2
    exact hG R (permIn_trans _ _ _ a' b' hP4 q1) q2
  · refine hpt lt cv S0 _ i n c a' b' pv t pre post d4 _ hcmp hA4 hz4 hn' hpv1 hpv2 (by omega) fun S5 hA5 => ?_
    obtain ⟨r1, r2, r3, r4, r5, r6, r7⟩ := round_part hO (partition_holds lt) hpv1 hpv2 (by omega) hB4 (mid := (Sort.partition lt d4 a' b' pv).1) (ap := (Sort.partition lt d4 a' b' pv).2.1) (d4 := (Sort.partition lt d4 a' b' pv).2.2) rfl
    generalize (Sort.partition lt d4 a' b' pv).1 = mid at *
    generalize (Sort.partition lt d4 a' b' pv).2.1 = ap at *
    generalize (Sort.partition lt d4 a' b' pv).2.2 = d5 at *
    have hz5 : d5.size = n := by rw [r3, hz4]
    have e8 : IntKind.i64.wrap (Int.tdiv ((b' - a' : Nat) : Int) 8) = (((b' - a') / 8 : Nat) : Int) := by rw [IntKind.wrap_i64, Int.tdiv_eq_ediv_of_nonneg (by omega)]; omega
    refine setI_mk (i64_sub r1 (by omega)) (setI_mk (i64_sub (by omega) (by omega)) ⟨by omega, setI_mk e8 (ifC_dec (fun h7 => ?_) (fun h7 => setI_mk (i64_add1 (by omega)) ?_))⟩)
    · refine ih (mid - a') (by omega) lt cv S0 S5 i n c a' mid l2 t pre post d5 _ (Nat.le_refl _) hO hcmp hA5 hz5 hn' r1 (by omega) hl2 r4 fun S6 d6 hA6 hP6 hS6 => setI_mk (i64_add1 (by omega)) ?_
      obtain ⟨g1, g2⟩ := r6 d6 hP6 hS6
      refine ⟨b' - (mid + 1), by omega, mid + 1, b', l2, d6, rfl, rfl, rfl, rfl, by omega, hb', by omega, hl2, by rw [hP6.1, hz5], hA6, g1, fun R hR1 hR2 => ?_⟩
      obtain ⟨q1, q2⟩ := g2 R hR1 hR2
      exact hG R (permIn_trans _ _ _ a' b' hP4 q1) q2
    · refine ih (b' - (mid + 1)) (by omega) lt cv S0 S5 i n c (mid + 1) b' l2 t pre post d5 _ (Nat.le_refl _) hO hcmp hA5 hz5 hn' (by omega) (by omega) hl2 r5 fun S6 d6 hA6 hP6 hS6 => ?_
      obtain ⟨g1, g2⟩ := r7 d6 hP6 hS6
      refine ⟨mid - a', by omega, a', mid, l2, d6, rfl, rfl, rfl, rfl, ha, by omega, r1, hl2, by rw [hP6.1, hz5], hA6, g1, fun R hR1 hR2 => ?_⟩
      obtain ⟨q1, q2⟩ := g2 R hR1 hR2
      exact hG R (permIn_trans _ _ _ a' b' hP4 q1) q2

end Go.Th.L
end
