/- What the row of one statement stands on: a store, abstract code, functions of the program and their laws (ThHsortH4). -/
import Derived.Test.YtdjocmcbibedhaaGreatThBHsort1
import Derived.Test.YtdjocmcbibedhaaGreatThBHsortH3

section
/- slices.SortFunc's breakPatterns at hits; SortFunc itself. -/
set_option linter.unusedSimpArgs false
set_option linter.unusedVariables false
set_option linter.unusedSectionVars false
namespace Go.Th.L
open Go Go.Th Go.Th.Pure Go.Sort
variable {P : Program} {N : Nat → Nat}

theorem slices_breakPatternsCmpFunc_api_Hit.spec (hF : slices_breakPatternsCmpFunc_api_Hit.Ok P N) (hx : slices_xorshift_Next.Spec P N) (hp : slices_nextPowerOfTwo.Spec P N) : slices_breakPatternsCmpFunc_api_Hit.Spec P N := by
  intro cv S0 S i n c a b t pre post d K hA hz hn hab hbn hk
  have hn' := hn
  unfold big at hn
  refine slices_breakPatternsCmpFunc_api_Hit.run hF (setI_mk (i64_sub hab (by omega)) (ifC_dec (fun h1 => ?_) (fun h1 => hk _ _ hA (permIn_refl _ _ _))))
  have hL : bitsLen (b - a) ≤ 62 := (bitsLen_le_iff (b - a) 62).2 (by omega)
  have hL2 : 2 ^ bitsLen (b - a) ≤ 2 * (b - a) := by
    rcases Nat.lt_or_ge (2 * (b - a)) (2 ^ bitsLen (b - a)) with h | h
    · exfalso
      have hpos : 1 ≤ bitsLen (b - a) := by
        rcases Nat.eq_zero_or_pos (bitsLen (b - a)) with h0 | h0
        · have := (bitsLen_le_iff (b - a) 0).1 (by omega); omega
        · exact h0
      have h2 : 2 ^ bitsLen (b - a) = 2 ^ (bitsLen (b - a) - 1) * 2 := by rw [← Nat.pow_succ]; congr 1; omega
      have h3 : b - a < 2 ^ (bitsLen (b - a) - 1) := by omega
      have := (bitsLen_le_iff (b - a) (bitsLen (b - a) - 1)).2 h3
      omega
    · exact h
  have hpos : 1 ≤ 2 ^ bitsLen (b - a) := Nat.two_pow_pos _
  generalize hM : 2 ^ bitsLen (b - a) = M at *
  refine setI_mk (u64_nat (by omega)) (newS_mk hA.upd.wf fun S1 g1 m1 n1 => st_mk g1.wf m1 rfl (by simp [V.cells]) rfl fun S2 u2 m2 n2 => hp (b - a) S2 _ (by unfold big; omega) ?_)
  simp only [over, V.cells] at m2
  have hne : i ≠ S.next := Nat.ne_of_lt (hA.upd.wf.lt hA.get)
  have hq : S0.next ≤ S.next := hA.upd.le
  have hA2 : ArrAt hitE S0 i pre post S2 d := ⟨(hA.upd.after g1 (by simp)).after u2 (by simp; omega), u2.get (g1.get hA.get) (by simp; exact hne)⟩
  rw [hM]
  have e4 : IntKind.i64.wrap (Int.tdiv ((b - a : Nat) : Int) 4) = (((b - a) / 4 : Nat) : Int) := by rw [IntKind.wrap_i64, Int.tdiv_eq_ediv_of_nonneg (by omega)]; omega
  have e2 : IntKind.i64.wrap ((((b - a) / 4 : Nat) : Int) * 2) = (((b - a) / 4 * 2 : Nat) : Int) := by rw [IntKind.wrap_i64]; omega
  refine ⟨by omega, setI_mk e4 (setI_mk e2 (setI_mk (i64_add (by omega)) (setI_mk (i64_sub1 (by omega) (by omega)) ?_)))⟩
  refine Loop1.ind (fun m x S' => ∃ (j : Nat) (d1 : Array Hit) (r : Int), x = j ∧ m = a + (b - a) / 4 * 2 + 2 - j ∧ a ≤ j ∧ j ≤ a + (b - a) / 4 * 2 + 2 ∧ ArrAt hitE S0 i pre post S' d1 ∧ PermIn a b d d1 ∧ S'.get S.next = some (.cells [.int .u64 r] true)) (a + (b - a) / 4 * 2 + 2 - (a + (b - a) / 4 * 2 - 1)) ⟨a + (b - a) / 4 * 2 - 1, d, _, rfl, rfl, by omega, by omega, hA2, permIn_refl _ _ _, m2⟩ ?_
  rintro m _ S4 ⟨j, d1, r, rfl, rfl, hj1, hj2, hA4, hP4, m4⟩
  have hz1 : d1.size = n := by rw [hP4.1, hz]
  refine ⟨by omega, setI_mk e4 (setI_mk e2 (setI_mk (i64_add (by omega)) (setI_mk (i64_add1 (by omega)) (ifC_dec (fun h5 => ?_) (fun h5 => hk _ _ hA4 hP4)))))⟩
  refine hx S.next r S4 _ hA4.upd.wf m4 fun S5 r' u5 m5 hr1 hr2 => ?_
  have hA5 : ArrAt hitE S0 i pre post S5 d1 := ⟨hA4.upd.after u5 (by simp; omega), u5.get hA4.get (by simp; exact hne)⟩
  have hA5' : ArrAt hitE S5 i pre post S5 d1 := ⟨Upd.refl u5.wf _, hA5.get⟩
  have eM : IntKind.u64.wrap ((M : Int) - 1) = ((M - 1 : Nat) : Int) := by rw [wrap_u64]; omega
  refine setI_mk eM (setI_intro fun o ho => ?_)
  have ho1 := (bits_u64 .and r' ((M - 1 : Nat) : Int)).1
  have ho2 := and_u64 r' (m := M - 1) (by omega)
  rw [← ho] at ho1 ho2
  obtain ⟨o, rfl⟩ := Int.eq_ofNat_of_zero_le ho1
  refine setI_mk (n := ((o : Nat) : Int)) (by rw [IntKind.wrap_i64]; omega) (Join1.mid (fun x S' => ∃ p : Nat, x = p ∧ p < b - a ∧ S' = S5) (ifC_dec (fun h6 => setI_mk (i64_sub (by omega) (by omega)) ⟨o - (b - a), rfl, by omega, rfl⟩) (fun h6 => ⟨o, rfl, by omega, rfl⟩)) ?_)
  rintro _ S6 ⟨p, rfl, hp6, rfl⟩
  refine setI_mk (i64_add (by omega)) (setI_mk (i64_add (by omega)) (hA5'.swp_ hz1 (by omega) (by omega) fun S7 hA7 hz7 => setI_mk (i64_add1 (by omega)) ⟨a + (b - a) / 4 * 2 + 2 - (j + 1), by omega, j + 1, _, r', rfl, rfl, by omega, by omega, ⟨hA5.upd.trans hA7.upd, hA7.get⟩, permIn_trans _ _ _ a b hP4 (swp_permIn d1 a b j (a + p) hj1 (by omega) (by omega) (by omega) (by omega)), hA7.upd.get m5 (by simp; exact fun h => hne h.symm)⟩))

def slices_SortFunc_Lapi_Hit.Spec (P : Program) (N : Nat → Nat) : Prop := ∀ (lt : Hit → Hit → Bool) (cv : V) (S0 S : St) (i n c : Nat) (t : Bool) (pre post : List V) (d : Array Hit) (K : St → Prop), SWO lt → CmpIs P cv lt → ArrAt hitE S0 i pre post S d → d.size = n → n < big →
  (∀ S' d', ArrAt hitE S0 i pre post S' d' → PermIn 0 n d d' → SortedIn lt 0 n d' → K S') → CallA P (N Fn.slices_SortFunc_Lapi_Hit) [rowV i pre.length n c t, cv] S (retT [] K)
theorem slices_SortFunc_Lapi_Hit.spec (hF : slices_SortFunc_Lapi_Hit.Ok P N) (hl : math_bits_Len.Spec P N) (hp : ∀ w, slices_pdqsortCmpFunc_api_Hit.SpecAt P N w) : slices_SortFunc_Lapi_Hit.Spec P N := by
  intro lt cv S0 S i n c t pre post d K hO hcmp hA hz hn hk
  have hn' := hn
  unfold big at hn
  have hL : bitsLen n ≤ 62 := (bitsLen_le_iff n 62).2 (by omega)
  refine slices_SortFunc_Lapi_Hit.run hF ⟨_, lenV_slice .., setI_mk (u64_nat (by omega)) (hl n S _ (by omega) ?_)⟩
  exact hp n lt cv S0 S i n c 0 n (bitsLen n) t pre post d _ (by omega) hO hcmp hA hz hn' (by omega) (Nat.le_refl _) (by unfold big; omega) (.inl rfl) hk

theorem lessH_swo : SWO lessH :=
  ⟨less_irrefl, fun _ _ _ => less_trans, fun x y z h h' => by
    simp only [lessH, decide_eq_false_iff_not] at h h' ⊢; omega⟩

end Go.Th.L
end
