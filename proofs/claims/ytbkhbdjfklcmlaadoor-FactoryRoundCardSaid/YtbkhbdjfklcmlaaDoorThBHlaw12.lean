/- What the row of one statement stands on: a store, abstract code, functions of the program and their laws (ThHlaw12). -/
import Derived.Test.YtbkhbdjfklcmlaaDoorThBHfact3
import Derived.Test.YtbkhbdjfklcmlaaDoorThBGlaw12

section
/- The laws of layer 12. -/
set_option linter.unusedSimpArgs false
set_option linter.unusedVariables false
namespace Go.Th.L
open Go Go.Th Go.Th.Pure
variable {P : Program} {N : Nat → Nat}

theorem keep4 {S : St} (hw : S.Wf) {x : FSpec} {K : St → Prop} (hk : ∀ S', Grow S S' → S'.get S.next = some (.cells (c4 x) true) → K S') :
    newS S (.cells [.int .i64 0, .int .i64 0, .int .i64 0, .int .i64 0] true) fun S1 => ifS (storeV S1 4 (.ptr S.next 0) (v4 x)) K :=
  newS_mk hw fun S1 g1 m1 n1 => st_mk g1.wf m1 rfl (by simp [V.cells]) rfl fun S2 u2 m2 n2 => hk S2 (g1.after u2 (by simp)) (by simpa [over, V.cells] using m2)
theorem eq4 (x : FSpec) : eqV 6 [1, 1, 1, 1] (v4 x) (v4 x) = some true := by simp [eqV, eqA, eqL, eqT]

structure Law12Ok (P : Program) (N : Nat → Nat) (gs : List Nat) : Prop where
  parse : ParseOk P (N Fn.factory_Parse) (GV gs)
  parse' : ParseOk P (N Fn.ref12_Parse) (GV gs)
  print : PrintOk P (N Fn.factory_Print)
  print' : PrintOk P (N Fn.ref12_Print)
  check : ChecksSpec P (N Fn.factory_Check)
  check' : ChecksSpec P (N Fn.ref12_Check)
  awakeF : law12_awake.Ok P N

theorem print8 : printF ⟨4, 8, 0, 0⟩ = ([73, 86, 70, 56, 44, 70, 108, 97, 116], 0) := by
  have e : numF 8 = [56] := dec1 (by decide)
  rw [print_ok (by decide +kernel)]
  have : printT ⟨4, 8, 0, 0⟩ = wIVF ++ numF 8 ++ wCF := rfl
  rw [this, e]; rfl

theorem law12_awake.spec {gs : List Nat} (hO : Law12Ok P N gs) {S : St} {K : Bool → St → Prop} (hg : GV gs S) (hk : K true S) : CallA P (N Fn.law12_awake) [] S (retT [.one .bool] K) := by
  refine CallA.gcT (ds := [.one .bool]) rfl (CallA.wfT fun hw => ?_)
  have hg := hg.ro
  have p1 : parseF [73, 86, 70, 56, 44, 80, 81, 50, 120, 52] = (⟨5, 8, 2, 4⟩, 0) := by decide +kernel
  have p2 : parseF [75, 68, 48, 54, 53] = (zSpec, 120) := by decide +kernel
  have p3 : parseF [75, 68, 54, 53] = (zSpec, 121) := by decide +kernel
  refine law12_awake.run hO.awakeF (hO.parse _ _ _ (by decide) hg ?_)
  rw [p1]
  refine keep4 (x := ⟨5, 8, 2, 4⟩) hw fun S3 g3 m3 => hO.parse _ _ _ (by decide) (hg.grow g3) ?_
  rw [p2]
  refine keep4 (x := zSpec) g3.wf fun S6 g6 m6 => hO.parse _ _ _ (by decide) ((hg.grow g3).grow g6) ?_
  rw [p3]
  refine keep4 (x := zSpec) g6.wf fun S9 g9 m9 => hO.print ⟨4, 8, 0, 0⟩ _ _ ?_
  rw [print8]
  refine ifC_pos rfl ⟨_, _, _, _, ldN (g9.get (g6.get m3)) (by simp) rfl, true, eq4 ⟨5, 8, 2, 4⟩, ifC_tt rfl (ifC_pos rfl (ifC_pos rfl (ifC_pos rfl ?_)))⟩
  exact hk

theorem parse_err {t : Bs} (h : (parseF t).2 ≠ 0) : (parseF t).1 = zSpec := by
  unfold parseF at h ⊢
  split
  · split
    · rename_i h1 h2; rw [if_pos h1, if_pos h2] at h; exact absurd rfl h
    · rfl
  · rfl
theorem parse_good {t : Bs} (h : (parseF t).2 = 0) : refF t = ((parseF t).1, true) ∧ checkF (parseF t).1 = 0 := by
  unfold parseF at h ⊢
  split
  · rename_i h1
    rw [if_pos h1] at h
    split
    · rename_i h2; exact ⟨by rw [← h1], h2⟩
    · rename_i h2; rw [if_neg h2] at h; exact absurd h h2
  · rename_i h1; rw [if_neg h1] at h; exact absurd h (by decide)
theorem printT_len {x : FSpec} (h : checkF x = 0) : (printT x).length ≤ 65536 := by
  obtain ⟨⟨s0, s1⟩, ⟨p0, p1⟩, ⟨c0, c1⟩⟩ := ok_range h
  have ls := num_len s0 (by omega); have lp := num_len p0 (by omega); have lc := num_len c0 (by omega)
  unfold printT
  have w : wFlat.length = 4 ∧ wKD.length = 2 ∧ wVP.length = 2 ∧ wHN.length = 4 ∧ wIVF.length = 3 ∧ wPQ.length = 3 ∧ wCF.length = 5 ∧ wX.length = 1 := ⟨rfl, rfl, rfl, rfl, rfl, rfl, rfl, rfl⟩
  split
  · simp only [List.length_append]; omega
  split
  · simp only [List.length_append]; omega
  split
  · simp only [List.length_append]; omega
  split
  · simp only [List.length_append]; omega
  split
  · simp only [List.length_append]; omega
  · omega

theorem law12_FactoryParses.spec (hF : law12_FactoryParses.Ok P N) {gs : List Nat} (hO : Law12Ok P N gs) {t : Bs} {S : St} {K : Bool → St → Prop} (hw : S.Wf) (hg : GV gs S) (hk : ∀ S', K true S') : CallA P (N Fn.law12_FactoryParses) [.str t] S (retT [.one .bool] K) := by
  refine law12_FactoryParses.run hF (ifC_dec (fun _ => hk _) (fun h => hO.parse t _ _ (by omega) hg (keep4 hw fun S3 g3 m3 => hO.parse' t _ _ (by omega) (hg.grow g3) (keep4 g3.wf fun S6 g6 m6 => law12_awake.spec hO ((hg.grow g3).grow g6) (ifC_tt rfl ?_)))))
  refine ⟨_, _, _, _, ldN (g6.get m3) (by simp) rfl, _, _, _, _, ldN m6 (by simp) rfl, true, eq4 _, ifC_tt rfl ?_⟩
  rw [decide_eq_true rfl]; exact hk _

theorem law12_FactoryPrints.spec (hF : law12_FactoryPrints.Ok P N) {gs : List Nat} (hO : Law12Ok P N gs) {x : FSpec} {S : St} {K : Bool → St → Prop} (hw : S.Wf) (hg : GV gs S) (hk : ∀ S', K true S') : CallA P (N Fn.law12_FactoryPrints) [v4 x] S (retT [.one .bool] K) := by
  refine law12_FactoryPrints.run hF (newS_mk hw fun S1 g1 m1 n1 => ⟨_, _, _, _, ldN m1 (by simp) rfl, hO.print x _ _ ⟨_, _, _, _, ldN m1 (by simp) rfl, hO.print' x _ _ (law12_awake.spec hO (hg.grow g1) (ifC_tt rfl (ifC_pos rfl (ifC_pos rfl ?_))))⟩⟩)
  refine ⟨_, _, _, _, ldN m1 (by simp) rfl, _, _, _, _, ldN m1 (by simp) rfl, hO.check x _ _ ⟨Same.refl _ _, hO.check' x _ _ ⟨Same.refl _ _, ?_⟩⟩⟩
  rw [decide_eq_true rfl]; exact hk _

theorem law12_FactoryRound.spec (hF : law12_FactoryRound.Ok P N) {gs : List Nat} (hO : Law12Ok P N gs) {x : FSpec} {t : Bs} {S : St} {K : Bool → St → Prop} (hw : S.Wf) (hg : GV gs S) (hk : ∀ S', K true S') : CallA P (N Fn.law12_FactoryRound) [v4 x, .str t] S (retT [.one .bool] K) := by
  refine law12_FactoryRound.run hF (newS_mk hw fun S1 g1 m1 n1 => ifC_dec (fun _ => hk _) (fun h => ⟨_, _, _, _, ldN m1 (by simp) rfl, hO.print x _ _ (Join0.mid (fun S' => Grow S1 S') (ifC_dec (fun h2 => ?_) (fun h2 => Upd.refl g1.wf _)) ?_)⟩))
  · have hc : checkF x = 0 := by
      by_cases hc : checkF x = 0
      · exact hc
      · rw [print_bad hc] at h2; exact absurd h2 hc
    rw [print_ok hc]
    refine hO.parse _ _ _ (printT_len hc) (hg.grow g1) ?_
    rw [print_parse hc]
    exact keep4 (x := x) g1.wf fun S6 g6 m6 => ifC_npos rfl ⟨_, _, _, _, ldN m6 (by simp) rfl, _, _, _, _, ldN (g6.get m1) (by simp) rfl, true, eq4 x, ifC_ff rfl g6⟩
  · intro S3 g3
    have hg3 := (hg.grow g1).grow g3
    refine hO.parse t _ _ (by omega) hg3 (keep4 g3.wf fun S9 g9 m9 => ifC_ndec (fun h2 => ?_) (fun h2 => ?_))
    · refine law12_awake.spec hO (hg3.grow g9) (ifC_tt rfl ⟨_, _, _, _, ldN m9 (by simp) rfl, true, ?_, hk _⟩)
      rw [parse_err h2]; exact eq4 zSpec
    · obtain ⟨hr, hc⟩ := parse_good h2
      refine ⟨_, _, _, _, ldN m9 (by simp) rfl, hO.print (parseF t).1 _ _ (law12_awake.spec hO (hg3.grow g9) (ifC_tt rfl ?_))⟩
      rw [print_ok hc]
      refine ifC_pos rfl (ifC_pos (parse_print hr hc) ⟨_, _, _, _, ldN m9 (by simp) rfl, hO.check (parseF t).1 _ _ ?_⟩)
      rw [decide_eq_true hc]; exact hk _

end Go.Th.L
end
