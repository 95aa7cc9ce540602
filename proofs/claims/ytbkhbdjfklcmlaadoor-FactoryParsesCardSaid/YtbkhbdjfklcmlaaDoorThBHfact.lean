/- What the row of one statement stands on: a store, abstract code, functions of the program and their laws (ThHfact). -/
import Derived.Test.YtbkhbdjfklcmlaaDoorThBPfact3
import Derived.Test.YtbkhbdjfklcmlaaDoorThBGfactory

section
/- factory: printed (the document, the reference), checked (the document). -/
set_option linter.unusedSimpArgs false
set_option linter.unusedVariables false
namespace Go.Th.L
open Go Go.Th Go.Th.Pure
variable {P : Program} {N : Nat → Nat}

theorem ok_range {x : FSpec} (h : checkF x = 0) : (0 ≤ x.s ∧ x.s ≤ 64) ∧ (0 ≤ x.p ∧ x.p ≤ 8) ∧ (0 ≤ x.c ∧ x.c ≤ 16) := by
  obtain ⟨hk, hok⟩ := check_ok h
  unfold okF' at hok
  simp only at hok
  split at hok
  · simp at hok; omega
  split at hok
  · rw [Bool.and_eq_true, decide_eq_true_eq] at hok; have := Pure.within_iff hok.1; omega
  split at hok
  · rw [Bool.and_eq_true, decide_eq_true_eq] at hok; have := Pure.within_iff hok.1; omega
  split at hok
  · rw [Bool.and_eq_true, Bool.and_eq_true] at hok; have := Pure.within_iff hok.1.1; have := Pure.within_iff hok.1.2; have := Pure.within_iff hok.2; omega
  · rw [Bool.and_eq_true, decide_eq_true_eq] at hok; have := Pure.within_iff hok.1; omega
theorem num_len {n : Int} (h0 : 0 ≤ n) (h : n < 100) : (numF n).length ≤ 2 := by
  rw [numF, dec100 (by omega)]; split <;> simp
theorem print_bad {x : FSpec} (h : checkF x ≠ 0) : printF x = ([], checkF x) := by unfold printF; rw [if_neg h]
theorem print_ok {x : FSpec} (h : checkF x = 0) : printF x = (printT x, 0) := by unfold printF; rw [if_pos h]

def PrintOk (P : Program) (f : Nat) : Prop := ∀ (x : FSpec) (S : St) (K : Bs → Int → St → Prop), K (printF x).1 (printF x).2 S → CallA P f [v4 x] S (retT [.one .str, .one (.int .i64)] K)
theorem ref12_Print.spec (hF : ref12_Print.Ok P N) (hC : ChecksSpec P (N Fn.ref12_Check)) (hN : NumsOk P (N Fn.ref12_Number)) : PrintOk P (N Fn.ref12_Print) := by
  intro x S K hk
  refine CallA.gcT (ds := [.one .str, .one (.int .i64)]) rfl (CallA.wfT fun hw => ?_)
  refine ref12_Print.run hF (newS_mk hw fun S1 g1 m1 n1 => ⟨_, _, _, _, ldN m1 (by simp) rfl, hC x _ _ (ifC_ndec (fun h => ?_) (fun h => ?_))⟩)
  · rw [print_bad h] at hk; exact hk
  rw [print_ok h] at hk
  obtain ⟨⟨s0, s1⟩, ⟨p0, p1⟩, ⟨c0, c1⟩⟩ := ok_range h
  have ls := num_len s0 (by omega); have lp := num_len p0 (by omega); have lc := num_len c0 (by omega)
  refine ⟨_, ld m1 rfl, ifC_dec (p := x.k = 2) (fun h2 => ⟨_, ld m1 rfl, hN _ _ _ s0 (by omega) ⟨by simp; omega, ?_⟩⟩) (fun h2 => ifC_dec (p := x.k = 3) (fun h3 => ⟨_, ld m1 rfl, hN _ _ _ s0 (by omega) ⟨by simp; omega, ?_⟩⟩) (fun h3 =>
    ifC_dec (p := x.k = 4) (fun h4 => ⟨_, ld m1 rfl, hN _ _ _ s0 (by omega) ⟨by simp; omega, by simp; omega, ?_⟩⟩) (fun h4 => ifC_dec (p := x.k = 5) (fun h5 => ⟨_, ld m1 rfl, _, ld m1 rfl, _, ld m1 rfl,
      hN _ _ _ s0 (by omega) ⟨Same.refl _ _, by simp; omega, by simp; omega, hN _ _ _ p0 (by omega) ⟨Same.refl _ _, by simp; omega, by simp; omega, hN _ _ _ c0 (by omega) ⟨Same.refl _ _, by simp; omega, ?_⟩⟩⟩⟩) (fun h5 =>
    ifC_dec (p := x.k = 6) (fun h6 => ⟨_, ld m1 rfl, hN _ _ _ s0 (by omega) ⟨by simp; omega, ?_⟩⟩) (fun h6 => ?_)))))⟩
  · have e : printT x = wKD ++ numF x.s := by rw [printT, if_pos h2]
    rw [e] at hk; exact hk
  · have e : printT x = wVP ++ numF x.s := by rw [printT, if_neg h2, if_pos h3]
    rw [e] at hk; exact hk
  · have e : printT x = wIVF ++ numF x.s ++ wCF := by rw [printT, if_neg h2, if_neg h3, if_pos h4]
    rw [e] at hk; exact hk
  · have e : printT x = wIVF ++ numF x.s ++ wPQ ++ numF x.p ++ wX ++ numF x.c := by rw [printT, if_neg h2, if_neg h3, if_neg h4, if_pos h5]
    rw [e] at hk; exact hk
  · have e : printT x = wHN ++ numF x.s := by rw [printT, if_neg h2, if_neg h3, if_neg h4, if_neg h5, if_pos h6]
    rw [e] at hk; exact hk
  · have e : printT x = wFlat := by rw [printT, if_neg h2, if_neg h3, if_neg h4, if_neg h5, if_neg h6]
    rw [e] at hk; exact hk

theorem factory_Print.spec (hF : factory_Print.Ok P N) (hC : ChecksSpec P (N Fn.factory_Check)) (hN : NumsOk P (N Fn.strconv_Itoa)) : PrintOk P (N Fn.factory_Print) := by
  intro x S K hk
  refine CallA.gcT (ds := [.one .str, .one (.int .i64)]) rfl (CallA.wfT fun hw => ?_)
  refine factory_Print.run hF (newS_mk hw fun S1 g1 m1 n1 => ⟨_, _, _, _, ldN m1 (by simp) rfl, hC x _ _ (ifC_ndec (fun h => ?_) (fun h => ?_))⟩)
  · rw [print_bad h] at hk; exact hk
  rw [print_ok h] at hk
  obtain ⟨⟨s0, s1⟩, ⟨p0, p1⟩, ⟨c0, c1⟩⟩ := ok_range h
  have ls := num_len s0 (by omega); have lp := num_len p0 (by omega); have lc := num_len c0 (by omega)
  refine ⟨_, ld m1 rfl, hN _ _ _ s0 (by omega) ⟨_, ld m1 rfl, ifC_dec (p := x.k = 2) (fun h2 => ⟨by simp; omega, ?_⟩) (fun h2 => ifC_dec (p := x.k = 3) (fun h3 => ⟨by simp; omega, ?_⟩) (fun h3 =>
    ifC_dec (p := x.k = 4) (fun h4 => ⟨by simp; omega, by simp; omega, ?_⟩) (fun h4 => ifC_dec (p := x.k = 5) (fun h5 => ⟨by simp; omega, by simp; omega, _, ld m1 rfl, _, ld m1 rfl,
      hN _ _ _ p0 (by omega) ⟨Same.refl _ _, by simp; omega, by simp; omega, hN _ _ _ c0 (by omega) ⟨Same.refl _ _, by simp; omega, ?_⟩⟩⟩) (fun h5 =>
    ifC_dec (p := x.k = 6) (fun h6 => ⟨by simp; omega, ?_⟩) (fun h6 => ?_)))))⟩⟩
  · have e : printT x = wKD ++ numF x.s := by rw [printT, if_pos h2]
    rw [e] at hk; exact hk
  · have e : printT x = wVP ++ numF x.s := by rw [printT, if_neg h2, if_pos h3]
    rw [e] at hk; exact hk
  · have e : printT x = wIVF ++ numF x.s ++ wCF := by rw [printT, if_neg h2, if_neg h3, if_pos h4]
    rw [e] at hk; exact hk
  · have e : printT x = wIVF ++ numF x.s ++ wPQ ++ numF x.p ++ wX ++ numF x.c := by rw [printT, if_neg h2, if_neg h3, if_neg h4, if_pos h5]
    rw [e] at hk; exact hk
  · have e : printT x = wHN ++ numF x.s := by rw [printT, if_neg h2, if_neg h3, if_neg h4, if_neg h5, if_pos h6]
    rw [e] at hk; exact hk
  · have e : printT x = wFlat := by rw [printT, if_neg h2, if_neg h3, if_neg h4, if_neg h5, if_neg h6]
    rw [e] at hk; exact hk

/-- The most that a kind may have. -/
def mostF (k : Int) : List Int := if k = 1 then [0, 0, 0] else if k = 2 ∨ k = 3 then [64, 0, 0] else if k = 4 then [64, 0, 0] else if k = 5 then [64, 8, 16] else [16, 0, 0]
theorem most_len (k : Int) : (mostF k).length = 3 := by unfold mostF; repeat (first | rfl | split)
def okN (n m : Int) : Prop := n ≤ m ∧ goMin 1 m ≤ n
instance (n m : Int) : Decidable (okN n m) := by unfold okN; infer_instance
theorem most_ok {k s p c : Int} (hk : 1 ≤ k ∧ k ≤ 6) : (okF' ⟨k, s, p, c⟩ = true) ↔ okN s ((mostF k).getD 0 0) ∧ okN p ((mostF k).getD 1 0) ∧ okN c ((mostF k).getD 2 0) := by
  have hor : k = 1 ∨ k = 2 ∨ k = 3 ∨ k = 4 ∨ k = 5 ∨ k = 6 := by omega
  rcases hor with rfl | rfl | rfl | rfl | rfl | rfl <;> simp [okF', mostF, okN, within, goMin] <;> omega

theorem factory_Check.spec (hF : factory_Check.Ok P N) : ChecksSpec P (N Fn.factory_Check) := by
  intro x S K hk
  refine CallA.gcT (ds := [.one (.int .i64)]) rfl (CallA.wfT fun hw => ?_)
  obtain ⟨k, s, p, c⟩ := x
  have hk : K (if k < 1 ∨ 6 < k then 120 else if okF' ⟨k, s, p, c⟩ then 0 else 121) S := hk
  refine factory_Check.run hF (newS_mk hw fun S1 g1 m1 n1 => newS_mk g1.wf fun S2 g2 m2 n2 => st_mk g2.wf m2 rfl (by simp [V.cells]) rfl fun S3 u3 m3 n3 => ?_)
  simp only [over, V.cells] at m3
  have g13 : Grow S1 S3 := g2.after u3 (fun i hi => by simp at hi; subst hi; exact .inl (Nat.le_refl _))
  have m1' := g13.get m1
  have a0 : ∀ n : Nat, n < 3 → idxAddrArrV 3 1 (V.ptr S1.next 0) (V.int .i64 n) = some (.ptr S1.next n) := fun n hn => by
    simp only [idxAddrArrV]; rw [if_pos (by omega)]; simp
  refine Join0.mid (fun S' => Grow S1 S' ∧ S'.get S1.next = some (.cells (intsV .i64 (mostF k)) true) ∧ 1 ≤ k ∧ k ≤ 6) ⟨_, ld m1' rfl, ?_⟩ ?_
  · refine ifC_dec (p := k = 1) (fun h1 => ?_) (fun h1 => ?_)
    · refine ifS_mk (a0 0 (by omega)) (st_mk g13.wf m3 rfl (by simp [V.cells]) rfl fun S5 u5 m5 n5 => ⟨g13.after u5 (fun i hi => by simp at hi; subst hi; exact .inl (Nat.le_refl _)), ?_, by omega⟩)
      subst h1; simp only [over, V.cells] at m5; exact m5
    refine Join1.mid (fun x S' => S3 = S' ∧ x = decide (k = 2 ∨ k = 3)) (ifC_dec (p := k = 2) (fun h => ⟨rfl, (decide_eq_true (.inl h)).symm⟩) (fun h => ⟨rfl, decide_eq_decide.mpr ⟨fun h' => .inr h', fun h' => h'.resolve_left h⟩⟩)) ?_
    rintro _ _ ⟨rfl, rfl⟩
    refine ifC_dec (fun h2 => ⟨g13, ?_, by omega⟩) (fun h2 => ?_)
    · rw [mostF, if_neg h1, if_pos h2]; exact m3
    refine ifC_dec (p := k = 4) (fun h3 => ?_) (fun h3 => ?_)
    · refine ifS_mk (a0 0 (by omega)) (st_mk g13.wf m3 rfl (by simp [V.cells]) rfl fun S5 u5 m5 n5 => ⟨g13.after u5 (fun i hi => by simp at hi; subst hi; exact .inl (Nat.le_refl _)), ?_, by omega⟩)
      subst h3; simp only [over, V.cells] at m5; exact m5
    refine ifC_dec (p := k = 5) (fun h4 => ?_) (fun h4 => ?_)
    · refine st_mk g13.wf m3 rfl (by simp [V.cells]) rfl fun S5 u5 m5 n5 => ⟨g13.after u5 (fun i hi => by simp at hi; subst hi; exact .inl (Nat.le_refl _)), ?_, by omega⟩
      subst h4; simp only [over, V.cells] at m5; exact m5
    refine ifC_dec (p := k = 6) (fun h5 => ?_) (fun h5 => ?_)
    · refine ifS_mk (a0 0 (by omega)) (st_mk g13.wf m3 rfl (by simp [V.cells]) rfl fun S5 u5 m5 n5 => ⟨g13.after u5 (fun i hi => by simp at hi; subst hi; exact .inl (Nat.le_refl _)), ?_, by omega⟩)
      subst h5; simp only [over, V.cells] at m5; exact m5
    · rw [if_pos (by omega)] at hk; exact hk
  · rintro S4 ⟨g4, m4, k1, k6⟩
    rw [if_neg (by omega)] at hk
    have m1'' := g4.get m1
    have hml := most_len k
    have hmo := most_ok (k := k) (s := s) (p := p) (c := c) ⟨k1, k6⟩
    obtain ⟨a, b, d, hm⟩ : ∃ a b d, mostF k = [a, b, d] := by
      match mostF k, hml with
      | [a, b, d], _ => exact ⟨a, b, d, rfl⟩
    rw [hm] at hmo m4
    simp only [List.getD_cons_zero, List.getD_cons_succ] at hmo
    have good : okN s a → okN p b → okN c d → K 0 S := fun h1 h2 h3 => by rw [if_pos (hmo.mpr ⟨h1, h2, h3⟩)] at hk; exact hk
    have bad : ¬ (okN s a ∧ okN p b ∧ okN c d) → K 121 S := fun h => by rw [if_neg (fun h' => h (hmo.mp h'))] at hk; exact hk
    refine ⟨_, ld m1'' rfl, _, ld m1'' rfl, _, ld m1'' rfl, Loop1.ind (fun m x S' => S4 = S' ∧ ∃ j : Nat, x = j ∧ m = 3 - j ∧ j ≤ 3 ∧ (0 < j → okN s a) ∧ (1 < j → okN p b) ∧ (2 < j → okN c d)) 3 ⟨rfl, 0, rfl, rfl, by omega, by omega, by omega, by omega⟩ ?_⟩
    rintro m _ _ ⟨rfl, j, rfl, rfl, hj, o1, o2, o3⟩
    refine ifC_dec (fun h => ?_) (fun h => good (o1 (by omega)) (o2 (by omega)) (o3 (by omega)))
    have hj3 : j = 0 ∨ j = 1 ∨ j = 2 := by omega
    rcases hj3 with rfl | rfl | rfl
    · refine ⟨s, rfl, ifS_mk (a0 0 (by omega)) ⟨a, ld m4 rfl, ifC_dec (fun h1 => bad fun h' => ?_) (fun h1 => ifS_mk (a0 0 (by omega)) ⟨a, ld m4 rfl, ifC_dec (fun h2 => bad fun h' => ?_) (fun h2 => setI_mk (wrap_nat (by omega)) ⟨2, by omega, rfl, 1, rfl, rfl, by omega, fun _ => ⟨by omega, by omega⟩, by omega, by omega⟩)⟩)⟩⟩
      · have := h'.1.1; omega
      · have := h'.1.2; omega
    · refine ⟨p, rfl, ifS_mk (a0 1 (by omega)) ⟨b, ld m4 rfl, ifC_dec (fun h1 => bad fun h' => ?_) (fun h1 => ifS_mk (a0 1 (by omega)) ⟨b, ld m4 rfl, ifC_dec (fun h2 => bad fun h' => ?_) (fun h2 => setI_mk (wrap_nat (by omega)) ⟨1, by omega, rfl, 2, rfl, rfl, by omega, fun _ => o1 (by omega), fun _ => ⟨by omega, by omega⟩, by omega⟩)⟩)⟩⟩
      · have := h'.2.1.1; omega
      · have := h'.2.1.2; omega
    · refine ⟨c, rfl, ifS_mk (a0 2 (by omega)) ⟨d, ld m4 rfl, ifC_dec (fun h1 => bad fun h' => ?_) (fun h1 => ifS_mk (a0 2 (by omega)) ⟨d, ld m4 rfl, ifC_dec (fun h2 => bad fun h' => ?_) (fun h2 => setI_mk (wrap_nat (by omega)) ⟨0, by omega, rfl, 3, rfl, rfl, by omega, fun _ => o1 (by omega), fun _ => o2 (by omega), fun _ => ⟨by omega, by omega⟩⟩)⟩)⟩⟩
      · have := h'.2.2.1; omega
      · have := h'.2.2.2; omega

end Go.Th.L
end
