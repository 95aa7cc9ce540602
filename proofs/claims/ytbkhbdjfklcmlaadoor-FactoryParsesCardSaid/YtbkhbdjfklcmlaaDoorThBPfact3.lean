/- What the row of one statement stands on: a store, abstract code, functions of the program and their laws (ThHref12, ThHref12b, ThHref12c, ThPfact3). -/
import Derived.Test.YtbkhbdjfklcmlaaDoorThBPfact2
import Derived.Test.YtbkhbdjfklcmlaaDoorThBHcmp
import Derived.Test.YtbkhbdjfklcmlaaDoorThBGref12

section
/- factory, the reference: texts taken apart. -/
set_option linter.unusedSimpArgs false
set_option linter.unusedVariables false
namespace Go.Th.L
open Go Go.Th Go.Th.Pure
variable {P : Program} {N : Nat → Nat}

abbrev c4 (x : FSpec) : List V := [.int .i64 x.k, .int .i64 x.s, .int .i64 x.p, .int .i64 x.c]
abbrev v4 (x : FSpec) : V := .agg (c4 x)
theorem tell4 {S : St} (hw : S.Wf) {i : Nat} {cs : List V} (hg : S.get i = some (.cells cs true)) (hl : cs.length = 4) {a b c d : Int} {K : Int → Int → Int → Int → St → Prop} (hk : ∀ S', Upd [i] S S' → K a b c d S') :
    ifS (storeV S 4 (.ptr i 0) (.agg [.int .i64 a, .int .i64 b, .int .i64 c, .int .i64 d])) fun S3 => ∃ xa xb xc xd : Int, cellNV S3 4 (.ptr i 0) = some (.agg [.int .i64 xa, .int .i64 xb, .int .i64 xc, .int .i64 xd]) ∧ K xa xb xc xd S3 := by
  match cs, hl with
  | [a1, a2, a3, a4], _ => exact st_mk hw hg (by simp [V.cells]) (by simp [V.cells]) rfl fun S3 u3 m3 n3 => ⟨_, _, _, _, ldC m3 (by simp [over, V.cells]) rfl, hk S3 u3⟩

def ref12_front.Spec (P : Program) (N : Nat → Nat) : Prop := ∀ (s w : Bs) (S : St) (K : Bs → Bool → St → Prop), K (frontF s w).1 (frontF s w).2 S → CallA P (N Fn.ref12_front) [.str s, .str w] S (retT [.one .str, .one .bool] K)
theorem ref12_front.spec (hF : ref12_front.Ok P N) : ref12_front.Spec P N := by
  intro s w S K hk
  refine ref12_front.run hF (Join0.mid (fun S' => S = S' ∧ s.take w.length = w) ?_ ?_)
  · have no : s.take w.length ≠ w → K s false S := fun h => by rw [frontF, if_neg h] at hk; exact hk
    refine ifC_dec (fun h1 => no fun e => ?_) (fun h1 => ⟨_, sliceStr_to (by omega), ifC_ndec (fun h2 => no h2) (fun h2 => ⟨rfl, h2⟩)⟩)
    have := congrArg List.length e
    rw [List.length_take] at this; omega
  · rintro _ ⟨rfl, h⟩
    rw [frontF, if_pos h] at hk
    have hl : w.length ≤ s.length := by have := congrArg List.length h; rw [List.length_take] at this; omega
    exact ⟨_, sliceStr_from hl, hk⟩

theorem nd_ge : ∀ (t : Bs) (j : Nat), j ≤ t.length → (∀ i (hi : i < t.length), i < j → isDig t[i] = true) → j ≤ nd t
  | _, 0, _, _ => Nat.zero_le _
  | [], j + 1, h, _ => by simp at h
  | b :: r, j + 1, h, hh => by
    have h0 := hh 0 (by simp) (by omega)
    simp only [List.getElem_cons_zero] at h0
    have := nd_ge r j (by simpa using h) (fun i hi hij => by have := hh (i + 1) (by simp; omega) (by omega); rw [List.getElem_cons_succ] at this; exact this)
    rw [nd, if_pos h0]; omega
theorem nd_get' : ∀ (t : Bs) (i : Nat) (hi : i < t.length), i < nd t → isDig t[i] = true
  | [], i, hi, _ => by simp at hi
  | b :: r, 0, hi, h => by
    rw [nd] at h
    split at h
    · assumption
    · omega
  | b :: r, i + 1, hi, h => by
    rw [nd] at h
    split at h
    · rw [List.getElem_cons_succ]; exact nd_get' r i (by simpa using hi) (by omega)
    · omega
theorem dig_step {t : Bs} {j : Nat} (hj : j < t.length) (h : ∀ i (hi : i < t.length), i < j → isDig t[i] = true) (hd : isDig t[j] = true) : ∀ i (hi : i < t.length), i < j + 1 → isDig t[i] = true := by
  intro i hi hij
  by_cases e : i = j
  · subst e; exact hd
  · exact h i hi (by omega)
theorem nd_stop {t : Bs} {j : Nat} (hj : j < t.length) (h : ∀ i (hi : i < t.length), i < j → isDig t[i] = true) (hd : isDig t[j] = false) : nd t = j := by
  have h1 := nd_ge t j (by omega) h
  have h2 := nd_get t j hj h
  rw [hd] at h2
  have : ¬ j < nd t := fun h3 => by have := h2.mp h3; cases this
  omega
theorem nd_end {t : Bs} (h : ∀ i (hi : i < t.length), i < t.length → isDig t[i] = true) : nd t = t.length := by
  have h1 := nd_ge t t.length (Nat.le_refl _) h
  have := nd_le t; omega

/-- Both texts' loop over the digits that a text begins with. -/
theorem isDig_iff {b : UInt8} : isDig b = true ↔ 48 ≤ b.toNat ∧ b.toNat ≤ 57 := by unfold isDig; exact decide_eq_true_iff
theorem isDig_no {b : UInt8} (h : ¬ (48 ≤ b.toNat ∧ b.toNat ≤ 57)) : isDig b = false := decide_eq_false h

theorem valA_lt (d : Bs) : ∀ n : Nat, (∀ b ∈ d, isDig b = true) → valA n d < (n + 1) * 10 ^ d.length := by
  induction d with
  | nil => intro n _; show n < (n + 1) * 1; omega
  | cons b d ih =>
    intro n h
    have hb := isDig_iff.mp (h b List.mem_cons_self)
    have := ih (n * 10 + (b.toNat - 48)) (fun x hx => h x (List.mem_cons_of_mem _ hx))
    have e : valA n (b :: d) = valA (n * 10 + (b.toNat - 48)) d := rfl
    rw [e, List.length_cons, Nat.pow_succ]
    have h2 : (n * 10 + (b.toNat - 48) + 1) * 10 ^ d.length ≤ ((n + 1) * 10) * 10 ^ d.length := Nat.mul_le_mul_right _ (by omega)
    have h3 : (n + 1) * (10 ^ d.length * 10) = ((n + 1) * 10) * 10 ^ d.length := by rw [Nat.mul_comm (10 ^ d.length) 10, Nat.mul_assoc]
    omega
theorem valD_lt9 {t : Bs} {j : Nat} (hj : j ≤ nd t) (h9 : j ≤ 9) : valD (t.take j) < 1000000000 := by
  have hd : ∀ b ∈ t.take j, isDig b = true := fun b hb => nd_all t b (by
    have e : (t.take (nd t)).take j = t.take j := by rw [List.take_take, Nat.min_eq_left hj]
    rw [← e] at hb; exact List.mem_of_mem_take hb)
  have h1 := valA_lt (t.take j) 0 hd
  have hl : (t.take j).length ≤ 9 := by rw [List.length_take]; omega
  have h2 : (10 : Nat) ^ (t.take j).length ≤ 10 ^ 9 := Nat.pow_le_pow_right (by omega) hl
  unfold valD; omega
theorem valD_succ {t : Bs} {j : Nat} (h : j < t.length) : valD (t.take (j + 1)) = valD (t.take j) * 10 + (t[j].toNat - 48) := by
  rw [List.take_add_one, List.getElem?_eq_getElem h]
  show valA 0 (t.take j ++ [t[j]]) = _
  rw [valA_app]; rfl

def ref12_digits.Spec (P : Program) (N : Nat → Nat) : Prop := ∀ (s : Bs) (S : St) (K : Int → Bs → Bool → St → Prop), s.length ≤ 65536 → K (digitsF s).1 (digitsF s).2.1 (digitsF s).2.2 S → CallA P (N Fn.ref12_digits) [.str s] S (retT [.one (.int .i64), .one .str, .one .bool] K)
theorem ref12_digits.spec (hF : ref12_digits.Ok P N) : ref12_digits.Spec P N := by
  intro s S K hl hk
  have hle := nd_le s
  refine ref12_digits.run hF (Join1.mid (fun x S' => S = S' ∧ x = nd s) ?_ ?_)
  · refine Loop1.ind (fun m x S' => S = S' ∧ ∃ j : Nat, x = j ∧ m = s.length - j ∧ j ≤ s.length ∧ ∀ i (hi : i < s.length), i < j → isDig s[i] = true) s.length ⟨rfl, 0, rfl, rfl, Nat.zero_le _, fun i _ h => by omega⟩ ?_
    rintro m _ _ ⟨rfl, j, rfl, rfl, hj, h⟩
    refine ifC_dec (fun h1 => ?_) (fun h1 => ⟨rfl, ?_⟩)
    · have hjl : j < s.length := by omega
      refine ⟨_, idx_str hjl, ifC_dec (fun h2 => ⟨_, idx_str hjl, ifC_dec (fun h3 => setI_mk (wrap_nat (by omega)) ⟨s.length - (j + 1), by omega, rfl, j + 1, rfl, rfl, hjl, dig_step hjl h (isDig_iff.mpr (by omega))⟩) (fun h3 => ⟨rfl, ?_⟩)⟩) (fun h2 => ⟨rfl, ?_⟩)⟩
      · rw [nd_stop hjl h (isDig_no (by omega))]
      · rw [nd_stop hjl h (isDig_no (by omega))]
    · have e : j = s.length := by omega
      subst e
      rw [nd_end fun i hi _ => h i hi hi]
  · rintro _ _ ⟨rfl, rfl⟩
    have no : numOk s = false → K 0 s false S := fun h => by rw [digitsF, if_neg (by rw [h]; decide)] at hk; exact hk
    refine Join0.mid (fun S' => S = S' ∧ numOk s = true) (ifC_dec (fun h1 => no (decide_eq_false (by omega))) (fun h1 => ifC_dec (fun h2 => no (decide_eq_false (by omega))) (fun h2 => ifC_dec (fun h3 => ?_) (fun h3 => ⟨rfl, decide_eq_true ⟨by omega, by omega, .inl (by omega)⟩⟩)))) ?_
    · have h0 : 0 < s.length := by omega
      have hh : s.head? = some s[0] := by rw [List.head?_eq_getElem?, List.getElem?_eq_getElem h0]
      refine ⟨_, idx_str (s := s) (j := 0) h0, ifC_dec (fun h4 => no (decide_eq_false ?_)) (fun h4 => ⟨rfl, decide_eq_true ⟨by omega, by omega, .inr ?_⟩⟩)⟩
      · rintro ⟨_, _, h5 | h5⟩
        · omega
        · apply h5; rw [hh]; congr 1
          exact UInt8.toNat_inj.mp (by have h48 : (48 : UInt8).toNat = 48 := rfl; omega)
      · rw [hh]; intro e
        rw [Option.some.inj e] at h4
        exact h4 rfl
    · rintro _ ⟨rfl, hok⟩
      rw [digitsF, if_pos hok] at hk
      obtain ⟨k1, k2, _⟩ := of_decide_eq_true hok
      refine Loop2.ind (fun m v x S' => S = S' ∧ ∃ j : Nat, x = j ∧ m = nd s - j ∧ j ≤ nd s ∧ v = (valD (s.take j) : Int)) (nd s) ⟨rfl, 0, rfl, rfl, Nat.zero_le _, rfl⟩ ?_
      rintro m _ _ _ ⟨rfl, j, rfl, rfl, hj, rfl⟩
      refine ifC_dec (fun h1 => ?_) (fun h1 => ?_)
      · have hjl : j < s.length := by omega
        have hv := valD_lt9 (t := s) hj (by omega)
        have hd : isDig s[j] = true := nd_get' s j hjl (by omega)
        have hd' := isDig_iff.mp hd
        refine setI_mk (n := 10 * (valD (s.take j) : Int)) (by rw [IntKind.wrap_i64]; omega) ⟨_, idx_str hjl, setI_mk (n := (s[j].toNat : Int) - 48) (by rw [IntKind.wrap_u8]; omega) (setI_mk (n := (s[j].toNat : Int) - 48) (by rw [IntKind.wrap_i64]; omega) (setI_mk (n := (valD (s.take (j + 1)) : Int)) ?_ (setI_mk (wrap_nat (by omega)) ⟨nd s - (j + 1), by omega, rfl, j + 1, rfl, rfl, by omega, rfl⟩)))⟩
        rw [valD_succ hjl, IntKind.wrap_i64]; omega
      · have e : j = nd s := by omega
        subst e
        exact ⟨_, sliceStr_from (by omega), hk⟩

end Go.Th.L
end

section
/- factory, the reference: parsed, checked. -/
set_option linter.unusedSimpArgs false
set_option linter.unusedVariables false
namespace Go.Th.L
open Go Go.Th Go.Th.Pure
variable {P : Program} {N : Nat → Nat}

theorem front_len (s w : Bs) : (frontF s w).1.length ≤ s.length := by
  unfold frontF; split
  · simp
  · exact Nat.le_refl _
theorem digits_len (s : Bs) : (digitsF s).2.1.length ≤ s.length := by
  unfold digitsF; split
  · simp [numR]
  · exact Nat.le_refl _

def ref12_one.Spec (P : Program) (N : Nat → Nat) : Prop := ∀ (t w : Bs) (k : Int) (S : St) (K : Int → Int → Int → Int → Bool → St → Prop), t.length ≤ 65536 → K (oneF t w k).1.k (oneF t w k).1.s (oneF t w k).1.p (oneF t w k).1.c (oneF t w k).2 S →
  CallA P (N Fn.ref12_one) [.str t, .str w, .int .i64 k] S (retT [.agg [.int .i64, .int .i64, .int .i64, .int .i64], .one .bool] K)
theorem ref12_one.spec (hF : ref12_one.Ok P N) (hFr : ref12_front.Spec P N) (hD : ref12_digits.Spec P N) : ref12_one.Spec P N := by
  intro t w k S K hl hk
  refine CallA.gcT (ds := [.agg [.int .i64, .int .i64, .int .i64, .int .i64], .one .bool]) rfl (CallA.wfT fun hw => ?_)
  have hlf := front_len t w
  have hk : K k (digitsF (frontF t w).1).1 0 0 ((frontF t w).2 && (digitsF (frontF t w).1).2.2 && decide ((digitsF (frontF t w).1).2.1 = [])) S := hk
  refine ref12_one.run hF (newS_mk hw fun S1 g1 m1 n1 => hFr _ _ _ _ (hD _ _ _ (by omega) (ifC_tt_ff (fun h1 => ifC_tt_ff (fun h2 => ?_) (fun h2 => ?_)) (fun h1 => ?_))))
  · rw [h1, h2] at hk
    exact tell4 (K := fun a b c d S' => atS (flats [.agg [.int .i64, .int .i64, .int .i64, .int .i64], .one .bool]) K S a b c d (decide ((digitsF (frontF t w).1).2.1 = [])) S') g1.wf m1 rfl fun S' u => hk
  · rw [h1, h2] at hk
    exact tell4 (K := fun a b c d S' => atS (flats [.agg [.int .i64, .int .i64, .int .i64, .int .i64], .one .bool]) K S a b c d false S') g1.wf m1 rfl fun S' u => hk
  · rw [h1] at hk
    exact tell4 (K := fun a b c d S' => atS (flats [.agg [.int .i64, .int .i64, .int .i64, .int .i64], .one .bool]) K S a b c d false S') g1.wf m1 rfl fun S' u => hk

theorem ivf_no {t : Bs} (h : ((frontF t wIVF).2 && (digitsF (frontF t wIVF).1).2.2) = false) : ivfF t = (zSpec, false) := by
  unfold ivfF; simp only; rw [if_neg (fun h' => by rw [h'.1, h'.2] at h; cases h)]
theorem ivf_flat {t : Bs} (h : ((frontF t wIVF).2 && (digitsF (frontF t wIVF).1).2.2) = true) (h2 : (digitsF (frontF t wIVF).1).2.1 = wCF) : ivfF t = (⟨4, (digitsF (frontF t wIVF).1).1, 0, 0⟩, true) := by
  unfold ivfF; simp only; rw [if_pos (by simpa using h), if_pos h2]
theorem ivf_pq {t q1 r2 q2 r3 q3 : Bs} {n1 n2 n3 : Int} {b1 b2 b3 b4 : Bool} (h : ((frontF t wIVF).2 && (digitsF (frontF t wIVF).1).2.2) = true) (e1 : digitsF (frontF t wIVF).1 = (n1, q1, true)) (h2 : q1 ≠ wCF) (e2 : frontF q1 wPQ = (r2, b1)) (e3 : digitsF r2 = (n2, q2, b2)) (e4 : frontF q2 wX = (r3, b3)) (e5 : digitsF r3 = (n3, q3, b4)) :
    ivfF t = (⟨5, n1, n2, n3⟩, b1 && b2 && b3 && b4 && decide (q3 = [])) := by
  unfold ivfF; simp only; rw [if_pos (by simpa using h)]
  simp only [e1]
  rw [if_neg h2]
  simp only [e2, e3, e4, e5]

def ref12_ivf.Spec (P : Program) (N : Nat → Nat) : Prop := ∀ (t : Bs) (S : St) (K : Int → Int → Int → Int → Bool → St → Prop), t.length ≤ 65536 → K (ivfF t).1.k (ivfF t).1.s (ivfF t).1.p (ivfF t).1.c (ivfF t).2 S →
  CallA P (N Fn.ref12_ivf) [.str t] S (retT [.agg [.int .i64, .int .i64, .int .i64, .int .i64], .one .bool] K)
theorem ref12_ivf.spec (hF : ref12_ivf.Ok P N) (hFr : ref12_front.Spec P N) (hD : ref12_digits.Spec P N) : ref12_ivf.Spec P N := by
  intro t S K hl hk
  refine CallA.gcT (ds := [.agg [.int .i64, .int .i64, .int .i64, .int .i64], .one .bool]) rfl (CallA.wfT fun hw => ?_)
  refine ref12_ivf.run hF (newS_mk hw fun S1 g1 m1 n1 => hFr t wIVF _ _ ?_)
  have l1 := front_len t wIVF
  obtain ⟨r1, a1, e1⟩ : ∃ r a, frontF t wIVF = (r, a) := ⟨_, _, rfl⟩
  obtain ⟨n1', q1, a2, e2⟩ : ∃ n q a, digitsF r1 = (n, q, a) := ⟨_, _, _, rfl⟩
  have l2 := digits_len r1
  rw [e1] at l1
  rw [e2] at l2
  simp only at l1 l2
  have hand : ((frontF t wIVF).2 && (digitsF (frontF t wIVF).1).2.2) = (a1 && a2) := by rw [e1]; simp only [e2]
  rw [e1]
  refine hD r1 _ _ (by omega) ?_
  rw [e2]
  refine Join1.mid (fun x S' => S1 = S' ∧ x = !(a1 && a2)) (ifC_tt_ff (fun h1 => ⟨rfl, ?_⟩) (fun h1 => ⟨rfl, ?_⟩)) ?_
  · have h1 : a1 = false := by simpa using h1
    rw [h1]; rfl
  · have h1 : a1 = true := by simpa using h1
    rw [h1, Bool.true_and]
  rintro _ _ ⟨rfl, rfl⟩
  refine ifC_tt_ff (fun h1 => ?_) (fun h1 => ?_)
  · rw [ivf_no (by rw [hand]; revert h1; cases a1 <;> cases a2 <;> intro h1 <;> first | rfl | cases h1)] at hk
    exact tell4 (K := fun a b c d S' => atS (flats [.agg [.int .i64, .int .i64, .int .i64, .int .i64], .one .bool]) K S a b c d false S') g1.wf m1 rfl fun S' u => hk
  have hand2 : ((frontF t wIVF).2 && (digitsF (frontF t wIVF).1).2.2) = true := by rw [hand]; simpa using h1
  refine ifC_dec (fun h2 => ?_) (fun h2 => ?_)
  · rw [ivf_flat hand2 (by rw [e1]; simp only [e2]; exact h2), e1] at hk
    simp only [e2] at hk
    exact tell4 (K := fun a b c d S' => atS (flats [.agg [.int .i64, .int .i64, .int .i64, .int .i64], .one .bool]) K S a b c d true S') g1.wf m1 rfl fun S' u => hk
  refine hFr q1 wPQ _ _ ?_
  have l3 := front_len q1 wPQ
  obtain ⟨r2, b1, e3⟩ : ∃ r a, frontF q1 wPQ = (r, a) := ⟨_, _, rfl⟩
  obtain ⟨n2, q2, b2, e4⟩ : ∃ n q a, digitsF r2 = (n, q, a) := ⟨_, _, _, rfl⟩
  have l4 := digits_len r2
  rw [e3] at l3 ⊢
  rw [e4] at l4
  simp only at l3 l4
  refine hD r2 _ _ (by omega) ?_
  rw [e4]
  refine hFr q2 wX _ _ ?_
  have l5 := front_len q2 wX
  obtain ⟨r3, b3, e5⟩ : ∃ r a, frontF q2 wX = (r, a) := ⟨_, _, rfl⟩
  obtain ⟨n3, q3, b4, e6⟩ : ∃ n q a, digitsF r3 = (n, q, a) := ⟨_, _, _, rfl⟩
  rw [e5] at l5 ⊢
  simp only at l5
  refine hD r3 _ _ (by omega) ?_
  rw [e6]
  have ha2 : a2 = true := by
    rw [hand] at hand2
    exact (Bool.and_eq_true _ _ ▸ hand2 : a1 = true ∧ a2 = true).2
  rw [ivf_pq hand2 (by rw [e1, ← ha2]; exact e2) h2 e3 e4 e5 e6] at hk
  simp only at hk
  have hbad : ∀ _u : Unit, (b1 = false ∨ b2 = false ∨ b3 = false ∨ b4 = false) → K 5 n1' n2 n3 false S := fun _ h => by
    have e : (b1 && b2 && b3 && b4 && decide (q3 = [])) = false := by rcases h with rfl | rfl | rfl | rfl <;> simp
    rw [e] at hk; exact hk
  refine ifC_tt_ff (fun h3 => ifC_tt_ff (fun h4 => ifC_tt_ff (fun h5 => ifC_tt_ff (fun h6 => ?_) (fun h6 => ?_)) (fun h5 => ?_)) (fun h4 => ?_)) (fun h3 => ?_)
  · subst h3 h4 h5 h6
    exact tell4 (K := fun a b c d S' => atS (flats [.agg [.int .i64, .int .i64, .int .i64, .int .i64], .one .bool]) K S a b c d (decide (q3 = [])) S') g1.wf m1 rfl fun S' u => hk
  all_goals
    exact tell4 (K := fun a b c d S' => atS (flats [.agg [.int .i64, .int .i64, .int .i64, .int .i64], .one .bool]) K S a b c d false S') g1.wf m1 rfl fun S' u => hbad () (by first | exact .inl h3 | exact .inr (.inl h4) | exact .inr (.inr (.inl h5)) | exact .inr (.inr (.inr h6)))

theorem ref12_within.spec (hF : ref12_within.Ok P N) {n m : Int} {S : St} {K : Bool → St → Prop} (hk : K (within n m) S) : CallA P (N Fn.ref12_within) [.int .i64 n, .int .i64 m] S (retT [.one .bool] K) := by
  refine ref12_within.run hF (ifC_dec (fun h => ?_) (fun h => ?_))
  · have : within n m = decide (n ≤ m) := decide_eq_decide.mpr ⟨fun h' => h'.2, fun h' => ⟨h, h'⟩⟩
    rw [this] at hk; exact hk
  · have : within n m = false := decide_eq_false fun h' => h h'.1
    rw [this] at hk; exact hk

def ChecksSpec (P : Program) (f : Nat) : Prop := ∀ (x : FSpec) (S : St) (K : Int → St → Prop), K (checkF x) S → CallA P f [v4 x] S (retT [.one (.int .i64)] K)
theorem ref12_Check.spec (hF : ref12_Check.Ok P N) (hW : ref12_within.Ok P N) : ChecksSpec P (N Fn.ref12_Check) := by
  intro x S K hk
  refine CallA.gcT (ds := [.one (.int .i64)]) rfl (CallA.wfT fun hw => ?_)
  obtain ⟨k, s, p, c⟩ := x
  refine ref12_Check.run hF (newS_mk hw fun S1 g1 m1 n1 => Join1.mid (fun x S' => S1 = S' ∧ x = decide (p = 0 ∧ c = 0)) ⟨_, ld m1 rfl, ifC_dec (fun h => ⟨_, ld m1 rfl, rfl, decide_eq_decide.mpr ⟨fun h' => ⟨h, h'⟩, fun h' => h'.2⟩⟩) (fun h => ⟨rfl, (decide_eq_false fun h' => h h'.1).symm⟩)⟩ ?_)
  rintro _ _ ⟨rfl, rfl⟩
  have ok_def : okF' ⟨k, s, p, c⟩ = if k = 1 then decide (s = 0) && decide (p = 0 ∧ c = 0) else if k = 2 ∨ k = 3 then within s 64 && decide (p = 0 ∧ c = 0) else if k = 4 then within s 64 && decide (p = 0 ∧ c = 0)
    else if k = 5 then within s 64 && within p 8 && within c 16 else within s 16 && decide (p = 0 ∧ c = 0) := rfl
  have hk : K (if k < 1 ∨ 6 < k then 120 else if okF' ⟨k, s, p, c⟩ then 0 else 121) S := hk
  refine Join1.mid (fun x S' => S1 = S' ∧ (1 ≤ k ∧ k ≤ 6) ∧ x = okF' ⟨k, s, p, c⟩) ⟨_, ld m1 rfl, ?_⟩ ?_
  · rw [ok_def]
    refine ifC_dec (p := k = 1) (fun h1 => ?_) (fun h1 => ?_)
    · rw [if_pos h1]
      exact ⟨_, ld m1 rfl, ifC_dec (p := s = 0) (fun h2 => ⟨rfl, by omega, by rw [decide_eq_true h2, Bool.true_and]⟩) (fun h2 => ⟨rfl, by omega, by rw [decide_eq_false h2, Bool.false_and]⟩)⟩
    rw [if_neg h1]
    refine Join1.mid (fun x S' => S1 = S' ∧ x = decide (k = 2 ∨ k = 3)) (ifC_dec (p := k = 2) (fun h => ⟨rfl, (decide_eq_true (.inl h)).symm⟩) (fun h => ⟨rfl, decide_eq_decide.mpr ⟨fun h' => .inr h', fun h' => h'.resolve_left h⟩⟩)) ?_
    rintro _ _ ⟨rfl, rfl⟩
    refine ifC_dec (fun h2 => ?_) (fun h2 => ?_)
    · rw [if_pos h2]
      exact ⟨_, ld m1 rfl, ref12_within.spec hW (ifC_tt_ff (fun h => ⟨rfl, by omega, by rw [h, Bool.true_and]⟩) (fun h => ⟨rfl, by omega, by rw [h, Bool.false_and]⟩))⟩
    rw [if_neg h2]
    refine ifC_dec (p := k = 4) (fun h3 => ?_) (fun h3 => ?_)
    · rw [if_pos h3]
      exact ⟨_, ld m1 rfl, ref12_within.spec hW (ifC_tt_ff (fun h => ⟨rfl, by omega, by rw [h, Bool.true_and]⟩) (fun h => ⟨rfl, by omega, by rw [h, Bool.false_and]⟩))⟩
    rw [if_neg h3]
    refine ifC_dec (p := k = 5) (fun h4 => ?_) (fun h4 => ?_)
    · rw [if_pos h4]
      exact ⟨_, ld m1 rfl, ref12_within.spec hW (ifC_tt_ff (fun h => ⟨_, ld m1 rfl, ref12_within.spec hW (ifC_tt_ff (fun h' => ⟨_, ld m1 rfl, ref12_within.spec hW ⟨rfl, by omega, by rw [h, h', Bool.true_and, Bool.true_and]⟩⟩) (fun h' => ⟨rfl, by omega, by rw [h', Bool.and_false, Bool.false_and]⟩))⟩) (fun h => ⟨rfl, by omega, by rw [h, Bool.false_and, Bool.false_and]⟩))⟩
    rw [if_neg h4]
    refine ifC_dec (p := k = 6) (fun h5 => ?_) (fun h5 => ?_)
    · exact ⟨_, ld m1 rfl, ref12_within.spec hW (ifC_tt_ff (fun h => ⟨rfl, by omega, by rw [h, Bool.true_and]⟩) (fun h => ⟨rfl, by omega, by rw [h, Bool.false_and]⟩))⟩
    · rw [if_pos (by omega)] at hk; exact hk
  · rintro _ _ ⟨rfl, hk6, rfl⟩
    have hk : K (if okF' ⟨k, s, p, c⟩ = true then 0 else 121) S := by rw [if_neg (by omega)] at hk; exact hk
    refine ifC_tt_ff (fun h => ?_) (fun h => ?_)
    · rw [if_neg (by intro h'; rw [h'] at h; cases h)] at hk; exact hk
    · rw [if_pos (by simpa using h)] at hk; exact hk

end Go.Th.L
end

section
/- factory, the reference: Parse, Number, Print. -/
set_option linter.unusedSimpArgs false
set_option linter.unusedVariables false
namespace Go.Th.L
open Go Go.Th Go.Th.Pure
variable {P : Program} {N : Nat → Nat}

abbrev dt4 : DT := .agg [.int .i64, .int .i64, .int .i64, .int .i64]
def ParseOk (P : Program) (f : Nat) (EV : St → Prop) : Prop := ∀ (t : Bs) (S : St) (K : Int → Int → Int → Int → Int → St → Prop), t.length ≤ 65536 → EV S → K (parseF t).1.k (parseF t).1.s (parseF t).1.p (parseF t).1.c (parseF t).2 S →
  CallA P f [.str t] S (retT [dt4, .one (.int .i64)] K)

theorem parse_no {t : Bs} (h : (refF t).2 = false) : parseF t = (zSpec, 120) := by unfold parseF; rw [if_neg (by rw [h]; decide)]
theorem parse_bad {t : Bs} {x : FSpec} (h : refF t = (x, true)) (hc : checkF x ≠ 0) : parseF t = (zSpec, checkF x) := by unfold parseF; rw [h]; simp [hc]

/-- A try behind others. -/
def elseF (a b : FSpec × Bool) : FSpec × Bool := if a.2 then a else b
theorem ref_else (t : Bs) : refF t = elseF (elseF (elseF (if t = wFlat then (⟨1, 0, 0, 0⟩, true) else oneF t wKD 2) (oneF t wVP 3)) (oneF t wHN 6)) (ivfF t) := by
  unfold refF elseF
  by_cases h0 : t = wFlat
  · simp [h0]
  · simp only [if_neg h0]
    by_cases h1 : (oneF t wKD 2).2 = true
    · simp [h1]
    · simp only [if_neg h1]
      by_cases h2 : (oneF t wVP 3).2 = true
      · simp [h2]
      · simp only [if_neg h2]

theorem ref12_Parse.spec (hF : ref12_Parse.Ok P N) (hO : ref12_one.Spec P N) (hI : ref12_ivf.Spec P N) (hC : ChecksSpec P (N Fn.ref12_Check)) (EV : St → Prop) : ParseOk P (N Fn.ref12_Parse) EV := by
  intro t S K hl _ hk
  refine CallA.gcT (ds := [dt4, .one (.int .i64)]) rfl (CallA.wfT fun hw => ?_)
  refine ref12_Parse.run hF (newS_mk hw fun S1 g1 m1 n1 => newS_mk g1.wf fun S2 g2 m2 n2 => st_mk g2.wf m2 rfl (by simp [V.cells]) rfl fun S3 u3 m3 n3 => ?_)
  simp only [over, V.cells] at m3
  have g13 : Grow S1 S3 := g2.after u3 (fun i hi => by simp at hi; subst hi; exact .inl (Nat.le_refl _))
  let M (A : FSpec × Bool) : Bool → St → Prop := fun b S' => Grow S1 S' ∧ S'.get S1.next = some (.cells (c4 A.1) true) ∧ b = A.2
  have keep : ∀ {A : FSpec × Bool} {S' : St} (y : FSpec × Bool), Grow S1 S' → S'.get S1.next = some (.cells (c4 A.1) true) → A.2 = false → ifS (storeV S' 4 (.ptr S1.next 0) (v4 y.1)) fun S9 => M (elseF A y) y.2 S9 := by
    intro A S' y g m hA
    have e : elseF A y = y := by unfold elseF; rw [if_neg (by rw [hA]; decide)]
    rw [e]
    exact st_mk g.wf m rfl (by simp [V.cells]) rfl fun S9 u9 m9 n9 => ⟨g.after u9 (fun i hi => by simp at hi; subst hi; exact .inl (Nat.le_refl _)), by simpa [over, V.cells] using m9, rfl⟩
  have stay : ∀ {A : FSpec × Bool} {S' : St} (y : FSpec × Bool), Grow S1 S' → S'.get S1.next = some (.cells (c4 A.1) true) → A.2 = true → M (elseF A y) A.2 S' := by
    intro A S' y g m hA
    have e : elseF A y = A := by unfold elseF; rw [if_pos hA]
    rw [e]; exact ⟨g, m, rfl⟩
  refine Join1.mid (M (if t = wFlat then (⟨1, 0, 0, 0⟩, true) else oneF t wKD 2)) (ifC_ndec (fun h => hO t wKD 2 _ _ hl ?_) (fun h => ?_)) ?_
  · rw [if_neg (show ¬ t = wFlat from h)]
    exact st_mk g13.wf m3 rfl (by simp [V.cells]) rfl fun S9 u9 m9 n9 => ⟨g13.after u9 (fun i hi => by simp at hi; subst hi; exact .inl (Nat.le_refl _)), by simpa [over, V.cells] using m9, rfl⟩
  · rw [if_pos (show t = wFlat from h)]
    exact ⟨g13, by simpa using m3, decide_eq_true h⟩
  rintro _ S4 ⟨g4, m4, rfl⟩
  refine Join1.mid (M (elseF (if t = wFlat then (⟨1, 0, 0, 0⟩, true) else oneF t wKD 2) (oneF t wVP 3))) (ifC_tt_ff (fun h => hO t wVP 3 _ _ hl (keep _ g4 m4 (by simpa using h))) (fun h => stay _ g4 m4 (by simpa using h))) ?_
  rintro _ S7 ⟨g7, m7, rfl⟩
  refine Join1.mid (M (elseF (elseF (if t = wFlat then (⟨1, 0, 0, 0⟩, true) else oneF t wKD 2) (oneF t wVP 3)) (oneF t wHN 6))) (ifC_tt_ff (fun h => hO t wHN 6 _ _ hl (keep _ g7 m7 (by simpa using h))) (fun h => stay _ g7 m7 (by simpa using h))) ?_
  rintro _ S10 ⟨g10, m10, rfl⟩
  refine Join1.mid (M (refF t)) (ifC_tt_ff (fun h => hI t _ _ hl ?_) (fun h => ?_)) ?_
  · rw [ref_else]; exact keep _ g10 m10 (by simpa using h)
  · rw [ref_else]; exact stay _ g10 m10 (by simpa using h)
  rintro _ S13 ⟨g13', m13, rfl⟩
  have m1' := g13'.get m1
  refine ifC_tt_ff (fun h => ?_) (fun h => ?_)
  · rw [parse_no (by simpa using h)] at hk
    exact tell4 (K := fun a b c d S' => atS (flats [dt4, .one (.int .i64)]) K S a b c d 120 S') g13'.wf m1' rfl fun S' u => hk
  · obtain ⟨x, hx⟩ : ∃ x, refF t = (x, true) := ⟨(refF t).1, by have : (refF t).2 = true := by simpa using h
                                                                rw [← this]⟩
    rw [hx] at m13
    refine ⟨_, _, _, _, ldN m13 (by simp) rfl, hC x _ _ (ifC_ndec (fun hc => ?_) (fun hc => ⟨_, _, _, _, ldN m13 (by simp) rfl, ?_⟩))⟩
    · rw [parse_bad hx hc] at hk
      exact tell4 (K := fun a b c d S' => atS (flats [dt4, .one (.int .i64)]) K S a b c d (checkF x) S') g13'.wf m1' rfl fun S' u => hk
    · rw [parse_of hx hc] at hk
      exact tell4 (K := fun a b c d S' => atS (flats [dt4, .one (.int .i64)]) K S a b c d 0 S') g13'.wf m1' rfl fun S' u => hk

theorem digit_cut : ∀ d : Nat, d < 10 → ((([48, 49, 50, 51, 52, 53, 54, 55, 56, 57] : Bs).take (d + 1)).drop d) = [UInt8.ofNat (48 + d)] := by
  have h : ∀ d : Fin 10, ((([48, 49, 50, 51, 52, 53, 54, 55, 56, 57] : Bs).take (d.val + 1)).drop d.val) = [UInt8.ofNat (48 + d.val)] := by decide
  exact fun d hd => h ⟨d, hd⟩

def NumsOk (P : Program) (f : Nat) : Prop := ∀ (n : Int) (S : St) (K : Bs → St → Prop), 0 ≤ n → n < 100 → K (numF n) S → CallA P f [.int .i64 n] S (retT [.one .str] K)
theorem ref12_Number.spec (hF : ref12_Number.Ok P N) : NumsOk P (N Fn.ref12_Number) := by
  intro n S K h0 h1 hk
  refine ref12_Number.run hF (Loop2.ind (fun m u s S' => S = S' ∧ ∃ a : Nat, u = a ∧ m = (if s = [] then a + 1 else a) ∧ s.length + a ≤ n.toNat + 1 ∧ (if s = [] then Lib.decDigits a else if a = 0 then s else Lib.decDigits a ++ s) = numF n) (n.toNat + 1) ⟨rfl, n.toNat, by omega, rfl, by simp, rfl⟩ ?_)
  rintro m _ s _ ⟨rfl, a, rfl, rfl, hlen, he⟩
  refine Join0.mid (fun S' => S = S' ∧ (s = [] ∨ 0 < a)) (ifC_dec (fun h => ⟨rfl, .inl h⟩) (fun h => ifC_dec (fun h2 => ⟨rfl, .inr (by omega)⟩) (fun h2 => ?_))) ?_
  · have e : a = 0 := by omega
    rw [if_neg h, if_pos e] at he
    rw [← he] at hk; exact hk
  rintro _ ⟨rfl, hor⟩
  have ed : Int.tmod (a : Int) 10 = ((a % 10 : Nat) : Int) := by rw [Int.tmod_eq_emod_of_nonneg (by omega)]; omega
  have eq : Int.tdiv (a : Int) 10 = ((a / 10 : Nat) : Int) := by rw [Int.tdiv_eq_ediv_of_nonneg (by omega)]; omega
  refine ⟨by decide, setI_mk ed ⟨by decide, setI_mk ed (setI_mk (wrap_nat (by omega)) ⟨_, sliceStr_sub (l := a % 10) (h := a % 10 + 1) (by omega) (by rw [show ([48, 49, 50, 51, 52, 53, 54, 55, 56, 57] : Bs).length = 10 from rfl]; omega), ?_, by decide, setI_mk (n := ((a / 10 : Nat) : Int)) (by rw [eq, IntKind.wrap_i64]; omega) ⟨a / 10, ?_, rfl, a / 10, rfl, ?_, ?_, ?_⟩⟩)⟩⟩
  · rw [digit_cut _ (by omega), List.length_singleton]
    have : s.length ≤ n.toNat + 1 := by omega
    omega
  · split
    · omega
    · rename_i h; have := hor.resolve_left h; omega
  · rw [digit_cut _ (by omega), if_neg (by simp)]
  · rw [digit_cut _ (by omega)]
    simp only [List.cons_append, List.nil_append, List.length_cons]
    by_cases ha : a = 0
    · subst ha
      have : s = [] := hor.resolve_right (by omega)
      subst this; simp
    · omega
  · rw [digit_cut _ (by omega), if_neg (by simp)]
    rw [← he]
    by_cases ha : a < 10
    · rw [if_pos (by omega)]
      have e1 : Lib.decDigits a = [UInt8.ofNat (48 + a % 10)] := by rw [dec1 ha, Nat.mod_eq_of_lt ha]
      by_cases hs : s = []
      · rw [if_pos hs, hs, e1]; rfl
      · rw [if_neg hs, if_neg (by have := hor.resolve_left hs; omega), e1]
    · rw [if_neg (by omega)]
      have e1 := dec2 (n := a) (by omega)
      by_cases hs : s = []
      · rw [if_pos hs, hs, e1]; rfl
      · rw [if_neg hs, if_neg (by omega), e1, List.append_assoc]

end Go.Th.L
end

section
/- Plain: what a text may be, by its first word. -/
set_option linter.unusedSimpArgs false
set_option linter.unusedVariables false
namespace Go.Th.Pure
open Go Go.Th Go.Th.L

theorem digits_eq (r : Bs) : digitsF r = if numOk r then (numV r, numR r, true) else (0, r, false) := rfl
theorem ivf2_no {t : Bs} (h : (frontF t wIVF).2 = false) : (ivfF t).2 = false := by rw [ivf_no (by rw [h]; rfl)]
theorem one2_no {t w : Bs} {k : Int} (h : (frontF t w).2 = false) : (oneF t w k).2 = false := by unfold oneF; rw [h]; rfl
theorem front_no' {a b : UInt8} (h : a ≠ b) (r w : Bs) : (frontF (a :: r) (b :: w)).2 = false := by rw [front_no h]
theorem one_ok {w r : Bs} {k : Int} : oneF (w ++ r) w k = if numOk r = true ∧ numR r = [] then (⟨k, numV r, 0, 0⟩, true) else ((oneF (w ++ r) w k).1, false) := by
  rw [one_app, digits_eq]
  by_cases h : numOk r = true
  · simp only [h, if_true, true_and]
    by_cases h2 : numR r = []
    · simp [h2]
    · simp [h2]
  · simp [h]

/-- What the text's reading tells of it. -/
def Tells (t : Bs) (s : FSpec) (ok : Bool) (r : Bs) : Prop := if ok = true ∧ r = [] then refF t = (s, true) else (refF t).2 = false
theorem ref_no {t : Bs} (h0 : t ≠ wFlat) (h1 : (oneF t wKD 2).2 = false) (h2 : (oneF t wVP 3).2 = false) (h3 : (oneF t wHN 6).2 = false) (h4 : (ivfF t).2 = false) : (refF t).2 = false := by
  unfold refF
  rw [if_neg h0, if_neg (by rw [h1]; decide), if_neg (by rw [h2]; decide), if_neg (by rw [h3]; decide)]; exact h4
theorem tells_flat (r : Bs) : Tells (wFlat ++ r) ⟨1, 0, 0, 0⟩ true r := by
  unfold Tells
  by_cases h : r = []
  · subst h; rw [if_pos ⟨rfl, rfl⟩]; rfl
  · rw [if_neg (fun h' => h h'.2)]
    exact ref_no (fun e => h (by simpa [wFlat] using e)) (one_no (by decide) _ _ _) (one_no (by decide) _ _ _) (one_no (by decide) _ _ _) (ivf2_no (front_no' (by decide) _ _))
theorem tells_kd (r : Bs) : Tells (wKD ++ r) ⟨2, numV r, 0, 0⟩ (numOk r) (numR r) := by
  unfold Tells
  have e := one_ok (w := wKD) (r := r) (k := 2)
  by_cases h : numOk r = true ∧ numR r = []
  · rw [if_pos h] at e ⊢
    rw [refKD _ (by rw [e]), e]
  · rw [if_neg h] at e ⊢
    exact ref_no (fun e => by simp [wKD, wFlat] at e) (by rw [e]) (one_no (by decide) _ _ _) (one_no (by decide) _ _ _) (ivf2_no (front_no' (by decide) _ _))
theorem tells_vp (r : Bs) : Tells (wVP ++ r) ⟨3, numV r, 0, 0⟩ (numOk r) (numR r) := by
  unfold Tells
  have e := one_ok (w := wVP) (r := r) (k := 3)
  by_cases h : numOk r = true ∧ numR r = []
  · rw [if_pos h] at e ⊢
    rw [refVP _ (by rw [e]), e]
  · rw [if_neg h] at e ⊢
    exact ref_no (fun e => by simp [wVP, wFlat] at e) (one_no (by decide) _ _ _) (by rw [e]) (one_no (by decide) _ _ _) (ivf2_no (front_no' (by decide) _ _))
theorem tells_hn (r : Bs) : Tells (wHN ++ r) ⟨6, numV r, 0, 0⟩ (numOk r) (numR r) := by
  unfold Tells
  have e := one_ok (w := wHN) (r := r) (k := 6)
  by_cases h : numOk r = true ∧ numR r = []
  · rw [if_pos h] at e ⊢
    rw [refHN _ (by rw [e]), e]
  · rw [if_neg h] at e ⊢
    exact ref_no (fun e => by simp [wHN, wFlat] at e) (one_no (by decide) _ _ _) (one_no (by decide) _ _ _) (by rw [e]) (ivf2_no (front_no' (by decide) _ _))
theorem tells_none {t : Bs} (h0 : (frontF t wFlat).2 = false) (h1 : (frontF t wKD).2 = false) (h2 : (frontF t wVP).2 = false) (h3 : (frontF t wHN).2 = false) (h4 : (frontF t wIVF).2 = false) (s : FSpec) : Tells t s false t := by
  unfold Tells
  rw [if_neg (fun h => by cases h.1)]
  refine ref_no (fun e => ?_) (one2_no h1) (one2_no h2) (one2_no h3) (ivf2_no h4)
  subst e; exact absurd h0 (by decide)
theorem ivf_and (r : Bs) : ((frontF (wIVF ++ r) wIVF).2 && (digitsF (frontF (wIVF ++ r) wIVF).1).2.2) = numOk r := by
  rw [front_app, digits_eq]; by_cases h : numOk r = true <;> simp [h]
theorem tells_ivf (r : Bs) (hp : (frontF (numR r) wPQ).2 = false) : Tells (wIVF ++ r) ⟨4, numV r, 0, 0⟩ ((frontF (numR r) wCF).2 && numOk r) (frontF (numR r) wCF).1 := by
  unfold Tells
  rw [refIVF]
  by_cases hn : numOk r = true
  · have hand := ivf_and r
    rw [hn] at hand
    have ed : digitsF (frontF (wIVF ++ r) wIVF).1 = (numV r, numR r, true) := by rw [front_app, digits_eq, if_pos hn]
    by_cases hf : (frontF (numR r) wCF).2 = true
    · have ef : numR r = wCF ++ (frontF (numR r) wCF).1 := front_inv (by rw [← hf])
      by_cases he : (frontF (numR r) wCF).1 = []
      · rw [if_pos ⟨by rw [hf, hn]; rfl, he⟩]
        rw [ivf_flat hand (by rw [ed]; simp only; rw [ef, he, List.append_nil]), ed]
      · rw [if_neg (fun h => he h.2)]
        have hne : numR r ≠ wCF := fun e => he (by rw [e]; rfl)
        have e1 : frontF (numR r) wPQ = ((frontF (numR r) wPQ).1, false) := by rw [← hp]
        rw [ivf_pq hand ed hne e1 rfl rfl rfl]
        simp
    · have hf' : (frontF (numR r) wCF).2 = false := by simpa using hf
      rw [if_neg (fun h => by rw [hf'] at h; cases h.1)]
      have hne : numR r ≠ wCF := fun e => by rw [e] at hf; exact hf rfl
      have e1 : frontF (numR r) wPQ = ((frontF (numR r) wPQ).1, false) := by rw [← hp]
      rw [ivf_pq hand ed hne e1 rfl rfl rfl]
      simp
  · have hn' : numOk r = false := by simpa using hn
    rw [if_neg (fun h => by rw [hn', Bool.and_false] at h; cases h.1)]
    rw [ivf_no (by rw [ivf_and, hn'])]
theorem tells_pq {r r2 r4 : Bs} {bx : Bool} (hp : frontF (numR r) wPQ = (r2, true)) (hx : frontF (numR r2) wX = (r4, bx)) (s : FSpec) (hs : numOk r = true → numOk r2 = true → bx = true → numOk r4 = true → s = ⟨5, numV r, numV r2, numV r4⟩) :
    Tells (wIVF ++ r) s (numOk r && numOk r2 && bx && numOk r4) (numR r4) := by
  unfold Tells
  rw [refIVF]
  by_cases hn : numOk r = true
  · have hand := ivf_and r
    rw [hn] at hand
    have ed : digitsF (frontF (wIVF ++ r) wIVF).1 = (numV r, numR r, true) := by rw [front_app, digits_eq, if_pos hn]
    have hne : numR r ≠ wCF := fun e => by rw [e] at hp; simp [frontF, wCF, wPQ] at hp
    by_cases h2 : numOk r2 = true
    · have e3 : digitsF r2 = (numV r2, numR r2, true) := by rw [digits_eq, if_pos h2]
      by_cases h4 : numOk r4 = true
      · have e5 : digitsF r4 = (numV r4, numR r4, true) := by rw [digits_eq, if_pos h4]
        rw [ivf_pq hand ed hne hp e3 hx e5]
        cases bx with
        | false => simp
        | true =>
          by_cases h5 : numR r4 = []
          · rw [if_pos ⟨by simp [hn, h2, h4], h5⟩, hs hn h2 rfl h4, h5]; rfl
          · rw [if_neg (fun h => h5 h.2)]; simp [h5]
      · have h4' : numOk r4 = false := by simpa using h4
        have e5 : digitsF r4 = (0, r4, false) := by rw [digits_eq, if_neg h4]
        rw [if_neg (fun h => by rw [h4', Bool.and_false] at h; cases h.1), ivf_pq hand ed hne hp e3 hx e5]
        simp
    · have h2' : numOk r2 = false := by simpa using h2
      have e3 : digitsF r2 = (0, r2, false) := by rw [digits_eq, if_neg h2]
      rw [if_neg (fun h => by rw [h2', Bool.and_false, Bool.false_and] at h; cases h.1), ivf_pq hand ed hne hp e3 rfl rfl]
      simp
  · have hn' : numOk r = false := by simpa using hn
    rw [if_neg (fun h => by rw [hn', Bool.false_and, Bool.false_and, Bool.false_and] at h; cases h.1)]
    rw [ivf_no (by rw [ivf_and, hn'])]

/-! ## strconv.Atoi at digits -/
theorem uint_digits (l : Bs) : ∀ (acc k : Nat), (∀ b ∈ l, isDig b = true) → acc < 10 ^ k → k + l.length ≤ 18 → Lib.parseUint10 acc l = .ok (valA acc l) := by
  induction l with
  | nil => intro acc k _ _ _; rfl
  | cons b l ih =>
    intro acc k hd ha hk
    have hb := isDig_iff.mp (hd b List.mem_cons_self)
    have hp : (10 : Nat) ^ k ≤ 10 ^ 17 := Nat.pow_le_pow_right (by omega) (by simp at hk; omega)
    have hp2 : (10 : Nat) ^ (k + 1) = 10 ^ k * 10 := Nat.pow_succ _ _
    rw [Lib.parseUint10, if_pos hb, if_neg (by omega), if_neg (by omega)]
    exact ih _ (k + 1) (fun x hx => hd x (List.mem_cons_of_mem _ hx)) (by omega) (by simp at hk ⊢; omega)
theorem atoi_digits {l : Bs} (h0 : l ≠ []) (hd : ∀ b ∈ l, isDig b = true) (hl : l.length ≤ 9) : Lib.atoiAll l = .ok (valD l : Int) := by
  cases l with
  | nil => exact absurd rfl h0
  | cons c r =>
    have hc := isDig_iff.mp (hd c List.mem_cons_self)
    have e := uint_digits (c :: r) 0 0 hd (by simp) (by simp at hl ⊢; omega)
    have hv := valA_lt (c :: r) 0 hd
    have h2 : (10 : Nat) ^ (c :: r).length ≤ 10 ^ 9 := Nat.pow_le_pow_right (by omega) hl
    have e2 : Lib.parseMag (c :: r) = .ok (valA 0 (c :: r)) := by unfold Lib.parseMag; rw [if_neg (by simp), e]
    unfold Lib.atoiAll
    simp only
    rw [if_neg (by omega), e2]
    simp only
    rw [if_neg (by omega), if_neg (by omega), if_neg (by omega)]
    rfl

end Go.Th.Pure
end
