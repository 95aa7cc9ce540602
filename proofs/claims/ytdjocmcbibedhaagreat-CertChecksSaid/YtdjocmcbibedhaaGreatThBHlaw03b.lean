/- What the row of one statement stands on: a store, abstract code, functions of the program and their laws (ThHvec2, ThHvec3, ThHlaw03b). -/
import Derived.Test.YtdjocmcbibedhaaGreatThBPbox
import Derived.Test.YtdjocmcbibedhaaGreatThBHlaw03a

section
/- vec, the document: regions checked; what lies in one. -/
set_option linter.unusedSimpArgs false
set_option linter.unusedVariables false
namespace Go.Th.L
open Go Go.Th Go.Th.Pure
variable {P : Program} {N : Nat → Nat}

structure RegAt (S : St) (a b c : V) (h l : Int) (r : Reg) : Prop where
  lo : IntsAt S a r.lo
  hi : IntsAt S b r.hi
  ids : IntsAt S c r.ids
  rad : Wok h l
  radN : wN h l = r.rad
abbrev regC (s : Int) (a b : V) (h l : Int) (c : V) : List V := [.int .i64 s, a, b, .int .u64 h, .int .u64 l, c]
abbrev regV (s : Int) (a b : V) (h l : Int) (c : V) : V := .agg (regC s a b h l c)
theorem RegAt.grow {S S' : St} {a b c : V} {h l : Int} {r : Reg} (hr : RegAt S a b c h l r) (g : Grow S S') : RegAt S' a b c h l r := ⟨hr.lo.grow g, hr.hi.grow g, hr.ids.grow g, hr.rad, hr.radN⟩
theorem RegAt.ro {S : St} {a b c : V} {h l : Int} {r : Reg} (hr : RegAt S a b c h l r) : RegAt S.ro a b c h l r := ⟨hr.lo.ro, hr.hi.ro, hr.ids.ro, hr.rad, hr.radN⟩

theorem getD_get {l : List Int} {j : Nat} (h : j < l.length) : l.getD j 0 = l[j] := by simp [h]

def ChecksReg (P : Program) (f : Nat) : Prop := ∀ (r : Reg) (a b c : V) (h l d : Int) (S : St) (K : Int → St → Prop), RegAt S a b c h l r → K (errReg r d) S → CallA P f [regV r.shape a b h l c, .int .i64 d] S (retT [.one (.int .i64)] K)

theorem ids_step {l : List Int} {j : Nat} (hj : j < l.length) (h : ∀ i, i < j → (1 ≤ l.getD i 0 ∧ l.getD i 0 ≤ 1000000000) ∧ (0 < i → l.getD (i - 1) 0 < l.getD i 0)) (h1 : 1 ≤ l[j] ∧ l[j] ≤ 1000000000) (h2 : 0 < j → l.getD (j - 1) 0 < l[j]) :
    ∀ i, i < j + 1 → (1 ≤ l.getD i 0 ∧ l.getD i 0 ≤ 1000000000) ∧ (0 < i → l.getD (i - 1) 0 < l.getD i 0) := by
  intro i hi
  rcases Nat.lt_or_ge i j with h' | h'
  · exact h i h'
  · have : i = j := by omega
    subst this
    rw [getD_get hj]; exact ⟨h1, h2⟩

theorem sumlen_zero {a b : Nat} (ha : a ≤ 4611686018427387904) (hb : b ≤ 4611686018427387904) : decide (IntKind.i64.wrap ((a : Int) + (b : Int)) = 0) = decide (a = 0 ∧ b = 0) := by
  refine decide_eq_decide.mpr ?_
  rw [IntKind.wrap_i64]; omega

theorem vec_CheckRegion.spec (hF : vec_CheckRegion.Ok P N) (hd : vec_dim.Spec P N) (hC : ChecksV P (N Fn.vec_Check)) : ChecksReg P (N Fn.vec_CheckRegion) := by
  intro r a b c h l d S K hr hk
  refine CallA.gcT (ds := [.one (.int .i64)]) rfl (CallA.wfT fun hw => ?_)
  have hr := hr.ro
  refine vec_CheckRegion.run hF (newS_mk hw fun S1 g1 m1 n1 => hd d _ _ ?_)
  have hr := hr.grow g1
  have hra := hr.lo.le
  have hrb := hr.hi.le
  rcases (Decidable.em (1 ≤ d ∧ d ≤ 64)).symm with hdd | hdd
  · rw [errReg, if_pos (by omega)] at hk
    exact ifC_tt (by simp [hdd]) hk
  rw [errReg, if_neg (by omega)] at hk
  refine ifC_ff (by simp [hdd]) (ifS_mk (ld m1 rfl) ⟨_, hr.ids.len, ?_⟩)
  refine Loop2.ind (fun m x y S' => S' = S1 ∧ ∃ j : Nat, y = j ∧ m = r.ids.length - j ∧ j ≤ r.ids.length ∧ x = (if j = 0 then 0 else r.ids.getD (j - 1) 0) ∧ ∀ i, i < j → (1 ≤ r.ids.getD i 0 ∧ r.ids.getD i 0 ≤ 1000000000) ∧ (0 < i → r.ids.getD (i - 1) 0 < r.ids.getD i 0)) r.ids.length ⟨rfl, 0, rfl, rfl, Nat.zero_le _, rfl, fun i h => by omega⟩ ?_
  rintro m _ _ S3 ⟨rfl, j, rfl, rfl, hj, rfl, hall⟩
  refine ifC_dec (fun h1 => ?_) (fun h1 => ?_)
  · have h1 : j < r.ids.length := by omega
    have hbad : ¬ ((1 ≤ r.ids[j] ∧ r.ids[j] ≤ 1000000000) ∧ (0 < j → r.ids.getD (j - 1) 0 < r.ids[j])) → K 32 S := fun hn => by
      rw [if_pos (fun hf => hn (by have := hf.2 j h1; rwa [getD_get h1] at this))] at hk
      exact hk
    refine ifS_mk (IntsAt.idx hr.ids h1) ⟨_, IntsAt.get hr.ids h1, ifC_dec (fun h2 => hbad ?_) (fun h2 => ifC_dec (fun h3 => hbad (by omega)) (fun h3 => setI_mk (wrap_nat (by have := hr.ids.le; omega)) ⟨r.ids.length - (j + 1), by omega, rfl, j + 1, rfl, rfl, h1, ?_, ids_step h1 hall ?_ ?_⟩))⟩
    · by_cases hj0 : j = 0
      · subst hj0; rw [if_pos rfl] at h2; omega
      · rw [if_neg hj0] at h2
        intro hh
        have := hh.2 (by omega); omega
    · rw [if_neg (by omega), Nat.add_sub_cancel, getD_get h1]
    · by_cases hj0 : j = 0
      · subst hj0; rw [if_pos rfl] at h2; omega
      · rw [if_neg hj0] at h2
        have := (hall (j - 1) (by omega)).1; omega
    · intro hj0
      rw [if_neg (by omega)] at h2; omega
  · have hjl : j = r.ids.length := by omega
    subst hjl
    have hids : IdsOk r.ids := fun i hi => hall i hi
    refine ⟨_, _, ldN m1 (by simp) rfl, _, eqW0 hr.rad, ?_⟩
    rw [hr.radN]
    refine Join0.mid (fun S' => S' = S3 ∧ r.shape = 2 ∧ r.rad = 0) ?_ ?_
    · refine Join1.mid (fun x S' => S' = S3 ∧ x = decide (r.shape = 1 ∧ r.lo.length = 0 ∧ r.hi.length = 0 ∧ r.rad = 0)) ⟨_, ld m1 rfl, ifC_dec (fun h2 => ifS_mk (ld m1 rfl) ⟨_, hr.lo.len, ifS_mk (ld m1 rfl) ⟨_, hr.hi.len, setI_intro fun z hz => ?_⟩⟩) (fun h2 => ⟨rfl, by rw [decide_eq_false]; omega⟩)⟩ ?_
      · subst hz
        rw [sumlen_zero hra hrb]
        refine ifC_dec (fun h3 => ⟨rfl, decide_eq_decide.mpr (by omega)⟩) (fun h3 => ⟨rfl, by rw [decide_eq_false]; omega⟩)
      · rintro _ S5 ⟨rfl, rfl⟩
        refine ifC_dec (fun h2 => ?_) (fun h2 => ?_)
        · have hf : FormOk r := .inl h2
          rw [if_neg (by simp [hf, hids]), if_pos h2.1] at hk
          exact hk
        · refine Join1.mid (fun x S' => S' = S5 ∧ x = decide (r.shape = 3 ∧ r.hi.length = 0)) ⟨_, ld m1 rfl, ifC_dec (fun h3 => ifS_mk (ld m1 rfl) ⟨_, hr.hi.len, rfl, decide_eq_decide.mpr (by omega)⟩) (fun h3 => ⟨rfl, by rw [decide_eq_false]; omega⟩)⟩ ?_
          rintro _ S6 ⟨rfl, rfl⟩
          refine ifC_dec (fun h3 => ?_) (fun h3 => ?_)
          · have hf : FormOk r := .inr (.inr h3)
            rw [if_neg (by simp [hf, hids]), if_neg (by omega), if_pos (.inr h3.1)] at hk
            exact ifS_mk (ld m1 rfl) (hC a r.lo d _ _ hr.lo hk)
          · have hbad : ¬ (r.shape = 2 ∧ r.rad = 0) → K 32 S := fun hn => by
              rw [if_pos (fun hf => by rcases hf.1 with h | h | h <;> omega)] at hk
              exact hk
            exact ⟨_, ld m1 rfl, ifC_ndec (fun h4 => hbad (by omega)) (fun h4 => ifC_tt_ff (fun h5 => hbad (by simp at h5; omega)) (fun h5 => ⟨rfl, h4, by simpa using h5⟩))⟩
    · rintro S4 ⟨rfl, hs2, hr0⟩
      have hf : FormOk r := .inr (.inl ⟨hs2, hr0⟩)
      rw [if_neg (by simp [hf, hids]), if_neg (by omega)] at hk
      refine ifS_mk (ld m1 rfl) (ifS_mk (ld m1 rfl) ⟨hr.lo.cells1, hr.hi.cells1, newS_mk g1.wf fun S8 g8 m8 n8 => ⟨_, lenV_slice .., ?_⟩⟩)
      have hr8 := hr.grow g8
      have m18 := g8.get m1
      refine Loop1.ind (fun m x S' => S' = S8 ∧ ∃ j : Nat, x = j ∧ m = 2 - j ∧ j ≤ 2 ∧ (0 < j → checkV r.lo d = 0) ∧ (1 < j → checkV r.hi d = 0)) 2 ⟨rfl, 0, rfl, rfl, by omega, by omega, by omega⟩ ?_
      rintro m _ S9 ⟨rfl, j, rfl, rfl, hj, h0, h1⟩
      refine ifC_dec (fun h3 => ?_) (fun h3 => ?_)
      · have hjj : j = 0 ∨ j = 1 := by omega
        rcases hjj with rfl | rfl
        · refine ifS_mk (arr_ix (j := 0) (by omega)) (ifS_mk (ld m8 rfl) (hC a r.lo d _ _ hr8.lo (ifC_ndec (fun h4 => ?_) (fun h4 => setI_mk (wrap_nat (by omega)) ⟨1, by omega, rfl, 1, rfl, rfl, by omega, fun _ => h4, by omega⟩))))
          rw [if_pos (.inl h4)] at hk; exact hk
        · rw [if_neg (by have := h0 (by omega); omega)] at hk
          refine ifS_mk (arr_ix (j := 1) (by omega)) (ifS_mk (ld m8 rfl) (hC b r.hi d _ _ hr8.hi (ifC_ndec (fun h4 => ?_) (fun h4 => setI_mk (wrap_nat (by omega)) ⟨0, by omega, rfl, 2, rfl, rfl, by omega, fun _ => h0 (by omega), fun _ => h4⟩))))
          rw [if_pos h4] at hk; exact hk
      · have z1 := h0 (by omega)
        have z2 := h1 (by omega)
        rw [if_neg (by omega), if_neg (by omega)] at hk
        obtain ⟨_, _, l1, _⟩ := checkV_ok z1
        obtain ⟨_, _, l2, _⟩ := checkV_ok z2
        refine ifS_mk (ld m18 rfl) ⟨_, hr8.lo.len, Loop1.ind (fun m x S' => S' = S9 ∧ ∃ j : Nat, x = j ∧ m = r.lo.length - j ∧ j ≤ r.lo.length ∧ ∀ i, i < j → r.lo.getD i 0 ≤ r.hi.getD i 0) r.lo.length ⟨rfl, 0, rfl, rfl, Nat.zero_le _, fun i h => by omega⟩ ?_⟩
        rintro m _ S11 ⟨rfl, k, rfl, rfl, hk1, hle⟩
        refine ifC_dec (fun h4 => ?_) (fun h4 => ?_)
        · have h4 : k < r.lo.length := by omega
          have h4b : k < r.hi.length := by omega
          refine ifS_mk (ld m18 rfl) (ifS_mk (IntsAt.idx hr8.lo h4) ⟨_, IntsAt.get hr8.lo h4, ifS_mk (ld m18 rfl) (ifS_mk (IntsAt.idx hr8.hi h4b) ⟨_, IntsAt.get hr8.hi h4b, ifC_dec (fun h5 => ?_) (fun h5 => setI_mk (wrap_nat (by omega)) ⟨r.lo.length - (k + 1), by omega, rfl, k + 1, rfl, rfl, h4, fun i hi => ?_⟩)⟩)⟩)
          · rw [if_neg (fun hl => by have := hl k (by omega); rw [getD_get h4, getD_get h4b] at this; omega)] at hk
            exact hk
          · rcases Nat.lt_or_ge i k with h' | h'
            · exact hle i h'
            · have : i = k := by omega
              subst this; rw [getD_get h4, getD_get h4b]; omega
        · rw [if_pos (show LeAll r.lo r.hi d.toNat from fun i hi => hle i (by omega))] at hk
          exact hk

def ref03_ids.Spec (P : Program) (N : Nat → Nat) : Prop := ∀ (v : V) (l : List Int) (S : St) (K : Bool → St → Prop), IntsAt S v l → K (decide (IdsOk l)) S → CallA P (N Fn.ref03_ids) [v] S (retT [.one .bool] K)
theorem ref03_ids.spec (hF : ref03_ids.Ok P N) (hI : ref03_Id.Spec P N) : ref03_ids.Spec P N := by
  intro v l S K hv hk
  have hle := hv.le
  refine ref03_ids.run hF (Loop1.ind (fun m x S' => S' = S ∧ ∃ j : Nat, x = j ∧ m = l.length - j ∧ j ≤ l.length ∧ ∀ i, i < j → (1 ≤ l.getD i 0 ∧ l.getD i 0 ≤ 1000000000) ∧ (0 < i → l.getD (i - 1) 0 < l.getD i 0)) l.length ⟨rfl, 0, rfl, rfl, Nat.zero_le _, fun i h => by omega⟩ ?_)
  rintro m _ S1 ⟨rfl, j, rfl, rfl, hj, hall⟩
  refine ⟨_, hv.len, ifC_dec (fun h1 => ?_) (fun h1 => ?_)⟩
  · have h1 : j < l.length := by omega
    have hbad : ¬ ((1 ≤ l[j] ∧ l[j] ≤ 1000000000) ∧ (0 < j → l.getD (j - 1) 0 < l[j])) → K false S1 := fun hn => by
      rw [decide_eq_false (fun hf => hn (by have := hf j h1; rwa [getD_get h1] at this))] at hk
      exact hk
    refine ifS_mk (IntsAt.idx hv h1) ⟨_, IntsAt.get hv h1, hI _ _ _ (ifC_tt_ff (fun h2 => hbad ?_) (fun h2 => ?_))⟩
    · intro hh
      have := (idOk_iff (n := l[j])).mpr hh.1
      rw [this] at h2; cases h2
    · have h3 := (idOk_iff (n := l[j])).mp (by simpa using h2)
      refine ifC_dec (fun h4 => ?_) (fun h4 => ?_)
      · have h5 : j - 1 < l.length := by omega
        refine setI_mk (n := ((j - 1 : Nat) : Int)) (by rw [IntKind.wrap_i64]; omega) (ifS_mk (IntsAt.idx hv h5) ⟨_, IntsAt.get hv h5, ifS_mk (IntsAt.idx hv h1) ⟨_, IntsAt.get hv h1, ifC_dec (fun h6 => hbad ?_) (fun h6 => setI_mk (wrap_nat (by omega)) ⟨l.length - (j + 1), by omega, rfl, j + 1, rfl, rfl, h1, ids_step h1 hall h3 fun _ => ?_⟩)⟩⟩)
        · intro hh
          have := hh.2 (by omega)
          rw [getD_get h5] at this; omega
        · rw [getD_get h5]; omega
      · exact setI_mk (wrap_nat (by omega)) ⟨l.length - (j + 1), by omega, rfl, j + 1, rfl, rfl, h1, ids_step h1 hall h3 fun h => by omega⟩
  · rw [decide_eq_true (show IdsOk l from fun i hi => hall i (by omega))] at hk
    exact hk

def ref03_form.Spec (P : Program) (N : Nat → Nat) : Prop := ∀ (r : Reg) (a b c : V) (h l : Int) (S : St) (K : Bool → St → Prop), RegAt S a b c h l r → K (decide (FormOk r)) S → CallA P (N Fn.ref03_form) [regV r.shape a b h l c] S (retT [.one .bool] K)
theorem ref03_form.spec (hF : ref03_form.Ok P N) : ref03_form.Spec P N := by
  intro r a b c h l S K hr hk
  refine CallA.gcT (ds := [.one .bool]) rfl (CallA.wfT fun hw => ?_)
  have hr := hr.ro
  refine ref03_form.run hF (newS_mk hw fun S1 g1 m1 n1 => keepW g1.wf fun S3 g3 m3 n3 => ?_)
  have hr := (hr.grow g1).grow g3
  have m1 := g3.get m1
  have e0 : eqV 6 [1, 1] (wV h l) (wV 0 0) = some (decide (r.rad = 0)) := by rw [eqW0 hr.rad, hr.radN]
  refine ⟨_, ld m1 rfl, ifC_dec (fun h1 => ifS_mk (ld m1 rfl) ⟨_, hr.lo.len, ifC_dec (fun h2 => ifS_mk (ld m1 rfl) ⟨_, hr.hi.len, ifC_dec (fun h3 => ⟨_, _, ldN m1 (by simp) rfl, _, _, ldN m3 (by simp) rfl, _, e0, ?_⟩) (fun h3 => ?_)⟩) (fun h2 => ?_)⟩) (fun h1 => ifC_dec (fun h2 => ⟨_, _, ldN m1 (by simp) rfl, _, _, ldN m3 (by simp) rfl, _, e0, ?_⟩) (fun h2 => ifC_dec (fun h3 => ifS_mk (ld m1 rfl) ⟨_, hr.hi.len, ?_⟩) (fun h3 => ?_)))⟩
  · have : decide (r.rad = 0) = decide (FormOk r) := decide_eq_decide.mpr (by unfold FormOk; omega)
    rw [this]; exact hk
  · rw [decide_eq_false (by unfold FormOk; omega)] at hk; exact hk
  · rw [decide_eq_false (by unfold FormOk; omega)] at hk; exact hk
  · have : decide (r.rad = 0) = decide (FormOk r) := decide_eq_decide.mpr (by unfold FormOk; omega)
    rw [this]; exact hk
  · have : decide ((r.hi.length : Int) = 0) = decide (FormOk r) := decide_eq_decide.mpr (by unfold FormOk; omega)
    rw [this]; exact hk
  · rw [decide_eq_false (by unfold FormOk; omega)] at hk; exact hk

theorem ref03_CheckRegion.spec (hF : ref03_CheckRegion.Ok P N) (hfo : ref03_form.Spec P N) (hid : ref03_ids.Spec P N) (hC : ChecksV P (N Fn.ref03_Check)) : ChecksReg P (N Fn.ref03_CheckRegion) := by
  intro r a b c h l d S K hr hk
  refine CallA.gcT (ds := [.one (.int .i64)]) rfl (CallA.wfT fun hw => ?_)
  have hr := hr.ro
  refine ref03_CheckRegion.run hF (newS_mk hw fun S1 g1 m1 n1 => ?_)
  have hr := hr.grow g1
  refine Join0.mid (fun S' => S' = S1 ∧ 1 ≤ d ∧ d ≤ 64) (ifC_dec (fun h1 => ?_) (fun h1 => ifC_dec (fun h2 => ?_) (fun h2 => ⟨rfl, by omega, by omega⟩))) ?_
  · rw [errReg, if_pos (.inl h1)] at hk; exact hk
  · rw [errReg, if_pos (.inr h2)] at hk; exact hk
  rintro S2 ⟨rfl, hd1, hd2⟩
  rw [errReg, if_neg (by omega)] at hk
  refine Join0.mid (fun S' => S' = S2 ∧ FormOk r ∧ IdsOk r.ids) ⟨_, _, _, _, _, _, ldN m1 (by simp) rfl, hfo r a b c h l _ _ hr (ifC_ndec (fun h1 => ?_) (fun h1 => ifS_mk (ld m1 rfl) (hid c r.ids _ _ hr.ids (ifC_ndec (fun h2 => ?_) (fun h2 => ⟨rfl, h1, h2⟩)))))⟩ ?_
  · rw [if_pos (fun hh => h1 hh.1)] at hk; exact hk
  · rw [if_pos (fun hh => h2 hh.2)] at hk; exact hk
  rintro S3 ⟨rfl, hf, hi⟩
  rw [if_neg (by simp [hf, hi])] at hk
  refine ⟨_, ld m1 rfl, ifC_dec (fun h1 => ?_) (fun h1 => ifS_mk (ld m1 rfl) (hC a r.lo d _ _ hr.lo ?_))⟩
  · rw [if_pos h1] at hk; exact hk
  rw [if_neg h1] at hk
  refine Join0.mid (fun S' => S' = S3 ∧ checkV r.lo d = 0 ∧ r.shape ≠ 3) (ifC_ndec (fun h2 => ?_) (fun h2 => ⟨_, ld m1 rfl, ifC_dec (fun h3 => ?_) (fun h3 => ⟨rfl, h2, h3⟩)⟩)) ?_
  · rw [if_pos (.inl h2)] at hk; exact hk
  · rw [if_pos (.inr h3)] at hk; exact hk
  rintro S7 ⟨rfl, z1, hs3⟩
  rw [if_neg (by omega)] at hk
  refine ifS_mk (ld m1 rfl) (hC b r.hi d _ _ hr.hi (ifC_ndec (fun h2 => ?_) (fun z2 => ?_)))
  · rw [if_pos h2] at hk; exact hk
  rw [if_neg (by omega)] at hk
  obtain ⟨_, _, l1, _⟩ := checkV_ok z1
  obtain ⟨_, _, l2, _⟩ := checkV_ok z2
  refine Loop1.ind (fun m x S' => S' = S7 ∧ ∃ j : Nat, x = j ∧ m = d.toNat - j ∧ j ≤ d.toNat ∧ ∀ i, i < j → r.lo.getD i 0 ≤ r.hi.getD i 0) d.toNat ⟨rfl, 0, rfl, rfl, Nat.zero_le _, fun i h => by omega⟩ ?_
  rintro m _ S11 ⟨rfl, k, rfl, rfl, hk1, hle⟩
  refine ifC_dec (fun h4 => ?_) (fun h4 => ?_)
  · have h4a : k < r.lo.length := by omega
    have h4b : k < r.hi.length := by omega
    refine ifS_mk (ld m1 rfl) (ifS_mk (IntsAt.idx hr.lo h4a) ⟨_, IntsAt.get hr.lo h4a, ifS_mk (ld m1 rfl) (ifS_mk (IntsAt.idx hr.hi h4b) ⟨_, IntsAt.get hr.hi h4b, ifC_dec (fun h5 => ?_) (fun h5 => setI_mk (wrap_nat (by omega)) ⟨d.toNat - (k + 1), by omega, rfl, k + 1, rfl, rfl, by omega, fun i hi => ?_⟩)⟩)⟩)
    · rw [if_neg (fun hl => by have := hl k (by omega); rw [getD_get h4a, getD_get h4b] at this; omega)] at hk
      exact hk
    · rcases Nat.lt_or_ge i k with h' | h'
      · exact hle i h'
      · have : i = k := by omega
        subst this; rw [getD_get h4a, getD_get h4b]; omega
  · rw [if_pos (show LeAll r.lo r.hi d.toNat from fun i hi => hle i (by omega))] at hk
    exact hk

def vec_both.Spec (P : Program) (N : Nat → Nat) : Prop := ∀ (r : Reg) (a b c u : V) (h l : Int) (v : List Int) (S : St) (K : Int → St → Prop), RegAt S a b c h l r → IntsAt S u v → K (errBoth r v) S → CallA P (N Fn.vec_both) [regV r.shape a b h l c, u] S (retT [.one (.int .i64)] K)
theorem vec_both.spec (hF : vec_both.Ok P N) (hR : ChecksReg P (N Fn.vec_CheckRegion)) (hC : ChecksV P (N Fn.vec_Check)) : vec_both.Spec P N := by
  intro r a b c u h l v S K hr hu hk
  refine CallA.gcT (ds := [.one (.int .i64)]) rfl (CallA.wfT fun hw => ?_)
  have hr := hr.ro
  have hu := hu.ro
  refine vec_both.run hF (newS_mk hw fun S1 g1 m1 n1 => ⟨_, _, _, _, _, _, ldN m1 (by simp) rfl, _, (hu.grow g1).len, hR r a b c h l _ _ _ (hr.grow g1) (ifC_ndec (fun h1 => ?_) (fun h1 => ⟨_, (hu.grow g1).len, hC u v _ _ _ (hu.grow g1) ?_⟩))⟩)
  · rw [errBoth, if_pos h1] at hk; exact hk
  · rw [errBoth, if_neg (by omega)] at hk; exact hk

def InsideOk (P : Program) (f : Nat) : Prop := ∀ (r : Reg) (a b c u : V) (h l : Int) (v : List Int) (S : St) (K : Bool → Int → St → Prop), RegAt S a b c h l r → IntsAt S u v → (errBoth r v ≠ 0 → K false (errBoth r v) S) → (errBoth r v = 0 → K (decide (InReg r v)) 0 S) →
  CallA P f [regV r.shape a b h l c, u] S (retT [.one .bool, .one (.int .i64)] K)

theorem far_le {a b c : V} {h l : Int} {r : Reg} {S : St} (hr : RegAt S a b c h l r) (hw : Wok h l) {h' l' : Int} (hw' : Wok h' l') {n : Int} (hn : wN h' l' = n) : decide (cmpW h' l' h l ≤ 0) = decide (n ≤ r.rad) := by
  refine decide_eq_decide.mpr ?_
  rw [cmpW_num hw' hw, hn, hr.radN]
  split
  · omega
  · split <;> omega

theorem vec_Inside.spec (hF : vec_Inside.Ok P N) (hF1 : vec_Inside_1.Ok P N) (hE : canEnter P (N Fn.vec_Inside_1) = true) (hB : vec_both.Spec P N) (hf : FarOk P (N Fn.vec_far)) (hC : wide_Cmp.Spec P N) : InsideOk P (N Fn.vec_Inside) := by
  intro r a b c u h l v S K hr hu hk1 hk2
  refine CallA.gcT (ds := [.one .bool, .one (.int .i64)]) rfl (CallA.wfT fun hw => ?_)
  have hr := hr.ro
  have hu := hu.ro
  refine vec_Inside.run hF (newS_mk hw fun S1 g1 m1 n1 => newS_mk g1.wf fun S2 g2 m2 n2 => ?_)
  rw [hu.cells1] at m2
  have hr := (hr.grow g1).grow g2
  have hu := (hu.grow g1).grow g2
  have m1 := g2.get m1
  refine ⟨_, _, _, _, _, _, ldN m1 (by simp) rfl, ifS_mk (ld m2 rfl) (hB r a b c u h l v _ _ hr hu (ifC_ndec (fun h1 => hk1 h1) (fun h1 => ?_)))⟩
  have hk2 := hk2 h1
  obtain ⟨z1, z2⟩ := errBoth_zero h1
  obtain ⟨d1, d2, hfo, hids, h3, h2⟩ := errReg_zero z1
  obtain ⟨_, _, _, hvC⟩ := checkV_ok z2
  refine ⟨_, ld m1 rfl, ifC_dec (fun hs => ?_) (fun hs => ifC_dec (fun hs3 => ?_) (fun hs3 => ?_))⟩
  · obtain ⟨l1, l2, _, _, _⟩ := h2 hs
    refine ifS_mk (ld m2 rfl) ⟨_, hu.len, Loop1.ind (fun m x S' => S' = S2 ∧ ∃ j : Nat, x = j ∧ m = v.length - j ∧ j ≤ v.length ∧ ∀ i, i < j → r.lo.getD i 0 ≤ v.getD i 0 ∧ v.getD i 0 ≤ r.hi.getD i 0) v.length ⟨rfl, 0, rfl, rfl, Nat.zero_le _, fun i h => by omega⟩ ?_⟩
    rintro m _ S4 ⟨rfl, j, rfl, rfl, hj, hall⟩
    refine ifC_dec (fun h4 => ?_) (fun h4 => ?_)
    · have h4 : j < v.length := by omega
      have h4l : j < r.lo.length := by omega
      have h4h : j < r.hi.length := by omega
      refine ifS_mk (callee_mk hE) ?_
      have key : ∀ (K' : Bool → St → Prop), K' (decide (r.lo[j] ≤ v[j] ∧ v[j] ≤ r.hi[j])) S4 → CallA P (N Fn.vec_Inside_1) [.int .i64 j, .ptr S.ro.next 0, .ptr S1.next 0] S4 (retT [.one .bool] K') := fun K' hK' =>
        vec_Inside_1.run hF1 (ifS_mk rfl (ifS_mk (ld m1 rfl) (ifS_mk (IntsAt.idx hr.lo h4l) ⟨_, IntsAt.get hr.lo h4l, ifS_mk (ld m2 rfl) (ifS_mk (IntsAt.idx hu h4) ⟨_, IntsAt.get hu h4, ifC_dec (fun h5 => ifS_mk (ld m2 rfl) (ifS_mk (IntsAt.idx hu h4) ⟨_, IntsAt.get hu h4, ifS_mk rfl (ifS_mk (ld m1 rfl) (ifS_mk (IntsAt.idx hr.hi h4h) ⟨_, IntsAt.get hr.hi h4h, by
          have : decide (v[j] ≤ r.hi[j]) = decide (r.lo[j] ≤ v[j] ∧ v[j] ≤ r.hi[j]) := decide_eq_decide.mpr (by omega)
          rw [this]; exact hK'⟩))⟩)) (fun h5 => by rw [decide_eq_false (by omega)] at hK'; exact hK')⟩)⟩)))
      refine key _ (ifC_ndec (fun h5 => ?_) (fun h5 => setI_mk (wrap_nat (by omega)) ⟨v.length - (j + 1), by omega, rfl, j + 1, rfl, rfl, h4, fun i hi => ?_⟩))
      · rw [decide_eq_false (fun hI => by
          rw [InReg, if_pos hs] at hI
          have := hI j h4
          rw [getD_get h4l, getD_get h4, getD_get h4h] at this
          exact h5 this)] at hk2
        exact hk2
      · rcases Nat.lt_or_ge i j with h' | h'
        · exact hall i h'
        · have : i = j := by omega
          subst this
          rw [getD_get h4l, getD_get h4, getD_get h4h]; exact h5
    · rw [decide_eq_true (by rw [InReg, if_pos hs]; exact fun i hi => hall i (by omega))] at hk2
      exact hk2
  · obtain ⟨l1, hC1⟩ := h3 hs3
    refine ifS_mk (ld m1 rfl) (ifS_mk (ld m2 rfl) ⟨_, _, ldN m1 (by simp) rfl, hf a u r.lo v _ _ hr.lo hu (by omega) (by omega) hC1 hvC fun h' l' hw' hn' => ⟨Same.refl _ _, hC _ _ _ _ _ _ ⟨Same.refl _ _, ?_⟩⟩⟩)
    rw [far_le hr hr.rad hw' hn', List.take_of_length_le (by omega)]
    have : decide (distL r.lo v ≤ r.rad) = decide (InReg r v) := decide_eq_decide.mpr (by rw [InReg, if_neg hs, if_pos hs3])
    rw [this]; exact hk2
  · rw [decide_eq_true (by rw [InReg, if_neg hs, if_neg hs3]; trivial)] at hk2
    exact hk2

theorem ref03_In.spec (hF : ref03_In.Ok P N) (hf : FarOk P (N Fn.ref03_Far)) (hL : ref01_Less.Spec P N) {r : Reg} {a b c u : V} {h l : Int} {v : List Int} {S : St} {K : Bool → St → Prop} (hr : RegAt S a b c h l r) (hu : IntsAt S u v) (h1 : errBoth r v = 0) (hk : K (decide (InReg r v)) S) :
    CallA P (N Fn.ref03_In) [regV r.shape a b h l c, u] S (retT [.one .bool] K) := by
  refine CallA.gcT (ds := [.one .bool]) rfl (CallA.wfT fun hw => ?_)
  have hr := hr.ro
  have hu := hu.ro
  obtain ⟨z1, z2⟩ := errBoth_zero h1
  obtain ⟨d1, d2, hfo, hids, h3, h2⟩ := errReg_zero z1
  obtain ⟨_, _, _, hvC⟩ := checkV_ok z2
  refine ref03_In.run hF (newS_mk hw fun S1 g1 m1 n1 => ?_)
  have hr := hr.grow g1
  have hu := hu.grow g1
  refine ⟨_, ld m1 rfl, ifC_dec (fun hs => ?_) (fun hs => ifC_dec (fun hs3 => ?_) (fun hs3 => ?_))⟩
  · obtain ⟨l1, l2, _, _, _⟩ := h2 hs
    refine Loop1.ind (fun m x S' => S' = S1 ∧ ∃ j : Nat, x = j ∧ m = v.length - j ∧ j ≤ v.length ∧ ∀ i, i < j → r.lo.getD i 0 ≤ v.getD i 0 ∧ v.getD i 0 ≤ r.hi.getD i 0) v.length ⟨rfl, 0, rfl, rfl, Nat.zero_le _, fun i h => by omega⟩ ?_
    rintro m _ S4 ⟨rfl, j, rfl, rfl, hj, hall⟩
    refine ⟨_, hu.len, ifC_dec (fun h4 => ?_) (fun h4 => ?_)⟩
    · have h4 : j < v.length := by omega
      have h4l : j < r.lo.length := by omega
      have h4h : j < r.hi.length := by omega
      have hbad : ¬ (r.lo[j] ≤ v[j] ∧ v[j] ≤ r.hi[j]) → K false S := fun hn => by
        rw [decide_eq_false (fun hI => by
          rw [InReg, if_pos hs] at hI
          have := hI j h4
          rw [getD_get h4l, getD_get h4, getD_get h4h] at this
          exact hn this)] at hk
        exact hk
      refine ifS_mk (IntsAt.idx hu h4) ⟨_, IntsAt.get hu h4, ifS_mk (ld m1 rfl) (ifS_mk (IntsAt.idx hr.lo h4l) ⟨_, IntsAt.get hr.lo h4l, ifC_dec (fun h5 => hbad (by omega)) (fun h5 => ifS_mk (IntsAt.idx hu h4) ⟨_, IntsAt.get hu h4, ifS_mk (ld m1 rfl) (ifS_mk (IntsAt.idx hr.hi h4h) ⟨_, IntsAt.get hr.hi h4h, ifC_dec (fun h6 => hbad (by omega)) (fun h6 => setI_mk (wrap_nat (by omega)) ⟨v.length - (j + 1), by omega, rfl, j + 1, rfl, rfl, h4, fun i hi => ?_⟩)⟩)⟩)⟩)⟩
      rcases Nat.lt_or_ge i j with h' | h'
      · exact hall i h'
      · have : i = j := by omega
        subst this
        rw [getD_get h4l, getD_get h4, getD_get h4h]; omega
    · rw [decide_eq_true (by rw [InReg, if_pos hs]; exact fun i hi => hall i (by omega))] at hk
      exact hk
  · obtain ⟨l1, hC1⟩ := h3 hs3
    refine ⟨_, _, ldN m1 (by simp) rfl, ifS_mk (ld m1 rfl) (hf a u r.lo v _ _ hr.lo hu (by omega) (by omega) hC1 hvC fun h' l' hw' hn' => ⟨Same.refl _ _, hL _ _ _ _ _ _ hr.rad hw' ⟨Same.refl _ _, ?_⟩⟩)⟩
    rw [List.take_of_length_le (by omega)] at hn'
    have : (!decide (wN h l < wN h' l')) = decide (InReg r v) := by
      rw [hr.radN, hn', ← decide_not]
      refine decide_eq_decide.mpr ?_
      rw [InReg, if_neg hs, if_pos hs3]; omega
    rw [this]; exact hk
  · rw [decide_eq_true (by rw [InReg, if_neg hs, if_neg hs3]; trivial)] at hk
    exact hk

end Go.Th.L
end

section
/- vec, the document: how near a region may be; the laws VecRegions, VecBounds. -/
set_option linter.unusedSimpArgs false
set_option linter.unusedVariables false
namespace Go.Th.L
open Go Go.Th Go.Th.Pure
variable {P : Program} {N : Nat → Nat}

def BoundOk (P : Program) (f : Nat) : Prop := ∀ (r : Reg) (a b c u : V) (h l : Int) (q : List Int) (S : St) (K : Int → Int → Int → St → Prop), RegAt S a b c h l r → IntsAt S u q → (errBoth r q ≠ 0 → K 0 0 (errBoth r q) S) →
  (errBoth r q = 0 → ∀ h' l', Wok h' l' → IsNear r q (wN h' l') → K h' l' 0 S) → CallA P f [regV r.shape a b h l c, u] S (retT [.agg [.int .u64, .int .u64], .one (.int .i64)] K)

theorem nearB_no {s t R : Int} (h : s ≤ t) : nearB s t R = 0 := by
  unfold nearB; rw [if_neg (by split <;> omega)]
theorem nearB_le1 {s t R : Int} (h : t * t ≠ R) (h' : s ≤ t + 1) : nearB s t R = 0 := by
  unfold nearB; rw [if_neg h, if_neg (by omega)]
theorem nearB_sq {s t R : Int} (h : t * t = R) (h' : t < s) : nearB s t R = (s - t) * (s - t) := by
  unfold nearB; rw [if_pos h, if_pos h']
theorem nearB_up {s t R : Int} (h : t * t ≠ R) (h' : t + 1 < s) : nearB s t R = (s - (t + 1)) * (s - (t + 1)) := by
  unfold nearB; rw [if_neg h, if_pos h']

theorem vec_Bound.spec (hF : vec_Bound.Ok P N) (hB : vec_both.Spec P N) (hp : vec_plus.Spec P N) (hf : FarOk P (N Fn.vec_far)) (hS : wide_Sqrt.Spec P N) (hM : wide_Mul.Spec P N) : BoundOk P (N Fn.vec_Bound) := by
  intro r a b c u h l q S K hr hu hk1 hk2
  refine CallA.gcT (ds := [.agg [.int .u64, .int .u64], .one (.int .i64)]) rfl (CallA.wfT fun hw => ?_)
  have hr := hr.ro
  have hu := hu.ro
  refine vec_Bound.run hF (newS_mk hw fun S1 g1 m1 n1 => newS_mk g1.wf fun S2 g2 m2 n2 => ?_)
  have hr := (hr.grow g1).grow g2
  have hu := (hu.grow g1).grow g2
  have m1 := g2.get m1
  refine ⟨_, _, _, _, _, _, ldN m1 (by simp) rfl, hB r a b c u h l q _ _ hr hu (ifC_ndec (fun h1 => ?_) (fun h1 => ?_))⟩
  · exact st_mk g2.wf m2 rfl (by simp [V.cells]) rfl fun S4 u4 m4 n4 => ⟨_, _, ldC m4 (by simp [over, V.cells]) rfl, hk1 h1⟩
  have hk2 := hk2 h1
  obtain ⟨z1, z2⟩ := errBoth_zero h1
  obtain ⟨d1, d2, hfo, hids, h3, h2⟩ := errReg_zero z1
  obtain ⟨_, _, _, hqC⟩ := checkV_ok z2
  refine newS_mk g2.wf fun S5 g5 m5 n5 => ?_
  have hr := hr.grow g5
  have hu := hu.grow g5
  have m1 := g5.get m1
  have m2 := g5.get m2
  refine Join0.mid (fun S' => Upd [S2.next] S5 S' ∧ ∃ h' l', S'.get S2.next = some (.cells [.int .u64 h', .int .u64 l'] true) ∧ Wok h' l' ∧ IsNear r q (wN h' l')) ⟨_, ld m1 rfl, ifC_dec (fun hs => ?_) (fun hs => ifC_dec (fun hs3 => ?_) (fun hs3 => ?_))⟩ ?_
  · obtain ⟨l1, l2, c1, c2, hle⟩ := h2 hs
    refine ⟨_, hu.len, Loop1.ind (fun m x S' => ∃ (j : Nat) (h' l' : Int), x = j ∧ m = q.length - j ∧ j ≤ q.length ∧ Upd [S2.next] S5 S' ∧ S'.get S2.next = some (.cells [.int .u64 h', .int .u64 l'] true) ∧ Wok h' l' ∧ wN h' l' = nearL (r.lo.take j) (r.hi.take j) (q.take j)) q.length
      ⟨0, 0, 0, rfl, rfl, Nat.zero_le _, Upd.refl g5.wf _, m5, ⟨by omega, by omega, by omega, by omega⟩, by simp [nearL, wN]⟩ ?_⟩
    rintro m _ S7 ⟨j, h7, l7, rfl, rfl, hj, u7, m7, w7, n7⟩
    have r7 : ∀ {x : V} {l : List Int}, IntsAt S5 x l → IntsAt S.ro x l → IntsAt S7 x l := fun _ hx => hx.grow (((g1.trans g2).trans g5).after u7 fun i hi => by simp only [List.mem_singleton] at hi; exact .inl (by omega))
    have hr0 := ‹RegAt S.ro a b c h l r›
    have hu0 := ‹IntsAt S.ro u q›
    have ha7 := r7 hr.lo hr0.lo
    have hb7 := r7 hr.hi hr0.hi
    have hu7 := r7 hu hu0
    have m17 := u7.get m1 (by simp only [List.mem_singleton]; omega)
    refine ifC_dec (fun h4 => ?_) (fun h4 => ?_)
    · have h4 : j < q.length := by omega
      have h4l : j < r.lo.length := by omega
      have h4h : j < r.hi.length := by omega
      have e1 := inC_iff.mp (hqC _ (List.getElem_mem h4))
      have e2 := inC_iff.mp (c1 _ (List.getElem_mem h4l))
      have e3 := inC_iff.mp (c2 _ (List.getElem_mem h4h))
      have e4 : r.lo[j] ≤ r.hi[j] := by have := hle j (by omega); rwa [getD_get h4l, getD_get h4h] at this
      have hcl : -2147483647 ≤ goMin (goMax q[j] r.lo[j]) r.hi[j] ∧ goMin (goMax q[j] r.lo[j]) r.hi[j] ≤ 2147483647 := by unfold goMin goMax; split <;> split <;> omega
      have hnl := nearL_le (lo := r.lo.take j) (hi := r.hi.take j) (q := q.take j) (fun x hx => c1 x (List.mem_of_mem_take hx)) (fun x hx => c2 x (List.mem_of_mem_take hx)) (fun x hx => hqC x (List.mem_of_mem_take hx))
      rw [List.length_take, Nat.min_eq_left hj] at hnl
      refine ifS_mk (IntsAt.idx hu7 h4) ⟨_, IntsAt.get hu7 h4, _, _, ldN m7 (by simp) rfl, ifS_mk (ld m17 rfl) (ifS_mk (IntsAt.idx ha7 h4l) ⟨_, IntsAt.get ha7 h4l, ifS_mk (ld m17 rfl) (ifS_mk (IntsAt.idx hb7 h4h) ⟨_, IntsAt.get hb7 h4h, ?_⟩)⟩)⟩
      refine hp h7 l7 q[j] _ _ _ w7 e1.1 e1.2 hcl.1 hcl.2 (by omega) fun h8 l8 w8 n8 => sameK_refl (st_mk u7.wf m7 rfl (by simp [V.cells]) rfl fun S9 u9 m9 s9 => setI_mk (wrap_nat (by omega)) ⟨q.length - (j + 1), by omega, j + 1, h8, l8, rfl, rfl, h4, u7.trans u9, by simpa [over, V.cells] using m9, w8, ?_⟩)
      rw [n8, n7, clampSq_min e4, nearL_snoc h4l h4h h4]
    · have hjq : j = q.length := by omega
      subst hjq
      rw [List.take_length, List.take_of_length_le (by omega), List.take_of_length_le (by omega)] at n7
      exact ⟨u7, h7, l7, m7, w7, .inl ⟨hs, n7⟩⟩
  · obtain ⟨l1, c1⟩ := h3 hs3
    refine ifS_mk (ld m1 rfl) ⟨_, _, ldN m1 (by simp) rfl, hf a u r.lo q _ _ hr.lo hu (by omega) (by omega) c1 hqC fun h' l' hw' hn' => ⟨Same.refl _ _, hS _ _ _ _ hw' fun s Rs Ls => ⟨Same.refl _ _, hS _ _ _ _ hr.rad fun t Rt Lt => ⟨Same.refl _ _, ?_⟩⟩⟩⟩
    rw [hn', List.take_of_length_le (by omega)] at Rs
    rw [hr.radN] at Rt
    have hnear : ∀ n, n = nearB s t r.rad → IsNear r q n := fun n hn => .inr (.inl ⟨hs3, s, t, Rs, Rt, hn⟩)
    have s0 := Rs.1
    have t0 := Rt.1
    refine Join1.mid (fun x S' => S' = S5 ∧ 0 ≤ x ∧ (s ≤ x → nearB s t r.rad = 0) ∧ (x < s → nearB s t r.rad = (s - x) * (s - x))) ?_ ?_
    · refine Join1.mid (fun x S' => S' = S5 ∧ x = decide (t < s ∧ t * t ≠ r.rad)) (ifC_dec (fun h4 => ⟨_, _, ldN m1 (by simp) rfl, hM _ _ _ _ (by omega) (by omega) (by omega) (by omega) ⟨Same.refl _ _, _, eqW (wok_of (mul_lt t0 Lt t0 Lt).1 (by have := (mul_lt t0 Lt t0 Lt).2; omega)) hr.rad, rfl, ?_⟩⟩) (fun h4 => ⟨rfl, by rw [decide_eq_false]; omega⟩)) ?_
      · rw [wN_of, hr.radN, ← decide_not]
        exact decide_eq_decide.mpr ⟨fun h => ⟨h4, h⟩, fun h => h.2⟩
      · rintro _ S14 ⟨rfl, rfl⟩
        refine ifC_dec (fun h4 => setI_mk (wrapU_id (by omega) (by omega)) ⟨rfl, by omega, fun h5 => nearB_le1 h4.2 h5, fun h5 => nearB_up h4.2 h5⟩) (fun h4 => ⟨rfl, t0, fun h5 => nearB_no h5, fun h5 => nearB_sq ?_ h5⟩)
        exact Decidable.of_not_not fun h6 => h4 ⟨h5, h6⟩
    · rintro x S13 ⟨rfl, hx0, hxa, hxb⟩
      refine ifC_dec (fun h4 => ?_) (fun h4 => ⟨Upd.refl g5.wf _, 0, 0, m5, ⟨by omega, by omega, by omega, by omega⟩, hnear _ ?_⟩)
      · have hm := mul_lt (x := s - x) (y := s - x) (by omega) (by omega) (by omega) (by omega)
        refine setI_mk (wrapU_id (by omega) (by omega)) (setI_mk (wrapU_id (by omega) (by omega)) (hM _ _ _ _ (by omega) (by omega) (by omega) (by omega) (st_mk g5.wf m5 rfl (by simp [V.cells]) rfl fun S17 u17 m17 n17 => ⟨u17, _, _, by simpa [over, V.cells] using m17, wok_of hm.1 (by omega), hnear _ ?_⟩)))
        rw [wN_of, hxb h4]
      · rw [hxa (by omega)]; rfl
  · exact ⟨Upd.refl g5.wf _, 0, 0, m5, ⟨by omega, by omega, by omega, by omega⟩, .inr (.inr ⟨hs, hs3, rfl⟩)⟩
  · rintro S6 ⟨u6, h', l', m6, w6, hn6⟩
    exact ⟨_, _, ldN m6 (by simp) rfl, st_mk u6.wf (u6.get m2 (by simp only [List.mem_singleton]; omega)) rfl (by simp [V.cells]) rfl fun S18 u18 m18 n18 => ⟨_, _, ldC m18 (by simp [over, V.cells]) rfl, hk2 h' l' w6 hn6⟩⟩

def ref03_Near.Spec (P : Program) (N : Nat → Nat) : Prop := ∀ (r : Reg) (a b c u : V) (h l : Int) (q : List Int) (S : St) (K : Int → Int → St → Prop), RegAt S a b c h l r → IntsAt S u q → errBoth r q = 0 → (∀ h' l', Wok h' l' → IsNear r q (wN h' l') → K h' l' S) → CallA P (N Fn.ref03_Near) [regV r.shape a b h l c, u] S (retT [.agg [.int .u64, .int .u64]] K)
theorem ref03_Near.spec (hF : ref03_Near.Ok P N) (hq : ref03_Square.Spec P N) (hsum : ref03_Sum.Spec P N) (hf : FarOk P (N Fn.ref03_Far)) (hR : ref03_Root.Spec P N) (hM : ref01_Mul.Spec P N) : ref03_Near.Spec P N := by
  intro r a b c u h l q S K hr hu h1 hk
  refine CallA.gcT (ds := [.agg [.int .u64, .int .u64]]) rfl (CallA.wfT fun hw => ?_)
  have hr0 := hr.ro
  have hu0 := hu.ro
  obtain ⟨z1, z2⟩ := errBoth_zero h1
  obtain ⟨d1, d2, hfo, hids, h3, h2⟩ := errReg_zero z1
  obtain ⟨_, _, _, hqC⟩ := checkV_ok z2
  refine ref03_Near.run hF (newS_mk hw fun S1 g1 m1 n1 => newS_mk g1.wf fun S2 g2 m2 n2 => newS_mk g2.wf fun S3 g3 m3 n3 => ?_)
  have g03 := (g1.trans g2).trans g3
  have hr := hr0.grow g03
  have hu := hu0.grow g03
  have m1 := g3.get (g2.get m1)
  have m2 := g3.get m2
  refine Join0.mid (fun S' => Upd [S2.next] S3 S' ∧ ∃ h' l', S'.get S2.next = some (.cells [.int .u64 h', .int .u64 l'] true) ∧ Wok h' l' ∧ IsNear r q (wN h' l')) ⟨_, ld m1 rfl, ifC_dec (fun hs => ?_) (fun hs => ifC_dec (fun hs3 => ?_) (fun hs3 => ?_))⟩ ?_
  · obtain ⟨l1, l2, c1, c2, hle⟩ := h2 hs
    refine Loop1.ind (fun m x S' => ∃ (j : Nat) (h' l' : Int), x = j ∧ m = q.length - j ∧ j ≤ q.length ∧ Upd [S2.next] S3 S' ∧ S'.get S2.next = some (.cells [.int .u64 h', .int .u64 l'] true) ∧ Wok h' l' ∧ wN h' l' = nearL (r.lo.take j) (r.hi.take j) (q.take j)) q.length
      ⟨0, 0, 0, rfl, rfl, Nat.zero_le _, Upd.refl g3.wf _, m3, ⟨by omega, by omega, by omega, by omega⟩, by simp [nearL, wN]⟩ ?_
    rintro m _ S7 ⟨j, h7, l7, rfl, rfl, hj, u7, m7, w7, n7⟩
    have gg : ∀ {S' : St}, Upd [S2.next] S3 S' → Grow S.ro S' := fun uu => g03.after uu fun i hi => by simp only [List.mem_singleton] at hi; exact .inl (by omega)
    have ha7 := hr0.lo.grow (gg u7)
    have hb7 := hr0.hi.grow (gg u7)
    have hu7 := hu0.grow (gg u7)
    have m17 := u7.get m1 (by simp only [List.mem_singleton]; omega)
    refine ⟨_, hu7.len, ifC_dec (fun h4 => ?_) (fun h4 => ?_)⟩
    · have h4 : j < q.length := by omega
      have h4l : j < r.lo.length := by omega
      have h4h : j < r.hi.length := by omega
      have e1 := inC_iff.mp (hqC _ (List.getElem_mem h4))
      have e2 := inC_iff.mp (c1 _ (List.getElem_mem h4l))
      have e3 := inC_iff.mp (c2 _ (List.getElem_mem h4h))
      have e4 : r.lo[j] ≤ r.hi[j] := by have := hle j (by omega); rwa [getD_get h4l, getD_get h4h] at this
      have hnl := nearL_le (lo := r.lo.take j) (hi := r.hi.take j) (q := q.take j) (fun x hx => c1 x (List.mem_of_mem_take hx)) (fun x hx => c2 x (List.mem_of_mem_take hx)) (fun x hx => hqC x (List.mem_of_mem_take hx))
      rw [List.length_take, Nat.min_eq_left hj] at hnl
      have hn0 := nearL_nonneg (r.lo.take j) (r.hi.take j) (q.take j)
      have hsn := nearL_snoc h4l h4h h4
      refine Join0.mid (fun S' => Upd [S2.next] S3 S' ∧ ∃ h' l', S'.get S2.next = some (.cells [.int .u64 h', .int .u64 l'] true) ∧ Wok h' l' ∧ ((q[j] < r.lo[j] ∧ wN h' l' = nearL (r.lo.take (j + 1)) (r.hi.take (j + 1)) (q.take (j + 1))) ∨ (¬ q[j] < r.lo[j] ∧ wN h' l' = wN h7 l7))) ?_ ?_
      · refine ifS_mk (IntsAt.idx hu7 h4) ⟨_, IntsAt.get hu7 h4, ifS_mk (ld m17 rfl) (ifS_mk (IntsAt.idx ha7 h4l) ⟨_, IntsAt.get ha7 h4l, ifC_dec (fun h5 => ?_) (fun h5 => ⟨u7, h7, l7, m7, w7, .inr ⟨h5, rfl⟩⟩)⟩)⟩
        have h6 := sq_le (d := r.lo[j] - q[j]) (by omega) (by omega)
        have h6' := sq_nonneg (r.lo[j] - q[j])
        refine ⟨_, _, ldN m7 (by simp) rfl, ifS_mk (ld m17 rfl) (ifS_mk (IntsAt.idx ha7 h4l) ⟨_, IntsAt.get ha7 h4l, ifS_mk (IntsAt.idx hu7 h4) ⟨_, IntsAt.get hu7 h4, setI_mk (wrapI_id (by omega) (by omega)) (hq _ _ _ (by omega) (by omega) (sameK_refl (hsum h7 l7 0 _ _ _ w7 ⟨by omega, by omega, by omega, by omega⟩ (by unfold wN at *; omega) fun h8 l8 w8 n8 => sameK_refl (st_mk u7.wf m7 rfl (by simp [V.cells]) rfl fun S9 u9 m9 s9 => ⟨u7.trans u9, h8, l8, by simpa [over, V.cells] using m9, w8, .inl ⟨h5, ?_⟩⟩))))⟩⟩)⟩
        rw [n8, n7, hsn, clampSq, if_pos h5]; simp [wN]
      · rintro S6 ⟨u6, h6, l6, m6, w6, hn6⟩
        have ha6 := hr0.lo.grow (gg u6)
        have hb6 := hr0.hi.grow (gg u6)
        have hu6 := hu0.grow (gg u6)
        have m16 := u6.get m1 (by simp only [List.mem_singleton]; omega)
        refine ifS_mk (IntsAt.idx hu6 h4) ⟨_, IntsAt.get hu6 h4, ifS_mk (ld m16 rfl) (ifS_mk (IntsAt.idx hb6 h4h) ⟨_, IntsAt.get hb6 h4h, ifC_dec (fun h5 => ?_) (fun h5 => setI_mk (wrap_nat (by omega)) ⟨q.length - (j + 1), by omega, j + 1, h6, l6, rfl, rfl, h4, u6, m6, w6, ?_⟩)⟩)⟩
        · have hno : ¬ q[j] < r.lo[j] := by omega
          have hn6' : wN h6 l6 = wN h7 l7 := by
            rcases hn6 with h | h
            · exact absurd h.1 hno
            · exact h.2
          have h8 := sq_le (d := q[j] - r.hi[j]) (by omega) (by omega)
          have h8' := sq_nonneg (q[j] - r.hi[j])
          refine ⟨_, _, ldN m6 (by simp) rfl, ifS_mk (IntsAt.idx hu6 h4) ⟨_, IntsAt.get hu6 h4, ifS_mk (ld m16 rfl) (ifS_mk (IntsAt.idx hb6 h4h) ⟨_, IntsAt.get hb6 h4h, setI_mk (wrapI_id (by omega) (by omega)) (hq _ _ _ (by omega) (by omega) (sameK_refl (hsum h6 l6 0 _ _ _ w6 ⟨by omega, by omega, by omega, by omega⟩ (by unfold wN at *; omega) fun h9 l9 w9 n9 => sameK_refl (st_mk u6.wf m6 rfl (by simp [V.cells]) rfl fun S9 u9 m9 s9 => setI_mk (wrap_nat (by omega)) ⟨q.length - (j + 1), by omega, j + 1, h9, l9, rfl, rfl, h4, u6.trans u9, by simpa [over, V.cells] using m9, w9, ?_⟩))))⟩)⟩⟩
          rw [n9, hn6', n7, hsn, clampSq, if_neg hno, if_pos (by omega)]; simp [wN]
        · rcases hn6 with h | h
          · exact h.2
          · rw [h.2, n7, hsn, clampSq, if_neg h.1, if_neg (by omega)]; omega
    · have hjq : j = q.length := by omega
      subst hjq
      rw [List.take_length, List.take_of_length_le (by omega), List.take_of_length_le (by omega)] at n7
      exact ⟨u7, h7, l7, m7, w7, .inl ⟨hs, n7⟩⟩
  · obtain ⟨l1, c1⟩ := h3 hs3
    refine ifS_mk (ld m1 rfl) (hf a u r.lo q _ _ hr.lo hu (by omega) (by omega) c1 hqC fun h' l' hw' hn' => hR _ _ _ _ hw' fun s Rs Ls => ⟨_, _, ldN m1 (by simp) rfl, hR _ _ _ _ hr.rad fun t Rt Lt => ?_⟩)
    rw [hn', List.take_of_length_le (by omega)] at Rs
    rw [hr.radN] at Rt
    have hnear : ∀ n, n = nearB s t r.rad → IsNear r q n := fun n hn => .inr (.inl ⟨hs3, s, t, Rs, Rt, hn⟩)
    have s0 := Rs.1
    have t0 := Rt.1
    refine Join1.mid (fun x S' => S' = S3 ∧ 0 ≤ x ∧ (s ≤ x → nearB s t r.rad = 0) ∧ (x < s → nearB s t r.rad = (s - x) * (s - x))) ⟨_, _, ldN m1 (by simp) rfl, hM _ _ _ _ (by omega) (by omega) (by omega) (by omega) fun h4 l4 w4 n4 => ⟨Same.refl _ _, _, eqW w4 hr.rad, ?_⟩⟩ ?_
    · rw [n4, hr.radN]
      refine ifC_ndec (fun h5 => ifC_dec (fun h6 => ?_) (fun h6 => setI_mk (wrapU_id (by omega) (by omega)) ⟨rfl, by omega, fun h7 => nearB_le1 h5 h7, fun h7 => nearB_up h5 h7⟩)) (fun h5 => ⟨rfl, t0, fun h7 => nearB_no h7, fun h7 => nearB_sq h5 h7⟩)
      exact ⟨_, _, ldN m3 (by simp) rfl, st_mk g3.wf m2 rfl (by simp [V.cells]) rfl fun S18 u18 m18 n18 => ⟨_, _, ldC m18 (by simp [over, V.cells]) rfl, hk 0 0 ⟨by omega, by omega, by omega, by omega⟩ (hnear _ (by rw [nearB_no h6]; rfl))⟩⟩
    · rintro x S13 ⟨rfl, hx0, hxa, hxb⟩
      refine ifC_dec (fun h4 => ?_) (fun h4 => ⟨Upd.refl g3.wf _, 0, 0, m3, ⟨by omega, by omega, by omega, by omega⟩, hnear _ ?_⟩)
      · refine setI_mk (wrapU_id (by omega) (by omega)) (setI_mk (wrapU_id (by omega) (by omega)) (hM _ _ _ _ (by omega) (by omega) (by omega) (by omega) fun h5 l5 w5 n5 => st_mk g3.wf m3 rfl (by simp [V.cells]) rfl fun S17 u17 m17 n17 => ⟨u17, _, _, by simpa [over, V.cells] using m17, w5, hnear _ ?_⟩))
        rw [n5, hxb h4]
      · rw [hxa (by omega)]; rfl
  · exact ⟨Upd.refl g3.wf _, 0, 0, m3, ⟨by omega, by omega, by omega, by omega⟩, .inr (.inr ⟨hs, hs3, rfl⟩)⟩
  · rintro S6 ⟨u6, h', l', m6, w6, hn6⟩
    exact ⟨_, _, ldN m6 (by simp) rfl, st_mk u6.wf (u6.get m2 (by simp only [List.mem_singleton]; omega)) rfl (by simp [V.cells]) rfl fun S18 u18 m18 n18 => ⟨_, _, ldC m18 (by simp [over, V.cells]) rfl, hk h' l' w6 hn6⟩⟩

end Go.Th.L
end

section
/- The laws of layer 3: VecRegions, VecBounds. -/
set_option linter.unusedSimpArgs false
set_option linter.unusedVariables false
namespace Go.Th.L
open Go Go.Th Go.Th.Pure
variable {P : Program} {N : Nat → Nat}

def insT (r : Reg) (v : List Int) (b : Bool) (e : Int) : Prop := e = errBoth r v ∧ b = decide (errBoth r v = 0 ∧ InReg r v)
theorem InsideOk.tell {f : Nat} (hI : InsideOk P f) {r : Reg} {a b c u : V} {h l : Int} {v : List Int} {S : St} {K : Bool → Int → St → Prop} (hr : RegAt S a b c h l r) (hu : IntsAt S u v) (hk : ∀ b e, insT r v b e → K b e S) :
    CallA P f [regV r.shape a b h l c, u] S (retT [.one .bool, .one (.int .i64)] K) :=
  hI r a b c u h l v S K hr hu (fun h1 => hk _ _ ⟨rfl, by rw [decide_eq_false (fun h2 => h1 h2.1)]⟩) (fun h1 => hk _ _ ⟨h1.symm, decide_eq_decide.mpr ⟨fun h2 => ⟨h1, h2⟩, fun h2 => h2.2⟩⟩)
def bndT (r : Reg) (v : List Int) (h l e : Int) : Prop := Wok h l ∧ e = errBoth r v ∧ (errBoth r v = 0 → IsNear r v (wN h l)) ∧ (errBoth r v ≠ 0 → wN h l = 0)
theorem BoundOk.tell {f : Nat} (hI : BoundOk P f) {r : Reg} {a b c u : V} {h l : Int} {v : List Int} {S : St} {K : Int → Int → Int → St → Prop} (hr : RegAt S a b c h l r) (hu : IntsAt S u v) (hk : ∀ h l e, bndT r v h l e → K h l e S) :
    CallA P f [regV r.shape a b h l c, u] S (retT [.agg [.int .u64, .int .u64], .one (.int .i64)] K) :=
  hI r a b c u h l v S K hr hu (fun h1 => hk _ _ _ ⟨⟨by omega, by omega, by omega, by omega⟩, rfl, fun h2 => absurd h2 h1, fun _ => rfl⟩) (fun h1 h l hw hn => hk _ _ _ ⟨hw, h1.symm, fun _ => hn, fun h2 => absurd h1 h2⟩)
theorem bndT.same {r : Reg} {v : List Int} {h l e h' l' e' : Int} (a : bndT r v h l e) (b : bndT r v h' l' e') : wN h l = wN h' l' ∧ e = e' := by
  obtain ⟨_, rfl, a1, a2⟩ := a; obtain ⟨_, rfl, b1, b2⟩ := b
  refine ⟨?_, rfl⟩
  by_cases h0 : errBoth r v = 0
  · exact (a1 h0).unique (b1 h0)
  · rw [a2 h0, b2 h0]

end Go.Th.L
end
