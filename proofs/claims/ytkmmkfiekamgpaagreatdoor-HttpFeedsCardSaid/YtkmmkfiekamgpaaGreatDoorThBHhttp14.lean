/- What the row of one statement stands on: a store, abstract code, functions of the program and their laws (ThHhttp11, ThHhttp12, ThHhttp13, ThHhttp14). -/
import Derived.Test.YtkmmkfiekamgpaaGreatDoorThBHhttp10
import Derived.Test.YtkmmkfiekamgpaaGreatDoorThBPhttp4

section
/- http, the reference: small functions. -/
set_option linter.unusedSimpArgs false
set_option linter.unusedVariables false
namespace Go.Th.L
open Go Go.Th Go.Th.Pure
variable {P : Program} {N : Nat → Nat}

def WithinS (P : Program) (f : Nat) : Prop := ∀ (s : Bs) (lo hi : Nat) (S : St) (K : Bool → St → Prop), s.length ≤ 4611686018427387904 → K (s.all fun c => decide (lo ≤ c.toNat ∧ c.toNat ≤ hi)) S → CallA P f [.str s, .int .u8 (lo : Nat), .int .u8 (hi : Nat)] S (retT [.one .bool] K)
theorem ref22_within.spec (hF : ref22_within.Ok P N) : WithinS P (N Fn.ref22_within) := by
  intro s lo hi S K hl hk
  refine ref22_within.run hF (Loop1.ind (fun n x S' => S' = S ∧ ∃ j : Nat, x = j ∧ j + n = s.length ∧ ∀ a (ha : a < s.length), a < j → lo ≤ s[a].toNat ∧ s[a].toNat ≤ hi) s.length ⟨rfl, 0, rfl, by omega, fun a ha h => by omega⟩ ?_)
  rintro n _ S' ⟨e, j, rfl, hj, hall⟩
  rw [e]; clear e S'
  have no : ∀ (hjl : j < s.length), ¬ (lo ≤ s[j].toNat ∧ s[j].toNat ≤ hi) → K false S := fun hjl h => by
    have : (s.all fun c => decide (lo ≤ c.toNat ∧ c.toNat ≤ hi)) = false := by
      rw [Bool.eq_false_iff]
      intro h2
      exact h (of_decide_eq_true (List.all_eq_true.mp h2 _ (List.getElem_mem hjl)))
    rw [this] at hk; exact hk
  refine ifC_dec (fun hlt => ?_) (fun hge => ?_)
  · have hjl : j < s.length := by omega
    refine ⟨_, idx_str hjl, ifC_dec (fun h1 => no hjl (by omega)) (fun h1 => ⟨_, idx_str hjl, ifC_dec (fun h2 => no hjl (by omega)) (fun h2 => setI_mk (wrap_succ (by omega)) ⟨n - 1, by omega, rfl, j + 1, rfl, by omega, fun a ha haj => ?_⟩)⟩)⟩
    by_cases e : a = j
    · subst e; omega
    · exact hall a ha (by omega)
  · have : (s.all fun c => decide (lo ≤ c.toNat ∧ c.toNat ≤ hi)) = true := List.all_eq_true.mpr fun c hc => by
      obtain ⟨a, ha, rfl⟩ := List.getElem_of_mem hc
      exact decide_eq_true (hall a ha (by omega))
    rw [this] at hk; exact hk

theorem lowerB_nat (c : UInt8) : (Lib.lowerB c).toNat = if 65 ≤ c.toNat ∧ c.toNat ≤ 90 then c.toNat + 32 else c.toNat := by
  unfold Lib.lowerB Lib.isUpperB
  by_cases h : 65 ≤ c.toNat ∧ c.toNat ≤ 90
  · have h2 : ((65 : UInt8) ≤ c && c ≤ 90) = true := by
      simp only [Bool.and_eq_true, decide_eq_true_eq, UInt8.le_iff_toNat_le]
      exact h
    rw [if_pos h2, if_pos h, UInt8.toNat_add]
    have : (32 : UInt8).toNat = 32 := rfl
    omega
  · have h2 : ¬ ((65 : UInt8) ≤ c && c ≤ 90) = true := by
      simp only [Bool.and_eq_true, decide_eq_true_eq, UInt8.le_iff_toNat_le]
      exact h
    rw [if_neg h2, if_neg h]

def SmallS (P : Program) (f : Nat) : Prop := ∀ (s : Bs) (S : St) (K : Bs → St → Prop), S.Wf → s.length ≤ 1099511627776 → (∀ S', Grow S S' → K (Lib.toLowerA s) S') → CallA P f [.str s] S (retT [.one .str] K)
theorem ref22_small.spec (hF : ref22_small.Ok P N) : SmallS P (N Fn.ref22_small) := by
  intro s S K hw hl hk
  refine ref22_small.run hF (Loop2.ind (fun n v x S' => ∃ j : Nat, x = j ∧ j + n = s.length ∧ BuiltB S S' v (Lib.toLowerA (s.take j))) s.length ⟨0, rfl, by omega, Built.nil (Upd.refl hw []) 1⟩ ?_)
  rintro n v _ S1 ⟨j, rfl, hj, hb⟩
  refine ifC_dec (fun hlt => ?_) (fun hge => ?_)
  · have hjl : j < s.length := by omega
    refine ⟨_, idx_str hjl, ?_⟩
    refine Join1.mid (fun x S' => S' = S1 ∧ x = ((Lib.lowerB s[j]).toNat : Nat)) ?_ ?_
    · have hlo := lowerB_nat s[j]
      refine Join1.mid (fun t S' => S' = S1 ∧ t = decide (65 ≤ s[j].toNat ∧ s[j].toNat ≤ 90)) (ifC_dec (fun h1 => ⟨rfl, decide_eq_decide.mpr (by omega)⟩) (fun h1 => ⟨rfl, (decide_eq_false (by omega)).symm⟩)) ?_
      rintro t S' ⟨e, ht⟩
      rw [e]; clear e S'
      refine ifC_tt_ff (fun h => ?_) (fun h => ?_)
      · rw [ht, decide_eq_true_eq] at h
        rw [if_pos h] at hlo
        exact setI_mk (n := ((Lib.lowerB s[j]).toNat : Nat)) (wrapU8 (by omega) (by omega)) ⟨rfl, rfl⟩
      · rw [ht, decide_eq_false_iff_not] at h
        rw [if_neg h] at hlo
        exact ⟨rfl, by rw [hlo]⟩
    · rintro x S' ⟨e, rfl⟩
      rw [e]; clear e S'
      have hlt' : (Lib.toLowerA (s.take j)).length = j := by simp [Lib.toLowerA]; omega
      refine hb.push _ (by rw [hlt']; omega) fun v' S' b' u t => setI_mk (wrap_succ (by omega)) ⟨n - 1, by omega, j + 1, rfl, by omega, ?_⟩
      have : Lib.toLowerA (s.take (j + 1)) = Lib.toLowerA (s.take j) ++ [Lib.lowerB s[j]] := by
        rw [List.take_add_one, List.getElem?_eq_getElem hjl]; simp only [Lib.toLowerA, List.map_append, Option.toList_some, List.map_cons, List.map_nil]
      rw [this]; exact b'
  · have hjn : s.take j = s := List.take_of_length_le (by omega)
    rw [hjn] at hb
    exact ⟨_, bytes_str hb.at_, hk S1 hb.grow⟩

theorem less1 (x y : UInt8) : Op.bytesLess [x] [y] = decide (x.toNat < y.toNat) := by
  simp [Op.bytesLess, UInt8.lt_iff_toNat_lt]
theorem isNm_low (c : UInt8) : isNm c = (decide (97 ≤ (Lib.lowerB c).toNat ∧ (Lib.lowerB c).toNat ≤ 122) || decide (48 ≤ (Lib.lowerB c).toNat ∧ (Lib.lowerB c).toNat ≤ 57) || decide ((Lib.lowerB c).toNat = 45)) := by
  have h := lowerB_nat c
  unfold isNm
  rw [Bool.eq_iff_iff]
  simp only [Bool.or_eq_true, decide_eq_true_eq]
  rw [h]
  split <;> omega

def NameS (P : Program) (f : Nat) : Prop := ∀ (s : Bs) (S : St) (K : Bool → St → Prop), S.Wf → s.length ≤ 1099511627776 → (∀ S', Grow S S' → K (decide (1 ≤ s.length) && decide (s.length ≤ 64) && s.all isNm) S') → CallA P f [.str s] S (retT [.one .bool] K)
theorem ref22_name.spec (hF : ref22_name.Ok P N) (hs : SmallS P (N Fn.ref22_small)) : NameS P (N Fn.ref22_name) := by
  intro s S K hw hl hk
  refine ref22_name.run hF (Loop1.ind (fun n x S' => ∃ j : Nat, x = j ∧ j + n = s.length ∧ Grow S S' ∧ ∀ a (ha : a < s.length), a < j → isNm s[a] = true) s.length ⟨0, rfl, by omega, Upd.refl hw [], fun a ha h => by omega⟩ ?_)
  rintro n _ S1 ⟨j, rfl, hj, g1, hall⟩
  refine ifC_dec (fun hlt => ?_) (fun hge => ?_)
  · have hjl : j < s.length := by omega
    refine setI_mk (wrap_succ (by omega)) ⟨_, sliceStr_sub (l := j) (h := j + 1) (by omega) (by omega), ?_⟩
    have e1 : (s.take (j + 1)).drop j = [s[j]] := by
      rw [List.take_add_one, List.getElem?_eq_getElem hjl, List.drop_append_of_le_length (by rw [List.length_take]; omega), List.drop_of_length_le (by rw [List.length_take]; omega)]
      rfl
    rw [e1]
    refine hs [s[j]] S1 _ g1.wf (by simp) fun S2 g2 => ?_
    have e2 : Lib.toLowerA [s[j]] = [Lib.lowerB s[j]] := rfl
    have hnm := isNm_low s[j]
    rw [e2]
    generalize Lib.lowerB s[j] = c at hnm
    have g12 := g1.trans g2
    have go : isNm s[j] = true → setI (IntKind.i64.wrap ((j : Int) + 1)) fun x10 => ∃ m, m < n ∧ ∃ j : Nat, x10 = j ∧ j + m = s.length ∧ Grow S S2 ∧ ∀ a (ha : a < s.length), a < j → isNm s[a] = true := fun h => by
      refine setI_mk (wrap_succ (by omega)) ⟨n - 1, by omega, j + 1, rfl, by omega, g12, fun a ha haj => ?_⟩
      by_cases e : a = j
      · subst e; exact h
      · exact hall a ha (by omega)
    have no : isNm s[j] = false → K false S2 := fun h => by
      have : s.all isNm = false := by
        rw [Bool.eq_false_iff]
        intro h2
        have := List.all_eq_true.mp h2 _ (List.getElem_mem hjl)
        rw [h] at this; cases this
      have h3 := hk S2 g12
      rw [this, Bool.and_false] at h3; exact h3
    have eqc : ∀ d : UInt8, ([c] : Bs) = [d] ↔ c.toNat = d.toNat := fun d => by
      rw [List.cons.injEq, UInt8.toNat_inj]; simp
    have n97 : (97 : UInt8).toNat = 97 := rfl
    have n122 : (122 : UInt8).toNat = 122 := rfl
    have n48 : (48 : UInt8).toNat = 48 := rfl
    have n57 : (57 : UInt8).toNat = 57 := rfl
    have n45 : (45 : UInt8).toNat = 45 := rfl
    have yes : (97 ≤ c.toNat ∧ c.toNat ≤ 122) ∨ (48 ≤ c.toNat ∧ c.toNat ≤ 57) ∨ c.toNat = 45 → isNm s[j] = true := fun h => by
      rw [hnm]; simp only [Bool.or_eq_true, decide_eq_true_eq]; omega
    have nope : ¬ ((97 ≤ c.toNat ∧ c.toNat ≤ 122) ∨ (48 ≤ c.toNat ∧ c.toNat ≤ 57) ∨ c.toNat = 45) → isNm s[j] = false := fun h => by
      rw [Bool.eq_false_iff, hnm]; simp only [Bool.or_eq_true, decide_eq_true_eq, ne_eq]; omega
    simp only [less1]
    have dash : ¬ (97 ≤ c.toNat ∧ c.toNat ≤ 122) → ¬ (48 ≤ c.toNat ∧ c.toNat ≤ 57) → ifC (!decide (([c] : Bs) = [45])) (K false S2) (setI (IntKind.i64.wrap ((j : Int) + 1)) fun x10 => ∃ m, m < n ∧ ∃ j : Nat, x10 = j ∧ j + m = s.length ∧ Grow S S2 ∧ ∀ a (ha : a < s.length), a < j → isNm s[a] = true) := fun ha hb =>
      ifC_ndec (fun h => no (nope (by rw [eqc, n45] at h; omega))) (fun h => go (yes (by rw [eqc, n45] at h; omega)))
    have dig : ¬ (97 ≤ c.toNat ∧ c.toNat ≤ 122) → ifC (decide (c.toNat < (48 : UInt8).toNat)) (ifC (!decide (([c] : Bs) = [45])) (K false S2) (setI (IntKind.i64.wrap ((j : Int) + 1)) fun x10 => ∃ m, m < n ∧ ∃ j : Nat, x10 = j ∧ j + m = s.length ∧ Grow S S2 ∧ ∀ a (ha : a < s.length), a < j → isNm s[a] = true))
        (ifC (!(decide (c.toNat < (57 : UInt8).toNat) || decide (([c] : Bs) = [57]))) (ifC (!decide (([c] : Bs) = [45])) (K false S2) (setI (IntKind.i64.wrap ((j : Int) + 1)) fun x10 => ∃ m, m < n ∧ ∃ j : Nat, x10 = j ∧ j + m = s.length ∧ Grow S S2 ∧ ∀ a (ha : a < s.length), a < j → isNm s[a] = true)) (setI (IntKind.i64.wrap ((j : Int) + 1)) fun x10 => ∃ m, m < n ∧ ∃ j : Nat, x10 = j ∧ j + m = s.length ∧ Grow S S2 ∧ ∀ a (ha : a < s.length), a < j → isNm s[a] = true)) := fun ha => by
      refine ifC_dec (fun h => dash ha (by omega)) (fun h => ifC_tt_ff (fun h2 => dash ha ?_) (fun h2 => go (yes ?_)))
      · simp only [Bool.not_eq_true', Bool.or_eq_false_iff, decide_eq_false_iff_not, eqc, n57] at h2; omega
      · simp only [Bool.not_eq_false', Bool.or_eq_true, decide_eq_true_eq, eqc, n57] at h2; omega
    refine ifC_dec (fun h => dig (by omega)) (fun h => ifC_tt_ff (fun h2 => dig ?_) (fun h2 => go (yes ?_)))
    · simp only [Bool.not_eq_true', Bool.or_eq_false_iff, decide_eq_false_iff_not, eqc, n122] at h2; omega
    · simp only [Bool.not_eq_false', Bool.or_eq_true, decide_eq_true_eq, eqc, n122] at h2; omega
  · have hal : s.all isNm = true := List.all_eq_true.mpr fun c hc => by
      obtain ⟨a, ha, rfl⟩ := List.getElem_of_mem hc
      exact hall a ha (by omega)
    have h3 := hk S1 g1
    rw [hal, Bool.and_true] at h3
    refine ifC_dec (fun h => ?_) (fun h => ?_)
    · rw [decide_eq_true (show 1 ≤ s.length by omega), Bool.true_and] at h3
      have : decide ((s.length : Int) ≤ 64) = decide (s.length ≤ 64) := decide_eq_decide.mpr (by omega)
      rw [this]; exact h3
    · rw [decide_eq_false (show ¬ 1 ≤ s.length by omega)] at h3; exact h3

/-- A header line: its name, small, and its value. -/
def hdOk (l : Bs) : Bool := (cutL l [58]).2.2 && (decide (1 ≤ (cutL l [58]).1.length) && decide ((cutL l [58]).1.length ≤ 64) && (cutL l [58]).1.all isNm) && (cutL l [58]).2.1.all isPr
theorem headOk_eq (n : Nat) (l : Bs) : headOk n l = (decide (n + 1 ≤ 32) && hdOk l) := by
  unfold headOk hdOk
  simp only [Bool.and_assoc]
theorem trimL_stop {c : UInt8} {l : Bs} (h : l[0]? ≠ some c) : Lib.trimLeftB l c = l := by
  cases l with
  | nil => rfl
  | cons x l => rw [trimL_cons, if_neg (fun e => h (by simp [e]))]
theorem trimR_snoc (c x : UInt8) (l : Bs) : Lib.trimRightB (l ++ [x]) c = if x = c then Lib.trimRightB l c else l ++ [x] := by
  unfold Lib.trimRightB
  rw [List.reverse_append]
  by_cases h : x = c
  · subst h; simp [List.dropWhile]
  · have hb : (x == c) = false := by simp [h]
    simp [List.dropWhile, h, hb]
def HeaderS (P : Program) (f : Nat) : Prop := ∀ (l : Bs) (S : St) (K : Bs → Bs → Bool → St → Prop), S.Wf → l.length ≤ 1073741824 →
  (∀ S', Grow S S' → hdOk l = true → K (Lib.toLowerA (cutL l [58]).1) (Lib.trimB (cutL l [58]).2.1 32) true S') → (∀ S', Grow S S' → hdOk l = false → K [] [] false S') → CallA P f [.str l] S (retT [.one .str, .one .str, .one .bool] K)
theorem ref22_header.spec (hF : ref22_header.Ok P N) (hf : ref22_find.Spec P N) (hn : NameS P (N Fn.ref22_name)) (hwi : WithinS P (N Fn.ref22_within)) (hs : SmallS P (N Fn.ref22_small)) : HeaderS P (N Fn.ref22_header) := by
  intro l S K hw hl k1 k2
  refine ref22_header.run hF (hf l 58 S _ (by omega) ?_)
  unfold hdOk at k1 k2
  rw [cutL_one] at k1 k2
  unfold fndI
  cases h : fndB 58 l with
  | none =>
    rw [h] at k2
    exact Join0.all (ifC_pos (by decide) (k2 S (Upd.refl hw []) rfl))
  | some k =>
    rw [h] at k1 k2
    simp only [Bool.true_and] at k1 k2
    have hkl := fndB_lt h
    dsimp only
    refine Join0.mid (fun S' => Grow S S' ∧ ((decide (1 ≤ (l.take k).length) && decide ((l.take k).length ≤ 64) && (l.take k).all isNm) && (l.drop (k + 1)).all isPr) = true) ?_ ?_
    · refine ifC_neg (by omega) ⟨_, sliceStr_to (by omega), hn _ S _ hw (by rw [List.length_take]; omega) fun S1 g1 => ?_⟩
      refine ifC_tt_ff (fun h1 => k2 S1 g1 ?_) (fun h1 => setI_mk (wrap_succ (by omega)) ⟨_, sliceStr_from (by omega), hwi _ 32 126 S1 _ (by rw [List.length_drop]; omega) ?_⟩)
      · simp only [Bool.not_eq_true'] at h1; rw [h1]; rfl
      · simp only [Bool.not_eq_false'] at h1
        have e : (fun c : UInt8 => decide (32 ≤ c.toNat ∧ c.toNat ≤ 126)) = isPr := rfl
        rw [e]
        refine ifC_tt_ff (fun h2 => k2 S1 g1 ?_) (fun h2 => ⟨g1, ?_⟩)
        · simp only [Bool.not_eq_true'] at h2; rw [h2, Bool.and_false]
        · simp only [Bool.not_eq_false'] at h2; rw [h1, h2]; rfl
    · rintro S1 ⟨g1, hok⟩
      refine setI_mk (wrap_succ (by omega)) ⟨_, sliceStr_from (by omega), ?_⟩
      have hvl : (l.drop (k + 1)).length ≤ 1073741824 := by rw [List.length_drop]; omega
      generalize hval : l.drop (k + 1) = val at hvl k1 hok
      refine Join1.mid (fun x S' => S' = S1 ∧ x = Lib.trimLeftB val 32) ?_ ?_
      · refine Loop1.ind (fun n x S' => S' = S1 ∧ x.length = n ∧ Lib.trimLeftB x 32 = Lib.trimLeftB val 32) val.length ⟨rfl, rfl, rfl⟩ ?_
        rintro n x S' ⟨e, rfl, hx⟩
        rw [e]; clear e S'
        refine ifC_dec (fun h0 => ?_) (fun h0 => ⟨rfl, ?_⟩)
        · have hx0 : 0 < x.length := by omega
          refine ⟨_, idx_str (j := 0) hx0, ifC_dec (fun h32 => ⟨_, sliceStr_from (l := 1) (by omega), ?_⟩) (fun h32 => ⟨rfl, ?_⟩)⟩
          · refine ⟨(x.drop 1).length, by rw [List.length_drop]; omega, rfl, rfl, ?_⟩
            cases x with
            | nil => simp at hx0
            | cons y x =>
              have : y = 32 := UInt8.toNat_inj.mp (by simp at h32; have e : (32 : UInt8).toNat = 32 := rfl; omega)
              subst this
              rw [trimL_cons, if_pos rfl] at hx
              exact hx
          · rw [← hx, trimL_stop]
            rw [List.getElem?_eq_getElem hx0]
            intro e
            have := Option.some.inj e
            rw [this] at h32; exact h32 rfl
        · have : x = [] := List.length_eq_zero_iff.mp (by omega)
          subst this
          rw [← hx]; rfl
      rintro x6 S' ⟨e, hx6⟩
      rw [e]; clear e S'
      have hx6l : x6.length ≤ val.length := by
        rw [hx6]; unfold Lib.trimLeftB; exact (List.dropWhile_sublist _).length_le
      refine Join1.mid (fun x S' => S' = S1 ∧ x = Lib.trimB val 32) ?_ ?_
      · refine Loop1.ind (fun n x S' => S' = S1 ∧ x.length = n ∧ x.length ≤ val.length ∧ Lib.trimRightB x 32 = Lib.trimB val 32) x6.length ⟨rfl, rfl, hx6l, by rw [hx6, trim_comm]⟩ ?_
        rintro n x S' ⟨e, rfl, hxl, hx⟩
        rw [e]; clear e S'
        have stop : x.getLast? ≠ some 32 → S1 = S1 ∧ x = Lib.trimB val 32 := fun h => ⟨rfl, by
          rw [← hx]
          rcases List.eq_nil_or_concat x with rfl | ⟨y, z, rfl⟩
          · rfl
          · rw [List.concat_eq_append] at h ⊢
            rw [trimR_snoc, if_neg (fun e => h (by simp [e]))]⟩
        refine Join0.mid (fun S' => S' = S1 ∧ ∃ y, x = y ++ [32]) ?_ ?_
        · refine ifC_dec (fun h0 => setI_mk (n := ((x.length - 1 : Nat) : Int)) (by rw [IntKind.wrap_i64]; omega) ⟨_, idx_str (j := x.length - 1) (by omega), ifC_dec (fun h32 => ⟨rfl, ?_⟩) (fun h32 => stop ?_)⟩) (fun h0 => stop ?_)
          · rcases List.eq_nil_or_concat x with rfl | ⟨y, z, rfl⟩
            · simp at h0
            · refine ⟨y, ?_⟩
              have : z = 32 := UInt8.toNat_inj.mp (by simp at h32; have e : (32 : UInt8).toNat = 32 := rfl; omega)
              rw [List.concat_eq_append, this]
          · rcases List.eq_nil_or_concat x with rfl | ⟨y, z, rfl⟩
            · simp at h0
            · intro e
              have : z = 32 := by simpa using e
              subst this
              exact h32 (by simp)
          · have : x = [] := List.length_eq_zero_iff.mp (by omega)
            subst this; simp
        · rintro S' ⟨e, y, rfl⟩
          rw [e]; clear e S'
          refine setI_mk (n := ((y.length : Nat) : Int)) (by rw [IntKind.wrap_i64]; simp at hxl ⊢; omega) ⟨_, sliceStr_to (h := y.length) (by simp), ?_⟩
          refine ⟨y.length, by simp, rfl, by rw [List.take_left' rfl], by rw [List.take_left' rfl]; simp at hxl; omega, ?_⟩
          rw [List.take_left' rfl, ← hx, trimR_snoc, if_pos rfl]
      rintro x7 S' ⟨e, hx7⟩
      rw [e]; clear e S'
      refine ⟨_, sliceStr_to (by omega), hs _ S1 _ g1.wf (by rw [List.length_take]; omega) fun S2 g2 => ?_⟩
      rw [hx7]
      exact k1 S2 (g1.trans g2) hok

def NumberS (P : Program) (f : Nat) : Prop := ∀ (s : Bs) (S : St) (K : Int → St → Prop), s.length ≤ 1073741824 → K (numF' s) S → CallA P f [.str s] S (retT [.one (.int .i64)] K)
theorem valD_snoc {t : Bs} {j : Nat} (h : j < t.length) : valD (t.take (j + 1)) = valD (t.take j) * 10 + (t[j].toNat - 48) := by
  rw [List.take_add_one, List.getElem?_eq_getElem h]
  show valA 0 (t.take j ++ [t[j]]) = _
  rw [valA_app]; rfl
theorem ref22_number.spec (hF : ref22_number.Ok P N) (hwi : WithinS P (N Fn.ref22_within)) : NumberS P (N Fn.ref22_number) := by
  intro s S K hl hk
  unfold numF' at hk
  refine ref22_number.run hF (Join0.mid (fun S' => S' = S ∧ s.length ≤ 9 ∧ s.all isDig = true ∧ ¬ (s.length < 1 ∨ 9 < s.length ∨ s.all isDig = false)) ?_ ?_)
  · refine ifC_dec (fun h => ?_) (fun h => ifC_dec (fun h2 => ?_) (fun h2 => hwi s 48 57 S _ (by omega) ?_))
    · rw [if_pos (.inl (by omega))] at hk; exact hk
    · rw [if_pos (.inr (.inl (by omega)))] at hk; exact hk
    · have e : (fun c : UInt8 => decide (48 ≤ c.toNat ∧ c.toNat ≤ 57)) = isDig := rfl
      rw [e]
      refine ifC_tt_ff (fun h3 => ?_) (fun h3 => ⟨rfl, by omega, by simpa using h3, fun h4 => ?_⟩)
      · rw [if_pos (.inr (.inr (by simpa using h3)))] at hk; exact hk
      · rcases h4 with h4 | h4 | h4
        · omega
        · omega
        · rw [h4] at h3; cases h3
  rintro S' ⟨e, h9, hd, hno⟩
  rw [e]; clear e S'
  rw [if_neg hno] at hk
  refine Loop2.ind (fun n x y S' => S' = S ∧ ∃ j : Nat, y = j ∧ j + n = s.length ∧ x = (valD (s.take j) : Int)) s.length ⟨rfl, 0, rfl, by omega, rfl⟩ ?_
  rintro n _ _ S' ⟨e, j, rfl, hj, rfl⟩
  rw [e]; clear e S'
  refine ifC_dec (fun hlt => ?_) (fun hge => ?_)
  · have hjl : j < s.length := by omega
    have hdg := dig_iff.mp (List.all_eq_true.mp hd _ (List.getElem_mem hjl))
    have hv := valA_below (s.take j) 0 (fun b hb => List.all_eq_true.mp hd b (List.mem_of_mem_take hb))
    have hp : 10 ^ (s.take j).length ≤ 10 ^ 9 := Nat.pow_le_pow_right (by omega) (by rw [List.length_take]; omega)
    have hv2 : valD (s.take j) < 10 ^ 9 := by unfold valD; omega
    refine setI_mk (n := ((10 * valD (s.take j) : Nat) : Int)) (wrapN (by omega) (by omega)) ⟨_, idx_str hjl, setI_mk (n := ((s[j].toNat - 48 : Nat) : Int)) (wrapU8 (by omega) (by omega)) (setI_mk (n := ((s[j].toNat - 48 : Nat) : Int)) (wrapN (by omega) (by omega)) (setI_mk (n := ((10 * valD (s.take j) + (s[j].toNat - 48) : Nat) : Int)) (wrapN (by omega) (by omega)) (setI_mk (wrap_succ (by omega)) ⟨n - 1, by omega, rfl, j + 1, rfl, by omega, ?_⟩)))⟩
    rw [valD_snoc hjl]; omega
  · have : s.take j = s := List.take_of_length_le (by omega)
    rw [this]; exact hk
end Go.Th.L
end

section
/- http, the reference: lines, headers. -/
set_option linter.unusedSimpArgs false
set_option linter.unusedVariables false
namespace Go.Th.L
open Go Go.Th Go.Th.Pure
variable {P : Program} {N : Nat → Nat}

abbrev RD (S : St) (i : Nat) (s : Bs) (a : Nat) (w : Int) (wt : Bool) : Prop := S.get i = some (.cells [.str s, .int .i64 (a : Nat), .int .i64 w, .bool wt] true)
theorem ref22_stop.spec (hF : ref22_Reading_stop.Ok P N) {S : St} {i : Nat} {s : Bs} {a : Nat} {w : Int} {wt : Bool} {K : Bool → St → Prop} (h : RD S i s a w wt) (hk : K (wt || !decide (w = 0)) S) : CallA P (N Fn.ref22_Reading_stop) [.ptr i 0] S (retT [.one .bool] K) := by
  refine ref22_Reading_stop.run hF ⟨rfl, ifS_mk rfl ⟨_, ld h rfl, ?_⟩⟩
  cases wt with
  | true => exact ifC_tt rfl hk
  | false => exact ifC_ff rfl ⟨rfl, ifS_mk rfl ⟨_, ld h rfl, hk⟩⟩

def RLineS (P : Program) (f : Nat) : Prop := ∀ (S : St) (i : Nat) (s : Bs) (a : Nat) (K : Bs → St → Prop), S.Wf → RD S i s a 0 false → a ≤ s.length → s.length ≤ 1073741824 →
  (lineR (s.drop a) = .wait → ∀ S', Upd [i] S S' → RD S' i s a 0 true → K [] S') → (lineR (s.drop a) = .large → ∀ S', Upd [i] S S' → RD S' i s a 223 false → K [] S') →
  (∀ l, lineR (s.drop a) = .got l (s.drop (a + l.length + 2)) → a + l.length + 2 ≤ s.length → ∀ S', Upd [i] S S' → RD S' i s (a + l.length + 2) 0 false → K l S') → CallA P f [.ptr i 0] S (retT [.one .str] K)
theorem ref22_line.spec (hF : ref22_Reading_line.Ok P N) : RLineS P (N Fn.ref22_Reading_line) := by
  intro S i s a K hw h ha hl kW kL kG
  refine ref22_Reading_line.run hF (Join0.mid (fun S' => S' = S ∧ ∀ k, k ≤ 1024 → ¬ crlfAt (s.drop a) k) ?_ ?_)
  · refine ⟨rfl, ifS_mk rfl ⟨_, ld h rfl, ?_⟩⟩
    refine Loop1.ind (fun n x S' => S' = S ∧ ∃ j : Nat, x = ((a + j : Nat) : Int) ∧ a + j + n = s.length + 1 ∧ ∀ k, k < j → ¬ crlfAt (s.drop a) k) (s.length + 1 - a) ⟨rfl, 0, rfl, by omega, fun k hk => by omega⟩ ?_
    rintro n _ S' ⟨e, j, rfl, hj, hall⟩
    rw [e]; clear e S'
    have at_ : ∀ k, (s.drop a)[k]? = s[a + k]? := fun k => by rw [List.getElem?_drop]
    have past : ∀ k, crlfAt (s.drop a) k → a + k + 1 < s.length := fun k hk => by
      have := hk.2
      rw [at_] at this
      rcases Nat.lt_or_ge (a + k + 1) s.length with h' | h'
      · exact h'
      · rw [List.getElem?_eq_none (by omega)] at this; cases this
    refine Join0.mid (fun S' => S' = S ∧ a + j + 1 < s.length ∧ j ≤ 1024) ?_ ?_
    · refine setI_mk (wrap_succ (by omega)) ⟨rfl, ifS_mk rfl ⟨_, ld h rfl, ifC_dec (fun h1 => ⟨rfl, ifS_mk rfl ⟨_, ld h rfl, setI_mk (n := ((a + 1024 : Nat) : Int)) (wrapN (by omega) (by omega)) (ifC_dec (fun h2 => ⟨rfl, by omega, by omega⟩) (fun h2 => ⟨rfl, fun k hk => hall k (by omega)⟩))⟩⟩) (fun h1 => ⟨rfl, fun k hk hc => ?_⟩)⟩⟩
      rcases Nat.lt_or_ge k j with h' | h'
      · exact hall k h' hc
      · have := past k hc; omega
    rintro S' ⟨e, h1, h2⟩
    rw [e]; clear e S'
    have g0 : (s.drop a)[j]? = some s[a + j] := by rw [at_, List.getElem?_eq_getElem (by omega)]
    have g1 : (s.drop a)[j + 1]? = some s[a + j + 1] := by rw [at_, List.getElem?_eq_getElem (by omega)]; rfl
    refine Join1.mid (fun t S' => S' = S ∧ (t = true ↔ crlfAt (s.drop a) j)) ?_ ?_
    · refine ⟨rfl, ifS_mk rfl ⟨_, ld h rfl, _, idx_str (j := a + j) (by omega), ifC_dec (fun h13 => ⟨rfl, ifS_mk rfl ⟨_, ld h rfl, setI_mk (wrap_succ (by omega)) ⟨_, idx_str (j := a + j + 1) h1, rfl, ?_⟩⟩⟩) (fun h13 => ⟨rfl, ?_⟩)⟩⟩
      · have e13 : s[a + j] = 13 := UInt8.toNat_inj.mp (by have e : (13 : UInt8).toNat = 13 := rfl; omega)
        rw [decide_eq_true_eq, crlfAt, g0, g1, e13]
        constructor
        · intro h10
          exact ⟨rfl, by rw [UInt8.toNat_inj.mp (show s[a + j + 1].toNat = (10 : UInt8).toNat by have e : (10 : UInt8).toNat = 10 := rfl; omega)]⟩
        · rintro ⟨_, h10⟩
          rw [Option.some.inj h10]; rfl
      · constructor
        · intro h; cases h
        · rintro ⟨h13', _⟩
          rw [g0] at h13'
          rw [Option.some.inj h13'] at h13
          exact absurd rfl h13
    rintro t S' ⟨e, ht⟩
    rw [e]; clear e S'
    refine ifC_tt_ff (fun h3 => ?_) (fun h3 => ?_)
    · have hc := ht.mp h3
      have hg := lineR_at hall hc h2
      have hlt : ((s.drop a).take j).length = j := by rw [List.length_take, List.length_drop]; omega
      refine ⟨rfl, ifS_mk rfl ⟨_, ld h rfl, rfl, ifS_mk rfl ⟨_, ld h rfl, _, sliceStr_sub (l := a) (h := a + j) (by omega) (by omega), setI_mk (n := ((a + j + 2 : Nat) : Int)) (wrapN (by omega) (by omega)) ⟨rfl, ifS_mk rfl ?_⟩⟩⟩⟩
      refine st_mk hw h rfl (by simp [V.cells]) rfl fun S5 u5 m5 n5 => ?_
      have e1 : (s.take (a + j)).drop a = (s.drop a).take j := by rw [List.drop_take]; congr 1; omega
      rw [e1]
      refine kG _ ?_ (by rw [hlt]; omega) S5 u5 ?_
      · rw [hg, hlt, List.drop_drop, Nat.add_assoc]
      · rw [hlt, RD, m5]; rfl
    · refine setI_mk (wrap_succ (by omega)) ⟨n - 1, by omega, rfl, j + 1, by omega, by omega, fun k hk => ?_⟩
      by_cases e : k = j
      · subst e; intro hc; rw [ht.mpr hc] at h3; cases h3
      · exact hall k (by omega)
  · rintro S' ⟨e, hno⟩
    rw [e]; clear e S'
    have hr := lineR_no hno
    rw [List.length_drop] at hr
    refine ⟨rfl, ifS_mk rfl ⟨_, ld h rfl, rfl, ifS_mk rfl ⟨_, ld h rfl, setI_mk (n := ((s.length - a : Nat) : Int)) (by rw [IntKind.wrap_i64]; omega) (ifC_dec (fun h1 => ?_) (fun h1 => ?_))⟩⟩⟩
    · rw [if_pos (by omega)] at hr
      exact ⟨rfl, ifS_mk rfl (st_mk hw h rfl (by simp [V.cells]) rfl fun S' u m _ => kL hr S' u (by simpa [over, V.cells] using m))⟩
    · rw [if_neg (by omega)] at hr
      exact ⟨rfl, ifS_mk rfl (st_mk hw h rfl (by simp [V.cells]) rfl fun S' u m _ => kW hr S' u (by simpa [over, V.cells] using m))⟩

theorem tell5 {S : St} (hw : S.Wf) {i : Nat} {cs : List V} (hg : S.get i = some (.cells cs true)) (hl : cs.length = 5) {q : Rq} {K : Bs → Bs → Bs → Bs → Bool → St → Prop} (hk : ∀ S', Upd [i] S S' → K q.m q.p q.u q.bd q.cl S') :
    ifS (storeV S 5 (.ptr i 0) (.agg [.str q.m, .str q.p, .str q.u, .str q.bd, .bool q.cl])) fun S3 => ∃ xa : Bs, ∃ xb : Bs, ∃ xc : Bs, ∃ xd : Bs, ∃ xe : Bool, cellNV S3 5 (.ptr i 0) = some (.agg [.str xa, .str xb, .str xc, .str xd, .bool xe]) ∧ K xa xb xc xd xe S3 := by
  match cs, hl with
  | [a1, a2, a3, a4, a5], _ => exact st_mk hw hg (by simp [V.cells]) (by simp [V.cells]) rfl fun S3 u3 m3 n3 => ⟨_, _, _, _, _, ldC m3 (by simp [over, V.cells]) rfl, hk S3 u3⟩

def RFirstS (P : Program) (f : Nat) : Prop := ∀ (l : Bs) (S : St) (K : Bs → Bs → Bs → Bs → Bool → Bool → St → Prop), S.Wf → l.length ≤ 1073741824 →
  (firstOk l = true → ∀ S', Grow S S' → K (firstQ l).m (firstQ l).p (firstQ l).u (firstQ l).bd (firstQ l).cl true S') → (firstOk l = false → ∀ q : Rq, ∀ S', Grow S S' → K q.m q.p q.u q.bd q.cl false S') →
  CallA P f [.str l] S (retT [.agg [.str, .str, .str, .str, .bool], .one .bool] K)
theorem ref22_first.spec (hF : ref22_first.Ok P N) (hf : ref22_find.Spec P N) (hwi : WithinS P (N Fn.ref22_within)) : RFirstS P (N Fn.ref22_first) := by
  intro l S K hw hl k1 k2
  refine ref22_first.run hF (newS_mk hw fun S1 g1 m1 n1 => newS_mk g1.wf fun S2 g2 m2 n2 => hf l 32 S2 _ (by omega) ?_)
  have g12 : Grow S S2 := g1.trans g2
  have m1' : S2.get S.next = some (.cells [.str [], .str [], .str [], .str [], .bool false] true) := g2.get m1
  have hne : S.next ≠ S1.next := by omega
  have fresh : ∀ D : List Nat, (∀ z ∈ D, z = S.next ∨ z = S1.next) → ∀ z ∈ D, S.next ≤ z ∨ z ∈ ([] : List Nat) := fun D h z hz => .inl (by have := g1.le; rcases h z hz with h | h <;> omega)
  have bad : ∀ (S4 : St) (q : Rq), Grow S S4 → firstOk l = false → S4.get S.next = some (.cells [.str [], .str [], .str [], .str [], .bool false] true) → S4.get S1.next = some (.cells (rqC q) true) →
      ∃ x25_a : Bs, ∃ x25_b : Bs, ∃ x25_c : Bs, ∃ x25_d : Bs, ∃ x25_e : Bool, loadNV S4 5 (.ptr S1.next 0) = some (.agg [.str x25_a, .str x25_b, .str x25_c, .str x25_d, .bool x25_e]) ∧ ifS (storeV S4 5 (.ptr S.next 0) (.agg [.str x25_a, .str x25_b, .str x25_c, .str x25_d, .bool x25_e])) fun S6 => ∃ xa : Bs, ∃ xb : Bs, ∃ xc : Bs, ∃ xd : Bs, ∃ xe : Bool, cellNV S6 5 (.ptr S.next 0) = some (.agg [.str xa, .str xb, .str xc, .str xd, .bool xe]) ∧ K xa xb xc xd xe false S6 := fun S4 q g4 hno mr mq =>
    ⟨_, _, _, _, _, ldN mq (by simp) rfl, tell5 (q := q) g4.wf mr rfl (K := fun a b c d e S' => K a b c d e false S') fun S6 u6 => k2 hno q S6 (g4.after u6 (fresh _ (by simp)))⟩
  unfold fndI
  cases h32 : fndB 32 l with
  | none =>
    dsimp only
    refine Join1.mid (fun t S' => S' = S2 ∧ t = true) (ifC_pos (by decide) ⟨rfl, rfl⟩) ?_
    rintro t S' ⟨e, rfl⟩
    rw [e]; clear e S'
    exact ifC_tt rfl (bad S2 ⟨[], [], [], [], false⟩ g12 (firstOk_none h32) m1' m2)
  | some a =>
    dsimp only
    have hal := fndB_lt h32
    have hok := firstOk_some h32
    refine Join1.mid (fun t S' => S' = S2 ∧ t = !(decide (1 ≤ a) && decide (a ≤ 16) && (l.take a).all isUp)) ?_ ?_
    · refine ifC_dec (fun h1 => ⟨rfl, ?_⟩) (fun h1 => ifC_dec (fun h2 => ⟨rfl, ?_⟩) (fun h2 => ⟨_, sliceStr_to (by omega), hwi _ 65 90 S2 _ (by rw [List.length_take]; omega) ⟨rfl, ?_⟩⟩))
      · rw [decide_eq_false (show ¬ 1 ≤ a by omega)]; rfl
      · rw [decide_eq_false (show ¬ a ≤ 16 by omega), Bool.and_false]; rfl
      · rw [decide_eq_true (show 1 ≤ a by omega), decide_eq_true (show a ≤ 16 by omega)]; rfl
    rintro t S' ⟨e, ht⟩
    rw [e]; clear e S'
    refine ifC_tt_ff (fun h => ?_) (fun h => ?_)
    · rw [h] at ht
      have h2 : (decide (1 ≤ a) && decide (a ≤ 16) && (l.take a).all isUp) = false := by
        cases hh : (decide (1 ≤ a) && decide (a ≤ 16) && (l.take a).all isUp) with
        | false => rfl
        | true => rw [hh] at ht; cases ht
      rw [h2] at hok
      exact bad S2 ⟨[], [], [], [], false⟩ g12 hok m1' m2
    rw [h] at ht
    have h2 : (decide (1 ≤ a) && decide (a ≤ 16) && (l.take a).all isUp) = true := by
      cases hh : (decide (1 ≤ a) && decide (a ≤ 16) && (l.take a).all isUp) with
      | true => rfl
      | false => rw [hh] at ht; cases ht
    rw [h2, Bool.true_and] at hok
    refine ⟨_, sliceStr_to (by omega), st_mk g2.wf m2 rfl (by simp [V.cells]) rfl fun S3 u3 m3 n3 => ?_⟩
    have g3 : Grow S S3 := g12.after u3 (fresh _ (by simp))
    have r3 : S3.get S.next = some (.cells [.str [], .str [], .str [], .str [], .bool false] true) := u3.get m1' (by simp [hne])
    have q3 : S3.get S1.next = some (.cells (rqC ⟨l.take a, [], [], [], false⟩) true) := by simpa [over, V.cells] using m3
    refine setI_mk (wrap_succ (by omega)) ⟨_, sliceStr_from (by omega), hf _ 32 S3 _ (by rw [List.length_drop]; omega) ?_⟩
    have hrl : (l.drop (a + 1)).length ≤ 1073741824 := by rw [List.length_drop]; omega
    have hq := @firstQ_some l a
    generalize l.drop (a + 1) = rest at hok hrl hq
    unfold fndI
    cases hb32 : fndB 32 rest with
    | none =>
      rw [hb32] at hok
      dsimp only
      refine Join1.mid (fun t S' => S' = S3 ∧ t = true) (ifC_pos (by decide) ⟨rfl, rfl⟩) ?_
      rintro t S' ⟨e, rfl⟩
      rw [e]; clear e S'
      exact ifC_tt rfl (bad S3 _ g3 hok r3 q3)
    | some b =>
      rw [hb32] at hok
      have hq := hq h32 hb32
      dsimp only at hok ⊢
      have hbl := fndB_lt hb32
      have htk : (rest.take b)[0]? = some 47 ↔ 1 ≤ b ∧ rest[0]? = some 47 := by
        rw [List.getElem?_take]
        split
        · constructor
          · intro h; exact ⟨by omega, h⟩
          · intro h; exact h.2
        · constructor
          · intro h; cases h
          · intro h; omega
      refine Join1.mid (fun t S' => S' = S3 ∧ t = !(decide (rest.drop (b + 1) = wVer) && decide ((rest.take b)[0]? = some 47) && (rest.take b).all isVis)) ?_ ?_
      · refine ifC_dec (fun h1 => ⟨rfl, ?_⟩) (fun h1 => setI_mk (wrap_succ (by omega)) ⟨_, sliceStr_from (by omega), ifC_ndec (fun hv => ⟨rfl, ?_⟩) (fun hv => ⟨_, idx_str (j := 0) (by omega), ifC_ndec (fun h47 => ⟨rfl, ?_⟩) (fun h47 => ⟨_, sliceStr_to (by omega), hwi _ 33 126 S3 _ (by rw [List.length_take]; omega) ⟨rfl, ?_⟩⟩)⟩)⟩)
        · rw [decide_eq_false (show ¬ (rest.take b)[0]? = some 47 from fun e => by have := (htk.mp e).1; omega), Bool.and_false]; rfl
        · rw [decide_eq_false (show ¬ rest.drop (b + 1) = wVer from hv)]; rfl
        · rw [decide_eq_false (show ¬ (rest.take b)[0]? = some 47 from fun e => by
            have := (htk.mp e).2
            rw [List.getElem?_eq_getElem (by omega)] at this
            rw [Option.some.inj this] at h47
            exact h47 rfl), Bool.and_false]; rfl
        · rw [decide_eq_true (show rest.drop (b + 1) = wVer from hv), decide_eq_true (htk.mpr ⟨by omega, by rw [List.getElem?_eq_getElem (by omega), UInt8.toNat_inj.mp (show rest[0].toNat = (47 : UInt8).toNat by have e : (47 : UInt8).toNat = 47 := rfl; omega)]⟩)]; rfl
      rintro t S' ⟨e, ht⟩
      rw [e]; clear e S'
      rw [← hok] at ht
      refine ifC_tt_ff (fun h => bad S3 _ g3 (by rw [h] at ht; simpa using ht.symm) r3 q3) (fun h => ?_)
      have hyes : firstOk l = true := by
        cases hh : firstOk l with
        | true => rfl
        | false => rw [hh, h] at ht; cases ht
      refine ⟨_, sliceStr_to (by omega), st_mk g3.wf q3 rfl (by simp [V.cells]) rfl fun S4 u4 m4 n4 => ?_⟩
      have g4 : Grow S S4 := g3.after u4 (fresh _ (by simp))
      have r4 : S4.get S.next = some (.cells [.str [], .str [], .str [], .str [], .bool false] true) := u4.get r3 (by simp [hne])
      have q4 : S4.get S1.next = some (.cells (rqC ⟨l.take a, rest.take b, [], [], false⟩) true) := by simpa [over, V.cells] using m4
      refine hf _ 63 S4 _ (by rw [List.length_take]; omega) ?_
      have htl : (rest.take b).length ≤ 1073741824 := by rw [List.length_take]; omega
      generalize rest.take b = tg at hq q4 htl
      refine Join0.mid (fun S' => Grow S S' ∧ S'.get S.next = some (.cells [.str [], .str [], .str [], .str [], .bool false] true) ∧ S'.get S1.next = some (.cells (rqC (firstQ l)) true)) ?_ ?_
      · unfold fndI
        cases h63 : fndB 63 tg with
        | none =>
          rw [h63] at hq
          rw [hq]
          exact ifC_neg (by decide) ⟨g4, r4, q4⟩
        | some c =>
          rw [h63] at hq
          rw [hq]
          have hcl := fndB_lt h63
          refine ifC_pos (by simp only; omega) ⟨_, sliceStr_to (by omega), st_mk g4.wf q4 rfl (by simp [V.cells]) rfl fun S5 u5 m5 n5 => setI_mk (wrap_succ (by omega)) ⟨_, sliceStr_from (by omega), ?_⟩⟩
          have q5 : S5.get S1.next = some (.cells (rqC ⟨l.take a, tg.take c, [], [], false⟩) true) := by simpa [over, V.cells] using m5
          refine st_mk u5.wf q5 rfl (by simp [V.cells]) rfl fun S6 u6 m6 n6 => ⟨(g4.after u5 (fresh _ (by simp))).after u6 (fresh _ (by simp)), u6.get (u5.get r4 (by simp [hne])) (by simp [hne]), by simpa [over, V.cells] using m6⟩
      · rintro S7 ⟨g7, r7, q7⟩
        exact ⟨_, _, _, _, _, ldN q7 (by simp) rfl, tell5 (q := firstQ l) g7.wf r7 rfl (K := fun a b c d e S' => K a b c d e true S') fun S8 u8 => k1 hyes S8 (g7.after u8 (fresh _ (by simp)))⟩
end Go.Th.L
end

section
/- http, the reference: headers, a request, all requests. -/
set_option linter.unusedSimpArgs false
set_option linter.unusedVariables false
namespace Go.Th.L
open Go Go.Th Go.Th.Pure
variable {P : Program} {N : Nat → Nat}

theorem head_run {q : Rq} {n : Nat} {len : Int} {b l r : Bs} (h : lineR b = .got l r) (hl : l ≠ []) : runAll (.head q n len) b = ((runAll (headS q n len r (headF n len l)).1 (headS q n len r (headF n len l)).2.1).1, (runAll (headS q n len r (headF n len l)).1 (headS q n len r (headF n len l)).2.1).2.1, (headS q n len r (headF n len l)).2.2 ++ (runAll (headS q n len r (headF n len l)).1 (headS q n len r (headF n len l)).2.1).2.2) :=
  run_some (ph' := (headS q n len r (headF n len l)).1) (b' := (headS q n len r (headF n len l)).2.1) (t := (headS q n len r (headF n len l)).2.2) (by simp only [stepM, h]; rw [if_neg hl])
theorem head_bad {q : Rq} {n : Nat} {len : Int} {b l r : Bs} {e : Int} (h : lineR b = .got l r) (hl : l ≠ []) (hb : headF n len l = .bad e) : runAll (.head q n len) b = (.wrong e, r, []) := by
  rw [head_run h hl, hb]
  simp only [headS]
  rw [run_stop rfl]; rfl
theorem head_go {q : Rq} {n : Nat} {len : Int} {b l r : Bs} {hr : HR} {q' : Rq} {len' : Int} (h : lineR b = .got l r) (hl : l ≠ []) (hb : headF n len l = hr) (hs : headS q n len r hr = (.head q' (n + 1) len', r, [])) : runAll (.head q n len) b = runAll (.head q' (n + 1) len') r := by
  rw [head_run h hl, hb, hs]
  simp only [List.nil_append]

def HeadsS (P : Program) (f : Nat) : Prop := ∀ (S : St) (i : Nat) (s : Bs) (a : Nat) (q : Rq) (K : Int → Bool → St → Prop), S.Wf → RD S i s a 0 false → a ≤ s.length → s.length ≤ 1073741824 → q.cl = false →
  (∀ S' a' n last, Upd [i] S S' → RD S' i s a' 0 true → (∃ ph b', runAll (.head q 0 (-1)) (s.drop a) = (ph, b', []) ∧ ph.stop = false) → K n last S') →
  (∀ S' a' e n last, e ≠ 0 → Upd [i] S S' → RD S' i s a' e false → (∃ b', runAll (.head q 0 (-1)) (s.drop a) = (.wrong e, b', [])) → K n last S') →
  (∀ S' a' len last, Upd [i] S S' → RD S' i s a' 0 false → a' ≤ s.length → a ≤ a' → runAll (.head q 0 (-1)) (s.drop a) = runAll (.body { q with cl := last } len) (s.drop a') → K (goMax 0 len) last S') → CallA P f [.ptr i 0] S (retT [.one (.int .i64), .one .bool] K)

theorem HeaderS.both {f : Nat} (hH : HeaderS P f) {l : Bs} {S : St} {K : Bs → Bs → Bool → St → Prop} (hw : S.Wf) (hl : l.length ≤ 1073741824)
    (fin : ∀ (x y : Bs) (c : Bool) (S' : St), Grow S S' → c = hdOk l → (hdOk l = true → x = Lib.toLowerA (cutL l [58]).1 ∧ y = Lib.trimB (cutL l [58]).2.1 32) → y.length ≤ 1073741824 → K x y c S') : CallA P f [.str l] S (retT [.one .str, .one .str, .one .bool] K) := by
  refine hH l S K hw hl (fun S3 g3 hok => fin _ _ _ S3 g3 hok.symm (fun _ => ⟨rfl, rfl⟩) ?_) (fun S3 g3 hno => fin _ _ _ S3 g3 hno.symm (fun h => by rw [hno] at h; cases h) (Nat.zero_le _))
  have h4 := trimB_len (cutL l [58]).2.1 32
  have h5 := (cutL_le l [58]).2
  omega

theorem ref22_heads.spec (hF : ref22_Reading_heads.Ok P N) (hL : RLineS P (N Fn.ref22_Reading_line)) (hSt : ref22_Reading_stop.Ok P N) (hH : HeaderS P (N Fn.ref22_header)) (hNu : NumberS P (N Fn.ref22_number)) : HeadsS P (N Fn.ref22_Reading_heads) := by
  intro S i s a q K hw h ha hl hqc kW kE kB
  refine ref22_Reading_heads.run hF (Loop3.ind (fun m len last n S1 => ∃ (a1 n' : Nat), n = n' ∧ m = s.length - a1 ∧ a ≤ a1 ∧ a1 ≤ s.length ∧ n' ≤ 32 ∧ Upd [i] S S1 ∧ RD S1 i s a1 0 false ∧ runAll (.head q 0 (-1)) (s.drop a) = runAll (.head { q with cl := last } n' len) (s.drop a1)) (s.length - a)
    ⟨a, 0, rfl, rfl, Nat.le_refl _, ha, by omega, Upd.refl hw _, h, by rw [← hqc]⟩ ?_)
  rintro m len last _ S1 ⟨a1, n, rfl, rfl, haa, ha1, hn, u1, h1, hrun⟩
  refine hL S1 i s a1 _ u1.wf h1 ha1 hl (fun e S2 u2 h2 => ?_) (fun e S2 u2 h2 => ?_) (fun l e hle S2 u2 h2 => ?_)
  · refine Join1.mid (fun t S' => S' = S2 ∧ t = true) (ref22_stop.spec hSt h2 (ifC_tt rfl ⟨rfl, rfl⟩)) ?_
    rintro t S' ⟨e', rfl⟩
    rw [e']; clear e' S'
    exact ifC_tt rfl (kW S2 a1 _ _ (u1.trans u2) h2 ⟨_, _, by rw [hrun, run_none (by simp only [stepM, e])], rfl⟩)
  · refine Join1.mid (fun t S' => S' = S2 ∧ t = true) (ref22_stop.spec hSt h2 (ifC_tt rfl ⟨rfl, rfl⟩)) ?_
    rintro t S' ⟨e', rfl⟩
    rw [e']; clear e' S'
    refine ifC_tt rfl (kE S2 a1 223 _ _ (by decide) (u1.trans u2) h2 ⟨s.drop a1, ?_⟩)
    rw [hrun, run_some (ph' := .wrong 223) (b' := s.drop a1) (t := []) (by simp only [stepM, e]), run_stop rfl]; rfl
  refine Join1.mid (fun t S' => S' = S2 ∧ t = decide (l = [])) (ref22_stop.spec hSt h2 (ifC_ff rfl ⟨rfl, rfl⟩)) ?_
  rintro t S' ⟨e', ht⟩
  rw [e']; clear e' S'
  have u12 := u1.trans u2
  refine ifC_tt_ff (fun h3 => ?_) (fun h3 => ?_)
  · have hl0 : l = [] := by rw [ht] at h3; exact of_decide_eq_true h3
    refine kB S2 _ len last u12 h2 hle (by omega) ?_
    rw [hrun, run_some (ph' := .body { q with cl := last } len) (b' := s.drop (a1 + l.length + 2)) (t := []) (by simp only [stepM, e]; rw [if_pos hl0])]
    simp only [List.nil_append]
  have hl0 : l ≠ [] := by rw [ht] at h3; exact of_decide_eq_false h3
  refine hH.both u2.wf (by omega) ?_
  intro x27a x27b x27c S3 g3 hc hx hbl
  have h23 := g3.get h2
  have u13 : Upd [i] S S3 := u12.after g3 (by simp)
  have a1' : a1 + l.length + 2 ≤ s.length := hle
  refine Join2.mid (fun len' last' S6 => Upd [i] S S6 ∧ ((∃ ee, ee ≠ 0 ∧ RD S6 i s (a1 + l.length + 2) ee false ∧ runAll (.head q 0 (-1)) (s.drop a) = (.wrong ee, s.drop (a1 + l.length + 2), [])) ∨
    (RD S6 i s (a1 + l.length + 2) 0 false ∧ n + 1 ≤ 32 ∧ runAll (.head q 0 (-1)) (s.drop a) = runAll (.head { q with cl := last' } (n + 1) len') (s.drop (a1 + l.length + 2))))) ?_ ?_
  · have wr : ∀ (ee : Int), ee ≠ 0 → headF n len l = .bad ee → ∀ (k3 : St → Prop), (∀ S8, (Upd [i] S S8 ∧ ((∃ ee, ee ≠ 0 ∧ RD S8 i s (a1 + l.length + 2) ee false ∧ runAll (.head q 0 (-1)) (s.drop a) = (.wrong ee, s.drop (a1 + l.length + 2), [])) ∨
        (RD S8 i s (a1 + l.length + 2) 0 false ∧ n + 1 ≤ 32 ∧ False))) → k3 S8) → ifS (storeV S3 1 (.ptr i 2) (.int .i64 ee)) k3 := fun ee hee hb k3 hk3 =>
      st_mk g3.wf h23 rfl (by simp [V.cells]) rfl fun S8 u8 m8 _ => hk3 S8 ⟨u13.trans u8, .inl ⟨ee, hee, by rw [RD, m8]; rfl, by rw [hrun, head_bad e hl0 hb]⟩⟩
    refine Join1.mid (fun t S' => S' = S3 ∧ (t = true → headF n len l = .bad 221) ∧ (t = false → headF n len l = meansR len (cutL l [58]).1 x27b ∧ n + 1 ≤ 32 ∧ x27a = Lib.toLowerA (cutL l [58]).1 ∧ x27a ≠ wTE)) ?_ ?_
    · have hno : headOk n l = false → headF n len l = .bad 221 := fun h => by unfold headF; rw [if_neg (by rw [h]; simp)]
      refine ifC_dec (fun h4 => ⟨rfl, fun _ => hno ?_, fun h => by cases h⟩) (fun h4 => ?_)
      · rw [headOk_eq, decide_eq_false (show ¬ n + 1 ≤ 32 by omega)]; rfl
      · have hn32 : n + 1 ≤ 32 := by omega
        cases x27c with
        | false => exact ifC_tt rfl ⟨rfl, fun _ => hno (by rw [headOk_eq, ← hc, Bool.and_false]), fun h => by cases h⟩
        | true =>
          obtain ⟨ea, eb⟩ := hx hc.symm
          have hyes : headOk n l = true := by rw [headOk_eq, ← hc, decide_eq_true hn32]; rfl
          have hF2 : headF n len l = meansR len (cutL l [58]).1 x27b := by unfold headF; rw [if_pos hyes, eb]
          refine ifC_ff rfl ⟨rfl, fun h5 => ?_, fun h5 => ⟨hF2, hn32, ea, of_decide_eq_false h5⟩⟩
          have h6 : x27a = wTE := of_decide_eq_true h5
          rw [hF2]
          unfold meansR
          rw [← ea, h6, if_neg (by decide), if_neg (by decide), if_pos rfl]
    rintro t S' ⟨e', ht1, ht2⟩
    rw [e']; clear e' S'
    refine ifC_tt_ff (fun h4 => ⟨rfl, ifS_mk rfl (wr 221 (by decide) (ht1 h4) _ fun S8 h8 => ⟨h8.1, h8.2.imp id fun h => h.2.2.elim⟩)⟩) (fun h4 => ?_)
    obtain ⟨hF2, hn32, ea, hte⟩ := ht2 h4
    have go : ∀ (hr : HR) (last' : Bool) (len' : Int), headF n len l = hr → headS { q with cl := last } n len (s.drop (a1 + l.length + 2)) hr = (.head { q with cl := last' } (n + 1) len', s.drop (a1 + l.length + 2), []) →
        Upd [i] S S3 ∧ ((∃ ee, ee ≠ 0 ∧ RD S3 i s (a1 + l.length + 2) ee false ∧ runAll (.head q 0 (-1)) (s.drop a) = (.wrong ee, s.drop (a1 + l.length + 2), [])) ∨ (RD S3 i s (a1 + l.length + 2) 0 false ∧ n + 1 ≤ 32 ∧ runAll (.head q 0 (-1)) (s.drop a) = runAll (.head { q with cl := last' } (n + 1) len') (s.drop (a1 + l.length + 2)))) := fun hr last' len' h5 h6 =>
      ⟨u13, .inr ⟨h23, hn32, by rw [hrun, head_go e hl0 h5 h6]⟩⟩
    unfold meansR at hF2
    rw [← ea] at hF2
    refine ifC_dec (fun h5 => ?_) (fun h5 => ?_)
    · rw [if_pos (show x27a = wContent from h5), numR_eq] at hF2
      refine hNu x27b S3 _ (by omega) ?_
      refine Join1.mid (fun t S' => S' = S3 ∧ t = decide (0 ≤ len ∨ numF' x27b < 0)) (ifC_dec (fun h6 => ⟨rfl, (decide_eq_true (.inl h6)).symm⟩) (fun h6 => ⟨rfl, decide_eq_decide.mpr (by omega)⟩)) ?_
      rintro t S' ⟨e', ht⟩
      rw [e']; clear e' S'
      refine ifC_tt_ff (fun h6 => ?_) (fun h6 => ?_)
      · rw [ht, decide_eq_true_eq] at h6
        rw [if_pos h6] at hF2
        exact ⟨rfl, ifS_mk rfl (wr 222 (by decide) hF2 _ fun S8 h8 => ⟨h8.1, h8.2.imp id fun h => h.2.2.elim⟩)⟩
      · rw [ht, decide_eq_false_iff_not] at h6
        rw [if_neg h6] at hF2
        refine ifC_dec (fun h7 => ?_) (fun h7 => ?_)
        · rw [if_pos h7] at hF2
          exact ⟨rfl, ifS_mk rfl (wr 223 (by decide) hF2 _ fun S8 h8 => ⟨h8.1, h8.2.imp id fun h => h.2.2.elim⟩)⟩
        · rw [if_neg h7] at hF2
          exact go _ last _ hF2 rfl
    · rw [if_neg (show ¬ x27a = wContent from h5)] at hF2
      refine ifC_dec (fun h6 => ?_) (fun h6 => ?_)
      · rw [if_pos (show x27a = wConn from h6)] at hF2
        refine ifC_dec (fun h7 => ?_) (fun h7 => ?_)
        · rw [if_pos (show x27b = wcl from h7)] at hF2
          exact go _ true len hF2 rfl
        · rw [if_neg (show ¬ x27b = wcl from h7)] at hF2
          exact go _ last len hF2 rfl
      · rw [if_neg (show ¬ x27a = wConn from h6), if_neg hte] at hF2
        exact go _ last len hF2 rfl
  · rintro len' last' S6 ⟨u6, h6⟩
    rcases h6 with ⟨ee, hee, hrd, hr6⟩ | ⟨hrd, hn32, hr6⟩
    · refine ref22_stop.spec hSt hrd (ifC_tt ?_ (kE S6 _ ee _ _ hee u6 hrd ⟨_, hr6⟩))
      rw [decide_eq_false hee]; rfl
    · refine ref22_stop.spec hSt hrd (ifC_ff rfl (setI_mk (wrap_succ (by omega)) ⟨s.length - (a1 + l.length + 2), by omega, a1 + l.length + 2, n + 1, rfl, rfl, by omega, a1', hn32, u6, hrd, hr6⟩))

theorem cons_run {ph : Phase} {b : Bs} {q : Rq} {ph' : Phase} {b' : Bs} (h : stepM ph b = some (ph', b', [q])) : runAll ph b = ((runAll ph' b').1, (runAll ph' b').2.1, q :: (runAll ph' b').2.2) := run_some h

def OneS (P : Program) (f : Nat) : Prop := ∀ (S : St) (i : Nat) (s : Bs) (a : Nat) (K : Bs → Bs → Bs → Bs → Bool → St → Prop), S.Wf → RD S i s a 0 false → a ≤ s.length → s.length ≤ 1073741824 →
  (∀ S' a' (r : Rq), Upd [i] S S' → RD S' i s a' 0 true → (∃ ph b', runAll .first (s.drop a) = (ph, b', []) ∧ ph.stop = false) → K r.m r.p r.u r.bd r.cl S') →
  (∀ S' a' e (r : Rq), e ≠ 0 → Upd [i] S S' → RD S' i s a' e false → (∃ b', runAll .first (s.drop a) = (.wrong e, b', [])) → K r.m r.p r.u r.bd r.cl S') →
  (∀ S' a' (r : Rq), Upd [i] S S' → RD S' i s a' 0 false → a' ≤ s.length → a < a' → runAll .first (s.drop a) = ((runAll (if r.cl then .over else .first) (s.drop a')).1, (runAll (if r.cl then .over else .first) (s.drop a')).2.1, r :: (runAll (if r.cl then .over else .first) (s.drop a')).2.2) → K r.m r.p r.u r.bd r.cl S') →
  CallA P f [.ptr i 0] S (retT [.agg [.str, .str, .str, .str, .bool]] K)

theorem st5 {S : St} (hw : S.Wf) {q : Rq} {k : St → Prop} (h : ∀ S', Grow S S' → S'.get S.next = some (.cells (rqC q) true) → k S') :
    newS S (.cells [.str [], .str [], .str [], .str [], .bool false] true) fun S1 => ifS (storeV S1 5 (.ptr S.next 0) (.agg [.str q.m, .str q.p, .str q.u, .str q.bd, .bool q.cl])) k :=
  newS_mk hw fun S1 g1 m1 n1 => st_mk g1.wf m1 (by simp [V.cells]) (by simp [V.cells]) rfl fun S2 u2 m2 n2 => h S2 (g1.after u2 (fun i hi => by simp only [List.mem_singleton] at hi; subst hi; exact .inl (Nat.le_refl _))) (by simpa [over, V.cells] using m2)

theorem ref22_one.spec (hF : ref22_Reading_one.Ok P N) (hL : RLineS P (N Fn.ref22_Reading_line)) (hSt : ref22_Reading_stop.Ok P N) (hf : RFirstS P (N Fn.ref22_first)) (hH : HeadsS P (N Fn.ref22_Reading_heads)) : OneS P (N Fn.ref22_Reading_one) := by
  intro S i s a K hw h ha hl kW kE kQ
  have hi := hw.lt h
  refine ref22_Reading_one.run hF (newS_mk hw fun S1 g1 m1 n1 => ?_)
  have fresh : ∀ D : List Nat, (∀ z ∈ D, z = i ∨ S.next ≤ z) → ∀ z ∈ D, S.next ≤ z ∨ z ∈ [i] := fun D h z hz => (h z hz).symm.imp id fun h => by simp [h]
  have g1i : Upd [i] S S1 := g1.mono (by simp)
  have fin : ∀ (S4 : St) (r : Rq) , Upd [i] S S4 → S4.get S.next = some (.cells [.str [], .str [], .str [], .str [], .bool false] true) → (∀ S5, Upd [i] S S5 → Upd [S.next] S4 S5 → K r.m r.p r.u r.bd r.cl S5) →
      ifS (storeV S4 5 (.ptr S.next 0) (.agg [.str r.m, .str r.p, .str r.u, .str r.bd, .bool r.cl])) fun S6 => ∃ xa : Bs, ∃ xb : Bs, ∃ xc : Bs, ∃ xd : Bs, ∃ xe : Bool, cellNV S6 5 (.ptr S.next 0) = some (.agg [.str xa, .str xb, .str xc, .str xd, .bool xe]) ∧ K xa xb xc xd xe S6 := fun S4 r u4 m4 hk =>
    tell5 u4.wf m4 rfl (K := fun a b c d e S' => K a b c d e S') fun S5 u5 => hk S5 (u4.after u5 (fresh _ (by simp))) u5
  have hni : i ∉ [S.next] := by simp; omega
  have hin : S.next ∉ [i] := by simp; omega
  refine hL S1 i s a _ g1.wf (g1.get h) ha hl (fun e S2 u2 h2 => ?_) (fun e S2 u2 h2 => ?_) (fun l e hle S2 u2 h2 => ?_)
  · refine ref22_stop.spec hSt h2 (ifC_tt rfl (fin S2 ⟨[], [], [], [], false⟩ (g1i.trans u2) (u2.get m1 hin) fun S5 u5 v5 => kW S5 a _ u5 (v5.get h2 hni) ⟨_, _, run_none (by simp only [stepM, e]), rfl⟩))
  · refine ref22_stop.spec hSt h2 (ifC_tt rfl (fin S2 ⟨[], [], [], [], false⟩ (g1i.trans u2) (u2.get m1 hin) fun S5 u5 v5 => kE S5 a 223 _ (by decide) u5 (v5.get h2 hni) ⟨s.drop a, ?_⟩))
    rw [run_some (ph' := .wrong 223) (b' := s.drop a) (t := []) (by simp only [stepM, e]), run_stop rfl]; rfl
  refine ref22_stop.spec hSt h2 (ifC_ff rfl ?_)
  have u02 := g1i.trans u2
  have m2 := u2.get m1 hin
  have hst : stepM .first (s.drop a) = if firstOk l then some (.head (firstQ l) 0 (-1), s.drop (a + l.length + 2), []) else some (.wrong 220, s.drop (a + l.length + 2), []) := by simp only [stepM, e]
  refine hf l S2 _ u2.wf (by omega) (fun hok S5 g5 => st5 g5.wf (q := firstQ l) fun S7 g7 m7 => ?_) (fun hok q S5 g5 => st5 g5.wf (q := q) fun S7 g7 m7 => ?_)
  · rw [if_pos hok] at hst
    have hrun := run_some hst
    simp only [List.nil_append] at hrun
    have g57 : Grow S2 S7 := g5.trans g7
    have u07 : Upd [i] S S7 := u02.after g57 (by simp)
    have h7 := g57.get h2
    have r7 := g57.get m2
    have hq5 : S5.next ≠ i := by have := u02.le; have := g5.le; omega
    have hq5n : S5.next ≠ S.next := by have := u2.le; have := g5.le; omega
    refine ifC_ff rfl (hH S7 i s (a + l.length + 2) (firstQ l) _ g7.wf h7 hle hl rfl (fun S8 a' n last u8 h8 hr => ?_) (fun S8 a' ee n last hee u8 h8 hr => ?_) (fun S8 a' len last u8 h8 ha' haa' hr => ?_))
    · obtain ⟨ph, b', hr, hp⟩ := hr
      refine ref22_stop.spec hSt h8 (ifC_tt rfl ⟨_, _, _, _, _, ldN (u8.get m7 (by simp [hq5])) (by simp) rfl, fin S8 (firstQ l) (u07.trans u8) (u8.get r7 hin) fun S9 u9 v9 => kW S9 a' _ u9 (v9.get h8 hni) ⟨ph, b', by rw [hrun, hr], hp⟩⟩)
    · obtain ⟨b', hr⟩ := hr
      refine ref22_stop.spec hSt h8 (ifC_tt (by rw [decide_eq_false hee]; rfl) ⟨_, _, _, _, _, ldN (u8.get m7 (by simp [hq5])) (by simp) rfl, fin S8 (firstQ l) (u07.trans u8) (u8.get r7 hin) fun S9 u9 v9 => kE S9 a' ee _ hee u9 (v9.get h8 hni) ⟨b', by rw [hrun, hr]⟩⟩)
    · rw [hr] at hrun
      have m8 := u8.get m7 (by simp [hq5] : S5.next ∉ [i])
      have r8 := u8.get r7 hin
      refine ref22_stop.spec hSt h8 (ifC_ff rfl ?_)
      rw [goMax_nat]
      have hstB : stepM (.body { firstQ l with cl := last } len) (s.drop a') = if (s.drop a').length < (max 0 len).toNat then none else some (if last then .over else .first, (s.drop a').drop (max 0 len).toNat, [{ firstQ l with cl := last, bd := (s.drop a').take (max 0 len).toNat }]) := rfl
      rw [List.length_drop] at hstB
      generalize (max 0 len).toNat = k at hstB ⊢
      refine ⟨rfl, ifS_mk rfl ⟨_, ld h8 rfl, rfl, ifS_mk rfl ⟨_, ld h8 rfl, setI_mk (n := ((s.length - a' : Nat) : Int)) (by rw [IntKind.wrap_i64]; omega) (ifC_dec (fun h9 => ?_) (fun h9 => ?_))⟩⟩⟩
      · rw [if_pos (by omega)] at hstB
        refine ⟨rfl, ifS_mk rfl (st_mk u8.wf h8 rfl (by simp [V.cells]) rfl fun S9 u9 m9 _ => ⟨_, _, _, _, _, ldN (u9.get m8 (by simp [hq5])) (by simp) rfl, ?_⟩)⟩
        refine fin S9 (firstQ l) ((u07.trans u8).trans u9) (u9.get r8 hin) fun S10 u10 v10 => kW S10 a' _ u10 (v10.get (by rw [m9]; rfl) hni) ⟨_, _, by rw [hrun, run_none hstB], rfl⟩
      · rw [if_neg (by omega)] at hstB
        have hcons := cons_run hstB
        rw [hcons] at hrun
        have hka : a' + k ≤ s.length := by omega
        refine ⟨rfl, ifS_mk rfl ⟨_, ld h8 rfl, rfl, ifS_mk rfl ⟨_, ld h8 rfl, rfl, ifS_mk rfl ⟨_, ld h8 rfl, setI_mk (n := ((a' + k : Nat) : Int)) (wrapN (by omega) (by omega)) ⟨_, sliceStr_sub (l := a') (h := a' + k) (by omega) hka, ?_⟩⟩⟩⟩⟩
        have eb : (s.take (a' + k)).drop a' = (s.drop a').take k := by rw [List.drop_take]; congr 1; omega
        rw [eb]
        refine st_mk u8.wf m8 rfl (by simp [V.cells]) rfl fun S9 u9 m9 n9 => ?_
        have m9' : S9.get S5.next = some (.cells (rqC { firstQ l with bd := (s.drop a').take k }) true) := by rw [m9]; rfl
        refine st_mk u9.wf m9' rfl (by simp [V.cells]) rfl fun S10 u10 m10 n10 => ?_
        have m10' : S10.get S5.next = some (.cells (rqC { firstQ l with cl := last, bd := (s.drop a').take k }) true) := by rw [m10]; rfl
        have h10 : RD S10 i s a' 0 false := u10.get (u9.get h8 (by simp; omega)) (by simp; omega)
        have r10 := u10.get (u9.get r8 (by simp; omega)) (by simp; omega)
        have q5 : ∀ z ∈ [S5.next], S.next ≤ z ∨ z ∈ [i] := fresh _ (fun z hz => .inr (by simp only [List.mem_singleton] at hz; subst hz; have := u02.le; have := g5.le; omega))
        have u010 : Upd [i] S S10 := ((u07.trans u8).after u9 q5).after u10 q5
        refine ⟨rfl, ifS_mk rfl ⟨_, ld h10 rfl, setI_mk (n := ((a' + k : Nat) : Int)) (wrapN (by omega) (by omega)) ⟨rfl, ifS_mk rfl (st_mk u10.wf h10 rfl (by simp [V.cells]) rfl fun S11 u11 m11 n11 => ?_)⟩⟩⟩
        refine ⟨_, _, _, _, _, ldN (u11.get m10' (by simp [hq5])) (by simp) rfl, fin S11 { firstQ l with cl := last, bd := (s.drop a').take k } (u010.trans u11) (u11.get r10 hin) fun S12 u12 v12 => ?_⟩
        refine kQ S12 (a' + k) _ u12 (v12.get (by rw [m11]; rfl) hni) hka ?_ ?_
        · omega
        · rw [hrun, List.drop_drop]
  · rw [if_neg (by rw [hok]; simp)] at hst
    have g57 : Grow S2 S7 := g5.trans g7
    have u07 : Upd [i] S S7 := u02.after g57 (by simp)
    have h7 := g57.get h2
    have r7 := g57.get m2
    have hq5 : S5.next ≠ i := by have := u02.le; have := g5.le; omega
    refine ifC_tt rfl ⟨rfl, ifS_mk rfl (st_mk g7.wf h7 rfl (by simp [V.cells]) rfl fun S8 u8 m8 n8 => ⟨_, _, _, _, _, ldN (u8.get m7 (by simp [hq5])) (by simp) rfl, ?_⟩)⟩
    refine fin S8 q (u07.trans u8) (u8.get r7 hin) fun S9 u9 v9 => kE S9 (a + l.length + 2) 220 _ (by decide) u9 (v9.get (by rw [m8]; rfl) hni) ⟨s.drop (a + l.length + 2), ?_⟩
    rw [run_some hst, run_stop rfl]; rfl
end Go.Th.L
end

section
/- http: the reference's requests; the parser held against them. -/
set_option linter.unusedSimpArgs false
set_option linter.unusedVariables false
namespace Go.Th.L
open Go Go.Th Go.Th.Pure
variable {P : Program} {N : Nat → Nat}

theorem rq_flat (ts : List Rq) : (ts.map rqC).flatten.length = ts.length * 5 := by
  have := flatten_len (k := 5) (es := ts.map rqC) (by simp)
  rwa [List.length_map] at this
def RequestsS (P : Program) (f : Nat) : Prop := ∀ (s : Bs) (S : St) (K : V → Int → St → Prop), S.Wf → s.length ≤ 1073741824 → (∀ v S', Grow S S' → QsAt S' v (runAll .first s).2.2 → K v (runAll .first s).1.err S') → CallA P f [.str s] S (retT [.one .any, .one (.int .i64)] K)
theorem ref22_Requests.spec (hF : ref22_Requests.Ok P N) (h1 : OneS P (N Fn.ref22_Reading_one)) (hSt : ref22_Reading_stop.Ok P N) : RequestsS P (N Fn.ref22_Requests) := by
  intro s S K hw hl hk
  refine ref22_Requests.run hF (newS_mk hw fun S1 g1 m1 n1 => ?_)
  refine Loop1.ind (fun n v S2 => ∃ (a : Nat) (out : List Rq), n = s.length - a ∧ a ≤ s.length ∧ out.length ≤ a ∧ RD S2 S.next s a 0 false ∧ Upd [S.next] S1 S2 ∧ Acc S2 S1.next 5 v out.length (out.map rqC).flatten ∧
    runAll .first s = ((runAll .first (s.drop a)).1, (runAll .first (s.drop a)).2.1, out ++ (runAll .first (s.drop a)).2.2)) s.length ⟨0, [], rfl, Nat.zero_le _, Nat.le_refl _, m1, Upd.refl g1.wf _, Acc.nil _ _ _, rfl⟩ ?_
  rintro n v S2 ⟨a, out, rfl, ha, hoa, h2, u2, hv, hrun⟩
  have gof : ∀ S', Upd [S.next] S1 S' → Grow S S' := fun S' u => g1.after u (fun z hz => by simp only [List.mem_singleton] at hz; subst hz; exact .inl (Nat.le_refl _))
  have hvi : ∀ j ∈ v.block, j ∉ [S.next] := fun j hj hj2 => by
    simp only [List.mem_singleton] at hj2
    have := (hv.own j hj).1; omega
  refine h1 S2 S.next s a _ u2.wf h2 ha hl (fun S3 a' r u3 h3 hr => ?_) (fun S3 a' e r he u3 h3 hr => ?_) (fun S3 a' r u3 h3 ha' haa hr => ?_)
  · refine st5 u3.wf (q := r) fun S5 g5 m5 => ref22_stop.spec hSt (g5.get h3) (ifC_tt rfl ⟨rfl, _, ld (g5.get h3) rfl, ?_⟩)
    obtain ⟨ph, b', hr, hp⟩ := hr
    rw [hrun, hr] at hk
    have h0 : ph.err = 0 := by cases ph <;> first | rfl | cases hp
    have := hk v S5 (gof S5 ((u2.trans u3).after g5 (by simp)))
    simp only [List.append_nil, h0] at this
    exact this ((hv.upd u3 hvi).grow g5).at_
  · refine st5 u3.wf (q := r) fun S5 g5 m5 => ref22_stop.spec hSt (g5.get h3) (ifC_tt (by rw [decide_eq_false he]; rfl) ⟨rfl, _, ld (g5.get h3) rfl, ?_⟩)
    obtain ⟨b', hr⟩ := hr
    rw [hrun, hr] at hk
    have := hk v S5 (gof S5 ((u2.trans u3).after g5 (by simp)))
    simp only [List.append_nil] at this
    exact this ((hv.upd u3 hvi).grow g5).at_
  · refine st5 u3.wf (q := r) fun S5 g5 m5 => ref22_stop.spec hSt (g5.get h3) (ifC_ff rfl ⟨_, _, _, _, _, ldN m5 (by simp) rfl, ?_⟩)
    have u5 : Upd [S.next] S1 S5 := (u2.trans u3).after g5 (by simp)
    have hv5 := (hv.upd u3 hvi).grow g5
    refine newS_mk g5.wf fun S7 g7 m7 n7 => ?_
    have hs : srcV 5 S7 (.slice S5.next 0 1 1 5 true) = some (1, rqC r) := by
      simp only [srcV, if_true]
      rw [St.loads_of m7 (by simp)]
      simp
    obtain ⟨v', S8, e8, a8, u8, t8⟩ := (hv5.grow g7).app g7.wf (Nat.le_trans u5.le g7.le) hs (by simp) (by simp [V.one]) (bytes := 72) (by omega) (by omega)
    have e : (out.map rqC).flatten ++ rqC r = ((out ++ [r]).map rqC).flatten := by simp
    rw [e] at a8
    have hbl : ∀ j ∈ v.block, j < S5.next := hv5.blt g5.wf
    have hlt3 : S3.next < S5.next := g5.wf.lt m5
    have m8 : S8.get S3.next = some (.cells (rqC r) true) := u8.get (g7.get m5) fun hj => by
      have := (hv.blt u2.wf) _ hj
      have := u3.le; omega
    have h8 : RD S8 S.next s a' 0 false := u8.get (g7.get (g5.get h3)) fun hj => hvi _ hj (by simp)
    have u18 : Upd [S.next] S1 S8 := (u5.after g7 (by simp)).after u8 (fun z hz => .inl (hv.own z hz).1)
    refine ifP_mk e8 ⟨_, ld m8 rfl, ?_⟩
    have hacc : Acc S8 S1.next 5 v' (out ++ [r]).length ((out ++ [r]).map rqC).flatten := by rw [List.length_append]; exact a8
    cases hcl : r.cl with
    | true =>
      rw [hcl] at hr
      simp only [if_true] at hr
      rw [run_stop (ph := .over) rfl] at hr
      rw [hrun, hr] at hk
      exact ifC_tt rfl (hk v' S8 (gof S8 u18) hacc.at_)
    | false =>
      rw [hcl] at hr
      simp only [Bool.false_eq_true, if_false] at hr
      refine ifC_ff rfl ⟨s.length - a', by omega, a', out ++ [r], rfl, ha', by rw [List.length_append, List.length_singleton]; omega, h8, u18, hacc, ?_⟩
      rw [hrun, hr]
      simp only [List.append_assoc, List.singleton_append]

/-- Parts: slices of bytes. -/
structure PartsAt (S : St) (v : V) (vs : List V) (ps : List Bs) : Prop where
  len : vs.length = ps.length
  sl : SlAt S 1 v vs.length vs
  each : ∀ j (h1 : j < vs.length) (h2 : j < ps.length), BytesAt S vs[j] ps[j]
theorem PartsAt.grow {S S' : St} {v : V} {vs : List V} {ps : List Bs} (h : PartsAt S v vs ps) (g : Grow S S') : PartsAt S' v vs ps := ⟨h.len, h.sl.grow g, fun j h1 h2 => (h.each j h1 h2).grow g⟩
theorem PartsAt.ld {S : St} {v : V} {vs : List V} {ps : List Bs} (h : PartsAt S v vs ps) {j : Nat} (hj : j < vs.length) : idxAddrV 1 v (.int .i64 (j : Int)) = some (eltV 1 v j 0) ∧ loadV S (eltV 1 v j 0) = some vs[j] := by
  refine ⟨h.sl.idx hj, ?_⟩
  have := SlAt.load h.sl (m := j) (off := 0) hj (by omega)
  rw [Nat.mul_one, Nat.add_zero] at this
  rw [this, List.getElem?_eq_getElem hj]

structure FeedsOk (P : Program) (N : Nat → Nat) : Prop where
  parts : PartsOk P N
  lend : keep_LendBytes.Spec P N
  back : keep_BackBytes.Spec P N
  reqs : RequestsS P (N Fn.ref22_Requests)

theorem law22_HttpFeeds.spec (hF : law22_HttpFeeds.Ok P N) (hO : FeedsOk P N) {v : V} {vs : List V} {ps : List Bs} {S : St} {K : Bool → St → Prop} (hw : S.Wf) (hg : HG S) (hv : PartsAt S v vs ps) (hk : ∀ S', K true S') :
    CallA P (N Fn.law22_HttpFeeds) [v] S (retT [.one .bool] K) := by
  refine law22_HttpFeeds.run hF ⟨_, hv.sl.len, ifC_dec (fun _ => hk _) (fun h60 => ?_)⟩
  have h60' : vs.length ≤ 60 := by omega
  refine http_New.spec hO.parts.new (B := S.next) (Nat.le_refl _) fun S1 g1 p1 => ⟨false, rfl, ifC_ff rfl ?_⟩
  have hlen := hv.len
  refine Loop4.ind (fun n all told wrong x S2 => ∃ (j : Nat) (vb : V) (r : Raw), x = j ∧ j + n = vs.length ∧ all = (ps.take j).flatten ∧ all.length ≤ 200000 ∧ told = ((feedsM (.first, []) (ps.take j)).2.length : Nat) ∧ wrong = (feedsM (.first, []) (ps.take j)).1.1.err ∧ Grow S S2 ∧
      PR S.next S2 S.next r vb .nilSlice ∧ PhR N S.next (feedsM (.first, []) (ps.take j)).1.1 r ∧ r.b = (feedsM (.first, []) (ps.take j)).1.2 ∧ r.told = []) vs.length
    ⟨0, .nilSlice, raw0 N S.next, rfl, by omega, rfl, by simp, rfl, rfl, g1, p1, raw0_ph _, rfl, rfl⟩ ?_
  rintro n all told wrong _ S2 ⟨j, vb, r, rfl, hj, rfl, hall, rfl, rfl, g2, p2, hp2, hb2, ht2⟩
  have hv2 := hv.grow g2
  refine ⟨_, hv2.sl.len, ifC_dec (fun hlt => ?_) (fun hge => hO.parts.awake S2 _ (hg.grow g2) (hk _))⟩
  have hjv : j < vs.length := by omega
  have hjp : j < ps.length := by omega
  have hx2 := hv2.each j hjv hjp
  refine Join0.mid (fun S' => S' = S2 ∧ ps[j].length ≤ 32768 ∧ (ps.take j).flatten.length ≤ 131072) ?_ ?_
  · exact ifS_mk (hv2.ld hjv).1 (ifS_mk (hv2.ld hjv).2 ⟨_, hx2.len, ifC_dec (fun _ => hk _) (fun h1 => ifC_dec (fun _ => hk _) (fun h2 => ⟨rfl, by omega, by omega⟩))⟩)
  rintro S' ⟨e, hpl, hal⟩
  rw [e]; clear e S'
  have hrest := feeds_rest (ps.take j) (.first, [])
  simp only [List.length_nil] at hrest
  refine ifS_mk (hv2.ld hjv).1 (ifS_mk (hv2.ld hjv).2 (hO.lend vs[j] ps[j] S2 _ g2.wf hx2 (by omega) fun S4 x g4 hx4 => ?_))
  have w4 := g4.wf
  have p4 := p2.grow g4
  have xge : ∀ z ∈ x.block, S2.next ≤ z := hx4.from
  have xlt : ∀ z ∈ x.block, z < S4.next := fun z hz => hx4.lt w4 z hz
  have fl2 : ∀ z ∈ foot S.next vb .nilSlice, z < S2.next := p2.foot_lt g2.wf
  refine hO.parts.feed S.next S4 S.next _ r vb x ps[j] _ w4 (hg.grow (g2.trans g4)) (g2.trans g4).le p4 hp2 ht2 hx4.at_ (by rw [hb2]; omega) fun S5 r5 vb5 vl mv5 p5 hp5 hb5 ht5 hl5 hf5 => ?_
  have w5 := mv5.u.wf
  rw [hb2] at hp5 hb5 hl5
  rw [hb2]
  have eta : ((feedsM (.first, []) (ps.take j)).1.1, (feedsM (.first, []) (ps.take j)).1.2) = (feedsM (.first, []) (ps.take j)).1 := rfl
  rw [eta] at hp5 hb5 hl5 ⊢
  have htk : ps.take (j + 1) = ps.take j ++ [ps[j]] := by rw [List.take_add_one, List.getElem?_eq_getElem hjp]; rfl
  have hsn := feeds_snoc (ps.take j) (.first, []) ps[j]
  rw [← htk] at hsn
  have hfirst := feeds_first (ps.take (j + 1))
  have hflat : (ps.take (j + 1)).flatten = (ps.take j).flatten ++ ps[j] := by rw [htk, List.flatten_append]; simp only [List.flatten_cons, List.flatten_nil, List.append_nil]
  rw [hflat] at hfirst
  have g5 : Grow S S5 := (g2.trans g4).after mv5.u (fun z hz => .inl (p4.foot_ge z hz))
  have hv5 := hv.grow g5
  have hx5 : LentB S5 S2.next x ps[j] := hx4.upd mv5.u (fun z hz hz2 => by have := xge z hz; have := fl2 z hz2; omega)
  refine ifS_mk (hv5.ld hjv).1 (ifS_mk (hv5.ld hjv).2 (hO.back x vs[j] ps[j] S5 S2.next _ w5 hx5 (hv5.each j hjv hjp) (by omega) fun S6 u6 => ?_))
  have g6 : Grow S S6 := g5.after u6 (fun z hz => .inl (Nat.le_trans g2.le (xge z hz)))
  have w6 := u6.wf
  have p6 := p5.away u6 (fun z hz hz2 => by
    have h1 := xge z hz2
    have h2 := xlt z hz2
    rcases mv5.f z hz with h | h
    · have := fl2 z h; omega
    · omega)
  have hl6 := hl5.upd u6 (fun z hz hz2 => by
    have h1 := (hf5 z hz).1
    have h2 := xlt z hz2
    omega)
  have hv6 := hv.grow g6
  refine ifC_ff rfl (ifS_mk (hv6.ld hjv).1 (ifS_mk (hv6.ld hjv).2 ⟨_, bytes_str (hv6.each j hjv hjp), by omega, ?_⟩))
  have hall' : ((ps.take j).flatten ++ ps[j]).length ≤ 200000 := by rw [List.length_append]; omega
  have done : ∀ (S9 : St) (told' wrong' : Int), Grow S6 S9 → told' = ((feedsM (.first, []) (ps.take (j + 1))).2.length : Nat) → wrong' = (feedsM (.first, []) (ps.take (j + 1))).1.1.err →
      setI (IntKind.i64.wrap ((j : Int) + 1)) fun x24 => ∃ m, m < n ∧ ∃ (j' : Nat) (vb : V) (r : Raw), x24 = j' ∧ j' + m = vs.length ∧ (ps.take j).flatten ++ ps[j] = (ps.take j').flatten ∧ ((ps.take j).flatten ++ ps[j]).length ≤ 200000 ∧ told' = ((feedsM (.first, []) (ps.take j')).2.length : Nat) ∧ wrong' = (feedsM (.first, []) (ps.take j')).1.1.err ∧ Grow S S9 ∧
        PR S.next S9 S.next r vb .nilSlice ∧ PhR N S.next (feedsM (.first, []) (ps.take j')).1.1 r ∧ r.b = (feedsM (.first, []) (ps.take j')).1.2 ∧ r.told = [] := fun S9 told' wrong' g9 e1 e2 =>
    setI_mk (wrap_succ (by omega)) ⟨n - 1, by omega, j + 1, vb5, r5, rfl, by omega, hflat.symm, hall', e1, e2, g6.trans g9, p6.grow g9, by rw [hsn]; exact hp5, by rw [hsn]; exact hb5, ht5⟩
  refine ifC_ndec (fun hne => ?_) (fun heq => ?_)
  · have hs : (feedsM (.first, []) (ps.take j)).1.1.stop = true := by
      cases hph : (feedsM (.first, []) (ps.take j)).1.1 <;> rw [hph] at hne <;> first | rfl | exact absurd rfl hne
    have hf : feedM (feedsM (.first, []) (ps.take j)).1 ps[j] = ((feedsM (.first, []) (ps.take j)).1, []) := by unfold feedM; rw [if_pos hs]
    rw [hf] at hp5 hb5 hl6 hsn ⊢
    refine ifC_npos rfl ⟨_, hl6.at_.len, ifC_neg (by simp) (http_Parser_Wrong.spec hO.parts.wrong p6 (ifC_npos hp5.err (done S6 _ _ (Upd.refl w6 []) ?_ ?_)))⟩
    · rw [hsn]; simp
    · rw [hsn]
  · refine hO.reqs _ S6 _ w6 (by omega) fun vw S8 g8 hw8 => ?_
    rw [← hfirst.1, ← hfirst.2] at *
    rw [hsn] at hw8 ⊢
    refine ifC_npos rfl ⟨_, hw8.len, ifC_neg (by rw [List.length_append]; omega) ?_⟩
    obtain ⟨v9, e9, a9, _⟩ := SlAt.sub (c := 0) hw8 (lo := some (.int .i64 ((feedsM (.first, []) (ps.take j)).2.length : Nat))) (hi := none) (l := (feedsM (.first, []) (ps.take j)).2.length) (h := ((feedsM (.first, []) (ps.take j)).2 ++ (feedM (feedsM (.first, []) (ps.take j)).1 ps[j]).2).length) (fun cap hcap => bnds_l (by rw [List.length_append]; omega)) (by rw [List.length_append]; omega) (Nat.le_refl _)
    have e10 : (((((feedsM (.first, []) (ps.take j)).2 ++ (feedM (feedsM (.first, []) (ps.take j)).1 ps[j]).2).map rqC).flatten.drop ((feedsM (.first, []) (ps.take j)).2.length * 5)).take ((((feedsM (.first, []) (ps.take j)).2 ++ (feedM (feedsM (.first, []) (ps.take j)).1 ps[j]).2).length - (feedsM (.first, []) (ps.take j)).2.length) * 5)) = ((feedM (feedsM (.first, []) (ps.take j)).1 ps[j]).2.map rqC).flatten := by
      rw [List.map_append, List.flatten_append, List.drop_left' (rq_flat _), List.length_append, Nat.add_sub_cancel_left, List.take_of_length_le (by rw [rq_flat]; exact Nat.le_refl _)]
    rw [e10, List.length_append, Nat.add_sub_cancel_left] at a9
    refine ifS_mk e9 (hO.parts.same vl v9 _ _ S8 _ (hl6.grow g8).at_ a9 (ifC_ff (by simp) ?_))
    refine http_Parser_Wrong.spec hO.parts.wrong (p6.grow g8) (ifC_npos hp5.err ⟨_, hw8.len, ?_⟩)
    exact done S8 _ _ g8 (by rw [hsn]) (by rw [hsn])
end Go.Th.L
end
