/- What the row of one statement stands on: a store, abstract code, functions of the program and their laws (ThPhttp2). -/
import Derived.Test.YtkmmkfiekamgpaaGreatDoorThBPhttp1
import Derived.Lib.AtoiAllCases
import Derived.Lib.ItoaNum

section
/- Plain: responses printed and read. -/
set_option linter.unusedSimpArgs false
set_option linter.unusedVariables false
namespace Go.Th.Pure
open Go

/-! ## numbers as digits -/
theorem dig_iff {b : UInt8} : isDig b = true ↔ 48 ≤ b.toNat ∧ b.toNat ≤ 57 := by unfold isDig; exact decide_eq_true_iff
theorem dig_of {d : Nat} (h : d < 10) : (UInt8.ofNat (48 + d)).toNat = 48 + d := by rw [UInt8.toNat_ofNat']; omega
theorem dec_digs (n : Nat) : ∀ b ∈ Lib.decDigits n, isDig b = true := by
  induction n using Nat.strongRecOn with
  | _ n ih =>
    intro b hb
    by_cases h : n < 10
    · rw [dec1 h] at hb
      simp only [List.mem_singleton] at hb
      subst hb
      rw [dig_iff, dig_of (by omega)]; omega
    · rw [dec2 (by omega)] at hb
      rcases List.mem_append.mp hb with hb | hb
      · exact ih (n / 10) (by omega) b hb
      · simp only [List.mem_singleton] at hb
        subst hb
        rw [dig_iff, dig_of (by omega)]; omega
theorem dec_vals (n : Nat) : valD (Lib.decDigits n) = n := by
  induction n using Nat.strongRecOn with
  | _ n ih =>
    by_cases h : n < 10
    · have e : valD (Lib.decDigits n) = 0 * 10 + ((UInt8.ofNat (48 + n)).toNat - 48) := by rw [dec1 h]; rfl
      rw [e, dig_of h]; omega
    · rw [dec2 (by omega), valD, valA_app]
      have := ih (n / 10) (by omega)
      rw [valD] at this
      rw [this]
      have e : valA (n / 10) [UInt8.ofNat (48 + n % 10)] = n / 10 * 10 + ((UInt8.ofNat (48 + n % 10)).toNat - 48) := rfl
      rw [e, dig_of (show n % 10 < 10 by omega)]; omega
theorem dec_len : ∀ (k n : Nat), n < 10 ^ (k + 1) → (Lib.decDigits n).length ≤ k + 1
  | 0, n, h => by rw [dec1 (by simpa using h)]; simp
  | k + 1, n, h => by
    by_cases h10 : n < 10
    · rw [dec1 h10]; simp
    · rw [dec2 (by omega), List.length_append, List.length_singleton]
      have := dec_len k (n / 10) (by rw [Nat.pow_succ] at h; omega)
      omega
theorem dec_ne (n : Nat) : Lib.decDigits n ≠ [] := by
  by_cases h : n < 10
  · rw [dec1 h]; simp
  · rw [dec2 (by omega)]; simp
theorem uint_digs (l : Bs) : ∀ (acc k : Nat), (∀ b ∈ l, isDig b = true) → acc < 10 ^ k → k + l.length ≤ 18 → Lib.parseUint10 acc l = .ok (valA acc l) := by
  induction l with
  | nil => intro acc k _ _ _; rfl
  | cons b l ih =>
    intro acc k hd ha hk
    have hb := dig_iff.mp (hd b List.mem_cons_self)
    have hp : (10 : Nat) ^ k ≤ 10 ^ 17 := Nat.pow_le_pow_right (by omega) (by simp at hk; omega)
    have hp2 : (10 : Nat) ^ (k + 1) = 10 ^ k * 10 := Nat.pow_succ _ _
    rw [Lib.parseUint10, if_pos hb, if_neg (by omega), if_neg (by omega)]
    exact ih _ (k + 1) (fun x hx => hd x (List.mem_cons_of_mem _ hx)) (by omega) (by simp at hk ⊢; omega)
theorem valA_below (d : Bs) : ∀ n : Nat, (∀ b ∈ d, isDig b = true) → valA n d < (n + 1) * 10 ^ d.length := by
  induction d with
  | nil => intro n _; show n < (n + 1) * 1; omega
  | cons b d ih =>
    intro n h
    have hb := dig_iff.mp (h b List.mem_cons_self)
    have := ih (n * 10 + (b.toNat - 48)) (fun x hx => h x (List.mem_cons_of_mem _ hx))
    have e : valA n (b :: d) = valA (n * 10 + (b.toNat - 48)) d := rfl
    rw [e, List.length_cons, Nat.pow_succ]
    have h2 : (n * 10 + (b.toNat - 48) + 1) * 10 ^ d.length ≤ ((n + 1) * 10) * 10 ^ d.length := Nat.mul_le_mul_right _ (by omega)
    have h3 : (n + 1) * (10 ^ d.length * 10) = ((n + 1) * 10) * 10 ^ d.length := by rw [Nat.mul_comm (10 ^ d.length) 10, Nat.mul_assoc]
    omega
theorem atoi_digs {l : Bs} (h0 : l ≠ []) (hd : ∀ b ∈ l, isDig b = true) (hl : l.length ≤ 9) : Lib.atoiAll l = .ok (valD l : Int) := by
  cases l with
  | nil => exact absurd rfl h0
  | cons c r =>
    have hc := dig_iff.mp (hd c List.mem_cons_self)
    have e := uint_digs (c :: r) 0 0 hd (by simp) (by simp at hl ⊢; omega)
    have hv := valA_below (c :: r) 0 hd
    have h2 : (10 : Nat) ^ (c :: r).length ≤ 10 ^ 9 := Nat.pow_le_pow_right (by omega) hl
    have e2 : Lib.parseMag (c :: r) = .ok (valA 0 (c :: r)) := by unfold Lib.parseMag; rw [if_neg (by simp), e]
    unfold Lib.atoiAll
    simp only
    rw [if_neg (by omega), e2]
    simp only
    rw [if_neg (by omega), if_neg (by omega), if_neg (by omega)]
    rfl
def numB (n : Nat) : Bs := Lib.decDigits n
theorem atoi_num {n : Nat} (h : n < 10 ^ 9) : Lib.atoiAll (numB n) = .ok (n : Int) := by
  rw [numB, atoi_digs (dec_ne n) (dec_digs n) (dec_len 8 n h), dec_vals]
theorem num_no13 (n : Nat) : (13 : UInt8) ∉ numB n := fun h => by
  have := dig_iff.mp (dec_digs n _ h)
  simp at this
theorem num_inj {n m : Nat} (h : numB n = numB m) : n = m := by
  have := congrArg valD h
  rwa [numB, numB, dec_vals, dec_vals] at this

/-! ## printing -/
def wordF (c : Int) : Bs :=
  if c = 200 then [79, 75] else if c = 400 then [66, 97, 100, 32, 82, 101, 113, 117, 101, 115, 116] else if c = 404 then [78, 111, 116, 32, 70, 111, 117, 110, 100]
  else if c = 405 then [77, 101, 116, 104, 111, 100, 32, 78, 111, 116, 32, 65, 108, 108, 111, 119, 101, 100] else if c = 413 then [80, 97, 121, 108, 111, 97, 100, 32, 84, 111, 111, 32, 76, 97, 114, 103, 101]
  else if c = 503 then [83, 101, 114, 118, 105, 99, 101, 32, 85, 110, 97, 118, 97, 105, 108, 97, 98, 108, 101] else if c = 507 then [73, 110, 115, 117, 102, 102, 105, 99, 105, 101, 110, 116, 32, 83, 116, 111, 114, 97, 103, 101] else []
def codes : List Int := [200, 400, 404, 405, 413, 503, 507]
theorem word_code {c : Int} (h : wordF c ≠ []) : c ∈ codes := by
  unfold wordF at h
  simp only [codes, List.mem_cons, List.not_mem_nil, or_false]
  split at h <;> try (simp [*]; done)
  split at h <;> try (simp [*]; done)
  split at h <;> try (simp [*]; done)
  split at h <;> try (simp [*]; done)
  split at h <;> try (simp [*]; done)
  split at h <;> try (simp [*]; done)
  split at h <;> try (simp [*]; done)
  exact absurd rfl h
def wHttp : Bs := [72, 84, 84, 80, 47, 49, 46, 49, 32]
def wCL : Bs := [67, 111, 110, 116, 101, 110, 116, 45, 76, 101, 110, 103, 116, 104, 58, 32]
def wLen : Bs := [13, 10, 67, 111, 110, 116, 101, 110, 116, 45, 76, 101, 110, 103, 116, 104, 58, 32]
def wCl : Bs := [67, 111, 110, 110, 101, 99, 116, 105, 111, 110, 58, 32, 99, 108, 111, 115, 101]
def wClose : Bs := [67, 111, 110, 110, 101, 99, 116, 105, 111, 110, 58, 32, 99, 108, 111, 115, 101, 13, 10]
/-- The first line. -/
def line0 (c : Int) : Bs := wHttp ++ (Lib.itoa c ++ ([32] ++ wordF c))
def line1 (n : Nat) : Bs := wCL ++ numB n
def frontC (c : Int) : Bs := (((wHttp ++ Lib.itoa c) ++ [32]) ++ wordF c) ++ wLen
def headC (c : Int) (n : Nat) (cl : Bool) : Bs := if cl then (((frontC c ++ numB n) ++ [13, 10]) ++ wClose) ++ [13, 10] else ((frontC c ++ numB n) ++ [13, 10]) ++ [13, 10]
def allC (c : Int) (body : Bs) (cl : Bool) : Bs := headC c body.length cl ++ body
def printC (c : Int) (body : Bs) (cl : Bool) : Bs × Int := if wordF c = [] then ([], 1) else if 65536 < body.length then ([], 2) else (allC c body cl, 0)

theorem front_eq (c : Int) : frontC c = line0 c ++ ([13, 10] ++ wCL) := by
  simp only [frontC, line0, List.append_assoc]; rfl
def tailC (n : Nat) (cl : Bool) : Bs := if cl then [13, 10] ++ (wCl ++ ([13, 10, 13, 10])) else [13, 10, 13, 10]
theorem head_eq (c : Int) (n : Nat) (cl : Bool) : headC c n cl = line0 c ++ ([13, 10] ++ (line1 n ++ tailC n cl)) := by
  cases cl
  · simp only [headC, front_eq, tailC, line1, List.append_assoc]; rfl
  · simp only [headC, front_eq, tailC, line1, List.append_assoc]; rfl

theorem code_cases {p : Int → Prop} (h : ∀ c ∈ codes, p c) {c : Int} (hc : wordF c ≠ []) : p c := h c (word_code hc)
theorem code_num : ∀ c ∈ codes, Lib.itoa c = numB c.toNat ∧ 200 ≤ c ∧ c ≤ 507 := by
  intro c hc
  simp only [codes, List.mem_cons, List.not_mem_nil, or_false] at hc
  rcases hc with rfl | rfl | rfl | rfl | rfl | rfl | rfl <;> exact ⟨by unfold Lib.itoa; rw [if_neg (by decide)]; rfl, by decide, by decide⟩
theorem code_len : ∀ c ∈ codes, (Lib.itoa c).length = 3 := by
  intro c hc
  obtain ⟨h1, h2, h3⟩ := code_num c hc
  have hle := dec_len 2 c.toNat (by omega)
  have h4 : ¬ (Lib.decDigits c.toNat).length ≤ 2 := by
    rw [dec2 (by omega), dec2 (by omega), List.length_append, List.length_append]
    have := dec_ne (c.toNat / 10 / 10)
    have h5 : 0 < (Lib.decDigits (c.toNat / 10 / 10)).length := List.length_pos_iff.mpr this
    simp only [List.length_singleton]; omega
  rw [h1, numB]; omega
theorem code_atoi {c : Int} (h : wordF c ≠ []) : Lib.atoiAll (Lib.itoa c) = .ok c := by
  obtain ⟨h1, h2, h3⟩ := code_num c (word_code h)
  rw [h1, atoi_num (by omega)]
  congr 1; omega
theorem word_no13 (c : Int) : (13 : UInt8) ∉ wordF c := by
  unfold wordF
  split; · decide
  split; · decide
  split; · decide
  split; · decide
  split; · decide
  split; · decide
  split; · decide
  simp
theorem word_len (c : Int) : (wordF c).length ≤ 20 := by
  unfold wordF
  split; · decide
  split; · decide
  split; · decide
  split; · decide
  split; · decide
  split; · decide
  split; · decide
  simp
theorem line0_no13 {c : Int} (h : wordF c ≠ []) : (13 : UInt8) ∉ line0 c := by
  obtain ⟨h1, h2, h3⟩ := code_num c (word_code h)
  simp only [line0, List.mem_append, not_or, h1]
  exact ⟨by decide, num_no13 _, by decide, word_no13 c⟩
theorem line1_no13 (n : Nat) : (13 : UInt8) ∉ line1 n := by
  simp only [line1, List.mem_append, not_or]
  exact ⟨by decide, num_no13 _⟩
theorem line0_len {c : Int} (h : wordF c ≠ []) : 12 ≤ (line0 c).length := by
  have := code_len c (word_code h)
  simp only [line0, List.length_append, this]
  simp [wHttp]; omega
theorem line0_code {c : Int} (h : wordF c ≠ []) : ((line0 c).take 12).drop 9 = Lib.itoa c := by
  have hl := code_len c (word_code h)
  have e : line0 c = (wHttp ++ Lib.itoa c) ++ ([32] ++ wordF c) := by simp only [line0, List.append_assoc]
  rw [e, List.take_left' (by rw [List.length_append, hl]; rfl)]
  exact List.drop_left' rfl

/-! ## reading -/
/-- A response stands at the beginning. -/
def RespAt (b : Bs) (c : Int) (body : Bs) (cl : Bool) : Prop := wordF c ≠ [] ∧ body.length ≤ 65536 ∧ ∃ x, b = allC c body cl ++ x
def RdOk (b : Bs) (c : Int) (body : Bs) (cl : Bool) (n e : Int) : Prop :=
  (e = 0 ∧ RespAt b c body cl ∧ n = ((allC c body cl).length : Nat)) ∨ (e = 220 ∧ (∀ c body cl, ¬ RespAt b c body cl) ∧ c = 0 ∧ body = [] ∧ cl = false ∧ n = 0)

theorem cut13 : ∀ {a b x y : Bs}, (13 : UInt8) ∉ a → (13 : UInt8) ∉ b → a ++ 13 :: x = b ++ 13 :: y → a = b ∧ x = y
  | [], [], x, y, _, _, h => by simpa using h
  | [], d :: b, x, y, _, hb, h => by simp at h hb; exact absurd h.1 hb.1
  | c :: a, [], x, y, ha, _, h => by simp at h ha; exact absurd h.1.symm ha.1
  | c :: a, d :: b, x, y, ha, hb, h => by
    simp at h ha hb
    obtain ⟨h1, h2⟩ := cut13 (a := a) (b := b) ha.2 hb.2 h.2
    exact ⟨by rw [h.1, h1], h2⟩

theorem all_eq (c : Int) (body : Bs) (cl : Bool) (x : Bs) : allC c body cl ++ x = line0 c ++ 13 :: (10 :: (line1 body.length ++ 13 :: ((tailC body.length cl ++ (body ++ x)).drop 1))) := by
  rw [allC, head_eq]
  cases cl <;> simp [tailC, List.append_assoc]

theorem line0_inj {c d : Int} (hc : wordF c ≠ []) (hd : wordF d ≠ []) (h : line0 c = line0 d) : c = d := by
  have h1 : Lib.itoa c = Lib.itoa d := by rw [← line0_code hc, ← line0_code hd, h]
  have h2 := code_atoi hc
  rw [h1, code_atoi hd] at h2
  cases h2; rfl

theorem reads_unique {b : Bs} {c d : Int} {p q : Bs} {k l : Bool} (h1 : RespAt b c p k) (h2 : RespAt b d q l) : c = d ∧ p = q ∧ k = l := by
  obtain ⟨w1, l1, x, rfl⟩ := h1
  obtain ⟨w2, l2, y, e⟩ := h2
  rw [all_eq, all_eq] at e
  obtain ⟨e0, e⟩ := cut13 (line0_no13 w1) (line0_no13 w2) e
  simp only [List.cons.injEq, true_and] at e
  obtain ⟨e1, e⟩ := cut13 (line1_no13 _) (line1_no13 _) e
  have hn : p.length = q.length := num_inj (List.append_cancel_left e1)
  refine ⟨line0_inj w1 w2 e0, ?_⟩
  cases k <;> cases l
  · simp only [tailC, Bool.false_eq_true, if_false, List.cons_append, List.nil_append, List.drop_succ_cons, List.drop_zero, List.cons.injEq, true_and] at e
    exact ⟨(List.append_inj e hn).1, rfl⟩
  · simp [tailC, wCl] at e
  · simp [tailC, wCl] at e
  · simp only [tailC, if_true, List.cons_append, List.nil_append, List.drop_succ_cons, List.drop_zero, List.cons.injEq, true_and, List.append_assoc, List.append_cancel_left_eq] at e
    exact ⟨(List.append_inj e hn).1, rfl⟩

theorem rdOk_unique {b : Bs} {c d : Int} {p q : Bs} {k l : Bool} {n m e f : Int} (h1 : RdOk b c p k n e) (h2 : RdOk b d q l m f) : c = d ∧ p = q ∧ k = l ∧ n = m ∧ e = f := by
  rcases h1 with ⟨rfl, r1, rfl⟩ | ⟨rfl, n1, rfl, rfl, rfl, rfl⟩
  · rcases h2 with ⟨rfl, r2, rfl⟩ | ⟨rfl, n2, _⟩
    · obtain ⟨rfl, rfl, rfl⟩ := reads_unique r1 r2
      exact ⟨rfl, rfl, rfl, rfl, rfl⟩
    · exact absurd r1 (n2 _ _ _)
  · rcases h2 with ⟨rfl, r2, rfl⟩ | ⟨rfl, n2, rfl, rfl, rfl, rfl⟩
    · exact absurd r2 (n1 _ _ _)
    · exact ⟨rfl, rfl, rfl, rfl, rfl⟩

/-! ## how the code reads -/
theorem findL_skip {t : Bs} : ∀ {a y : Bs}, (13 : UInt8) ∉ a → findL (13 :: t) (a ++ y) = (findL (13 :: t) y).map fun p => (a ++ p.1, p.2)
  | [], y, _ => by cases h : findL (13 :: t) y <;> simp [h]
  | c :: a, y, h => by
    simp only [List.mem_cons, not_or] at h
    have ih := findL_skip (t := t) (a := a) (y := y) h.2
    have hp : ((13 :: t).isPrefixOf (c :: (a ++ y))) = false := by
      simp only [List.isPrefixOf, Bool.and_eq_false_iff, beq_eq_false_iff_ne, ne_eq]
      exact .inl h.1
    rw [List.cons_append, findL, hp, ih]
    cases findL (13 :: t) y <;> simp
theorem findL2_at (y : Bs) : findL [13, 10] (13 :: 10 :: y) = some ([], y) := by simp [findL, List.isPrefixOf]
theorem findL4_at (y : Bs) : findL [13, 10, 13, 10] (13 :: 10 :: 13 :: 10 :: y) = some ([], y) := by simp [findL, List.isPrefixOf]
theorem findL4_skip {d : UInt8} (h : d ≠ 13) (y : Bs) : findL [13, 10, 13, 10] (13 :: 10 :: d :: y) = (findL [13, 10, 13, 10] (d :: y)).map fun p => (13 :: 10 :: p.1, p.2) := by
  rw [findL]
  have h1 : ([13, 10, 13, 10] : Bs).isPrefixOf (13 :: 10 :: d :: y) = false := by simp [List.isPrefixOf]; exact fun e => absurd e.symm h
  rw [h1, findL]
  have h2 : ([13, 10, 13, 10] : Bs).isPrefixOf (10 :: d :: y) = false := by simp [List.isPrefixOf]
  rw [h2]
  cases findL [13, 10, 13, 10] (d :: y) <;> simp
def headL (c : Int) (n : Nat) (cl : Bool) : Bs := line0 c ++ 13 :: 10 :: (line1 n ++ if cl then 13 :: 10 :: wCl else [])
def linesL (c : Int) (n : Nat) (cl : Bool) : List Bs := [line0 c, line1 n] ++ if cl then [wCl] else []

theorem cut_all {c : Int} (h : wordF c ≠ []) (body x : Bs) (cl : Bool) : cutL (allC c body cl ++ x) [13, 10, 13, 10] = (headL c body.length cl, body ++ x, true) := by
  rw [cutL, all_eq, findL_skip (line0_no13 h), show line1 body.length = 67 :: (line1 body.length).drop 1 from rfl, List.cons_append, findL4_skip (by decide), ← List.cons_append, show 67 :: (line1 body.length).drop 1 = line1 body.length from rfl, findL_skip (line1_no13 _)]
  cases cl
  · simp only [tailC, Bool.false_eq_true, if_false, List.cons_append, List.nil_append, List.drop_succ_cons, List.drop_zero]
    rw [findL4_at]
    simp [headL]
  · simp only [tailC, if_true, List.cons_append, List.nil_append, List.drop_succ_cons, List.drop_zero]
    rw [show wCl = 67 :: wCl.drop 1 from rfl, List.append_assoc, List.cons_append, findL4_skip (by decide), ← List.cons_append, show 67 :: wCl.drop 1 = wCl from rfl, findL_skip (by decide)]
    simp only [List.cons_append, List.nil_append]
    rw [findL4_at]
    simp [headL]
theorem splitL_two (s : Bs) : splitL s [13, 10] = match findL [13, 10] s with | some (a, r) => a :: splitL r [13, 10] | none => [s] := by
  rw [← splitL_eq (by simp), splitF_eq (by simp) (s.length + 1) s (by omega), splitF]
  cases h : findL [13, 10] s with
  | none => rfl
  | some p =>
    obtain ⟨a, r⟩ := p
    have := findL_eq _ _ _ _ h
    have hl : r.length ≤ s.length := by rw [this]; simp; omega
    simp only
    rw [← splitF_eq (by simp) s.length r hl, splitL_eq (by simp)]
theorem findL_none {t : Bs} {a : Bs} (h : (13 : UInt8) ∉ a) : findL (13 :: t) a = none := by
  have := findL_skip (t := t) (y := []) h
  rw [List.append_nil] at this
  rw [this]; rfl
theorem split_head {c : Int} (h : wordF c ≠ []) (n : Nat) (cl : Bool) : splitL (headL c n cl) [13, 10] = linesL c n cl := by
  rw [splitL_two, headL, findL_skip (line0_no13 h), findL2_at]
  simp only [Option.map_some, List.append_nil]
  rw [splitL_two]
  cases cl
  · simp only [Bool.false_eq_true, if_false, List.append_nil]
    rw [findL_none (line1_no13 n)]; rfl
  · simp only [if_true]
    rw [findL_skip (line1_no13 n), findL2_at]
    simp only [Option.map_some, List.append_nil]
    rw [splitL_two, findL_none (by decide)]; rfl
theorem trim_line1 (n : Nat) : Lib.trimPrefix (line1 n) wCL = numB n := by
  have h : Lib.hasPrefix (line1 n) wCL = true := by
    rw [Lib.hasPrefix, List.isPrefixOf_iff_prefix]; exact ⟨_, rfl⟩
  rw [Lib.trimPrefix, if_pos h, line1, List.drop_left' rfl]
end Go.Th.Pure
end
