/- What the row of one statement stands on: a store, abstract code, functions of the program and their laws (ThHvec1). -/
import Derived.Test.YtdjocmcbibedhaaGreatThBHvec0
import Derived.Test.YtdjocmcbibedhaaGreatThBHcmp
import Derived.Test.YtdjocmcbibedhaaGreatThBPdig
import Derived.Test.YtdjocmcbibedhaaGreatThBGslicesInt

section
/- wide, vec, the document: numbers of 128 bits, distances. -/
set_option linter.unusedSimpArgs false
set_option linter.unusedVariables false
namespace Go.Th.Pure
open Go

theorem cmpW_num {a b c d : Int} (h : Wok a b) (h' : Wok c d) : cmpW a b c d = if wN a b = wN c d then 0 else if wN a b < wN c d then -1 else 1 := by
  obtain ⟨a1, a2, a3, a4⟩ := h; obtain ⟨b1, b2, b3, b4⟩ := h'
  unfold cmpW wN
  split <;> split <;> (try split) <;> (try split) <;> omega

def distL : List Int → List Int → Int
  | x :: a, y :: b => (x - y) * (x - y) + distL a b
  | _, _ => 0
theorem distL_nil (b : List Int) : distL [] b = 0 := by cases b <;> rfl
theorem distL_snoc : ∀ {a b : List Int} {j : Nat} (ha : j < a.length) (hb : j < b.length), distL (a.take (j + 1)) (b.take (j + 1)) = distL (a.take j) (b.take j) + (a[j] - b[j]) * (a[j] - b[j])
  | x :: a, y :: b, 0, _, _ => by simp [distL, distL_nil]
  | x :: a, y :: b, j + 1, ha, hb => by
    have := distL_snoc (a := a) (b := b) (j := j) (by simpa using ha) (by simpa using hb)
    simp only [List.take_succ_cons, distL, this, List.getElem_cons_succ]; omega
theorem sq_nonneg (x : Int) : 0 ≤ x * x := by
  rcases Int.le_total 0 x with h | h
  · exact Int.mul_nonneg h h
  · have := Int.mul_nonneg_of_nonpos_of_nonpos h h; exact this
theorem distL_nonneg : ∀ (a b : List Int), 0 ≤ distL a b
  | [], b => by rw [distL_nil]; omega
  | x :: a, [] => by simp [distL]
  | x :: a, y :: b => by
    have := distL_nonneg a b
    have := sq_nonneg (x - y)
    simp only [distL]; omega
theorem sq_le {d : Int} (h : -4294967294 ≤ d) (h' : d ≤ 4294967294) : d * d ≤ 18446744056529682436 := by
  rcases Int.le_total 0 d with h1 | h1
  · exact sq_mono h1 h'
  · have := sq_mono (a := -d) (b := 4294967294) (by omega) (by omega)
    rw [Int.neg_mul_neg] at this
    exact this
theorem inC_iff {x : Int} : inC x = true ↔ -2147483647 ≤ x ∧ x ≤ 2147483647 := by simp [inC]
theorem distL_le : ∀ {a b : List Int}, (∀ x ∈ a, inC x = true) → (∀ x ∈ b, inC x = true) → distL a b ≤ a.length * 18446744056529682436
  | [], b, _, _ => by rw [distL_nil]; simp
  | x :: a, [], _, _ => by simp only [distL]; omega
  | x :: a, y :: b, h1, h2 => by
    have := distL_le (a := a) (b := b) (fun x hx => h1 x (by simp [hx])) (fun x hx => h2 x (by simp [hx]))
    have hx := inC_iff.mp (h1 x (by simp))
    have hy := inC_iff.mp (h2 y (by simp))
    have := sq_le (d := x - y) (by omega) (by omega)
    simp only [distL, List.length_cons]; omega

theorem checkV_ok {l : List Int} {d : Int} (h : checkV l d = 0) : 1 ≤ d ∧ d ≤ 64 ∧ (l.length : Int) = d ∧ ∀ x ∈ l, inC x = true := by
  unfold checkV at h
  split at h
  · omega
  · split at h
    · rename_i h1 h2
      rw [List.all_eq_true] at h2
      exact ⟨by omega, by omega, by omega, h2⟩
    · omega

end Go.Th.Pure
namespace Go.Th.L
open Go Go.Th Go.Th.Pure
variable {P : Program} {N : Nat → Nat}

abbrev wV (h l : Int) : V := .agg [.int .u64 h, .int .u64 l]

def math_bits_Mul64.Spec (P : Program) (N : Nat → Nat) : Prop := ∀ (x y : Int) (S : St) (K : Int → Int → St → Prop), 0 ≤ x → x < 18446744073709551616 → 0 ≤ y → y < 18446744073709551616 → K ((x * y) / 18446744073709551616) ((x * y) % 18446744073709551616) S → CallA P (N Fn.math_bits_Mul64) [.int .u64 x, .int .u64 y] S (retT [.one (.int .u64), .one (.int .u64)] K)
theorem math_bits_Mul64.spec (hF : math_bits_Mul64.Ok P N) : math_bits_Mul64.Spec P N := by
  intro x y S K hx hx' hy hy' hk
  obtain ⟨p, q, r, s, e1, e2, e3, e4, p0, q0, r0, s0, p1, q1, r1, s1, e⟩ := mul_split hx hx' hy hy'
  refine math_bits_Mul64.run hF (setI_mk (and32 hx hx') ⟨by decide, setI_mk (shr32 _) (setI_mk (and32 hy hy') ⟨by decide, setI_mk (shr32 _) (setI_mk (n := p) (by rw [e1, wrapU]; omega) (setI_mk (n := q) (by rw [e2, wrapU]; omega) ⟨by decide, setI_mk (shr32 _) (setI_mk (wrapU_id (by omega) (by omega)) (setI_mk (and32 (by omega) (by omega)) ⟨by decide, setI_mk (shr32 _) (setI_mk (n := r) (by rw [e3, wrapU]; omega) (setI_mk (wrapU_id (by omega) (by omega)) (setI_mk (n := s) (by rw [e4, wrapU]; omega) (setI_mk (wrapU_id (by omega) (by omega)) ⟨by decide, setI_mk (shr32 _) (setI_mk (wrapU_id (by omega) (by omega)) (setI_mk (wrapU _) ?_))⟩))))⟩))⟩))⟩)⟩)
  have : s + (q + p / 4294967296) / 4294967296 + ((q + p / 4294967296) % 4294967296 + r) / 4294967296 = x * y / 18446744073709551616 := by rw [e]; omega
  rw [this]; exact hk

def wide_Mul.Spec (P : Program) (N : Nat → Nat) : Prop := ∀ (x y : Int) (S : St) (K : Int → Int → St → Prop), 0 ≤ x → x < 18446744073709551616 → 0 ≤ y → y < 18446744073709551616 → K ((x * y) / 18446744073709551616) ((x * y) % 18446744073709551616) S → CallA P (N Fn.wide_Mul) [.int .u64 x, .int .u64 y] S (retT [.agg [.int .u64, .int .u64]] K)
theorem wide_Mul.spec (hF : wide_Mul.Ok P N) (hM : math_bits_Mul64.Spec P N) : wide_Mul.Spec P N := by
  intro x y S K hx hx' hy hy' hk
  refine CallA.gcT (ds := [.agg [.int .u64, .int .u64]]) rfl (CallA.wfT fun hw => ?_)
  exact wide_Mul.run hF (newS_mk hw fun S1 g1 m1 n1 => hM x y _ _ hx hx' hy hy' (st_mk g1.wf m1 rfl (by simp [V.cells]) rfl fun S2 u2 m2 n2 => ⟨_, _, ldC m2 (by simp [over, V.cells]) rfl, hk⟩))

def wide_Add.Spec (P : Program) (N : Nat → Nat) : Prop := ∀ (a b c d : Int) (S : St) (K : Int → Int → Int → St → Prop), Wok a b → Wok c d → wN a b + wN c d < 340282366920938463463374607431768211456 →
  K ((wN a b + wN c d) / 18446744073709551616) ((wN a b + wN c d) % 18446744073709551616) 0 S → CallA P (N Fn.wide_Add) [wV a b, wV c d] S (retT [.agg [.int .u64, .int .u64], .one (.int .i64)] K)
theorem wide_Add.spec (hF : wide_Add.Ok P N) : wide_Add.Spec P N := by
  intro a b c d S K h1 h2 h3 hk
  obtain ⟨a0, a1, b0, b1⟩ := h1; obtain ⟨c0, c1, d0, d1⟩ := h2
  unfold wN at h3 hk
  refine CallA.gcT (ds := [.agg [.int .u64, .int .u64], .one (.int .i64)]) rfl (CallA.wfT fun hw => ?_)
  refine wide_Add.run hF (newS_mk hw fun S1 g1 m1 n1 => newS_mk g1.wf fun S2 g2 m2 n2 => newS_mk g2.wf fun S3 g3 m3 n3 => ?_)
  have m1' := g3.get (g2.get m1)
  have m2' := g3.get m2
  have e1 : extV 0 [.int .u64 b, .int .u64 d, .int .u64 0] = some (.tuple [.int .u64 ((b + d + 0) % 18446744073709551616), .int .u64 ((b + d + 0) / 18446744073709551616)]) := by
    simp only [extV]; rw [if_pos ⟨b0, d0, by omega, by omega⟩]
  have e2 : extV 0 [.int .u64 a, .int .u64 c, .int .u64 ((b + d + 0) / 18446744073709551616)] = some (.tuple [.int .u64 ((a + c + (b + d + 0) / 18446744073709551616) % 18446744073709551616), .int .u64 ((a + c + (b + d + 0) / 18446744073709551616) / 18446744073709551616)]) := by
    simp only [extV]; rw [if_pos ⟨a0, c0, by omega, by omega⟩]
  refine ⟨_, ld m1' rfl, _, ld m2' rfl, _, _, e1, _, ld m1' rfl, _, ld m2' rfl, _, _, e2, ifC_neg (by omega) (st_mk g3.wf m3 rfl (by simp [V.cells]) rfl fun S4 u4 m4 n4 => ⟨_, _, ldC m4 (by simp [over, V.cells]) rfl, ?_⟩)⟩
  have f1 : (a + c + (b + d + 0) / 18446744073709551616) % 18446744073709551616 = (a * 18446744073709551616 + b + (c * 18446744073709551616 + d)) / 18446744073709551616 := by omega
  have f2 : (b + d + 0) % 18446744073709551616 = (a * 18446744073709551616 + b + (c * 18446744073709551616 + d)) % 18446744073709551616 := by omega
  rw [f1, f2]; exact hk

def vec_plus.Spec (P : Program) (N : Nat → Nat) : Prop := ∀ (h l a b : Int) (S : St) (K : Int → Int → St → Prop), Wok h l → -2147483647 ≤ a → a ≤ 2147483647 → -2147483647 ≤ b → b ≤ 2147483647 → wN h l ≤ 1361129467683753853853498429727072845824 / 8 →
  (∀ h' l', Wok h' l' → wN h' l' = wN h l + (a - b) * (a - b) → K h' l' S) → CallA P (N Fn.vec_plus) [wV h l, .int .i64 a, .int .i64 b] S (retT [.agg [.int .u64, .int .u64]] K)
theorem vec_plus.spec (hF : vec_plus.Ok P N) (hM : wide_Mul.Spec P N) (hA : wide_Add.Spec P N) : vec_plus.Spec P N := by
  intro h l a b S K hw0 ha ha' hb hb' hn hk
  refine CallA.gcT (ds := [.agg [.int .u64, .int .u64]]) rfl (CallA.wfT fun hw => ?_)
  have hsq : (goMax a b - goMin a b) * (goMax a b - goMin a b) = (a - b) * (a - b) := by
    unfold goMax goMin
    rcases Int.lt_trichotomy a b with h | h | h
    · rw [if_pos (by omega), if_neg (by omega)]
      have : b - a = -(a - b) := by omega
      rw [this, Int.neg_mul_neg]
    · subst h; simp
    · rw [if_neg (by omega), if_pos (by omega)]
  have hd : 0 ≤ goMax a b - goMin a b ∧ goMax a b - goMin a b ≤ 4294967294 := by unfold goMax goMin; split <;> split <;> omega
  have h4 := sq_le (d := goMax a b - goMin a b) (by omega) hd.2
  have h5 := sq_nonneg (goMax a b - goMin a b)
  have hw1 := wok_of h5 (by omega)
  have hr := wN_range hw0
  refine vec_plus.run hF (newS_mk hw fun S1 g1 m1 n1 => newS_mk g1.wf fun S2 g2 m2 n2 => setI_mk (wrapI_id (by omega) (by omega)) (setI_mk (wrapU_id (by omega) (by omega)) ⟨_, _, ldN (g2.get m1) (by simp) rfl, hM _ _ _ _ (by omega) (by omega) (by omega) (by omega) ⟨Same.refl _ _, hA _ _ _ _ _ _ hw0 hw1 (by rw [wN_of]; omega) ?_⟩⟩))
  rw [wN_of]
  refine st_mk g2.wf (g2.get m1) rfl (by simp [V.cells]) rfl fun S5 u5 m5 n5 => ⟨_, _, ldN m5 (by simp [over, V.cells]) rfl, st_mk u5.wf (u5.get m2 (by simp only [List.mem_singleton]; omega)) rfl (by simp [V.cells]) rfl fun S6 u6 m6 n6 => ⟨_, _, ldC m6 (by simp [over, V.cells]) rfl, ?_⟩⟩
  refine hk _ _ (wok_of (by omega) (by omega)) ?_
  rw [wN_of, hsq]

theorem arr_ix {i o n c k : Nat} {t : Bool} {kk : IntKind} {j : Nat} (hj : j < n) : idxAddrV k (.slice i o n c k t) (.int kk (j : Int)) = some (.ptr i (o + j * k)) := by
  simp only [idxAddrV]
  rw [if_pos ⟨trivial, by omega, by omega⟩]
  simp

def FarOk (P : Program) (f : Nat) : Prop := ∀ (u v : V) (a b : List Int) (S : St) (K : Int → Int → St → Prop), IntsAt S u a → IntsAt S v b → a.length ≤ b.length → a.length ≤ 64 → (∀ x ∈ a, inC x = true) → (∀ x ∈ b, inC x = true) →
  (∀ h l, Wok h l → wN h l = distL a (b.take a.length) → K h l S) → CallA P f [u, v] S (retT [.agg [.int .u64, .int .u64]] K)

theorem vec_far.spec (hF : vec_far.Ok P N) (hp : vec_plus.Spec P N) : FarOk P (N Fn.vec_far) := by
  intro u v a b S K hu hv hl hl2 ha hb hk
  refine CallA.gcT (ds := [.agg [.int .u64, .int .u64]]) rfl (CallA.wfT fun hw => ?_)
  have hu := hu.ro
  have hv := hv.ro
  refine vec_far.run hF (newS_mk hw fun S1 g1 m1 n1 => newS_mk g1.wf fun S2 g2 m2 n2 => ⟨_, ((hu.grow g1).grow g2).len, ?_⟩)
  refine Loop1.ind (fun m x S' => ∃ (j : Nat) (h l : Int), x = j ∧ m = a.length - j ∧ j ≤ a.length ∧ Upd [S1.next] S2 S' ∧ S'.get S1.next = some (.cells [.int .u64 h, .int .u64 l] true) ∧ Wok h l ∧ wN h l = distL (a.take j) (b.take j)) a.length
    ⟨0, 0, 0, rfl, rfl, Nat.zero_le _, Upd.refl g2.wf _, m2, ⟨by omega, by omega, by omega, by omega⟩, by simp [distL, wN]⟩ ?_
  rintro m _ S3 ⟨j, h, l, rfl, rfl, hj, u3, m3, hw3, hn3⟩
  have g3 : Grow S.ro S3 := (g1.trans g2).after u3 fun i hi => by simp only [List.mem_singleton] at hi; exact .inl (by omega)
  refine ifC_dec (fun h1 => ?_) (fun h1 => ?_)
  · have h1 : j < a.length := by omega
    have h1b : j < b.length := by omega
    have hxa := inC_iff.mp (ha _ (List.getElem_mem h1))
    have hxb := inC_iff.mp (hb _ (List.getElem_mem h1b))
    have hle := distL_le (a := a.take j) (b := b.take j) (fun x hx => ha x (List.mem_of_mem_take hx)) (fun x hx => hb x (List.mem_of_mem_take hx))
    rw [List.length_take, Nat.min_eq_left hj] at hle
    have hu3 := hu.grow g3
    have hv3 := hv.grow g3
    refine ⟨_, _, ldN m3 (by simp) rfl, ifS_mk (IntsAt.idx hu3 h1) ⟨_, IntsAt.get hu3 h1, ifS_mk (IntsAt.idx hv3 h1b) ⟨_, IntsAt.get hv3 h1b, hp h l _ _ _ _ hw3 hxa.1 hxa.2 hxb.1 hxb.2 (by omega) fun h' l' hw' hn' => st_mk u3.wf m3 rfl (by simp [V.cells]) rfl fun S5 u5 m5 n5 => setI_mk (wrap_nat (by omega)) ⟨a.length - (j + 1), by omega, j + 1, h', l', rfl, rfl, h1, u3.trans u5, m5, hw', ?_⟩⟩⟩⟩
    rw [hn', hn3, distL_snoc h1 h1b]
  · have : j = a.length := by omega
    subst this
    rw [List.take_length] at hn3
    exact ⟨_, _, ldN m3 (by simp) rfl, st_mk u3.wf (u3.get (g2.get m1) (by simp only [List.mem_singleton]; omega)) rfl (by simp [V.cells]) rfl fun S6 u6 m6 n6 => ⟨_, _, ldC m6 (by simp [over, V.cells]) rfl, hk _ _ hw3 hn3⟩⟩

def distE (a b : List Int) : Int := if checkV a a.length ≠ 0 then checkV a a.length else checkV b a.length
def DistOk (P : Program) (f : Nat) : Prop := ∀ (u v : V) (a b : List Int) (S : St) (K : Int → Int → Int → St → Prop), IntsAt S u a → IntsAt S v b →
  (distE a b ≠ 0 → K 0 0 (distE a b) S) → (distE a b = 0 → ∀ h l, Wok h l → wN h l = distL a b → K h l 0 S) → CallA P f [u, v] S (retT [.agg [.int .u64, .int .u64], .one (.int .i64)] K)

theorem distE_zero {a b : List Int} (h : distE a b = 0) : 1 ≤ a.length ∧ a.length ≤ 64 ∧ b.length = a.length ∧ (∀ x ∈ a, inC x = true) ∧ ∀ x ∈ b, inC x = true := by
  unfold distE at h
  split at h
  · omega
  · rename_i h1
    have h1 : checkV a a.length = 0 := by omega
    obtain ⟨a1, a2, _, a4⟩ := checkV_ok h1
    obtain ⟨_, _, b3, b4⟩ := checkV_ok h
    exact ⟨by omega, by omega, by omega, a4, b4⟩

theorem vec_Dist.spec (hF : vec_Dist.Ok P N) (hC : ChecksV P (N Fn.vec_Check)) (hf : FarOk P (N Fn.vec_far)) : DistOk P (N Fn.vec_Dist) := by
  intro u v a b S K hu hv hk1 hk2
  refine CallA.gcT (ds := [.agg [.int .u64, .int .u64], .one (.int .i64)]) rfl (CallA.wfT fun hw => ?_)
  have hu := hu.ro
  have hv := hv.ro
  refine vec_Dist.run hF (newS_mk hw fun S1 g1 m1 n1 => ⟨hu.cells1, hv.cells1, newS_mk g1.wf fun S2 g2 m2 n2 => ⟨_, lenV_slice .., ?_⟩⟩)
  have hu2 := (hu.grow g1).grow g2
  have hv2 := (hv.grow g1).grow g2
  have hS : ∀ {e : Int} {S3 : St}, S3 = S2 → e ≠ 0 → e = distE a b → ifS (storeV S3 2 (.ptr S.ro.next 0) (wV 0 0)) fun S5 => ∃ xr_a xr_b : Int, cellNV S5 2 (.ptr S.ro.next 0) = some (wV xr_a xr_b) ∧ K xr_a xr_b e S := by
    rintro e S3 rfl h0 he
    exact st_mk g2.wf (g2.get m1) rfl (by simp [V.cells]) rfl fun S5 u5 m5 n5 => ⟨_, _, ldC m5 (by simp [over, V.cells]) rfl, by rw [he]; exact hk1 (by omega)⟩
  refine Loop1.ind (fun m x S' => S' = S2 ∧ ∃ j : Nat, x = j ∧ m = 2 - j ∧ j ≤ 2 ∧ (0 < j → checkV a a.length = 0) ∧ (1 < j → checkV b a.length = 0)) 2 ⟨rfl, 0, rfl, rfl, by omega, by omega, by omega⟩ ?_
  rintro m _ S3 ⟨rfl, j, rfl, rfl, hj, h0, h1⟩
  refine ifC_dec (fun h3 => ?_) (fun h3 => ?_)
  · have hjj : j = 0 ∨ j = 1 := by omega
    rcases hjj with rfl | rfl
    · refine ifS_mk (arr_ix (j := 0) (by omega)) (ifS_mk (ld m2 rfl) ⟨_, hu2.len, hC u a _ _ _ hu2 (ifC_ndec (fun h4 => hS rfl h4 ?_) (fun h4 => setI_mk (wrap_nat (by omega)) ⟨1, by omega, rfl, 1, rfl, rfl, by omega, fun _ => h4, by omega⟩))⟩)
      rw [distE, if_pos h4]
    · refine ifS_mk (arr_ix (j := 1) (by omega)) (ifS_mk (ld m2 rfl) ⟨_, hu2.len, hC v b _ _ _ hv2 (ifC_ndec (fun h4 => hS rfl h4 ?_) (fun h4 => setI_mk (wrap_nat (by omega)) ⟨0, by omega, rfl, 2, rfl, rfl, by omega, fun _ => h0 (by omega), fun _ => h4⟩))⟩)
      rw [distE, if_neg (by rw [h0 (by omega)]; simp)]
  · have hz : distE a b = 0 := by rw [distE, if_neg (by rw [h0 (by omega)]; simp)]; exact h1 (by omega)
    obtain ⟨d1, d2, d3, d4, d5⟩ := distE_zero hz
    refine hf u v a b _ _ hu2 hv2 (by omega) d2 d4 d5 fun h l hw' hn => st_mk g2.wf (g2.get m1) rfl (by simp [V.cells]) rfl fun S5 u5 m5 n5 => ⟨_, _, ldC m5 (by simp [over, V.cells]) rfl, hk2 hz h l hw' ?_⟩
    rw [hn, ← d3, List.take_length]

def ref03_Square.Spec (P : Program) (N : Nat → Nat) : Prop := ∀ (x : Int) (S : St) (K : Int → Int → St → Prop), -4294967294 ≤ x → x ≤ 4294967294 → K 0 (x * x) S → CallA P (N Fn.ref03_Square) [.int .i64 x] S (retT [.agg [.int .u64, .int .u64]] K)
theorem ref03_Square.spec (hF : ref03_Square.Ok P N) : ref03_Square.Spec P N := by
  intro x S K h1 h2 hk
  refine CallA.gcT (ds := [.agg [.int .u64, .int .u64]]) rfl (CallA.wfT fun hw => ?_)
  refine ref03_Square.run hF (newS_mk hw fun S1 g1 m1 n1 => Join1.mid (fun y S' => S' = S1 ∧ 0 ≤ y ∧ y ≤ 4294967294 ∧ y * y = x * x) (ifC_dec (fun h => setI_mk (n := -x) (by rw [IntKind.wrap_i64]; omega) ⟨rfl, by omega, by omega, by rw [Int.neg_mul_neg]⟩) (fun h => ⟨rfl, by omega, by omega, rfl⟩)) ?_)
  rintro y S2 ⟨rfl, h3, h4, h5⟩
  have h6 := sq_le (d := x) h1 h2
  have h7 := sq_nonneg x
  refine setI_mk (wrapU_id (by omega) (by omega)) (setI_mk (wrapU_id (by omega) (by omega)) (setI_mk (wrapU_id (by omega) (by omega)) (st_mk g1.wf m1 rfl (by simp [V.cells]) rfl fun S3 u3 m3 n3 => ⟨_, _, ldC m3 (by simp [over, V.cells]) rfl, ?_⟩)))
  rw [h5]; exact hk

def ref03_Sum.Spec (P : Program) (N : Nat → Nat) : Prop := ∀ (a b c d : Int) (S : St) (K : Int → Int → St → Prop), Wok a b → Wok c d → wN a b + wN c d < 340282366920938463463374607431768211456 →
  (∀ h l, Wok h l → wN h l = wN a b + wN c d → K h l S) → CallA P (N Fn.ref03_Sum) [wV a b, wV c d] S (retT [.agg [.int .u64, .int .u64]] K)
theorem ref03_Sum.spec (hF : ref03_Sum.Ok P N) : ref03_Sum.Spec P N := by
  intro a b c d S K h1 h2 h3 hk
  obtain ⟨a0, a1, b0, b1⟩ := h1; obtain ⟨c0, c1, d0, d1⟩ := h2
  unfold wN at h3
  refine CallA.gcT (ds := [.agg [.int .u64, .int .u64]]) rfl (CallA.wfT fun hw => ?_)
  refine ref03_Sum.run hF (newS_mk hw fun S1 g1 m1 n1 => newS_mk g1.wf fun S2 g2 m2 n2 => newS_mk g2.wf fun S3 g3 m3 n3 => ?_)
  have m1' := g3.get (g2.get m1)
  have m2' := g3.get m2
  refine ⟨_, ld m1' rfl, _, ld m2' rfl, setI_mk (wrapU_id (by omega) (by omega)) ⟨_, ld m1' rfl, _, ld m2' rfl, setI_mk (wrapU _) (newS_mk g3.wf fun S4 g4 m4 n4 => st_mk g4.wf m4 rfl (by simp [V.cells]) rfl fun S5 u5 m5 n5 => ?_)⟩⟩
  have m15 := u5.get (g4.get m1') (by simp only [List.mem_singleton]; omega)
  have m35 := u5.get (g4.get m3) (by simp only [List.mem_singleton]; omega)
  refine Join0.mid (fun S' => Upd [S3.next] S5 S' ∧ ∃ h l, S'.get S3.next = some (.cells [.int .u64 h, .int .u64 l] true) ∧ Wok h l ∧ wN h l = wN a b + wN c d) ?_ ?_
  · refine ⟨_, ld m5 rfl, _, ld m15 rfl, ifC_dec (fun h4 => ⟨_, ld m5 rfl, setI_mk (wrapU_id (by omega) (by omega)) (st_mk u5.wf m5 rfl (by simp [over, V.cells]) rfl fun S7 u7 m7 n7 => ⟨u7, _, _, m7, ⟨by omega, by omega, by omega, by omega⟩, ?_⟩)⟩) (fun h4 => ⟨Upd.refl u5.wf _, _, _, m5, ⟨by omega, by omega, by omega, by omega⟩, ?_⟩)⟩
    · unfold wN; omega
    · unfold wN; omega
  · rintro S6 ⟨u6, h, l, m6, hw6, hn6⟩
    exact ⟨_, _, ldN m6 (by simp) rfl, st_mk u6.wf (u6.get m35 (by simp only [List.mem_singleton]; omega)) rfl (by simp [V.cells]) rfl fun S8 u8 m8 n8 => ⟨_, _, ldC m8 (by simp [over, V.cells]) rfl, hk _ _ hw6 hn6⟩⟩

theorem sameK_refl {R : List Nat} {S : St} {k : Prop} (hk : k) : sameK R S S k := sameK_mk (Same.refl _ _) hk

theorem ref03_Far.spec (hF : ref03_Far.Ok P N) (hq : ref03_Square.Spec P N) (hs : ref03_Sum.Spec P N) : FarOk P (N Fn.ref03_Far) := by
  intro u v a b S K hu hv hl hl2 ha hb hk
  refine CallA.gcT (ds := [.agg [.int .u64, .int .u64]]) rfl (CallA.wfT fun hw => ?_)
  have hu := hu.ro
  have hv := hv.ro
  refine ref03_Far.run hF (newS_mk hw fun S1 g1 m1 n1 => newS_mk g1.wf fun S2 g2 m2 n2 => ?_)
  refine Loop1.ind (fun m x S' => ∃ (j : Nat) (h l : Int), x = j ∧ m = a.length - j ∧ j ≤ a.length ∧ Upd [S1.next] S2 S' ∧ S'.get S1.next = some (.cells [.int .u64 h, .int .u64 l] true) ∧ Wok h l ∧ wN h l = distL (a.take j) (b.take j)) a.length
    ⟨0, 0, 0, rfl, rfl, Nat.zero_le _, Upd.refl g2.wf _, m2, ⟨by omega, by omega, by omega, by omega⟩, by simp [distL, wN]⟩ ?_
  rintro m _ S3 ⟨j, h, l, rfl, rfl, hj, u3, m3, hw3, hn3⟩
  have g3 : Grow S.ro S3 := (g1.trans g2).after u3 fun i hi => by simp only [List.mem_singleton] at hi; exact .inl (by omega)
  have hu3 := hu.grow g3
  have hv3 := hv.grow g3
  refine ⟨_, hu3.len, ifC_dec (fun h1 => ?_) (fun h1 => ?_)⟩
  · have h1 : j < a.length := by omega
    have h1b : j < b.length := by omega
    have hxa := inC_iff.mp (ha _ (List.getElem_mem h1))
    have hxb := inC_iff.mp (hb _ (List.getElem_mem h1b))
    have hle := distL_le (a := a.take j) (b := b.take j) (fun x hx => ha x (List.mem_of_mem_take hx)) (fun x hx => hb x (List.mem_of_mem_take hx))
    rw [List.length_take, Nat.min_eq_left hj] at hle
    have h4 := sq_le (d := a[j] - b[j]) (by omega) (by omega)
    have h5 := sq_nonneg (a[j] - b[j])
    have hr := wN_range hw3
    refine ⟨_, _, ldN m3 (by simp) rfl, ifS_mk (IntsAt.idx hu3 h1) ⟨_, IntsAt.get hu3 h1, ifS_mk (IntsAt.idx hv3 h1b) ⟨_, IntsAt.get hv3 h1b, setI_mk (wrapI_id (by omega) (by omega)) (hq _ _ _ (by omega) (by omega) (sameK_refl (hs h l 0 _ _ _ hw3 ⟨by omega, by omega, by omega, by omega⟩ (by unfold wN at *; omega) fun h' l' hw' hn' => sameK_refl (st_mk u3.wf m3 rfl (by simp [V.cells]) rfl fun S5 u5 m5 n5 => setI_mk (wrap_nat (by omega)) ⟨a.length - (j + 1), by omega, j + 1, h', l', rfl, rfl, h1, u3.trans u5, m5, hw', ?_⟩))))⟩⟩⟩
    rw [hn', hn3, distL_snoc h1 h1b]; simp [wN]
  · have : j = a.length := by omega
    subst this
    rw [List.take_length] at hn3
    exact ⟨_, _, ldN m3 (by simp) rfl, st_mk u3.wf (u3.get (g2.get m1) (by simp only [List.mem_singleton]; omega)) rfl (by simp [V.cells]) rfl fun S6 u6 m6 n6 => ⟨_, _, ldC m6 (by simp [over, V.cells]) rfl, hk _ _ hw3 hn3⟩⟩

end Go.Th.L
end
