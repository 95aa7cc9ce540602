/- What the row of one statement stands on: a store, abstract code, functions of the program and their laws (ThHref01, ThHref01b). -/
import Derived.Test.YtdjocmcbibedhaaGreatThBHvec1
import Derived.Test.YtdjocmcbibedhaaGreatThBPdig
import Derived.Test.YtdjocmcbibedhaaGreatThBGwide

section
/- The document's numbers of 128 bits: eight digits. -/
set_option linter.unusedSimpArgs false
set_option linter.unusedVariables false
namespace Go.Th.L
open Go Go.Th Go.Th.Pure
variable {P : Program} {N : Nat → Nat}

abbrev numC (l : List Int) (o : Bool) : List V := l.map (V.int .i64) ++ [.bool o]
abbrev numV (l : List Int) (o : Bool) : V := .agg (numC l o)
abbrev numD : DT := .agg [.int .i64, .int .i64, .int .i64, .int .i64, .int .i64, .int .i64, .int .i64, .int .i64, .bool]
theorem numC_len {l : List Int} (h : l.length = 8) (o : Bool) : (numC l o).length = 9 := by simp [h]
theorem numC_one (l : List Int) (o : Bool) : (numC l o).all V.one = true := by simp [V.one]
theorem numC_get {l : List Int} {o : Bool} {j : Nat} (h : j < l.length) : (numC l o)[j]? = some (.int .i64 l[j]) := by
  rw [List.getElem?_append_left (by simpa using h)]; simp [h]
theorem numC_o {l : List Int} {o : Bool} (h : l.length = 8) : (numC l o)[8]? = some (.bool o) := by
  rw [List.getElem?_append_right (by simp [h])]; simp [h]
theorem numC_set {l : List Int} {o : Bool} {j : Nat} (h : j < l.length) (x : Int) : over (numC l o) j [.int .i64 x] = numC (l.set j x) o := by
  rw [over_at (by simp; omega)]
  apply List.ext_getElem?
  intro q
  simp only [List.getElem?_append, List.length_append, List.length_map, List.length_take, List.getElem?_map, List.getElem?_set, List.getElem?_take, List.getElem?_drop, List.length_set, List.length_cons, List.length_nil]
  by_cases h1 : q < j
  · simp [h1, show q ≠ j by omega, show ¬ j = q by omega, show q < l.length by omega, show q < min j (l.length + 1) by omega, show q < min j (l.length + 1) + 1 by omega]
  · by_cases h2 : q = j
    · subst h2; simp [h, show min q (l.length + 1) = q by omega]
    · simp [show min j (l.length + 1) = j by omega, h1, show ¬ q < j + 1 by omega, show ¬ j = q by omega, show j + 1 + (q - (j + 1)) = q by omega]
theorem numC_setO {l : List Int} {o : Bool} (h : l.length = 8) (b : Bool) : over (numC l o) 8 [.bool b] = numC l b := by
  obtain ⟨a, c, d, e, f, g, i, k, rfl⟩ := len8 h
  rfl
theorem idx8 {i j : Nat} (h : j < 8) : idxAddrArrV 8 1 (.ptr i 0) (.int .i64 (j : Int)) = some (.ptr i j) := by
  simp only [idxAddrArrV]
  rw [if_pos ⟨by omega, by omega⟩]; simp

def NumAt (S : St) (i : Nat) (l : List Int) (o : Bool) : Prop := S.get i = some (.cells (numC l o) true)
theorem NumAt.ld {S : St} {i : Nat} {l : List Int} {o : Bool} (h : NumAt S i l o) {j : Nat} (hj : j < l.length) : loadV S (.ptr i j) = some (.int .i64 l[j]) := Go.Th.ld h (numC_get hj)
theorem NumAt.ldO {S : St} {i : Nat} {l : List Int} {o : Bool} (h : NumAt S i l o) (hl : l.length = 8) : loadV S (.ptr i 8) = some (.bool o) := Go.Th.ld h (numC_o hl)
theorem NumAt.ldN {S : St} {i : Nat} {l : List Int} {o : Bool} (h : NumAt S i l o) (hl : l.length = 8) : loadNV S 9 (.ptr i 0) = some (numV l o) :=
  Go.Th.ldN h (by rw [numC_len hl]; omega) (by rw [List.drop_zero, ← numC_len hl o, List.take_length])
theorem NumAt.ldC {S : St} {i : Nat} {l : List Int} {o : Bool} (h : NumAt S i l o) (hl : l.length = 8) : cellNV S 9 (.ptr i 0) = some (numV l o) :=
  Go.Th.ldC h (by rw [numC_len hl]; omega) (by rw [List.drop_zero, ← numC_len hl o, List.take_length])
theorem NumAt.st {S : St} (hw : S.Wf) {i : Nat} {l : List Int} {o : Bool} (h : NumAt S i l o) (hl : l.length = 8) {j : Nat} (hj : j < l.length) (x : Int) {K : St → Prop} (hk : ∀ S', Upd [i] S S' → NumAt S' i (l.set j x) o → S'.next = S.next → K S') :
    ifS (storeV S 1 (.ptr i j) (.int .i64 x)) K :=
  st_mk hw h rfl (by rw [numC_len hl]; simp [V.cells]; omega) rfl fun S' u m n => hk S' u (by unfold NumAt; rw [m]; simp only [V.cells]; rw [numC_set hj]) n
theorem NumAt.stO {S : St} (hw : S.Wf) {i : Nat} {l : List Int} {o : Bool} (h : NumAt S i l o) (hl : l.length = 8) (b : Bool) {K : St → Prop} (hk : ∀ S', Upd [i] S S' → NumAt S' i l b → S'.next = S.next → K S') :
    ifS (storeV S 1 (.ptr i 8) (.bool b)) K :=
  st_mk hw h rfl (by rw [numC_len hl]; simp [V.cells]) rfl fun S' u m n => hk S' u (by unfold NumAt; rw [m]; simp only [V.cells]; rw [numC_setO hl]) n
theorem NumAt.stN {S : St} (hw : S.Wf) {i : Nat} {l m : List Int} {o p : Bool} (h : NumAt S i l o) (hl : l.length = 8) (hm : m.length = 8) {K : St → Prop} (hk : ∀ S', Upd [i] S S' → NumAt S' i m p → S'.next = S.next → K S') :
    ifS (storeV S 9 (.ptr i 0) (numV m p)) K :=
  st_mk hw h (numC_len hm p) (by rw [numC_len hl]; simp [V.cells, hm]) (numC_one m p) fun S' u m' n => hk S' u (by
    unfold NumAt; rw [m']; congr 2
    rw [over_at (by simp [V.cells, hl, hm]), List.take_zero, List.nil_append, List.drop_of_length_le (by simp [V.cells, hl, hm]), List.append_nil]; rfl) n
theorem NumAt.upd {D : List Nat} {S S' : St} {i : Nat} {l : List Int} {o : Bool} (h : NumAt S i l o) (u : Upd D S S') (hD : i ∉ D) : NumAt S' i l o := u.get h hD
theorem NumAt.grow {S S' : St} {i : Nat} {l : List Int} {o : Bool} (h : NumAt S i l o) (u : Grow S S') : NumAt S' i l o := u.get h
abbrev zero8 : List Int := [0, 0, 0, 0, 0, 0, 0, 0]

abbrev TellN (K : Int → Int → Int → Int → Int → Int → Int → Int → Bool → St → Prop) (n : Int) (o : Bool) (S : St) : Prop := ∀ a b c d e f g h, WD [a, b, c, d, e, f, g, h] → val [a, b, c, d, e, f, g, h] = n → K a b c d e f g h o S

def ref01_Of.Spec (P : Program) (N : Nat → Nat) : Prop := ∀ (hi lo : Int) (S : St) (K : Int → Int → Int → Int → Int → Int → Int → Int → Bool → St → Prop), Wok hi lo → TellN K (wN hi lo) false S → CallA P (N Fn.ref01_Of) [wV hi lo] S (retT [numD] K)
theorem ref01_Of.spec (hF : ref01_Of.Ok P N) : ref01_Of.Spec P N := by
  intro hi lo S K hw0 hk
  obtain ⟨h0, h1, l0, l1⟩ := hw0
  refine CallA.gcT (ds := [numD]) rfl (CallA.wfT fun hw => ?_)
  refine ref01_Of.run hF (newS_mk hw fun S1 g1 m1 n1 => newS_mk g1.wf fun S2 g2 m2 n2 => newS_mk g2.wf fun S3 g3 m3 n3 => ?_)
  have m3 : NumAt S3 S2.next zero8 false := m3
  refine Loop1.ind (fun m x S' => ∃ (j : Nat) (l : List Int), x = j ∧ m = 4 - j ∧ j ≤ 4 ∧ Upd [S.ro.next, S2.next] S3 S' ∧ S'.get S.ro.next = some (.cells [.int .u64 (hi / 65536 ^ j), .int .u64 (lo / 65536 ^ j)] true) ∧ NumAt S' S2.next l false ∧ l.length = 8 ∧
    ∀ k, k < 4 → l[k]? = some (if k < j then lo / 65536 ^ k % 65536 else 0) ∧ l[4 + k]? = some (if k < j then hi / 65536 ^ k % 65536 else 0)) 4
    ⟨0, zero8, rfl, rfl, by omega, Upd.refl g3.wf _, by simpa using g3.get (g2.get m1), m3, rfl, fun k hk' => by
      have : k = 0 ∨ k = 1 ∨ k = 2 ∨ k = 3 := by omega
      rcases this with rfl | rfl | rfl | rfl <;> exact ⟨rfl, rfl⟩⟩ ?_
  rintro m _ S4 ⟨j, l, rfl, rfl, hj, u4, w4, n4, hl, hd⟩
  refine ifC_dec (fun h2 => ?_) (fun h2 => ?_)
  · have h2 : j < 4 := by omega
    have hp : (0 : Int) < 65536 ^ j := Int.pow_pos (by omega)
    have e1 : ∀ x : Int, 0 ≤ x → x < 18446744073709551616 → 0 ≤ x / 65536 ^ j ∧ x / 65536 ^ j < 18446744073709551616 := fun x a b =>
      ⟨Int.ediv_nonneg a (by omega), Int.lt_of_le_of_lt (Int.ediv_le_self _ a) b⟩
    have el := e1 lo l0 l1
    have eh := e1 hi h0 h1
    refine ⟨_, ld w4 rfl, by omega, setI_mk (n := lo / 65536 ^ j % 65536) (Int.tmod_eq_emod_of_nonneg el.1) (setI_mk (wrapI_id (by omega) (by omega)) (ifS_mk (idx8 (j := j) (by omega)) (n4.st u4.wf hl (by omega) _ fun S5 u5 n5 s5 => ?_)))⟩
    have w5 := u5.get w4 (by simp only [List.mem_singleton]; omega)
    refine ⟨_, ld w5 rfl, by omega, setI_mk (n := lo / 65536 ^ (j + 1)) ?_ (st_mk u5.wf w5 rfl (by simp [V.cells]) rfl fun S6 u6 w6 s6 => setI_mk (n := ((4 + j : Nat) : Int)) (by rw [IntKind.wrap_i64]; omega) ?_)⟩
    · rw [Int.tdiv_eq_ediv_of_nonneg el.1, Int.ediv_ediv_of_nonneg (by omega), ← Int.pow_succ, Nat.succ_eq_add_one, wrapU]
      have : lo / 65536 ^ (j + 1) ≤ lo / 65536 ^ j := by rw [Int.pow_succ, ← Int.ediv_ediv_of_nonneg (by omega)]; omega
      have : 0 ≤ lo / 65536 ^ (j + 1) := Int.ediv_nonneg l0 (Int.le_of_lt (Int.pow_pos (by omega)))
      omega
    · have n6 := n5.upd u6 (by simp only [List.mem_singleton]; omega)
      have hl6 : (l.set j (lo / 65536 ^ j % 65536)).length = 8 := by rw [List.length_set]; exact hl
      simp only [over, V.cells] at w6
      refine ⟨_, ld w6 rfl, by omega, setI_mk (n := hi / 65536 ^ j % 65536) (Int.tmod_eq_emod_of_nonneg eh.1) (setI_mk (wrapI_id (by omega) (by omega)) (ifS_mk (idx8 (j := 4 + j) (by omega)) (n6.st u6.wf hl6 (by omega) _ fun S7 u7 n7 s7 => ?_)))⟩
      have w7 := u7.get w6 (by simp only [List.mem_singleton]; omega)
      refine ⟨_, ld w7 rfl, by omega, setI_mk (n := hi / 65536 ^ (j + 1)) ?_ (st_mk u7.wf w7 rfl (by simp [V.cells]) rfl fun S8 u8 w8 s8 => setI_mk (wrap_nat (by omega)) ?_)⟩
      · rw [Int.tdiv_eq_ediv_of_nonneg eh.1, Int.ediv_ediv_of_nonneg (by omega), ← Int.pow_succ, Nat.succ_eq_add_one, wrapU]
        have : hi / 65536 ^ (j + 1) ≤ hi / 65536 ^ j := by rw [Int.pow_succ, ← Int.ediv_ediv_of_nonneg (by omega)]; omega
        have : 0 ≤ hi / 65536 ^ (j + 1) := Int.ediv_nonneg h0 (Int.le_of_lt (Int.pow_pos (by omega)))
        omega
      · have n8 := n7.upd u8 (by simp only [List.mem_singleton]; omega)
        have uu : Upd [S.ro.next, S2.next] S3 S8 := (((u4.trans (u5.mono (by simp))).trans (u6.mono (by simp))).trans (u7.mono (by simp))).trans (u8.mono (by simp))
        refine ⟨4 - (j + 1), by omega, j + 1, _, rfl, rfl, by omega, uu, by simpa [over, V.cells] using w8, n8, by rw [List.length_set]; exact hl6, fun k hk' => ?_⟩
        have hdk := hd k hk'
        simp only [List.getElem?_set, List.length_set]
        constructor
        · rw [if_neg (by omega)]
          by_cases e : j = k
          · subst e; rw [if_pos rfl, if_pos (by omega), if_pos (by omega)]
          · rw [if_neg e, hdk.1]
            by_cases e2 : k < j
            · rw [if_pos e2, if_pos (by omega)]
            · rw [if_neg e2, if_neg (by omega)]
        · by_cases e : j = k
          · subst e; rw [if_pos rfl, if_pos (by omega), if_pos (by omega)]
          · rw [if_neg (by omega), if_neg (by omega), hdk.2]
            by_cases e2 : k < j
            · rw [if_pos e2, if_pos (by omega)]
            · rw [if_neg e2, if_neg (by omega)]
  · have : j = 4 := by omega
    subst this
    obtain ⟨a, b, c, d, e, f, g, h, rfl⟩ := len8 hl
    have d0 := hd 0 (by omega)
    have d1 := hd 1 (by omega)
    have d2 := hd 2 (by omega)
    have d3 := hd 3 (by omega)
    simp at d0 d1 d2 d3
    have n1' : NumAt S4 S1.next zero8 false := u4.get (g3.get m2) (by simp only [List.mem_cons, List.not_mem_nil, or_false]; omega)
    refine ⟨_, _, _, _, _, _, _, _, _, n4.ldN rfl, n1'.stN u4.wf rfl (m := [a, b, c, d, e, f, g, h]) rfl fun S9 u9 n9 s9 => ⟨_, _, _, _, _, _, _, _, _, n9.ldC rfl, hk _ _ _ _ _ _ _ _ ⟨rfl, ?_⟩ ?_⟩⟩
    · intro x hx
      simp only [List.mem_cons, List.not_mem_nil, or_false] at hx
      omega
    · simp only [val, wN]; omega

def ref01_Num_Wide.Spec (P : Program) (N : Nat → Nat) : Prop := ∀ (l : List Int) (o : Bool) (S : St) (K : Int → Int → St → Prop), WD l → (∀ hi lo, Wok hi lo → wN hi lo = val l → K hi lo S) → CallA P (N Fn.ref01_Num_Wide) [numV l o] S (retT [.agg [.int .u64, .int .u64]] K)
theorem ref01_Num_Wide.spec (hF : ref01_Num_Wide.Ok P N) : ref01_Num_Wide.Spec P N := by
  intro l o S K hl hk
  refine CallA.gcT (ds := [.agg [.int .u64, .int .u64]]) rfl (CallA.wfT fun hw => ?_)
  obtain ⟨a, b, c, d, e, f, g, h, rfl⟩ := len8 hl.len
  have hdig := hl.dig
  simp only [List.mem_cons, List.not_mem_nil, or_false, forall_eq_or_imp, forall_eq] at hdig
  refine ref01_Num_Wide.run hF (newS_mk hw fun S1 g1 m1 n1 => newS_mk g1.wf fun S2 g2 m2 n2 => newS_mk g2.wf fun S3 g3 m3 n3 => ?_)
  have m1 : NumAt S1 S.ro.next [a, b, c, d, e, f, g, h] o := m1
  refine Loop1.ind (fun m x S' => ∃ (j : Nat) (hi lo : Int), x = (j : Int) - 1 ∧ m = j ∧ j ≤ 4 ∧ Upd [S2.next] S3 S' ∧ S'.get S2.next = some (.cells [.int .u64 hi, .int .u64 lo] true) ∧ lo = val ([a, b, c, d].drop j) ∧ hi = val ([e, f, g, h].drop j)) 4
    ⟨4, 0, 0, rfl, rfl, by omega, Upd.refl g3.wf _, m3, rfl, rfl⟩ ?_
  rintro j _ S4 ⟨_, hi, lo, rfl, rfl, hj, u4, w4, el, eh⟩
  have n4 := ((m1.grow g2).grow g3).upd u4 (by simp only [List.mem_singleton]; omega)
  have rng : ∀ {l : List Int}, l.length ≤ 4 → (∀ x ∈ l, 0 ≤ x ∧ x < 65536) → 0 ≤ val l ∧ val l < 18446744073709551616 := fun {l} h1 h2 => by
    refine ⟨val_nonneg h2, ?_⟩
    have := val_lt h2
    have h3 : l.length = 0 ∨ l.length = 1 ∨ l.length = 2 ∨ l.length = 3 ∨ l.length = 4 := by omega
    rcases h3 with h3 | h3 | h3 | h3 | h3 <;> rw [h3] at this <;> simp at this <;> omega
  refine ifC_dec (fun h2 => ?_) (fun h2 => ?_)
  · obtain ⟨i, rfl⟩ : ∃ i, j = i + 1 := ⟨j - 1, by omega⟩
    have hi4 : i < 4 := by omega
    have ex : ((i + 1 : Nat) : Int) - 1 = (i : Int) := by omega
    rw [ex]
    have hdl : ∀ (l : List Int), l.length = 4 → (∀ x ∈ l, 0 ≤ x ∧ x < 65536) → ∀ (hq : i < l.length), val (l.drop i) = l[i] + 65536 * val (l.drop (i + 1)) ∧ 0 ≤ val (l.drop (i + 1)) ∧ val (l.drop i) < 18446744073709551616 ∧ 0 ≤ l[i] ∧ l[i] < 65536 := fun l h1 h2 hq => by
      have e : l.drop i = l[i] :: l.drop (i + 1) := List.drop_eq_getElem_cons hq
      have r := (rng (l := l.drop i) (by rw [List.length_drop]; omega) (fun x hx => h2 x (List.mem_of_mem_drop hx))).2
      refine ⟨by rw [e]; rfl, val_nonneg (fun x hx => h2 x (List.mem_of_mem_drop hx)), r, h2 _ (List.getElem_mem hq)⟩
    have dl := hdl [a, b, c, d] rfl (by simp only [List.mem_cons, List.not_mem_nil, or_false, forall_eq_or_imp, forall_eq]; omega) (by simpa using hi4)
    have dh := hdl [e, f, g, h] rfl (by simp only [List.mem_cons, List.not_mem_nil, or_false, forall_eq_or_imp, forall_eq]; omega) (by simpa using hi4)
    have gl : [a, b, c, d, e, f, g, h][i]'(by simp; omega) = [a, b, c, d][i]'(by simpa using hi4) := by
      have : i = 0 ∨ i = 1 ∨ i = 2 ∨ i = 3 := by omega
      rcases this with rfl | rfl | rfl | rfl <;> rfl
    have gh : [a, b, c, d, e, f, g, h][4 + i]'(by simp; omega) = [e, f, g, h][i]'(by simpa using hi4) := by
      have : i = 0 ∨ i = 1 ∨ i = 2 ∨ i = 3 := by omega
      rcases this with rfl | rfl | rfl | rfl <;> rfl
    refine ⟨_, ld w4 rfl, setI_mk (wrapU_id (by omega) (by omega)) (ifS_mk (idx8 (j := i) (by omega)) ⟨_, n4.ld (by simp; omega), setI_mk (wrapU_id (by rw [gl]; omega) (by rw [gl]; omega)) (setI_mk (n := val ([a, b, c, d].drop i)) (by rw [gl, wrapU]; omega) (st_mk u4.wf w4 rfl (by simp [V.cells]) rfl fun S5 u5 w5 s5 => ?_))⟩)⟩
    simp only [over, V.cells] at w5
    have n5 := n4.upd u5 (by simp only [List.mem_singleton]; omega)
    refine ⟨_, ld w5 rfl, setI_mk (wrapU_id (by omega) (by omega)) (setI_mk (n := ((4 + i : Nat) : Int)) (by rw [IntKind.wrap_i64]; omega) (ifS_mk (idx8 (j := 4 + i) (by omega)) ⟨_, n5.ld (by simp; omega), setI_mk (wrapU_id (by rw [gh]; omega) (by rw [gh]; omega)) (setI_mk (n := val ([e, f, g, h].drop i)) (by rw [gh, wrapU]; omega) (st_mk u5.wf w5 rfl (by simp [V.cells]) rfl fun S6 u6 w6 s6 => ?_))⟩))⟩
    exact setI_mk (n := (i : Int) - 1) (by rw [IntKind.wrap_i64]; omega) ⟨i, by omega, i, _, _, rfl, rfl, by omega, (u4.trans u5).trans u6, by simpa [over, V.cells] using w6, rfl, rfl⟩
  · have : j = 0 := by omega
    subst this
    refine ⟨_, _, ldN w4 (by simp) rfl, st_mk u4.wf (u4.get (g3.get m2) (by simp only [List.mem_singleton]; omega)) rfl (by simp [V.cells]) rfl fun S7 u7 w7 s7 => ⟨_, _, ldC w7 (by simp [over, V.cells]) rfl, hk _ _ ?_ ?_⟩⟩
    · have r1 := rng (l := [a, b, c, d]) (by simp) (by simp only [List.mem_cons, List.not_mem_nil, or_false, forall_eq_or_imp, forall_eq]; omega)
      have r2 := rng (l := [e, f, g, h]) (by simp) (by simp only [List.mem_cons, List.not_mem_nil, or_false, forall_eq_or_imp, forall_eq]; omega)
      rw [el, eh]
      exact ⟨r2.1, r2.2, r1.1, r1.2⟩
    · rw [el, eh]; simp only [wN, val, List.drop_zero]; omega

def ref01_Num_plus.Spec (P : Program) (N : Nat → Nat) : Prop := ∀ (l : List Int) (o : Bool) (j : Nat) (v : Int) (S : St) (K : Int → Int → Int → Int → Int → Int → Int → Int → Bool → St → Prop), WD l → 0 ≤ v → v ≤ 4611686018427387904 → val l + v * 65536 ^ j < 340282366920938463463374607431768211456 →
  TellN K (val l + v * 65536 ^ j) o S → CallA P (N Fn.ref01_Num_plus) [numV l o, .int .i64 j, .int .i64 v] S (retT [numD] K)
theorem ref01_Num_plus.spec (hF : ref01_Num_plus.Ok P N) : ref01_Num_plus.Spec P N := by
  intro l o j v S K hl hv hv2 hlt hk
  refine CallA.gcT (ds := [numD]) rfl (CallA.wfT fun hw => ?_)
  have hl0 := hl
  obtain ⟨a, b, c, d, e, f, g, h, rfl⟩ := len8 hl.len
  refine ref01_Num_plus.run hF (newS_mk hw fun S1 g1 m1 n1 => newS_mk g1.wf fun S2 g2 m2 n2 => ?_)
  have m1 : NumAt S1 S.ro.next [a, b, c, d, e, f, g, h] o := m1
  have m2 : NumAt S2 S1.next zero8 false := m2
  generalize hn : val [a, b, c, d, e, f, g, h] + v * 65536 ^ j = n at hlt hk
  have big : ∀ {i : Nat} {w : Int}, 8 ≤ i → 0 < w → 340282366920938463463374607431768211456 ≤ w * 65536 ^ i := fun {i w} h1 h2 => by
    obtain ⟨q, rfl⟩ : ∃ q, i = 8 + q := ⟨i - 8, by omega⟩
    have h3 : (0 : Int) < 65536 ^ q := Int.pow_pos (by omega)
    have h4 : (1 : Int) * 1 ≤ w * 65536 ^ q := Int.mul_le_mul (by omega) (by omega) (by omega) (by omega)
    have h5 : w * 65536 ^ (8 + q) = (w * 65536 ^ q) * 340282366920938463463374607431768211456 := by
      rw [Int.pow_add, show (65536 : Int) ^ 8 = 340282366920938463463374607431768211456 from by decide]
      generalize (65536 : Int) ^ q = z
      grind
    rw [h5]; omega
  refine Loop2.ind (fun m x y S' => ∃ (i : Nat) (w : Int) (l : List Int), x = w ∧ y = i ∧ m = 9 - i ∧ Upd [S.ro.next] S2 S' ∧ NumAt S' S.ro.next l o ∧ WD l ∧ 0 ≤ w ∧ w ≤ 4611686018427387904 ∧ val l + w * 65536 ^ i = n) (9 - j)
    ⟨j, v, _, rfl, rfl, rfl, Upd.refl g2.wf _, m1.grow g2, hl0, hv, hv2, hn⟩ ?_
  rintro m w _ S3 ⟨i, _, l, rfl, rfl, rfl, u3, n3, hl3, hw0, hw2, hn3⟩
  have hnn := hl3.nonneg
  refine ifC_dec (fun h2 => ifC_dec (fun h3 => ?_) (fun h3 => ?_)) (fun h2 => ?_)
  · exact absurd (big (i := i) (by omega) h2) (by omega)
  · have h3 : i < 8 := by omega
    have h3l : i < l.length := by rw [hl3.len]; exact h3
    have hd := hl3.get h3l
    refine ifS_mk (idx8 h3) ⟨_, n3.ld h3l, setI_mk (wrapI_id (by omega) (by omega)) ⟨by omega, setI_mk (n := (w + l[i]) % 65536) (Int.tmod_eq_emod_of_nonneg (by omega)) (ifS_mk (idx8 h3) (n3.st u3.wf hl3.len h3l _ fun S6 u6 n6 s6 => ⟨by omega, setI_mk (n := (w + l[i]) / 65536) (by rw [Int.tdiv_eq_ediv_of_nonneg (by omega)]; exact wrapI_id (by omega) (by omega)) (setI_mk (wrap_nat (by omega)) ⟨9 - (i + 1), by omega, i + 1, _, _, rfl, rfl, rfl, u3.trans u6, n6, hl3.set i (by omega) (by omega), by omega, by omega, ?_⟩)⟩))⟩⟩
    rw [val_set h3l, Int.pow_succ]
    have := carry (v := w) (d := l[i]) (p := 65536 ^ i)
    omega
  · have hw1 : w = 0 := by omega
    subst hw1
    rw [Int.zero_mul, Int.add_zero] at hn3
    obtain ⟨a', b', c', d', e', f', g', h', rfl⟩ := len8 hl3.len
    have m2' := m2.upd u3 (by simp only [List.mem_singleton]; omega)
    refine ⟨_, _, _, _, _, _, _, _, _, n3.ldN rfl, m2'.stN u3.wf rfl (m := [a', b', c', d', e', f', g', h']) rfl fun S7 u7 n7 s7 => ⟨_, _, _, _, _, _, _, _, _, n7.ldC rfl, hk _ _ _ _ _ _ _ _ hl3 hn3⟩⟩

end Go.Th.L
end

section
/- The document's numbers of 128 bits: sums, products, comparing, roots; wide's root. -/
set_option linter.unusedSimpArgs false
set_option linter.unusedVariables false
namespace Go.Th.Pure
open Go

theorem val_take_succ {l : List Int} {j : Nat} (h : j < l.length) : val (l.take (j + 1)) = val (l.take j) + l[j] * 65536 ^ j := by
  induction l generalizing j with
  | nil => simp at h
  | cons a l ih =>
    cases j with
    | zero => simp [val]
    | succ j =>
      have := ih (j := j) (by simpa using h)
      simp only [List.take_succ_cons, val, List.getElem_cons_succ, this, Int.pow_succ]
      generalize (65536 : Int) ^ j = p
      grind
theorem val_take_le {l : List Int} (h : ∀ x ∈ l, 0 ≤ x ∧ x < 65536) (j : Nat) : val (l.take j) ≤ val l := by
  induction l generalizing j with
  | nil => simp [val]
  | cons a l ih =>
    have ha := h a (by simp)
    have hv := val_nonneg (l := l) fun y hy => h y (by simp [hy])
    cases j with
    | zero => simp only [List.take_zero, val]; omega
    | succ j =>
      have := ih (fun y hy => h y (by simp [hy])) j
      simp only [List.take_succ_cons, val]; omega
def cmpZ (a b : Int) : Int := if a = b then 0 else if a < b then -1 else 1

theorem root_step {n a b : Int} (h0 : 0 ≤ a) (h : a < b) (h1 : a * a ≤ n) (h2 : n < (b + 1) * (b + 1)) :
    (n < (a + (b - a) / 2 + 1) * (a + (b - a) / 2 + 1) → n < (a + (b - a) / 2 + 1 - 1 + 1) * (a + (b - a) / 2 + 1 - 1 + 1)) := by
  intro h3
  rw [Int.sub_add_cancel]; exact h3

end Go.Th.Pure
namespace Go.Th.L
open Go Go.Th Go.Th.Pure
variable {P : Program} {N : Nat → Nat}

def ref01_Num_Times.Spec (P : Program) (N : Nat → Nat) : Prop := ∀ (l m : List Int) (S : St) (K : Int → Int → Int → Int → Int → Int → Int → Int → Bool → St → Prop), WD l → WD m → val l * val m < 340282366920938463463374607431768211456 →
  TellN K (val l * val m) false S → CallA P (N Fn.ref01_Num_Times) [numV l false, numV m false] S (retT [numD] K)
theorem ref01_Num_Times.spec (hF : ref01_Num_Times.Ok P N) (hp : ref01_Num_plus.Spec P N) : ref01_Num_Times.Spec P N := by
  intro l m S K hl hm hlt hk
  refine CallA.gcT (ds := [numD]) rfl (CallA.wfT fun hw => ?_)
  have hl0 := hl; have hm0 := hm
  obtain ⟨a, b, c, d, e, f, g, h, rfl⟩ := len8 hl.len
  obtain ⟨a', b', c', d', e', f', g', h', rfl⟩ := len8 hm.len
  refine ref01_Num_Times.run hF (newS_mk hw fun S1 g1 m1 n1 => newS_mk g1.wf fun S2 g2 m2 n2 => newS_mk g2.wf fun S3 g3 m3 n3 => newS_mk g3.wf fun S4 g4 m4 n4 => ?_)
  have m1 : NumAt S1 S.ro.next [a, b, c, d, e, f, g, h] false := m1
  have m2 : NumAt S2 S1.next [a', b', c', d', e', f', g', h'] false := m2
  generalize hL : [a, b, c, d, e, f, g, h] = L at *
  generalize hM : [a', b', c', d', e', f', g', h'] = M at *
  have hLn := hl0.nonneg
  have hMn := hm0.nonneg
  have m3 : NumAt S3 S2.next zero8 false := m3
  have m4 : NumAt S4 S3.next zero8 false := m4
  have m14 := ((m1.grow g2).grow g3).grow g4
  have m24 := (m2.grow g3).grow g4
  have m34 := m3.grow g4
  refine Join0.mid (fun S' => Upd [S3.next] S4 S' ∧ NumAt S' S3.next zero8 false) ⟨_, m14.ldO hl0.len, ifC_ff rfl ⟨_, m24.ldO hm0.len, m4.stO g4.wf rfl _ fun S5 u5 n5 s5 => ⟨u5, n5⟩⟩⟩ ?_
  rintro S5 ⟨u5, n5⟩
  refine Loop1.ind (fun q x S' => ∃ (i : Nat) (w : List Int), x = i ∧ q = 8 - i ∧ i ≤ 8 ∧ Upd [S3.next] S4 S' ∧ NumAt S' S3.next w false ∧ WD w ∧ val w = val (L.take i) * val M) 8 ⟨0, zero8, rfl, rfl, by omega, u5, n5, ⟨rfl, by decide⟩, by simp [val]⟩ ?_
  rintro q _ S8 ⟨i, w, rfl, rfl, hi, u8, n8, hw8, hv8⟩
  refine ifC_dec (fun h2 => ?_) (fun h2 => ?_)
  · have h2 : i < 8 := by omega
    have h2l : i < L.length := by rw [hl0.len]; exact h2
    have hdl := hl0.get h2l
    have hts := val_take_succ h2l
    have htl : val (L.take (i + 1)) * val M ≤ val L * val M := Int.mul_le_mul_of_nonneg_right (val_take_le hl0.dig (i + 1)) hMn
    have hpi : (0 : Int) < 65536 ^ i := Int.pow_pos (by omega)
    refine Loop1.ind (fun q x S' => ∃ (k : Nat) (w : List Int), x = k ∧ q = 8 - k ∧ k ≤ 8 ∧ Upd [S3.next] S4 S' ∧ NumAt S' S3.next w false ∧ WD w ∧ val w = val (L.take i) * val M + L[i] * 65536 ^ i * val (M.take k)) 8 ⟨0, w, rfl, rfl, by omega, u8, n8, hw8, by rw [hv8]; simp [val]⟩ ?_
    rintro q _ S9 ⟨k, w9, rfl, rfl, hk9, u9, n9, hw9, hv9⟩
    have m19 := m14.upd u9 (by simp only [List.mem_singleton]; omega)
    have m29 := m24.upd u9 (by simp only [List.mem_singleton]; omega)
    refine ifC_dec (fun h3 => ?_) (fun h3 => ?_)
    · have h3 : k < 8 := by omega
      have h3m : k < M.length := by rw [hm0.len]; exact h3
      have hdm := hm0.get h3m
      have htm := val_take_succ h3m
      have hvm : 0 ≤ L[i] * M[k] ∧ L[i] * M[k] ≤ 4294836225 := by
        refine ⟨Int.mul_nonneg hdl.1 hdm.1, ?_⟩
        have := Int.mul_le_mul (a := L[i]) (b := M[k]) (c := 65535) (d := 65535) (by omega) (by omega) hdm.1 (by omega)
        omega
      have hpk : (0 : Int) < 65536 ^ k := Int.pow_pos (by omega)
      have hstep : val (L.take i) * val M + L[i] * 65536 ^ i * val (M.take (k + 1)) = val w9 + L[i] * M[k] * 65536 ^ (i + k) := by
        rw [hv9, htm, Int.pow_add]
        generalize (65536 : Int) ^ i = x
        generalize (65536 : Int) ^ k = y
        grind
      have hle : val w9 + L[i] * M[k] * 65536 ^ (i + k) < 340282366920938463463374607431768211456 := by
        rw [← hstep]
        have h5 : L[i] * 65536 ^ i * val (M.take (k + 1)) ≤ L[i] * 65536 ^ i * val M := Int.mul_le_mul_of_nonneg_left (val_take_le hm0.dig (k + 1)) (Int.mul_nonneg hdl.1 (by omega))
        rw [hts, Int.add_mul] at htl
        omega
      refine ifS_mk (idx8 h2) ⟨_, m19.ld h2l, ifS_mk (idx8 h3) ⟨_, m29.ld h3m, setI_mk (wrapI_id (by omega) (by omega)) (Join1.mid (fun x S' => x = false ∧ S' = S9) (ifC_dec (fun h4 => setI_mk (n := ((i + k : Nat) : Int)) (by rw [IntKind.wrap_i64]; omega) ⟨?_, rfl⟩) (fun h4 => ⟨rfl, rfl⟩)) ?_)⟩⟩
      · rw [decide_eq_false_iff_not]
        intro h6
        have h7 : 8 ≤ i + k := by omega
        obtain ⟨z, hz⟩ : ∃ z, i + k = 8 + z := ⟨i + k - 8, by omega⟩
        rw [hz, Int.pow_add, show (65536 : Int) ^ 8 = 340282366920938463463374607431768211456 from by decide] at hle
        have h8 : (0 : Int) < 65536 ^ z := Int.pow_pos (by omega)
        have h9 : (1 : Int) * (340282366920938463463374607431768211456 * 1) ≤ L[i] * M[k] * (340282366920938463463374607431768211456 * 65536 ^ z) := Int.mul_le_mul (by omega) (by omega) (by omega) (by omega)
        have := hw9.nonneg
        omega
      · rintro _ S10 ⟨rfl, rfl⟩
        have hw9' := hw9
        obtain ⟨a1, b1, c1, d1, e1, f1, k1, i1, hwe⟩ := len8 hw9.len
        refine ifC_ff rfl ⟨a1, b1, c1, d1, e1, f1, k1, i1, false, by have := n9.ldN hw9.len; rw [hwe] at this; exact this, setI_mk (n := ((i + k : Nat) : Int)) (by rw [IntKind.wrap_i64]; omega) ?_⟩
        refine hp [a1, b1, c1, d1, e1, f1, k1, i1] false (i + k) (L[i] * M[k]) S10 _ (hwe ▸ hw9) hvm.1 (by omega) (by rw [← hwe]; exact hle) ?_
        intro a2 b2 c2 d2 e2 f2 g2' h2' hw2 hv2
        refine n9.stN u9.wf hw9'.len (m := [a2, b2, c2, d2, e2, f2, g2', h2']) rfl fun S12 u12 n12 s12 => setI_mk (wrap_nat (by omega)) ⟨8 - (k + 1), by omega, k + 1, _, rfl, rfl, h3, u9.trans u12, n12, hw2, ?_⟩
        rw [hv2, ← hwe, hstep]
    · have : k = 8 := by omega
      subst this
      have e8 : M.take 8 = M := List.take_of_length_le (by rw [hm0.len]; omega)
      rw [e8] at hv9
      refine setI_mk (wrap_nat (by omega)) ⟨8 - (i + 1), by omega, i + 1, w9, rfl, rfl, h2, u9, n9, hw9, ?_⟩
      rw [hv9, hts, Int.add_mul]
  · have : i = 8 := by omega
    subst this
    rw [List.take_of_length_le (by rw [hl0.len]; omega)] at hv8
    obtain ⟨a1, b1, c1, d1, e1, f1, k1, i1, rfl⟩ := len8 hw8.len
    have m38 := m34.upd u8 (by simp only [List.mem_singleton]; omega)
    exact ⟨_, _, _, _, _, _, _, _, _, n8.ldN rfl, m38.stN u8.wf rfl (m := [a1, b1, c1, d1, e1, f1, k1, i1]) rfl fun S14 u14 n14 s14 => ⟨_, _, _, _, _, _, _, _, _, n14.ldC rfl, hk _ _ _ _ _ _ _ _ hw8 hv8⟩⟩

def ref01_Cmp.Spec (P : Program) (N : Nat → Nat) : Prop := ∀ (l m : List Int) (o p : Bool) (S : St) (K : Int → St → Prop), WD l → WD m → K (cmpZ (val l) (val m)) S → CallA P (N Fn.ref01_Cmp) [numV l o, numV m p] S (retT [.one (.int .i64)] K)
theorem ref01_Cmp.spec (hF : ref01_Cmp.Ok P N) : ref01_Cmp.Spec P N := by
  intro l m o p S K hl hm hk
  refine CallA.gcT (ds := [.one (.int .i64)]) rfl (CallA.wfT fun hw => ?_)
  have hl0 := hl; have hm0 := hm
  obtain ⟨a, b, c, d, e, f, g, h, rfl⟩ := len8 hl.len
  obtain ⟨a', b', c', d', e', f', g', h', rfl⟩ := len8 hm.len
  refine ref01_Cmp.run hF (newS_mk hw fun S1 g1 m1 n1 => newS_mk g1.wf fun S2 g2 m2 n2 => ?_)
  have m1 : NumAt S1 S.ro.next [a, b, c, d, e, f, g, h] o := m1
  have m2 : NumAt S2 S1.next [a', b', c', d', e', f', g', h'] p := m2
  generalize hL : [a, b, c, d, e, f, g, h] = L at *
  generalize hM : [a', b', c', d', e', f', g', h'] = M at *
  have m1 := m1.grow g2
  refine Loop1.ind (fun q x S' => S' = S2 ∧ x = (q : Int) - 1 ∧ q ≤ 8 ∧ L.drop q = M.drop q) 8 ⟨rfl, rfl, by omega, by rw [List.drop_of_length_le (by rw [hl0.len]; omega), List.drop_of_length_le (by rw [hm0.len]; omega)]⟩ ?_
  rintro q _ S3 ⟨rfl, rfl, hq, he⟩
  refine ifC_dec (fun h2 => ?_) (fun h2 => ?_)
  · obtain ⟨i, rfl⟩ : ∃ i, q = i + 1 := ⟨q - 1, by omega⟩
    have hi : i < 8 := by omega
    have hil : i < L.length := by rw [hl0.len]; exact hi
    have him : i < M.length := by rw [hm0.len]; exact hi
    have ex : ((i + 1 : Nat) : Int) - 1 = (i : Int) := by omega
    rw [ex]
    refine ifS_mk (idx8 hi) ⟨_, m1.ld hil, ifS_mk (idx8 hi) ⟨_, m2.ld him, ifC_ndec (fun h3 => ifS_mk (idx8 hi) ⟨_, m1.ld hil, ifS_mk (idx8 hi) ⟨_, m2.ld him, ifC_dec (fun h4 => ?_) (fun h4 => ?_)⟩⟩) (fun h3 => setI_mk (n := (i : Int) - 1) (by rw [IntKind.wrap_i64]; omega) ⟨i, by omega, rfl, rfl, by omega, by rw [List.drop_eq_getElem_cons hil, List.drop_eq_getElem_cons him, h3, he]⟩)⟩⟩
    · have := val_cmp hl0 hm0 hil him he h4
      rw [cmpZ, if_neg (by omega), if_pos this] at hk
      exact hk
    · have := val_cmp hm0 hl0 him hil he.symm (by omega)
      rw [cmpZ, if_neg (by omega), if_neg (by omega)] at hk
      exact hk
  · have : q = 0 := by omega
    subst this
    rw [List.drop_zero, List.drop_zero] at he
    rw [he, cmpZ, if_pos rfl] at hk
    exact hk

def ref01_Less.Spec (P : Program) (N : Nat → Nat) : Prop := ∀ (a b c d : Int) (S : St) (K : Bool → St → Prop), Wok a b → Wok c d → K (decide (wN a b < wN c d)) S → CallA P (N Fn.ref01_Less) [wV a b, wV c d] S (retT [.one .bool] K)
theorem ref01_Less.spec (hF : ref01_Less.Ok P N) (hO : ref01_Of.Spec P N) (hC : ref01_Cmp.Spec P N) : ref01_Less.Spec P N := by
  intro a b c d S K h1 h2 hk
  refine CallA.gcT (ds := [.one .bool]) rfl (CallA.wfT fun hw => ?_)
  refine ref01_Less.run hF (newS_mk hw fun S1 g1 m1 n1 => newS_mk g1.wf fun S2 g2 m2 n2 => ⟨_, _, ldN (g2.get m1) (by simp) rfl, _, _, ldN m2 (by simp) rfl, hO a b _ _ h1 ?_⟩)
  intro x1 x2 x3 x4 x5 x6 x7 x8 hwx hvx
  refine ⟨Same.refl _ _, hO c d _ _ h2 ?_⟩
  intro y1 y2 y3 y4 y5 y6 y7 y8 hwy hvy
  refine ⟨Same.refl _ _, hC [x1, x2, x3, x4, x5, x6, x7, x8] [y1, y2, y3, y4, y5, y6, y7, y8] false false _ _ hwx hwy ⟨Same.refl _ _, ?_⟩⟩
  have : decide (cmpZ (val [x1, x2, x3, x4, x5, x6, x7, x8]) (val [y1, y2, y3, y4, y5, y6, y7, y8]) < 0) = decide (wN a b < wN c d) := by
    rw [hvx, hvy]
    refine decide_eq_decide.mpr ?_
    unfold cmpZ
    split
    · omega
    · split <;> omega
  rw [this]; exact hk

def ref01_Mul.Spec (P : Program) (N : Nat → Nat) : Prop := ∀ (x y : Int) (S : St) (K : Int → Int → St → Prop), 0 ≤ x → x < 18446744073709551616 → 0 ≤ y → y < 18446744073709551616 → (∀ h l, Wok h l → wN h l = x * y → K h l S) → CallA P (N Fn.ref01_Mul) [.int .u64 x, .int .u64 y] S (retT [.agg [.int .u64, .int .u64]] K)
theorem mul_lt {x y : Int} (h1 : 0 ≤ x) (h2 : x < 18446744073709551616) (h3 : 0 ≤ y) (h4 : y < 18446744073709551616) : 0 ≤ x * y ∧ x * y ≤ 340282366920938463426481119284349108225 :=
  ⟨Int.mul_nonneg h1 h3, by have := Int.mul_le_mul (a := x) (b := y) (c := 18446744073709551615) (d := 18446744073709551615) (by omega) (by omega) h3 (by omega); omega⟩
theorem ref01_Mul.spec (hF : ref01_Mul.Ok P N) (hO : ref01_Of.Spec P N) (hT : ref01_Num_Times.Spec P N) (hW : ref01_Num_Wide.Spec P N) : ref01_Mul.Spec P N := by
  intro x y S K h1 h2 h3 h4 hk
  refine CallA.gcT (ds := [.agg [.int .u64, .int .u64]]) rfl (CallA.wfT fun hw => ?_)
  have hm := mul_lt h1 h2 h3 h4
  refine ref01_Mul.run hF (newS_mk hw fun S1 g1 m1 n1 => hO 0 x _ _ ⟨by omega, by omega, h1, h2⟩ ?_)
  intro x1 x2 x3 x4 x5 x6 x7 x8 hwx hvx
  refine hO 0 y _ _ ⟨by omega, by omega, h3, h4⟩ ?_
  intro y1 y2 y3 y4 y5 y6 y7 y8 hwy hvy
  have ex : wN 0 x = x := by simp [wN]
  have ey : wN 0 y = y := by simp [wN]
  rw [ex] at hvx; rw [ey] at hvy
  refine hT [x1, x2, x3, x4, x5, x6, x7, x8] [y1, y2, y3, y4, y5, y6, y7, y8] _ _ hwx hwy (by rw [hvx, hvy]; omega) ?_
  intro z1 z2 z3 z4 z5 z6 z7 z8 hwz hvz
  refine hW [z1, z2, z3, z4, z5, z6, z7, z8] false _ _ hwz fun hi lo hwo hn => st_mk g1.wf m1 rfl (by simp [V.cells]) rfl fun S6 u6 m6 n6 => ⟨_, _, ldC m6 (by simp [over, V.cells]) rfl, hk _ _ hwo ?_⟩
  rw [hn, hvz, hvx, hvy]

def ref03_Root.Spec (P : Program) (N : Nat → Nat) : Prop := ∀ (a b : Int) (S : St) (K : Int → St → Prop), Wok a b → (∀ r, IsRoot (wN a b) r → r < 18446744073709551616 → K r S) → CallA P (N Fn.ref03_Root) [wV a b] S (retT [.one (.int .u64)] K)
theorem ref03_Root.spec (hF : ref03_Root.Ok P N) (hM : ref01_Mul.Spec P N) (hL : ref01_Less.Spec P N) : ref03_Root.Spec P N := by
  intro a b S K h1 hk
  refine CallA.gcT (ds := [.one (.int .u64)]) rfl (CallA.wfT fun hw => ?_)
  have hr := wN_range h1
  refine ref03_Root.run hF (newS_mk hw fun S1 g1 m1 n1 => ?_)
  refine Loop2.ind (fun q x y S' => S' = S1 ∧ 0 ≤ x ∧ x ≤ y ∧ y < 18446744073709551616 ∧ x * x ≤ wN a b ∧ wN a b < (y + 1) * (y + 1) ∧ q = (y - x).toNat) 18446744073709551615 ⟨rfl, by omega, by omega, by omega, by omega, by omega, by omega⟩ ?_
  rintro q x y S2 ⟨rfl, hx, hxy, hy, hxn, hyn, rfl⟩
  refine ifC_dec (fun h2 => ?_) (fun h2 => ?_)
  · refine setI_mk (wrapU_id (by omega) (by omega)) ⟨by omega, setI_mk (n := (y - x) / 2) (by rw [Int.tdiv_eq_ediv_of_nonneg (by omega)]; exact wrapU_id (by omega) (by omega)) (setI_mk (wrapU_id (by omega) (by omega)) (setI_mk (wrapU_id (by omega) (by omega)) ⟨_, _, ldN m1 (by simp) rfl, hM _ _ _ _ (by omega) (by omega) (by omega) (by omega) fun h l hwo hn => ⟨Same.refl _ _, hL _ _ _ _ _ _ h1 hwo ?_⟩⟩))⟩
    rw [hn]
    refine ifC_dec (fun h3 => setI_mk (wrapU_id (by omega) (by omega)) ⟨_, ?_, rfl, hx, by omega, by omega, hxn, root_step hx h2 hxn hyn h3, rfl⟩) (fun h3 => ⟨_, ?_, rfl, by omega, by omega, hy, by omega, hyn, rfl⟩)
    · omega
    · omega
  · have : y = x := by omega
    subst this
    exact hk _ ⟨hx, hxn, hyn⟩ (by omega)

theorem start64 {n : Int} (h : n < 340282366920938463463374607431768211456) : n < ((0 + 2 ^ (63 + 1) : Nat) : Int) * ((0 + 2 ^ (63 + 1) : Nat) : Int) := by
  have : (((0 + 2 ^ (63 + 1) : Nat)) : Int) = 18446744073709551616 := by decide
  rw [this]; omega
def wide_Sqrt.Spec (P : Program) (N : Nat → Nat) : Prop := ∀ (a b : Int) (S : St) (K : Int → St → Prop), Wok a b → (∀ r, IsRoot (wN a b) r → r < 18446744073709551616 → K r S) → CallA P (N Fn.wide_Sqrt) [wV a b] S (retT [.one (.int .u64)] K)
theorem wide_Sqrt.spec (hF : wide_Sqrt.Ok P N) (hM : wide_Mul.Spec P N) (hC : wide_Cmp.Spec P N) : wide_Sqrt.Spec P N := by
  intro a b S K h1 hk
  refine CallA.gcT (ds := [.one (.int .u64)]) rfl (CallA.wfT fun hw => ?_)
  have hr := wN_range h1
  refine wide_Sqrt.run hF (newS_mk hw fun S1 g1 m1 n1 => ?_)
  refine Loop2.ind (fun q x y S' => S' = S1 ∧ ∃ (r k : Nat), x = r ∧ y = ((2 ^ k : Nat) : Int) ∧ q = k ∧ k < 64 ∧ r % 2 ^ (k + 1) = 0 ∧ r + 2 ^ (k + 1) ≤ 18446744073709551616 ∧ (r : Int) * r ≤ wN a b ∧ wN a b < ((r + 2 ^ (k + 1) : Nat) : Int) * ((r + 2 ^ (k + 1) : Nat) : Int)) 63 ⟨rfl, 0, 63, rfl, rfl, rfl, by omega, by omega, by omega, by omega, start64 hr.2⟩ ?_
  rintro k _ _ S2 ⟨rfl, r, _, rfl, rfl, rfl, hk64, hrm, hrl, hrn, hnr⟩
  have hp2 : 2 ^ (k + 1) = 2 ^ k + 2 ^ k := by rw [Nat.pow_succ]; omega
  have hp0 : 1 ≤ 2 ^ k := Nat.two_pow_pos k
  refine Join1.mid (fun x S' => S' = S2 ∧ ∃ r' : Nat, x = r' ∧ r' % 2 ^ k = 0 ∧ r' + 2 ^ k ≤ 18446744073709551616 ∧ (r' : Int) * r' ≤ wN a b ∧ wN a b < ((r' + 2 ^ k : Nat) : Int) * ((r' + 2 ^ k : Nat) : Int)) ?_ ?_
  · refine setI_mk (or_bit hk64 hrm (by omega)) ⟨_, _, ldN m1 (by simp) rfl, hM _ _ _ _ (by omega) (by omega) (by omega) (by omega) ⟨Same.refl _ _, hC _ _ _ _ _ _ ?_⟩⟩
    have hml := mul_lt (x := ((r + 2 ^ k : Nat) : Int)) (y := ((r + 2 ^ k : Nat) : Int)) (by omega) (by omega) (by omega) (by omega)
    rw [cmpW_num (wok_of hml.1 (by omega)) h1, wN_of]
    have hmod : r % 2 ^ k = 0 := by
      have : 2 ^ k ∣ 2 ^ (k + 1) := Nat.pow_dvd_pow 2 (by omega)
      exact Nat.mod_eq_zero_of_dvd (Nat.dvd_trans this (Nat.dvd_of_mod_eq_zero hrm))
    refine ifC_dec (fun h3 => ⟨rfl, r + 2 ^ k, rfl, by rw [Nat.add_mod_right]; exact hmod, by omega, ?_, by rw [Nat.add_assoc, ← hp2]; exact hnr⟩) (fun h3 => ⟨rfl, r, rfl, hmod, by omega, hrn, ?_⟩)
    · rcases Int.lt_or_le (wN a b) (((r + 2 ^ k : Nat) : Int) * ((r + 2 ^ k : Nat) : Int)) with h4 | h4
      · rw [if_neg (by omega), if_neg (by omega)] at h3; omega
      · exact h4
    · rcases Int.lt_or_le (wN a b) (((r + 2 ^ k : Nat) : Int) * ((r + 2 ^ k : Nat) : Int)) with h4 | h4
      · exact h4
      · exfalso; apply h3; split
        · omega
        · rw [if_pos (by omega)]; omega
  · rintro _ S3 ⟨rfl, r', rfl, hm', hl', hn', hnr'⟩
    refine ifC_dec (fun h3 => ?_) (fun h3 => ⟨by decide, ?_⟩)
    · have h3 : 2 ^ k = 1 := by omega
      rw [h3] at hnr'
      have e1 : ((r' + 1 : Nat) : Int) = (r' : Int) + 1 := by omega
      rw [e1] at hnr'
      exact hk _ ⟨by omega, hn', hnr'⟩ (by omega)
    · obtain ⟨j, rfl⟩ : ∃ j, k = j + 1 := ⟨k - 1, by
        have : k ≠ 0 := fun h0 => h3 (by rw [h0]; rfl)
        omega⟩
      have hj2 : 2 ^ (j + 1) = 2 ^ j * 2 := Nat.pow_succ _ _
      refine setI_mk (n := ((2 ^ j : Nat) : Int)) (by rw [shr1]; omega) ⟨j, by omega, rfl, r', j, rfl, rfl, rfl, by omega, hm', hl', hn', hnr'⟩

end Go.Th.L
end
