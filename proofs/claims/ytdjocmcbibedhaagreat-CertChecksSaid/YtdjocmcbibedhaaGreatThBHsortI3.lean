/- What the row of one statement stands on: a store, abstract code, functions of the program and their laws (ThHsortI, ThHsortI2, ThHsortI3). -/
import Derived.Test.YtdjocmcbibedhaaGreatThBHsort0
import Derived.Test.YtdjocmcbibedhaaGreatThBGslicesInt

section
/- slices.Sort's functions at numbers, each against its plain twin. -/
set_option linter.unusedSimpArgs false
set_option linter.unusedVariables false
set_option linter.unusedSectionVars false
namespace Go.Th.L.I
open Go Go.Th Go.Th.L Go.Th.Pure Go.Sort
variable {P : Program} {N : Nat → Nat}

abbrev icells (x : Int) : List V := [.int .i64 x]
@[reducible] def intsE : Enc Int := ⟨1, V.int .i64, icells, fun _ => rfl, fun _ => rfl, fun _ => rfl⟩
abbrev rowI (i o n c : Nat) (t : Bool) : V := .slice i o n c 1 t
theorem _root_.Go.Th.L.ArrAt.ldI {S0 S : St} {i : Nat} {pre post : List V} {d : Array Int} (h : ArrAt intsE S0 i pre post S d) {j : Nat} (hj : j < d.size) : loadV S (.ptr i (pre.length + j * 1)) = some (.int .i64 d[j]!) := h.ld1 hj rfl rfl
def LessIs (P : Program) (N : Nat → Nat) (lt : Int → Int → Bool) : Prop := ∀ (a b : Int) (S : St) (K : Bool → St → Prop), (∀ r : Bool, r = lt a b → K r S) → CallA P (N Fn.cmp_Less_int) [.int .i64 a, .int .i64 b] S (retT [.one .bool] K)

def childOf (lt : Int → Int → Bool) (hi first r : Nat) (d : Array Int) : Nat :=
  if (2 * r + 1 + 1 < hi && lt d[first + (2 * r + 1)]! d[first + (2 * r + 1) + 1]!) = true then 2 * r + 2 else 2 * r + 1
theorem siftDown_stop {lt : Int → Int → Bool} {hi first r : Nat} {d : Array Int} (h : hi ≤ 2 * r + 1) : siftDown lt hi first r d = d := by
  rw [siftDown, dif_pos h]
theorem siftDown_no {lt : Int → Int → Bool} {hi first r : Nat} {d : Array Int} (h : ¬ hi ≤ 2 * r + 1) (h2 : lt d[first + r]! d[first + childOf lt hi first r d]! = false) : siftDown lt hi first r d = d := by
  rw [siftDown, dif_neg h]
  unfold childOf at h2
  split
  · rename_i h3; rw [if_pos h3] at h2; rw [if_pos (by rw [h2]; rfl)]
  · rename_i h3; rw [if_neg h3] at h2; rw [if_pos (by rw [h2]; rfl)]
theorem siftDown_go {lt : Int → Int → Bool} {hi first r : Nat} {d : Array Int} (h : ¬ hi ≤ 2 * r + 1) (h2 : lt d[first + r]! d[first + childOf lt hi first r d]! = true) :
    siftDown lt hi first r d = siftDown lt hi first (childOf lt hi first r d) (swp d (first + r) (first + childOf lt hi first r d)) := by
  rw [siftDown, dif_neg h]
  unfold childOf at h2 ⊢
  split
  · rename_i h3; rw [if_pos h3] at h2; rw [if_neg (by rw [h2]; simp)]
    simp only [Bool.and_eq_true, decide_eq_true_eq] at h3
    rw [dif_pos (by omega)]
  · rename_i h3; rw [if_neg h3] at h2; rw [if_neg (by rw [h2]; simp)]
theorem childOf_lt {lt : Int → Int → Bool} {hi first r : Nat} {d : Array Int} (h : ¬ hi ≤ 2 * r + 1) : r < childOf lt hi first r d ∧ childOf lt hi first r d < hi := by
  unfold childOf
  split
  · rename_i h3
    simp only [Bool.and_eq_true, decide_eq_true_eq] at h3
    omega
  · omega

theorem siftDown_size {lt : Int → Int → Bool} {hi first : Nat} : ∀ (m r : Nat) (d : Array Int), hi - r ≤ m → (siftDown lt hi first r d).size = d.size := by
  intro m
  induction m with
  | zero => intro r d h; rw [siftDown_stop (by omega)]
  | succ m ih =>
    intro r d h
    by_cases h1 : hi ≤ 2 * r + 1
    · rw [siftDown_stop h1]
    · cases h2 : lt d[first + r]! d[first + childOf lt hi first r d]! with
      | false => rw [siftDown_no h1 h2]
      | true =>
        have := childOf_lt (lt := lt) (first := first) (d := d) h1
        rw [siftDown_go h1 h2, ih _ _ (by omega), swp_size]

structure SwAt (S0 : St) (i : Nat) (pre post : List V) (d : Array Int) (q : Nat) (S : St) (s : Nat) : Prop where
  upd : Upd [q] S0 S
  next : S.next = S0.next
  row : ∃ o, S.get i = some (.cells (pre ++ (d.toList.map icells).flatten ++ post) o)
  cnt : S.get q = some (.cells [.int .i64 s] true)
  ne : i ≠ q

theorem SwAt.ldI {S0 S : St} {i q s : Nat} {pre post : List V} {d : Array Int} (h : SwAt S0 i pre post d q S s) {j : Nat} (hj : j < d.size) : loadV S (.ptr i (pre.length + j * 1)) = some (.int .i64 d[j]!) := by
  obtain ⟨o, hg⟩ := h.row
  refine Go.Th.ld hg ?_
  have := Enc.drop (E := intsE) (pre := pre) (post := post) hj
  rw [← List.head?_drop]
  cases hd : List.drop (pre.length + j * 1) (pre ++ (d.toList.map icells).flatten ++ post) with
  | nil => rw [hd] at this; simp at this
  | cons a l => rw [hd] at this; simp at this; simp [this]
theorem SwAt.set {S0 S : St} {i q s s' : Nat} {pre post : List V} {d : Array Int} (h : SwAt S0 i pre post d q S s) {K : St → Prop} (hk : ∀ S', SwAt S0 i pre post d q S' s' → K S') : ifS (storeV S 1 (.ptr q 0) (.int .i64 s')) K := by
  refine st_mk h.upd.wf h.cnt rfl (by simp [V.cells]) rfl fun S' u m n => hk S' ⟨h.upd.trans u, n.trans h.next, h.row.elim fun o hg => ⟨o, u.get hg (by simp; exact h.ne)⟩, ?_, h.ne⟩
  simpa [over, V.cells] using m

theorem order2_bd {lt : Int → Int → Bool} {d : Array Int} {a b s n : Nat} (ha : a < n) (hb : b < n) : (order2 lt d a b s).1 < n ∧ (order2 lt d a b s).2.1 < n ∧ (order2 lt d a b s).2.2 ≤ s + 1 := by
  unfold order2; split <;> simp <;> omega

theorem median_bd {lt : Int → Int → Bool} {d : Array Int} {a b e s n : Nat} (ha : a < n) (hb : b < n) (he : e < n) : (Sort.median lt d a b e s).1 < n ∧ (Sort.median lt d a b e s).2 ≤ s + 3 := by
  obtain ⟨b1, b2, b3⟩ := order2_bd (lt := lt) (d := d) (s := s) ha hb
  obtain ⟨c1, c2, c3⟩ := order2_bd (lt := lt) (d := d) (s := (order2 lt d a b s).2.2) b2 he
  obtain ⟨d1, d2, d3⟩ := order2_bd (lt := lt) (d := d) (s := (order2 lt d (order2 lt d a b s).2.1 e (order2 lt d a b s).2.2).2.2) b1 c1
  refine ⟨d2, ?_⟩
  show (order2 lt d (order2 lt d a b s).1 (order2 lt d (order2 lt d a b s).2.1 e (order2 lt d a b s).2.2).1 (order2 lt d (order2 lt d a b s).2.1 e (order2 lt d a b s).2.2).2.2).2.2 ≤ s + 3
  omega

end Go.Th.L.I
end

section
/- slices.Sort's functions at numbers: partitions, partial insertion, the pivot. -/
set_option linter.unusedSimpArgs false
set_option linter.unusedVariables false
set_option linter.unusedSectionVars false
namespace Go.Th.L.I
open Go Go.Th Go.Th.L Go.Th.Pure Go.Sort
variable {P : Program} {N : Nat → Nat}

section
variable {S0 S : St} {i n c : Nat} {t : Bool} {pre post : List V} {d : Array Int} (hA : ArrAt intsE S0 i pre post S d) (hz : d.size = n)
include hA hz

theorem _root_.Go.Th.L.ArrAt.cmpI {lt : Int → Int → Bool} (hcmp : LessIs P N lt) {x y : Nat} (hx : x < n) (hy : y < n) {K : Bool → St → Prop} (h : ∀ r : Bool, r = lt d[x]! d[y]! → K r S) :
    ifS (idxAddrV 1 (rowI i pre.length n c t) (.int .i64 x)) fun p => ∃ a : Int, loadV S p = some (.int .i64 a) ∧
    ifS (idxAddrV 1 (rowI i pre.length n c t) (.int .i64 y)) fun q => ∃ a' : Int, loadV S q = some (.int .i64 a') ∧
    CallA P (N Fn.cmp_Less_int) [.int .i64 a, .int .i64 a'] S (retT [.one .bool] K) :=
  ifS_mk (arr_idx hx) ⟨_, hA.ldI (by omega), ifS_mk (arr_idx hy) ⟨_, hA.ldI (by omega), hcmp _ _ _ _ h⟩⟩

end

theorem scanUp_stop {p : Int → Bool} {d : Array Int} {j i : Nat} (h : ¬ (i ≤ j ∧ p d[i]! = true)) : scanUp p d j i = i := by
  rw [scanUp, if_neg (by simpa using h)]
theorem scanUp_go {p : Int → Bool} {d : Array Int} {j i : Nat} (h : i ≤ j) (h2 : p d[i]! = true) : scanUp p d j i = scanUp p d j (i + 1) := by
  rw [scanUp, if_pos (by simp [h, h2])]
theorem scanDown_stop {p : Int → Bool} {d : Array Int} {j i : Nat} (hi : 1 ≤ i) (h : ¬ (i ≤ j ∧ p d[j]! = true)) : scanDown p d i j = j := by
  cases j with
  | zero => rfl
  | succ j => rw [scanDown, if_neg (by simpa using h)]
theorem scanDown_go {p : Int → Bool} {d : Array Int} {j i : Nat} (hi : 1 ≤ i) (h : i ≤ j) (h2 : p d[j]! = true) : scanDown p d i j = scanDown p d i (j - 1) := by
  obtain ⟨j, rfl⟩ : ∃ q, j = q + 1 := ⟨j - 1, by omega⟩
  rw [scanDown, if_pos (by simp [h, h2])]; rfl

section
variable {S0 S : St} {i n c a : Nat} {t : Bool} {pre post : List V} {d : Array Int} (hA : ArrAt intsE S0 i pre post S d) (hz : d.size = n) {lt : Int → Int → Bool} (hcmp : LessIs P N lt) (hn : n < big) (ha : a < n)
include hA hz hcmp hn ha

theorem scanLt {b p : Nat} (hb : b < n) (hp : p ≤ n) {k1 : Int → St → Prop} (hk : p ≤ scanUp (fun x => lt x d[a]!) d b p → scanUp (fun x => lt x d[a]!) d b p ≤ n → k1 (scanUp (fun x => lt x d[a]!) d b p : Nat) S) :
    Loop1 (fun (k2 : Int → St → Prop) (x : Int) (S4 : St) => ifC (decide (x ≤ (b : Int)))
      (ifS (idxAddrV 1 (rowI i pre.length n c t) (.int .i64 x)) fun p => ∃ x1 : Int, loadV S4 p = some (.int .i64 x1) ∧
        ifS (idxAddrV 1 (rowI i pre.length n c t) (.int .i64 a)) fun q => ∃ y1 : Int, loadV S4 q = some (.int .i64 y1) ∧
        CallA P (N Fn.cmp_Less_int) [.int .i64 x1, .int .i64 y1] S4 (retT [.one .bool] fun (r : Bool) (S5 : St) =>
          ifC (r) (setI (IntKind.i64.wrap (x + (1 : Int))) fun y => k2 y S5) (k1 x S5)))
      (k1 x S4)) (p : Int) S := by
  unfold big at hn
  refine Loop1.ind (fun m x S' => ∃ q : Nat, x = q ∧ m = b + 1 - q ∧ p ≤ q ∧ q ≤ n ∧ S' = S ∧ scanUp (fun x => lt x d[a]!) d b q = scanUp (fun x => lt x d[a]!) d b p) (b + 1 - p) ⟨p, rfl, rfl, Nat.le_refl _, hp, rfl, rfl⟩ ?_
  rintro m _ _ ⟨q, rfl, rfl, hpq, hqn, rfl, hR⟩
  refine ifC_dec (fun h1 => hA.cmpI hz hcmp (by omega) ha fun r hr => ?_) (fun h1 => ?_)
  · rw [hr]
    refine ifC_tt_ff (fun h2 => setI_mk (i64_add1 (by omega)) ⟨b + 1 - (q + 1), by omega, q + 1, rfl, rfl, by omega, by omega, rfl, ?_⟩) (fun h2 => ?_)
    · rw [← hR, scanUp_go (p := fun x => lt x d[a]!) (i := q) (by omega) h2]
    · rw [scanUp_stop (by rw [h2]; simp)] at hR
      rw [← hR] at hk; exact hk hpq hqn
  · rw [scanUp_stop (fun h => h1 (by have := h.1; omega))] at hR
    rw [← hR] at hk; exact hk hpq hqn

theorem scanGe {e p : Nat} (he : 1 ≤ e) (hp : p < n) {k1 : Int → St → Prop} (hk : scanDown (fun x => !lt x d[a]!) d e p ≤ p → k1 (scanDown (fun x => !lt x d[a]!) d e p : Nat) S) :
    Loop1 (fun (k2 : Int → St → Prop) (x : Int) (S4 : St) => ifC (decide ((e : Int) ≤ x))
      (ifS (idxAddrV 1 (rowI i pre.length n c t) (.int .i64 x)) fun p => ∃ x1 : Int, loadV S4 p = some (.int .i64 x1) ∧
        ifS (idxAddrV 1 (rowI i pre.length n c t) (.int .i64 a)) fun q => ∃ y1 : Int, loadV S4 q = some (.int .i64 y1) ∧
        CallA P (N Fn.cmp_Less_int) [.int .i64 x1, .int .i64 y1] S4 (retT [.one .bool] fun (r : Bool) (S5 : St) =>
          ifC (!(r)) (setI (IntKind.i64.wrap (x - (1 : Int))) fun y => k2 y S5) (k1 x S5)))
      (k1 x S4)) (p : Int) S := by
  unfold big at hn
  refine Loop1.ind (fun m x S' => ∃ q : Nat, x = q ∧ q = m ∧ q ≤ p ∧ S' = S ∧ scanDown (fun x => !lt x d[a]!) d e q = scanDown (fun x => !lt x d[a]!) d e p) p ⟨p, rfl, rfl, Nat.le_refl _, rfl, rfl⟩ ?_
  rintro m _ _ ⟨q, rfl, rfl, hpq, rfl, hR⟩
  refine ifC_dec (fun h1 => hA.cmpI hz hcmp (by omega) ha fun r hr => ?_) (fun h1 => ?_)
  · rw [hr]
    refine ifC_tt_ff (fun h2 => setI_mk (i64_sub1 (by omega) (by omega)) ⟨q - 1, by omega, q - 1, rfl, rfl, by omega, rfl, ?_⟩) (fun h2 => ?_)
    · rw [← hR, scanDown_go (p := fun x => !lt x d[a]!) (j := q) he (by omega) h2]
    · rw [scanDown_stop he (by rw [h2]; simp)] at hR
      rw [← hR] at hk; exact hk hpq
  · rw [scanDown_stop he (fun h => h1 (by have := h.1; omega))] at hR
    rw [← hR] at hk; exact hk hpq
end

theorem partLoop_eq {lt : Int → Int → Bool} {a i j : Nat} {d : Array Int} : partLoop lt a i j d =
    (if scanUp (fun x => lt x d[a]!) d j i > scanDown (fun x => !lt x d[a]!) d (scanUp (fun x => lt x d[a]!) d j i) j then (scanDown (fun x => !lt x d[a]!) d (scanUp (fun x => lt x d[a]!) d j i) j, d) else
      if (scanDown (fun x => !lt x d[a]!) d (scanUp (fun x => lt x d[a]!) d j i) j - 1) + 1 - (scanUp (fun x => lt x d[a]!) d j i + 1) < j + 1 - i then
        partLoop lt a (scanUp (fun x => lt x d[a]!) d j i + 1) (scanDown (fun x => !lt x d[a]!) d (scanUp (fun x => lt x d[a]!) d j i) j - 1) (swp d (scanUp (fun x => lt x d[a]!) d j i) (scanDown (fun x => !lt x d[a]!) d (scanUp (fun x => lt x d[a]!) d j i) j))
      else (scanDown (fun x => !lt x d[a]!) d (scanUp (fun x => lt x d[a]!) d j i) j, d)) := by
  rw [partLoop]
  simp only [dite_eq_ite]

section
variable {S0 S : St} {i n c a : Nat} {t : Bool} {pre post : List V} {d : Array Int} (hA : ArrAt intsE S0 i pre post S d) (hz : d.size = n) {lt : Int → Int → Bool} (hcmp : LessIs P N lt) (hn : n < big) (ha : a < n)
include hA hz hcmp hn ha

theorem scanNl {b p : Nat} (hb : b < n) (hp : p ≤ n) {k1 : Int → St → Prop} (hk : p ≤ scanUp (fun x => !lt d[a]! x) d b p → scanUp (fun x => !lt d[a]! x) d b p ≤ n → k1 (scanUp (fun x => !lt d[a]! x) d b p : Nat) S) :
    Loop1 (fun (k2 : Int → St → Prop) (x : Int) (S4 : St) => ifC (decide (x ≤ (b : Int)))
      (ifS (idxAddrV 1 (rowI i pre.length n c t) (.int .i64 a)) fun p => ∃ x1 : Int, loadV S4 p = some (.int .i64 x1) ∧
        ifS (idxAddrV 1 (rowI i pre.length n c t) (.int .i64 x)) fun q => ∃ y1 : Int, loadV S4 q = some (.int .i64 y1) ∧
        CallA P (N Fn.cmp_Less_int) [.int .i64 x1, .int .i64 y1] S4 (retT [.one .bool] fun (r : Bool) (S5 : St) =>
          ifC (!(r)) (setI (IntKind.i64.wrap (x + (1 : Int))) fun y => k2 y S5) (k1 x S5)))
      (k1 x S4)) (p : Int) S := by
  unfold big at hn
  refine Loop1.ind (fun m x S' => ∃ q : Nat, x = q ∧ m = b + 1 - q ∧ p ≤ q ∧ q ≤ n ∧ S' = S ∧ scanUp (fun x => !lt d[a]! x) d b q = scanUp (fun x => !lt d[a]! x) d b p) (b + 1 - p) ⟨p, rfl, rfl, Nat.le_refl _, hp, rfl, rfl⟩ ?_
  rintro m _ _ ⟨q, rfl, rfl, hpq, hqn, rfl, hR⟩
  refine ifC_dec (fun h1 => hA.cmpI hz hcmp ha (by omega) fun r hr => ?_) (fun h1 => ?_)
  · rw [hr]
    refine ifC_tt_ff (fun h2 => setI_mk (i64_add1 (by omega)) ⟨b + 1 - (q + 1), by omega, q + 1, rfl, rfl, by omega, by omega, rfl, ?_⟩) (fun h2 => ?_)
    · rw [← hR, scanUp_go (p := fun x => !lt d[a]! x) (i := q) (by omega) h2]
    · rw [scanUp_stop (by rw [h2]; simp)] at hR
      rw [← hR] at hk; exact hk hpq hqn
  · rw [scanUp_stop (fun h => h1 (by have := h.1; omega))] at hR
    rw [← hR] at hk; exact hk hpq hqn

theorem scanGt {e p : Nat} (he : 1 ≤ e) (hp : p < n) {k1 : Int → St → Prop} (hk : scanDown (fun x => lt d[a]! x) d e p ≤ p → k1 (scanDown (fun x => lt d[a]! x) d e p : Nat) S) :
    Loop1 (fun (k2 : Int → St → Prop) (x : Int) (S4 : St) => ifC (decide ((e : Int) ≤ x))
      (ifS (idxAddrV 1 (rowI i pre.length n c t) (.int .i64 a)) fun p => ∃ x1 : Int, loadV S4 p = some (.int .i64 x1) ∧
        ifS (idxAddrV 1 (rowI i pre.length n c t) (.int .i64 x)) fun q => ∃ y1 : Int, loadV S4 q = some (.int .i64 y1) ∧
        CallA P (N Fn.cmp_Less_int) [.int .i64 x1, .int .i64 y1] S4 (retT [.one .bool] fun (r : Bool) (S5 : St) =>
          ifC (r) (setI (IntKind.i64.wrap (x - (1 : Int))) fun y => k2 y S5) (k1 x S5)))
      (k1 x S4)) (p : Int) S := by
  unfold big at hn
  refine Loop1.ind (fun m x S' => ∃ q : Nat, x = q ∧ q = m ∧ q ≤ p ∧ S' = S ∧ scanDown (fun x => lt d[a]! x) d e q = scanDown (fun x => lt d[a]! x) d e p) p ⟨p, rfl, rfl, Nat.le_refl _, rfl, rfl⟩ ?_
  rintro m _ _ ⟨q, rfl, rfl, hpq, rfl, hR⟩
  refine ifC_dec (fun h1 => hA.cmpI hz hcmp ha (by omega) fun r hr => ?_) (fun h1 => ?_)
  · rw [hr]
    refine ifC_tt_ff (fun h2 => setI_mk (i64_sub1 (by omega) (by omega)) ⟨q - 1, by omega, q - 1, rfl, rfl, by omega, rfl, ?_⟩) (fun h2 => ?_)
    · rw [← hR, scanDown_go (p := fun x => lt d[a]! x) (j := q) he (by omega) h2]
    · rw [scanDown_stop he (by rw [h2]; simp)] at hR
      rw [← hR] at hk; exact hk hpq
  · rw [scanDown_stop he (fun h => h1 (by have := h.1; omega))] at hR
    rw [← hR] at hk; exact hk hpq
end

theorem partEqLoop_eq {lt : Int → Int → Bool} {a i j : Nat} {d : Array Int} : partEqLoop lt a i j d =
    (if scanUp (fun x => !lt d[a]! x) d j i > scanDown (fun x => lt d[a]! x) d (scanUp (fun x => !lt d[a]! x) d j i) j then (scanUp (fun x => !lt d[a]! x) d j i, d) else
      if (scanDown (fun x => lt d[a]! x) d (scanUp (fun x => !lt d[a]! x) d j i) j - 1) + 1 - (scanUp (fun x => !lt d[a]! x) d j i + 1) < j + 1 - i then
        partEqLoop lt a (scanUp (fun x => !lt d[a]! x) d j i + 1) (scanDown (fun x => lt d[a]! x) d (scanUp (fun x => !lt d[a]! x) d j i) j - 1) (swp d (scanUp (fun x => !lt d[a]! x) d j i) (scanDown (fun x => lt d[a]! x) d (scanUp (fun x => !lt d[a]! x) d j i) j))
      else (scanUp (fun x => !lt d[a]! x) d j i, d)) := by
  rw [partEqLoop]
  simp only [dite_eq_ite]

section
variable {S0 S : St} {i n c : Nat} {t : Bool} {pre post : List V} {d : Array Int} (hA : ArrAt intsE S0 i pre post S d) (hz : d.size = n) (hn : n < big)
include hA hz hn

end

theorem scanSorted_go {lt : Int → Int → Bool} {d : Array Int} {b i : Nat} (h : i < b) (h2 : lt d[i]! d[i - 1]! = false) : scanSorted lt d b i = scanSorted lt d b (i + 1) := by
  rw [scanSorted, if_pos (by simp [h, h2])]
theorem scanSorted_stop {lt : Int → Int → Bool} {d : Array Int} {b i : Nat} (h : ¬ (i < b ∧ lt d[i]! d[i - 1]! = false)) : scanSorted lt d b i = i := by
  rw [scanSorted, if_neg (by simpa using h)]

def hintI : Hint → Int
  | .unknown => 0
  | .increasing => 1
  | .decreasing => 2

def pivR (lt : Int → Int → Bool) (d : Array Int) (a b : Nat) : Nat × Nat :=
  if b - a ≥ 8 then
    if b - a ≥ 50 then
      Sort.median lt d (medianAdjacent lt d (a + (b - a) / 4 * 1) 0).1 (medianAdjacent lt d (a + (b - a) / 4 * 2) (medianAdjacent lt d (a + (b - a) / 4 * 1) 0).2).1
        (medianAdjacent lt d (a + (b - a) / 4 * 3) (medianAdjacent lt d (a + (b - a) / 4 * 2) (medianAdjacent lt d (a + (b - a) / 4 * 1) 0).2).2).1
        (medianAdjacent lt d (a + (b - a) / 4 * 3) (medianAdjacent lt d (a + (b - a) / 4 * 2) (medianAdjacent lt d (a + (b - a) / 4 * 1) 0).2).2).2
    else Sort.median lt d (a + (b - a) / 4 * 1) (a + (b - a) / 4 * 2) (a + (b - a) / 4 * 3) 0
  else (a + (b - a) / 4 * 2, 0)
theorem choosePivot_eq (lt : Int → Int → Bool) (d : Array Int) (a b : Nat) : choosePivot lt d a b = ((pivR lt d a b).1, if (pivR lt d a b).2 = 0 then .increasing else if (pivR lt d a b).2 = 12 then .decreasing else .unknown) := rfl

theorem medAdj_bd {lt : Int → Int → Bool} {d : Array Int} {a s n : Nat} (h1 : 1 ≤ a) (h2 : a + 1 < n) : (medianAdjacent lt d a s).1 < n ∧ (medianAdjacent lt d a s).2 ≤ s + 3 := median_bd (by omega) (by omega) h2

end Go.Th.L.I
end

section
/- slices.Sort at numbers: pdqsort. -/
set_option linter.unusedSimpArgs false
set_option linter.unusedVariables false
set_option linter.unusedSectionVars false
namespace Go.Th.L.I
open Go Go.Th Go.Th.L Go.Th.Pure Go.Sort
variable {P : Program} {N : Nat → Nat}

end Go.Th.L.I
end
