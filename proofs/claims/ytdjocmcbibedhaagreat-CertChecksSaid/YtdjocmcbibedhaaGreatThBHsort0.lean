/- What the row of one statement stands on: a store, abstract code, functions of the program and their laws (ThHsort0). -/
import Derived.Test.YtdjocmcbibedhaaGreatThBQ10
import Derived.Sort.AssemblyPlain

section
/- Rows of elements of some cells each, that are sorted in their place. -/
set_option linter.unusedSimpArgs false
set_option linter.unusedVariables false
set_option linter.unusedSectionVars false
namespace Go.Th.Pure
end Go.Th.Pure
namespace Go.Th.L
open Go Go.Th Go.Sort

structure Enc (α : Type) where
  k : Nat
  val : α → V
  enc : α → List V
  cells : ∀ x, (val x).cells = enc x
  len : ∀ x, (enc x).length = k
  one : ∀ x, (enc x).all V.one = true

theorem over_app : ∀ (a cs : List V) (n : Nat) (vs : List V), over (a ++ cs) (a.length + n) vs = a ++ over cs n vs
  | [], cs, n, vs => by simp
  | x :: a, cs, n, vs => by
    have : (x :: a).length + n = (a.length + n) + 1 := by simp; omega
    rw [this, List.cons_append, over, over_app a cs n vs]; rfl
theorem over_zero : ∀ (b c vs : List V), vs.length = b.length → over (b ++ c) 0 vs = vs ++ c
  | [], c, [], _ => by cases c <;> simp [over]
  | x :: b, c, v :: vs, h => by
    simp only [List.cons_append, over]
    rw [over_zero b c vs (by simpa using h)]
  | [], c, v :: vs, h => by simp at h
  | x :: b, c, [], h => by simp at h

variable {α : Type} [Inhabited α] {E : Enc α}

theorem Enc.flat_len (l : List α) : ((l.map E.enc).flatten).length = l.length * E.k := by
  have := flatten_len (k := E.k) (es := l.map E.enc) (by intro e he; obtain ⟨x, _, rfl⟩ := List.mem_map.mp he; exact E.len x)
  simpa using this

theorem Enc.split (l : List α) {j : Nat} (hj : j < l.length) (x : α) (pre post : List V) :
    pre ++ ((l.set j x).map E.enc).flatten ++ post = (pre ++ ((l.take j).map E.enc).flatten) ++ (E.enc x ++ (((l.drop (j + 1)).map E.enc).flatten ++ post)) := by
  rw [List.set_eq_take_append_cons_drop, if_pos hj]
  simp [List.append_assoc]

theorem Enc.over (l : List α) {j : Nat} (hj : j < l.length) (x : α) (pre post : List V) :
    Go.Th.over (pre ++ (l.map E.enc).flatten ++ post) (pre.length + j * E.k) (E.enc x) = pre ++ ((l.set j x).map E.enc).flatten ++ post := by
  have h0 := Enc.split (E := E) l hj l[j] pre post
  rw [List.set_getElem_self] at h0
  rw [h0, Enc.split l hj x]
  have hl : (pre ++ ((l.take j).map E.enc).flatten).length = pre.length + j * E.k := by
    rw [List.length_append, Enc.flat_len, List.length_take, Nat.min_eq_left (Nat.le_of_lt hj)]
  have := over_app (pre ++ ((l.take j).map E.enc).flatten) (E.enc l[j] ++ (((l.drop (j + 1)).map E.enc).flatten ++ post)) 0 (E.enc x)
  rw [hl] at this
  simp only [Nat.add_zero] at this
  rw [this, over_zero _ _ _ (by rw [E.len, E.len])]

theorem Enc.drop {pre post : List V} {d : Array α} {j : Nat} (hj : j < d.size) : ((pre ++ (d.toList.map E.enc).flatten ++ post).drop (pre.length + j * E.k)).take E.k = E.enc d[j]! := by
  have hj' : j < d.toList.length := by simpa using hj
  have h0 := Enc.split (E := E) d.toList hj' d.toList[j] pre post
  rw [List.set_getElem_self] at h0
  have hl : (pre ++ ((d.toList.take j).map E.enc).flatten).length = pre.length + j * E.k := by
    rw [List.length_append, Enc.flat_len, List.length_take, Nat.min_eq_left (Nat.le_of_lt hj')]
  rw [h0, List.drop_left' hl, List.take_left' (E.len _)]
  simp [hj]

theorem Enc.le {pre post : List V} {d : Array α} {j : Nat} (hj : j < d.size) : pre.length + j * E.k + E.k ≤ (pre ++ (d.toList.map E.enc).flatten ++ post).length := by
  have hs : d.toList.length = d.size := by simp
  rw [List.length_append, List.length_append, Enc.flat_len, hs]
  have : (j + 1) * E.k ≤ d.size * E.k := Nat.mul_le_mul_right _ hj
  rw [Nat.add_mul] at this; omega

structure ArrAt (E : Enc α) (S0 : St) (i : Nat) (pre post : List V) (S : St) (d : Array α) : Prop where
  upd : Upd [i] S0 S
  get : S.get i = some (.cells (pre ++ (d.toList.map E.enc).flatten ++ post) true)

section
variable {S0 S : St} {i : Nat} {pre post : List V} {d : Array α} (h : ArrAt E S0 i pre post S d)
include h

theorem ArrAt.drop {j : Nat} (hj : j < d.size) : ((pre ++ (d.toList.map E.enc).flatten ++ post).drop (pre.length + j * E.k)).take E.k = E.enc d[j]! := Enc.drop hj
theorem ArrAt.le {j : Nat} (hj : j < d.size) : pre.length + j * E.k + E.k ≤ (pre ++ (d.toList.map E.enc).flatten ++ post).length := Enc.le hj

theorem ArrAt.ldN {j : Nat} (hj : j < d.size) : loadNV S E.k (.ptr i (pre.length + j * E.k)) = some (.agg (E.enc d[j]!)) :=
  Go.Th.ldN h.get (h.le hj) (h.drop hj)

theorem ArrAt.ld1 {j : Nat} (hj : j < d.size) (h1 : E.k = 1) {v : V} (hv : E.enc d[j]! = [v]) : loadV S (.ptr i (pre.length + j * 1)) = some v := by
  refine Go.Th.ld h.get ?_
  have := h.drop hj
  rw [hv, h1] at this
  rw [← List.head?_drop]
  rw [show (1 : Nat) = 0 + 1 from rfl] at this
  cases hd : List.drop (pre.length + j * 1) (pre ++ (d.toList.map E.enc).flatten ++ post) with
  | nil => rw [Nat.zero_add] at this; rw [hd] at this; simp at this
  | cons a l => rw [Nat.zero_add] at this; rw [hd] at this; simp at this; simp [this]

theorem ArrAt.set {j : Nat} (hj : j < d.size) (x : α) {K : St → Prop} (hk : ∀ S', ArrAt E S0 i pre post S' (d.setIfInBounds j x) → K S') : ifS (storeV S E.k (.ptr i (pre.length + j * E.k)) (E.val x)) K := by
  have hj' : j < d.toList.length := by simpa using hj
  refine st_mk h.upd.wf h.get (by rw [E.cells, E.len]) (by rw [E.cells, E.len]; exact h.le hj) (by rw [E.cells]; exact E.one x) fun S' u m n => ?_
  refine hk S' ⟨h.upd.trans u, ?_⟩
  rw [m, E.cells, Enc.over _ hj']
  simp

theorem ArrAt.swap {a b : Nat} (ha : a < d.size) (hb : b < d.size) {K : St → Prop} (hk : ∀ S', ArrAt E S0 i pre post S' (Go.Sort.swp d a b) → K S') :
    ifS (storeV S E.k (.ptr i (pre.length + a * E.k)) (E.val d[b]!)) fun S1 => ifS (storeV S1 E.k (.ptr i (pre.length + b * E.k)) (E.val d[a]!)) K :=
  h.set ha _ fun S1 h1 => h1.set (by simpa using hb) _ fun S2 h2 => hk S2 h2
end

theorem arr_idx {i o n c k : Nat} {t : Bool} {kk : IntKind} {j : Nat} (hj : j < n) : idxAddrV k (.slice i o n c k t) (.int kk (j : Int)) = some (.ptr i (o + j * k)) := by
  simp only [idxAddrV]
  rw [if_pos ⟨trivial, by omega, by omega⟩]
  simp

@[simp] theorem swp_size {α : Type} [Inhabited α] (d : Array α) (i j : Nat) : (swp d i j).size = d.size := by simp [swp]

abbrev big : Nat := 4611686018427387904
theorem i64_add {a b : Nat} (h : a + b < 9223372036854775808) : IntKind.i64.wrap ((a : Int) + (b : Int)) = ((a + b : Nat) : Int) := by rw [IntKind.wrap_i64]; omega
theorem i64_add1 {a : Nat} (h : a + 1 < 9223372036854775808) : IntKind.i64.wrap ((a : Int) + 1) = ((a + 1 : Nat) : Int) := by rw [IntKind.wrap_i64]; omega
theorem i64_sub {a b : Nat} (hb : b ≤ a) (h : a < 9223372036854775808) : IntKind.i64.wrap ((a : Int) - (b : Int)) = ((a - b : Nat) : Int) := by rw [IntKind.wrap_i64]; omega
theorem i64_sub1 {a : Nat} (hb : 1 ≤ a) (h : a < 9223372036854775808) : IntKind.i64.wrap ((a : Int) - 1) = ((a - 1 : Nat) : Int) := by rw [IntKind.wrap_i64]; omega

end Go.Th.L
end
