/- What the row of one statement stands on: a store, abstract code, functions of the program and their laws (ThHvec4, ThHvec5, ThHvec6, ThHvec7, ThHlaw03c). -/
import Derived.Test.YtdjocmcbibedhaaGreatThBHints
import Derived.Test.YtdjocmcbibedhaaGreatThBHlaw03b

section
/- vec, the document: ids of rows; the least box, the ball. -/
set_option linter.unusedSimpArgs false
set_option linter.unusedVariables false
namespace Go.Th.L
open Go Go.Th Go.Th.Pure
variable {P : Program} {N : Nat → Nat}

end Go.Th.L
end

section
/- vec: the least box, the ball. -/
set_option linter.unusedSimpArgs false
set_option linter.unusedVariables false
namespace Go.Th.L
open Go Go.Th Go.Th.Pure
variable {P : Program} {N : Nat → Nat}

theorem BuiltI.set {S0 S : St} {v : V} {l : List Int} (h : BuiltI S0 S v l) {j : Nat} (hj : j < l.length) (x : Int) {K : St → Prop} (hK : ∀ S', BuiltI S0 S' v (l.set j x) → Upd v.block S S' → K S') : ifS (storeV S 1 (eltV 1 v j 0) (.int .i64 x)) K := by
  refine Built.set h (by rw [intE_len]; exact hj) (by omega) (x := .int .i64 x) rfl rfl fun S' b u => hK S' ?_ u
  have : (intE l).set j (V.int .i64 x).cells = intE (l.set j x) := by simp [intE, List.map_set, V.cells]
  rw [this] at b; exact b
structure ColAt (f : List Row → Nat → Int → Int) (rs : List Row) (d q i : Nat) (L : List Int) : Prop where
  len : L.length = d
  val : ∀ j, j < d → L.getD j 0 = f (rs.take (if j < i then q + 1 else q)) j (firstC rs j)
theorem ColAt.done {f : List Row → Nat → Int → Int} {rs : List Row} {d q : Nat} {L : List Int} (h : ColAt f rs d q d L) : ColAt f rs d (q + 1) 0 L :=
  ⟨h.len, fun j hj => by have := h.val j hj; rw [if_pos hj] at this; rw [if_neg (by omega)]; exact this⟩
theorem ColAt.step {f : List Row → Nat → Int → Int} {rs : List Row} {d q i : Nat} {L : List Int} (h : ColAt f rs d q i L) (hi : i < d) {x : Int} (hx : x = f (rs.take (q + 1)) i (firstC rs i)) : ColAt f rs d q (i + 1) (L.set i x) :=
  ⟨by rw [List.length_set]; exact h.len, fun j hj => by
    have hl := h.len
    by_cases e : j = i
    · subst e; rw [if_pos (by omega), ← hx]; simp [hl, hj]
    · have := h.val j hj
      have e1 : (L.set i x).getD j 0 = L.getD j 0 := by
        simp only [List.getD_eq_getElem?_getD, List.getElem?_set]
        rw [if_neg (fun e' => e e'.symm)]
      rw [e1, this]
      by_cases e2 : j < i
      · rw [if_pos e2, if_pos (by omega)]
      · rw [if_neg e2, if_neg (by omega)]⟩
theorem ColAt.lo {rs : List Row} {d : Nat} {L : List Int} (h : ColAt colMin rs d rs.length 0 L) : L = boxLo rs d := by
  apply List.ext_getElem
  · rw [h.len, boxLo_len]
  · intro j h1 h2
    have := h.val j (by have := h.len; omega)
    rw [if_neg (by omega), List.take_length] at this
    have e1 : L.getD j 0 = L[j] := by simp [h1]
    have e2 : (boxLo rs d).getD j 0 = (boxLo rs d)[j] := by simp [h2]
    rw [← e1, ← e2, this, boxLo_get (by have := h.len; omega)]
theorem ColAt.hi {rs : List Row} {d : Nat} {L : List Int} (h : ColAt colMax rs d rs.length 0 L) : L = boxHi rs d := by
  apply List.ext_getElem
  · rw [h.len, boxHi_len]
  · intro j h1 h2
    have := h.val j (by have := h.len; omega)
    rw [if_neg (by omega), List.take_length] at this
    have e1 : L.getD j 0 = L[j] := by simp [h1]
    have e2 : (boxHi rs d).getD j 0 = (boxHi rs d)[j] := by simp [h2]
    rw [← e1, ← e2, this, boxHi_get (by have := h.len; omega)]

end Go.Th.L
end

section
/- vec, the reference: ids of rows, numbers compared, the least box, the ball. -/
set_option linter.unusedSimpArgs false
set_option linter.unusedVariables false
namespace Go.Th.L
open Go Go.Th Go.Th.Pure
variable {P : Program} {N : Nat → Nat}

theorem BuiltI.rebase {S0 S1 S : St} {v : V} {l : List Int} (h : BuiltI S1 S v l) (g : Grow S0 S1) : BuiltI S0 S v l := ⟨g.trans h.grow, h.acc.below g.le, h.each⟩

def ref03_With.Spec (P : Program) (N : Nat → Nat) : Prop := ∀ (u : V) (l : List Int) (n : Int) (S : St) (K : V → St → Prop), S.Wf → IntsAt S u l → l.length < 900000 → (∀ v S', BuiltI S S' v (insI n l) → K v S') → CallA P (N Fn.ref03_With) [u, .int .i64 n] S (retT [.one .any] K)
theorem ref03_With.spec (hF : ref03_With.Ok P N) : ref03_With.Spec P N := by
  intro u l n S K hw hu hl hk
  refine ref03_With.run hF (Join1.mid (fun x S' => S' = S ∧ ∃ p : Nat, x = p ∧ p ≤ l.length ∧ (∀ j (h : j < l.length), j < p → l[j] < n) ∧ ∀ h : p < l.length, ¬ l[p] < n) ?_ ?_)
  · refine Loop1.ind (fun m x S' => S' = S ∧ ∃ p : Nat, x = p ∧ p + m = l.length ∧ ∀ j (h : j < l.length), j < p → l[j] < n) l.length ⟨rfl, 0, rfl, by omega, fun j _ h => by omega⟩ ?_
    rintro m _ S' ⟨rfl, p, rfl, hp, h1⟩
    refine ⟨_, hu.len, ifC_dec (fun h2 => ?_) (fun h2 => ⟨rfl, p, rfl, by omega, h1, fun h => by omega⟩)⟩
    have hpl : p < l.length := by omega
    refine ifS_mk (IntsAt.idx hu hpl) ⟨_, IntsAt.get hu hpl, ifC_dec (fun h3 => setI_mk (wrap_succ (by omega)) ⟨m - 1, by omega, rfl, p + 1, rfl, by omega, fun j hj hjp => ?_⟩) (fun h3 => ⟨rfl, p, rfl, by omega, h1, fun _ => h3⟩)⟩
    by_cases e : j = p
    · subst e; exact h3
    · exact h1 j hj (by omega)
  · rintro _ S1 ⟨rfl, p, rfl, hp, h1, h2⟩
    obtain ⟨va, ea, ha, hab⟩ := IntsAt.sub hu (lo := none) (hi := some (.int .i64 (p : Int))) (a := 0) (b := p) (fun cap hc => bnds_h (by omega)) (Nat.zero_le _) hp
    obtain ⟨vb, eb, hb, hbb⟩ := IntsAt.sub hu (lo := some (.int .i64 (p : Int))) (hi := none) (a := p) (b := l.length) (fun cap hc => bnds_l hp) hp (Nat.le_refl _)
    rw [List.drop_zero, Nat.sub_zero] at ha
    rw [List.take_of_length_le (by rw [List.length_drop]; omega)] at hb
    have hla : (l.take p).length = p := by rw [List.length_take]; omega
    refine ifS_mk ea (ints_app (BuiltI.nil (Upd.refl hw _)) ha (by simp; omega) fun v1 S3 b1 _ _ => ?_)
    refine BuiltI.push b1 n (by simp; omega) fun v2 S5 b2 _ _ => ifS_mk eb (ints_app b2 (hb.grow b2.grow) (by simp; omega) fun v3 S6 b3 _ _ => hk _ _ ?_)
    rw [List.nil_append, insI_split n l hp h1 h2] at b3
    exact b3

def ref03_Ids.Spec (P : Program) (N : Nat → Nat) : Prop := ∀ (v : V) (rs : List Row) (S : St) (K : V → St → Prop), S.Wf → RowsAt S v rs → rs.length ≤ 512 → (∀ x S', BuiltI S S' x (idsR rs) → K x S') → CallA P (N Fn.ref03_Ids) [v] S (retT [.one .any] K)
theorem ref03_Ids.spec (hF : ref03_Ids.Ok P N) (hW : ref03_With.Spec P N) : ref03_Ids.Spec P N := by
  rintro v rs S K hw ⟨ws, hv⟩ hl hk
  refine ref03_Ids.run hF (Loop2.ind (fun m y x S' => ∃ j : Nat, x = j ∧ j + m = rs.length ∧ BuiltI S S' y (sortI ((rs.take j).map (·.1)))) rs.length ⟨0, rfl, by omega, BuiltI.nil (Upd.refl hw _)⟩ ?_)
  rintro m y _ S1 ⟨j, rfl, hj, b⟩
  have hv1 := hv.grow b.grow
  refine ⟨_, hv1.length, ifC_dec (fun h => ?_) (fun h => ?_)⟩
  · have hjl : j < rs.length := by omega
    refine ifS_mk (hv1.idx hjl) (ifS_mk (hv1.fld hjl 0) ⟨_, hv1.id hjl, hW _ _ _ _ _ b.grow.wf (BuiltI.at_ b) (by rw [sortI_length]; simp; omega) fun y' S2 b2 => setI_mk (wrap_succ (by omega)) ⟨m - 1, by omega, j + 1, rfl, by omega, ?_⟩⟩)
    rw [List.take_add_one, List.getElem?_eq_getElem hjl, Option.toList_some, List.map_append, List.map_cons, List.map_nil, sortI_snoc]
    exact BuiltI.rebase b2 b.grow
  · rw [List.take_of_length_le (by omega)] at b
    exact hk _ _ b

def ref03_Ints.Spec (P : Program) (N : Nat → Nat) : Prop := ∀ (x y : V) (a b : List Int) (S : St) (K : Bool → St → Prop), IntsAt S x a → IntsAt S y b → K (decide (a = b)) S → CallA P (N Fn.ref03_Ints) [x, y] S (retT [.one .bool] K)
theorem ref03_Ints.spec (hF : ref03_Ints.Ok P N) : ref03_Ints.Spec P N := by
  intro x y a b S K hx hy h
  have hle := hx.le
  refine ref03_Ints.run hF ⟨_, hx.len, _, hy.len, ifC_ndec (fun hne => ?_) (fun heq => ?_)⟩
  · have e : a ≠ b := fun e => hne (by rw [e])
    rwa [decide_eq_false e] at h
  · refine Loop1.ind (fun n x S' => S' = S ∧ ∃ j : Nat, x = j ∧ j + n = a.length ∧ a.take j = b.take j) a.length ⟨rfl, 0, rfl, by omega, by simp⟩ ?_
    rintro n _ _ ⟨rfl, j, rfl, hj, hab⟩
    refine ⟨_, hx.len, ifC_dec (fun hlt => ?_) (fun hge => ?_)⟩
    · have hja : j < a.length := by omega
      have hjb : j < b.length := by omega
      refine ifS_mk (hx.idx hja) ⟨_, IntsAt.get hx hja, ifS_mk (hy.idx hjb) ⟨_, IntsAt.get hy hjb, ifC_ndec (fun hne => ?_) (fun heq => ?_)⟩⟩
      · rwa [decide_eq_false (ne_of_get hja hjb hne)] at h
      · exact setI_mk (wrap_succ (by omega)) ⟨n - 1, by omega, rfl, j + 1, rfl, by omega, take_succ_eq hab hja hjb heq⟩
    · have : a = b := by
        rw [List.take_of_length_le (by omega), List.take_of_length_le (by omega)] at hab
        exact hab
      rwa [decide_eq_true this] at h

deriving instance DecidableEq for Reg
end Go.Th.L
end

section
/- vec, the reference: the ball. -/
set_option linter.unusedSimpArgs false
set_option linter.unusedVariables false
namespace Go.Th.L
open Go Go.Th Go.Th.Pure
variable {P : Program} {N : Nat → Nat}

end Go.Th.L
end

section
/- The laws of layer 3: awake. -/
set_option linter.unusedSimpArgs false
set_option linter.unusedVariables false
namespace Go.Th.L
open Go Go.Th Go.Th.Pure
variable {P : Program} {N : Nat → Nat}

theorem lit_ints {S : St} {i : Nat} (l : List Int) (h : S.get i = some (.cells (intsV .i64 l) true)) (hl : l.length ≤ 4611686018427387904) : IntsAt S (.slice i 0 l.length l.length 1 true) l :=
  ⟨hl, by simp [intsV_length], .inr ⟨i, 0, l.length, true, rfl, Nat.le_refl _, by rw [St.loads_of h (by simp [intsV_length]), List.drop_zero, List.take_of_length_le (by simp [intsV_length])]⟩⟩

end Go.Th.L
end
