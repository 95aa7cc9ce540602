/- What the row of one statement stands on: a store, abstract code, functions of the program and their laws (ThHints). -/
import Derived.Test.YtmaocfcjbabelaaThBPbox
import Derived.Test.YtmaocfcjbabelaaThBHsortI4
import Derived.Test.YtmaocfcjbabelaaThBHcmp

section
/- Numbers: cloned, sorted, appended to, parts. -/
set_option linter.unusedSimpArgs false
set_option linter.unusedVariables false
set_option linter.unusedSectionVars false
namespace Go.Th.L
open Go Go.Th Go.Th.Pure Go.Sort
variable {P : Program} {N : Nat → Nat}

theorem eqS_nilI {S : St} {k : Nat} {v : V} {n : Nat} {cs : List V} (h : SlAt S k v n cs) : ∃ b, eqV 2 [] v .nilSlice = some b ∧ (b = true → v = .nilSlice ∧ n = 0) := by
  rcases h.2.2 with ⟨rfl, h0⟩ | ⟨i, o, c, t, rfl, _⟩
  · exact ⟨true, rfl, fun _ => ⟨rfl, h0⟩⟩
  · exact ⟨false, rfl, fun h => by cases h⟩

theorem ints_app {S0 S : St} {v y : V} {l m : List Int} (h : BuiltI S0 S v l) (hy : IntsAt S y m) (hl : l.length + m.length < 1000000) {K : V → St → Prop}
    (hk : ∀ v' S', BuiltI S0 S' v' (l ++ m) → Upd v.block S S' → (∀ i ∈ v'.block, i ∈ v.block ∨ S.next ≤ i) → K v' S') : ifP (appV S 1 8 v y) K := by
  refine Built.app h (ds := intE m) (by rw [intE_flat, intE_len]; exact hy.src) (by simp [intE]) (by rw [intE_flat]; exact intsV_ones _ _) (by simp only [intE_len]; omega) (by simp only [intE_len]; omega) fun v' S' b => hk v' S' ?_
  simpa [BuiltI, intE] using b
theorem BuiltI.nil {S0 S : St} (g : Grow S0 S) : BuiltI S0 S .nilSlice [] := Built.nil g 1

theorem IntsAt.sub {S : St} {v : V} {l : List Int} (h : IntsAt S v l) {lo hi : Option V} {a b : Nat} (hb : ∀ cap, l.length ≤ cap → bnds l.length cap lo hi none = some (a, b, cap)) (h0 : a ≤ b) (h1 : b ≤ l.length) :
    ∃ v', sliceSlV 1 v lo hi none = some v' ∧ IntsAt S v' ((l.drop a).take (b - a)) ∧ (∀ i ∈ v'.block, i ∈ v.block) := by
  obtain ⟨v', e1, e2, e3⟩ := SlAt.sub (c := 0) h hb h0 h1
  refine ⟨v', e1, ?_, e3⟩
  rw [Nat.mul_one, Nat.mul_one, ← intsV_drop, ← intsV_take] at e2
  have hl : ((l.drop a).take (b - a)).length = b - a := by rw [List.length_take, List.length_drop]; omega
  rw [← hl] at e2; rw [hl] at e2
  unfold IntsAt; rw [hl]; exact e2

theorem slices_Clone_Lint.spec (hF : slices_Clone_Lint.Ok P N) {S : St} (hw : S.Wf) {v : V} {l : List Int} (hv : IntsAt S v l) (hl : l.length < 1000000) {K : V → St → Prop} (hk : ∀ v' S', BuiltI S S' v' l → K v' S') :
    CallA P (N Fn.slices_Clone_Lint) [v] S (retT [.one .any] K) := by
  obtain ⟨b, hb, hb2⟩ := eqS_nilI hv
  refine slices_Clone_Lint.run hF ⟨b, hb, ifC_tt_ff (fun h1 => ?_) (fun h1 => ?_)⟩
  · have hl0 := List.length_eq_zero_iff.mp (hb2 h1).2
    subst hl0
    exact hk _ _ (BuiltI.nil (Upd.refl hw _))
  · refine newS_mk hw fun S1 g1 m1 n1 => ?_
    have hB : BuiltI S S1 (.slice S.next 0 0 0 1 true) [] := ⟨g1, ⟨⟨by simp [intE], by simp [intE], .inr ⟨_, 0, 0, true, rfl, Nat.le_refl _, by rw [St.loads_of m1 (by simp [intE])]; simp [intE]⟩⟩, rfl, by simp only [V.block, List.mem_singleton]; rintro i rfl; exact ⟨Nat.le_refl _, _, m1⟩, ⟨_, m1, by simp⟩⟩, by simp [intE]⟩
    exact ints_app hB (hv.grow g1) (by simp; omega) fun v' S' b' _ _ => hk v' S' b'

/-- slices.Sort over numbers that a call has built. -/
structure SortIOk (P : Program) (N : Nat → Nat) : Prop where
  sort : I.slices_Sort_Lint.Spec P N
  sortF : slices_Sort_Lint.Ok P N
  pdqF : slices_pdqsortOrdered_int.Ok P N
  insF : slices_insertionSortOrdered_int.Ok P N
  bits : math_bits_Len.Spec P N
  less : I.LessIs P N (fun a b => decide (a < b))

theorem ltI_swo : SWO (fun a b : Int => decide (a < b)) := ⟨fun x => by simp, fun x y z h h' => by simp at h h' ⊢; omega, fun x y z h h' => by simp at h h' ⊢; omega⟩
theorem intsE_flat (l : List Int) : ((l.map I.icells).flatten) = intsV .i64 l := by
  induction l with
  | nil => rfl
  | cons a l ih => simp only [List.map_cons, List.flatten_cons, ih]; rfl
theorem permIn_allI {d e : Array Int} (h : PermIn 0 d.size d e) : e.toList.Perm d.toList := by
  have h2 := h.2.2
  have e1 : (d.extract 0 d.size) = d := Array.extract_size
  have e2 : (e.extract 0 d.size) = e := by rw [← h.1]; exact Array.extract_size
  rwa [e1, e2] at h2
theorem sortedIn_srtI {d : Array Int} (h : SortedIn (fun a b => decide (a < b)) 0 d.size d) : SrtI d.toList := by
  refine List.pairwise_iff_getElem.mpr fun i j hi hj hij => ?_
  have := h i j (Nat.zero_le _) hij (by simpa using hj)
  have hi' : i < d.size := by simpa using hi
  have hj' : j < d.size := by simpa using hj
  simpa [hi', hj'] using this

/-- What a call has built, as a row that is written in its place. -/
theorem Acc.arrI {S : St} (hw : S.Wf) {B i o n c k' : Nat} {t : Bool} {d : Array Int} (h : Acc S B 1 (.slice i o n c k' t) n (intsV .i64 d.toList)) (hd : d.size = n) :
    k' = 1 ∧ ∃ pre post, o = pre.length ∧ ArrAt I.intsE S i pre post S d ∧ ∀ S' d', ArrAt I.intsE S i pre post S' d' → d'.size = n → Acc S' B 1 (.slice i o n c k' t) n (intsV .i64 d'.toList) := by
  obtain ⟨⟨h1, h2, h3⟩, hone, hown, hroom⟩ := h
  rcases h3 with ⟨h3, _⟩ | ⟨i', o', c', t', he, hc, hld⟩
  · cases h3
  cases he
  obtain ⟨hB, vs, hg⟩ := hown i (by simp [V.block])
  obtain ⟨vs2, hg2, hr⟩ := hroom
  rw [hg] at hg2; cases hg2
  have hlv : o + n * 1 ≤ vs.length := by omega
  have hcs : (vs.drop o).take (n * 1) = intsV .i64 d.toList := by
    rw [St.loads_of hg hlv] at hld; exact Option.some.inj hld
  have ho : o = (vs.take o).length := by rw [List.length_take, Nat.min_eq_left (by omega)]
  have hsplit : vs = vs.take o ++ intsV .i64 d.toList ++ vs.drop (o + n * 1) := by
    rw [← hcs, List.append_assoc, ← List.drop_drop, List.take_append_drop, List.take_append_drop]
  have hfl : ∀ d' : Array Int, d'.size = n → (intsV .i64 d'.toList).length = n * 1 := fun d' hd' => by rw [intsV_length, Array.length_toList, hd', Nat.mul_one]
  refine ⟨rfl, vs.take o, vs.drop (o + n * 1), ho, ⟨Upd.refl hw _, by rw [intsE_flat, ← hsplit]; exact hg⟩, fun S' d' hA hd' => ?_⟩
  have hget := hA.get
  rw [intsE_flat] at hget
  have hlen : (vs.take o ++ intsV .i64 d'.toList ++ vs.drop (o + n * 1)).length = vs.length := by
    simp only [List.length_append, List.length_take, List.length_drop, hfl d' hd']; omega
  refine ⟨⟨h1, hfl d' hd', .inr ⟨i, o, c, t, rfl, hc, ?_⟩⟩, intsV_ones _ _, ?_, ⟨_, hget, by rw [hlen]; exact hr⟩⟩
  · rw [St.loads_of hget (by rw [hlen]; exact hlv)]
    congr 1
    rw [List.append_assoc, List.drop_left' ho.symm, List.take_left' (hfl d' hd')]
  · simp only [V.block, List.mem_singleton]; rintro j rfl; exact ⟨hB, _, hget⟩

theorem ints_sort (h : SortIOk P N) {S0 S : St} {v : V} {l : List Int} (hB : BuiltI S0 S v l) (hl : l.length < 1000000) {K : St → Prop} (hk : ∀ S', BuiltI S0 S' v (sortI l) → Upd v.block S S' → K S') :
    CallA P (N Fn.slices_Sort_Lint) [v] S (retT [] K) := by
  have hat := hB.acc.at_.2.2
  rw [intE_len] at hat
  rcases hat with ⟨rfl, h0⟩ | ⟨i, o, c, t, rfl, hc, hld⟩
  · have hl0 : l = [] := List.length_eq_zero_iff.mp h0
    subst hl0
    refine slices_Sort_Lint.run h.sortF ⟨_, lenV_nil _, setI_mk (by decide) (h.bits 0 S _ (by omega) ?_)⟩
    refine slices_pdqsortOrdered_int.run h.pdqF (Loop5.ind (fun n a b c d e S' => a = 0 ∧ b = 0 ∧ S' = S) 0 ⟨rfl, rfl, rfl⟩ ?_)
    rintro n a b c d e S' ⟨rfl, rfl, rfl⟩
    refine setI_mk (n := 0) (by decide) (ifC_pos (by decide) (slices_insertionSortOrdered_int.run h.insF (setI_mk (n := 1) (by decide) (Loop1.ind (fun n x S'' => x = 1 ∧ S'' = S') 0 ⟨rfl, rfl⟩ ?_))))
    rintro n x S'' ⟨rfl, rfl⟩
    exact ifC_neg (by decide) (hk _ hB (Upd.refl hB.grow.wf _))
  · have hacc := hB.acc
    rw [intE_flat, intE_len] at hacc
    obtain ⟨_, pre, post, rfl, hA, hback⟩ := Acc.arrI (d := l.toArray) hB.grow.wf (by simpa using hacc) (by simp)
    refine h.sort (fun a b => decide (a < b)) .nilSlice S S i _ c t pre post l.toArray _ ltI_swo h.less hA (by simp) (by unfold big; omega) fun S' d' hA' hp hs => hk S' ?_ hA'.upd
    have hz : d'.size = l.length := by rw [hp.1]; simp
    have hsrt : d'.toList = sortI l := by
      have h1 : d'.toList.Perm l := by
        have := permIn_allI (d := l.toArray) (e := d') (by simpa using hp)
        simpa using this
      exact srtI_unique (h1.trans (sortI_perm l).symm) (sortedIn_srtI (by rw [hz]; exact hs)) (sortI_srt l)
    have hacc' := hback S' d' hA' hz
    refine ⟨hB.grow.after hA'.upd (fun j hj => .inl ?_), ?_, by simp [intE]⟩
    · simp only [List.mem_singleton] at hj; subst hj
      exact hB.from j (by simp [V.block])
    · rw [hsrt] at hacc'
      rw [intE_flat, intE_len, sortI_length]
      exact ⟨hacc'.at_, hacc'.ones, fun j hj => ⟨hB.from j hj, (hacc'.own j hj).2⟩, hacc'.room⟩

theorem cmp_Less_int.spec (hF : cmp_Less_int.Ok P N) (hn : cmp_isNaN_int.Spec P N) : I.LessIs P N (fun a b => decide (a < b)) :=
  fun a b S K hk => cmp_Less_int.run hF (hn _ _ _ (ifC_ff rfl (hk _ rfl)))

end Go.Th.L
end
