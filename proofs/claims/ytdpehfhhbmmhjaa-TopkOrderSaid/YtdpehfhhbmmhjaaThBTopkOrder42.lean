/- What the row of one statement stands on: a store, abstract code, functions of the program and their laws (ThHtopk1). -/
import Derived.Test.YtdpehfhhbmmhjaaThBTopkOrder38
import Derived.Test.YtdpehfhhbmmhjaaThBTopkOrder41

section
/- topk, plain: the best of hits as a sorted list; a heap of hits has them. -/
set_option linter.unusedSimpArgs false
set_option linter.unusedVariables false
namespace Go.Th.Pure
open Go Go.Sort Go.Th.L

def Srt (l : List Hit) : Prop := l.Pairwise fun a b => lessH b a = false

def insH (x : Hit) : List Hit → List Hit
  | [] => [x]
  | y :: l => if lessH x y then x :: y :: l else y :: insH x l

theorem insH_perm (x : Hit) : ∀ l, (insH x l).Perm (x :: l)
  | [] => .refl _
  | y :: l => by
    unfold insH
    split
    · exact .refl _
    · exact ((insH_perm x l).cons y).trans (.swap x y l)
theorem insH_length (x : Hit) (l : List Hit) : (insH x l).length = l.length + 1 := by rw [(insH_perm x l).length_eq]; rfl
theorem insH_srt (x : Hit) : ∀ l, Srt l → Srt (insH x l)
  | [], _ => by simp [insH, Srt]
  | y :: l, h => by
    have h' := List.pairwise_cons.mp h
    unfold insH
    split
    · rename_i hx
      refine List.pairwise_cons.mpr ⟨fun a ha => ?_, h⟩
      rcases List.mem_cons.mp ha with rfl | ha
      · exact less_asymm hx
      · cases hc : lessH a x with
        | false => rfl
        | true => have := less_trans hc hx; rw [h'.1 a ha] at this; cases this
    · rename_i hx
      refine List.pairwise_cons.mpr ⟨fun a ha => ?_, insH_srt x l h'.2⟩
      rcases List.mem_cons.mp ((insH_perm x l).mem_iff.mp ha) with rfl | ha
      · simpa using hx
      · exact h'.1 a ha

theorem srt_unique : ∀ {l m : List Hit}, l.Perm m → Srt l → Srt m → l = m
  | [], m, h, _, _ => (List.nil_perm.mp h).symm
  | a :: l, [], h, _, _ => by simp at h
  | a :: l, b :: m, h, h1, h2 => by
    have h1' := List.pairwise_cons.mp h1
    have h2' := List.pairwise_cons.mp h2
    have hab : a = b := by
      rcases List.mem_cons.mp (h.mem_iff.mp (List.mem_cons_self)) with e | ha
      · exact e
      · rcases List.mem_cons.mp (h.mem_iff.mpr (List.mem_cons_self (a := b) (l := m))) with e | hb
        · exact e.symm
        · exact less_total (h2'.1 a ha) (h1'.1 b hb) |> fun e => e
    subst hab
    rw [srt_unique (h.cons_inv) h1'.2 h2'.2]

def sortH (l : List Hit) : List Hit := l.foldl (fun a x => insH x a) []
theorem fold_perm : ∀ (l a : List Hit), (l.foldl (fun a x => insH x a) a).Perm (a ++ l)
  | [], a => by simp
  | x :: l, a => by
    refine (fold_perm l _).trans ?_
    refine (((insH_perm x a)).append_right l).trans ?_
    simpa using (List.perm_middle (a := x) (l₁ := a) (l₂ := l)).symm
theorem fold_srt : ∀ (l a : List Hit), Srt a → Srt (l.foldl (fun a x => insH x a) a)
  | [], a, h => h
  | x :: l, a, h => fold_srt l _ (insH_srt x a h)
theorem sortH_perm (l : List Hit) : (sortH l).Perm l := by simpa [sortH] using fold_perm l []
theorem sortH_srt (l : List Hit) : Srt (sortH l) := fold_srt l [] List.Pairwise.nil
theorem sortH_length (l : List Hit) : (sortH l).length = l.length := (sortH_perm l).length_eq
theorem sortH_of {l : List Hit} (h : Srt l) : sortH l = l := srt_unique (sortH_perm l) (sortH_srt l) h
theorem sortH_congr {l m : List Hit} (h : l.Perm m) : sortH l = sortH m := srt_unique ((sortH_perm l).trans (h.trans (sortH_perm m).symm)) (sortH_srt l) (sortH_srt m)
theorem sortH_snoc (l : List Hit) (x : Hit) : sortH (l ++ [x]) = insH x (sortH l) := by simp [sortH]

theorem insH_take (x : Hit) : ∀ (l : List Hit) (k : Nat), (insH x (l.take k)).take k = (insH x l).take k
  | [], k => by simp
  | y :: l, 0 => by simp
  | y :: l, k + 1 => by
    simp only [List.take_succ_cons, insH]
    split
    · cases k with
      | zero => simp
      | succ k => simp [List.take_take]
    · simp only [List.take_succ_cons, insH_take x l k]

/-- The first k of all. -/
def best (k : Nat) (l : List Hit) : List Hit := (sortH l).take k
theorem best_srt (k : Nat) (l : List Hit) : Srt (best k l) := (sortH_srt l).sublist (List.take_sublist _ _)
theorem best_length (k : Nat) (l : List Hit) : (best k l).length = min k l.length := by rw [best, List.length_take, sortH_length]
theorem best_snoc (k : Nat) (l : List Hit) (x : Hit) : best k (l ++ [x]) = (insH x (best k l)).take k := by
  rw [best, best, insH_take, sortH_snoc]
theorem best_congr {k : Nat} {l m : List Hit} (h : l.Perm m) : best k l = best k m := by rw [best, best, sortH_congr h]

theorem insH_last {x : Hit} : ∀ {w : List Hit}, (∀ y ∈ w, lessH x y = false) → insH x w = w ++ [x]
  | [], _ => rfl
  | y :: w, h => by
    rw [insH, if_neg (by rw [h y (by simp)]; simp), insH_last fun z hz => h z (by simp [hz])]; rfl

/-- What a heap does with one more. -/
def keptH (k : Nat) (w : List Hit) (x : Hit) : Bool := decide (w.length < k) || lessH x (w[k - 1]?.getD default)
theorem keptH_not {k : Nat} {w : List Hit} {x : Hit} (hk : 1 ≤ k) (hw : w.length ≤ k) (hs : Srt w) (h : keptH k w x = false) : (insH x w).take k = w := by
  simp only [keptH, Bool.or_eq_false_iff, decide_eq_false_iff_not] at h
  have hl : w.length = k := by omega
  have hlast : lessH x w[k - 1] = false := by
    have := h.2
    rwa [List.getElem?_eq_getElem (by omega), Option.getD_some] at this
  rw [insH_last, List.take_left' hl]
  intro y hy
  obtain ⟨j, hj, rfl⟩ := List.getElem_of_mem hy
  rcases Nat.lt_or_ge j (k - 1) with h1 | h1
  · have h2 := List.pairwise_iff_getElem.mp hs j (k - 1) hj (by omega) h1
    cases hc : lessH x w[j] with
    | false => rfl
    | true => have := lessH_swo.ntrans _ _ _ hlast h2; rw [this] at hc; cases hc
  · have : j = k - 1 := by omega
    subst this; exact hlast

/-! ## the heap -/
def HeapH (d : Array Hit) : Prop := ∀ i, i < d.size → Ok lessH 0 d.size d i

theorem upH_size : ∀ (j : Nat) (d : Array Hit), (upH j d).size = d.size := by
  intro j
  induction j using Nat.strongRecOn with
  | _ j ih =>
    intro d
    rw [upH]
    split
    · rfl
    · split
      · rw [ih _ (by omega)]; simp [swp]
      · rfl

/-- Every node but one is as it should be towards its children, and that one's parent is not less than its children. -/
theorem upH_heap : ∀ (j : Nat) (d : Array Hit), j < d.size → (∀ i, 0 < i → i < d.size → i ≠ j → lessH d[(i - 1) / 2]! d[i]! = false) →
    (∀ c, c < d.size → 0 < c → (c - 1) / 2 = j → 0 < j → lessH d[(j - 1) / 2]! d[c]! = false) → HeapH (upH j d) ∧ PermIn 0 d.size d (upH j d) := by
  intro j
  induction j using Nat.strongRecOn with
  | _ j ih =>
    intro d hj hall hgap
    have fin : (0 < j → lessH d[(j - 1) / 2]! d[j]! = false) → HeapH d := by
      intro h i hi k hk hks
      rw [Nat.zero_add, Nat.zero_add]
      have hp : (k - 1) / 2 = i := by omega
      by_cases e : k = j
      · subst e; rw [← hp]; exact h (by omega)
      · have := hall k (by omega) hks e
        rwa [hp] at this
    rw [upH]
    split
    · rename_i h0
      exact ⟨fin (by omega), permIn_refl _ _ _⟩
    · rename_i h0
      split
      · rename_i hl
        have hp : (j - 1) / 2 < j := by omega
        have hsz : (swp d ((j - 1) / 2) j).size = d.size := by simp [swp]
        have g := swp_get d (show (j - 1) / 2 < d.size by omega) hj
        have := ih ((j - 1) / 2) hp (swp d ((j - 1) / 2) j) (by omega) ?_ ?_
        · rw [hsz] at this
          exact ⟨this.1, permIn_trans _ _ _ _ _ (swp_permIn d 0 d.size _ _ (by omega) (by omega) (by omega) hj (Nat.le_refl _)) this.2⟩
        · intro i h1 h2 h3
          rw [hsz] at h2
          rw [g, g]
          by_cases e1 : i = j
          · subst e1
            rw [if_pos rfl, if_neg (by omega), if_pos rfl]
            exact less_asymm hl
          · rw [if_neg e1, if_neg h3]
            by_cases e2 : (i - 1) / 2 = j
            · rw [if_pos e2]
              exact hgap i h2 h1 e2 (by omega)
            · rw [if_neg e2]
              by_cases e3 : (i - 1) / 2 = (j - 1) / 2
              · rw [if_pos e3]
                have h4 := hall i h1 h2 e1
                rw [e3] at h4
                cases hc : lessH d[j]! d[i]! with
                | false => rfl
                | true => have := less_trans hl hc; rw [h4] at this; cases this
              · rw [if_neg e3]
                exact hall i h1 h2 e1
        · intro c hc hc0 hcp hp0
          rw [hsz] at hc
          rw [g, g]
          rw [if_neg (by omega), if_neg (by omega)]
          have h4 := hall ((j - 1) / 2) hp0 (by omega) (by omega)
          by_cases e1 : c = j
          · subst e1
            rw [if_pos rfl]
            exact h4
          · rw [if_neg e1, if_neg (by omega)]
            have h5 := hall c hc0 hc e1
            rw [hcp] at h5
            exact lessH_swo.ntrans _ _ _ h4 h5
      · rename_i hl
        exact ⟨fin fun _ => by simpa using hl, permIn_refl _ _ _⟩

theorem permIn_all {d e : Array Hit} (h : PermIn 0 d.size d e) : e.toList.Perm d.toList := by
  have h2 := h.2.2
  have e1 : (d.extract 0 d.size) = d := Array.extract_size
  have e2 : (e.extract 0 d.size) = e := by rw [← h.1]; exact Array.extract_size
  rwa [e1, e2] at h2

/-- A heap of hits that are those of a sorted list. -/
structure HeapOf (d : Array Hit) (w : List Hit) : Prop where
  heap : HeapH d
  perm : d.toList.Perm w
  srt : Srt w
theorem HeapOf.size {d : Array Hit} {w : List Hit} (h : HeapOf d w) : d.size = w.length := by rw [← h.perm.length_eq]; simp

theorem HeapOf.nil : HeapOf #[] [] := ⟨fun i hi => by simp at hi, .refl _, List.Pairwise.nil⟩

theorem getElem!_mem {d : Array Hit} {j : Nat} (h : j < d.size) : d[j]! ∈ d.toList := by
  simp [h]

/-- The first one is the worst. -/
theorem HeapOf.worst {d : Array Hit} {w : List Hit} (h : HeapOf d w) {k : Nat} (hk : 0 < k) (hw : w.length = k) : d[0]! = w[k - 1]?.getD default := by
  have hs := h.size
  rw [List.getElem?_eq_getElem (by omega), Option.getD_some]
  have h1 : w[k - 1] ∈ d.toList := h.perm.mem_iff.mpr (List.getElem_mem _)
  have h2 : d[0]! ∈ w := h.perm.mem_iff.mp (getElem!_mem (by omega))
  obtain ⟨i, hi, hi2⟩ := List.getElem_of_mem h1
  obtain ⟨j, hj, hj2⟩ := List.getElem_of_mem h2
  have hi' : i < d.size := by simpa using hi
  have a1 : lessH d[0]! d[i]! = false := by
    have := root_max (lt := lessH) lessH_swo (F := 0) (hi := d.size) h.heap i i (Nat.le_refl _) hi'
    simpa using this
  have e1 : d[i]! = w[k - 1] := by
    rw [← hi2]; simp [hi']
  rw [e1] at a1
  have a2 : lessH w[k - 1] d[0]! = false := by
    rw [← hj2]
    rcases Nat.lt_or_ge j (k - 1) with h1 | h1
    · exact List.pairwise_iff_getElem.mp h.srt j (k - 1) hj (by omega) h1
    · have : j = k - 1 := by omega
      subst this; exact less_irrefl _
  exact less_total a1 a2

theorem HeapOf.push {d : Array Hit} {w : List Hit} (h : HeapOf d w) (x : Hit) : HeapOf (upH d.size (d.push x)) (insH x w) := by
  have hs : (d.push x).size = d.size + 1 := by simp
  have g : ∀ i, i < d.size → (d.push x)[i]! = d[i]! := fun i hi => by
    simp only [getElem!_def, Array.getElem?_push]
    rw [if_neg (by omega)]
  obtain ⟨h1, h2⟩ := upH_heap d.size (d.push x) (by omega) (fun i h1 h2 h3 => by
    rw [g i (by omega), g _ (by omega)]
    have := h.heap ((i - 1) / 2) (by omega) i (by omega) (by omega)
    simpa using this) (fun c hc hc0 hcp _ => by omega)
  refine ⟨h1, ?_, insH_srt _ _ h.srt⟩
  refine (permIn_all h2).trans ?_
  rw [Array.toList_push]
  refine List.perm_append_comm.trans ?_
  exact (h.perm.cons x).trans (insH_perm x w).symm

theorem HeapOf.fix {d : Array Hit} {w : List Hit} (h : HeapOf d w) {k : Nat} (hk : 0 < k) (hw : w.length = k) {x : Hit} (hx : lessH x d[0]! = true) :
    HeapOf (siftDown lessH d.size 0 0 (d.setIfInBounds 0 x)) ((insH x w).take k) := by
  have hs := h.size
  have hsz : (d.setIfInBounds 0 x).size = d.size := by simp
  have g : ∀ i, 0 < i → (d.setIfInBounds 0 x)[i]! = d[i]! := fun i hi => by
    simp only [getElem!_def, Array.getElem?_setIfInBounds]
    rw [if_neg (by omega)]
  have := sift (lt := lessH) lessH_swo d.size 0 0 d.size 0 (d.setIfInBounds 0 x) (by omega) (by omega) (Nat.le_refl _) (fun i h1 h2 h3 => by
    intro c hc hcs
    have := h.heap i h2 c hc hcs
    rw [Nat.zero_add, Nat.zero_add] at this ⊢
    rwa [g i (by omega), g c (by omega)]) (fun p hp hroot => by omega)
  rw [Nat.zero_add] at this
  have hz : (siftDown lessH d.size 0 0 (d.setIfInBounds 0 x)).size = d.size := by rw [this.2.1, hsz]
  refine ⟨?_, ?_, (insH_srt x w h.srt).sublist (List.take_sublist _ _)⟩
  · intro i hi
    rw [hz] at hi ⊢
    exact this.1 i (Nat.zero_le _) hi
  · have hp := permIn_all (d := d.setIfInBounds 0 x) (e := siftDown lessH d.size 0 0 (d.setIfInBounds 0 x)) (by rw [hsz]; exact this.2)
    refine hp.trans ?_
    have hd0 := h.worst hk hw
    rw [List.getElem?_eq_getElem (by omega), Option.getD_some] at hd0
    have hwl : w = w.dropLast ++ [w[k - 1]] := by
      have h1 : w ≠ [] := by intro e; rw [e] at hw; simp at hw; omega
      conv => lhs; rw [← List.dropLast_concat_getLast h1]
      congr 2
      rw [List.getLast_eq_getElem]; congr 1; omega
    have hins : ∀ (v : List Hit) (y : Hit), lessH x y = true → insH x (v ++ [y]) = insH x v ++ [y] := by
      intro v
      induction v with
      | nil => intro y hy; simp [insH, hy]
      | cons a v ih =>
        intro y hy
        simp only [List.cons_append, insH]
        split
        · rfl
        · rw [ih y hy]; rfl
    have e1 : (insH x w).take k = insH x w.dropLast := by
      rw [hwl, hins _ _ (by rw [← hd0]; exact hx), List.dropLast_concat, List.take_left']
      rw [insH_length, List.length_dropLast]; omega
    rw [e1]
    have e2 : (d.setIfInBounds 0 x).toList = x :: d.toList.drop 1 := by
      rw [Array.toList_setIfInBounds]
      cases hd : d.toList with
      | nil => have : d.size = 0 := by rw [← Array.length_toList, hd]; rfl
               omega
      | cons a l => simp
    rw [e2]
    refine List.Perm.trans ?_ (insH_perm x w.dropLast).symm
    refine List.Perm.cons x ?_
    have e3 : d.toList = d[0]! :: d.toList.drop 1 := by
      cases hd : d.toList with
      | nil => have : d.size = 0 := by rw [← Array.length_toList, hd]; rfl
               omega
      | cons a l =>
        have : d[0]! = a := by
          have h0 : 0 < d.size := by omega
          have : d.toList[0]'(by simpa using h0) = a := by simp [hd]
          simpa [h0] using this
        simp [this]
    have h4 : (d[0]! :: d.toList.drop 1).Perm (w[k - 1] :: w.dropLast) := by
      rw [← e3]
      refine h.perm.trans ?_
      conv => lhs; rw [hwl]
      exact List.perm_append_comm
    rw [hd0] at h4
    exact h4.cons_inv

theorem sortedIn_srt {d : Array Hit} (h : SortedIn lessH 0 d.size d) : Srt d.toList := by
  refine List.pairwise_iff_getElem.mpr fun i j hi hj hij => ?_
  have := h i j (Nat.zero_le _) hij (by simpa using hj)
  have hi' : i < d.size := by simpa using hi
  have hj' : j < d.size := by simpa using hj
  simpa [hi', hj'] using this

end Go.Th.Pure
end
