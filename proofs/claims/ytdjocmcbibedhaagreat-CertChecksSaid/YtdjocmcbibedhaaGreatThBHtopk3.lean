/- What the row of one statement stands on: a store, abstract code, functions of the program and their laws (ThHtopk1, ThHtopk2, ThHtopk3). -/
import Derived.Test.YtdjocmcbibedhaaGreatThBHheap
import Derived.Test.YtdjocmcbibedhaaGreatThBHsortH4

section
/- topk, plain: the best of hits as a sorted list; a heap of hits has them. -/
set_option linter.unusedSimpArgs false
set_option linter.unusedVariables false
namespace Go.Th.Pure
open Go Go.Sort Go.Th.L

def Srt (l : List Hit) : Prop := l.Pairwise fun a b => lessH b a = false

def insH (x : Hit) : List Hit → List Hit
  | [] => [x]
  | y :: l => if lessH x y then x :: y :: l else y :: insH x l

theorem insH_perm (x : Hit) : ∀ l, (insH x l).Perm (x :: l)
  | [] => .refl _
  | y :: l => by
    unfold insH
    split
    · exact .refl _
    · exact ((insH_perm x l).cons y).trans (.swap x y l)
theorem insH_length (x : Hit) (l : List Hit) : (insH x l).length = l.length + 1 := by rw [(insH_perm x l).length_eq]; rfl
theorem insH_srt (x : Hit) : ∀ l, Srt l → Srt (insH x l)
  | [], _ => by simp [insH, Srt]
  | y :: l, h => by
    have h' := List.pairwise_cons.mp h
    unfold insH
    split
    · rename_i hx
      refine List.pairwise_cons.mpr ⟨fun a ha => ?_, h⟩
      rcases List.mem_cons.mp ha with rfl | ha
      · exact less_asymm hx
      · cases hc : lessH a x with
        | false => rfl
        | true => have := less_trans hc hx; rw [h'.1 a ha] at this; cases this
    · rename_i hx
      refine List.pairwise_cons.mpr ⟨fun a ha => ?_, insH_srt x l h'.2⟩
      rcases List.mem_cons.mp ((insH_perm x l).mem_iff.mp ha) with rfl | ha
      · simpa using hx
      · exact h'.1 a ha

theorem srt_unique : ∀ {l m : List Hit}, l.Perm m → Srt l → Srt m → l = m
  | [], m, h, _, _ => (List.nil_perm.mp h).symm
  | a :: l, [], h, _, _ => by simp at h
  | a :: l, b :: m, h, h1, h2 => by
    have h1' := List.pairwise_cons.mp h1
    have h2' := List.pairwise_cons.mp h2
    have hab : a = b := by
      rcases List.mem_cons.mp (h.mem_iff.mp (List.mem_cons_self)) with e | ha
      · exact e
      · rcases List.mem_cons.mp (h.mem_iff.mpr (List.mem_cons_self (a := b) (l := m))) with e | hb
        · exact e.symm
        · exact less_total (h2'.1 a ha) (h1'.1 b hb) |> fun e => e
    subst hab
    rw [srt_unique (h.cons_inv) h1'.2 h2'.2]

def sortH (l : List Hit) : List Hit := l.foldl (fun a x => insH x a) []
theorem fold_perm : ∀ (l a : List Hit), (l.foldl (fun a x => insH x a) a).Perm (a ++ l)
  | [], a => by simp
  | x :: l, a => by
    refine (fold_perm l _).trans ?_
    refine (((insH_perm x a)).append_right l).trans ?_
    simpa using (List.perm_middle (a := x) (l₁ := a) (l₂ := l)).symm
theorem fold_srt : ∀ (l a : List Hit), Srt a → Srt (l.foldl (fun a x => insH x a) a)
  | [], a, h => h
  | x :: l, a, h => fold_srt l _ (insH_srt x a h)
theorem sortH_perm (l : List Hit) : (sortH l).Perm l := by simpa [sortH] using fold_perm l []
theorem sortH_srt (l : List Hit) : Srt (sortH l) := fold_srt l [] List.Pairwise.nil
theorem sortH_length (l : List Hit) : (sortH l).length = l.length := (sortH_perm l).length_eq
theorem sortH_of {l : List Hit} (h : Srt l) : sortH l = l := srt_unique (sortH_perm l) (sortH_srt l) h
theorem sortH_congr {l m : List Hit} (h : l.Perm m) : sortH l = sortH m := srt_unique ((sortH_perm l).trans (h.trans (sortH_perm m).symm)) (sortH_srt l) (sortH_srt m)
theorem sortH_snoc (l : List Hit) (x : Hit) : sortH (l ++ [x]) = insH x (sortH l) := by simp [sortH]

theorem insH_take (x : Hit) : ∀ (l : List Hit) (k : Nat), (insH x (l.take k)).take k = (insH x l).take k
  | [], k => by simp
  | y :: l, 0 => by simp
  | y :: l, k + 1 => by
    simp only [List.take_succ_cons, insH]
    split
    · cases k with
      | zero => simp
      | succ k => simp [List.take_take]
    · simp only [List.take_succ_cons, insH_take x l k]

def best (k : Nat) (l : List Hit) : List Hit := (sortH l).take k
theorem best_length (k : Nat) (l : List Hit) : (best k l).length = min k l.length := by rw [best, List.length_take, sortH_length]
theorem best_snoc (k : Nat) (l : List Hit) (x : Hit) : best k (l ++ [x]) = (insH x (best k l)).take k := by
  rw [best, best, insH_take, sortH_snoc]
theorem insH_last {x : Hit} : ∀ {w : List Hit}, (∀ y ∈ w, lessH x y = false) → insH x w = w ++ [x]
  | [], _ => rfl
  | y :: w, h => by
    rw [insH, if_neg (by rw [h y (by simp)]; simp), insH_last fun z hz => h z (by simp [hz])]; rfl

def keptH (k : Nat) (w : List Hit) (x : Hit) : Bool := decide (w.length < k) || lessH x (w[k - 1]?.getD default)
theorem keptH_not {k : Nat} {w : List Hit} {x : Hit} (hk : 1 ≤ k) (hw : w.length ≤ k) (hs : Srt w) (h : keptH k w x = false) : (insH x w).take k = w := by
  simp only [keptH, Bool.or_eq_false_iff, decide_eq_false_iff_not] at h
  have hl : w.length = k := by omega
  have hlast : lessH x w[k - 1] = false := by
    have := h.2
    rwa [List.getElem?_eq_getElem (by omega), Option.getD_some] at this
  rw [insH_last, List.take_left' hl]
  intro y hy
  obtain ⟨j, hj, rfl⟩ := List.getElem_of_mem hy
  rcases Nat.lt_or_ge j (k - 1) with h1 | h1
  · have h2 := List.pairwise_iff_getElem.mp hs j (k - 1) hj (by omega) h1
    cases hc : lessH x w[j] with
    | false => rfl
    | true => have := lessH_swo.ntrans _ _ _ hlast h2; rw [this] at hc; cases hc
  · have : j = k - 1 := by omega
    subst this; exact hlast

def HeapH (d : Array Hit) : Prop := ∀ i, i < d.size → Ok lessH 0 d.size d i

theorem upH_heap : ∀ (j : Nat) (d : Array Hit), j < d.size → (∀ i, 0 < i → i < d.size → i ≠ j → lessH d[(i - 1) / 2]! d[i]! = false) →
    (∀ c, c < d.size → 0 < c → (c - 1) / 2 = j → 0 < j → lessH d[(j - 1) / 2]! d[c]! = false) → HeapH (upH j d) ∧ PermIn 0 d.size d (upH j d) := by
  intro j
  induction j using Nat.strongRecOn with
  | _ j ih =>
    intro d hj hall hgap
    have fin : (0 < j → lessH d[(j - 1) / 2]! d[j]! = false) → HeapH d := by
      intro h i hi k hk hks
      rw [Nat.zero_add, Nat.zero_add]
      have hp : (k - 1) / 2 = i := by omega
      by_cases e : k = j
      · subst e; rw [← hp]; exact h (by omega)
      · have := hall k (by omega) hks e
        rwa [hp] at this
    rw [upH]
    split
    · rename_i h0
      exact ⟨fin (by omega), permIn_refl _ _ _⟩
    · rename_i h0
      split
      · rename_i hl
        have hp : (j - 1) / 2 < j := by omega
        have hsz : (swp d ((j - 1) / 2) j).size = d.size := by simp [swp]
        have g := swp_get d (show (j - 1) / 2 < d.size by omega) hj
        have := ih ((j - 1) / 2) hp (swp d ((j - 1) / 2) j) (by omega) ?_ ?_
        · rw [hsz] at this
          exact ⟨this.1, permIn_trans _ _ _ _ _ (swp_permIn d 0 d.size _ _ (by omega) (by omega) (by omega) hj (Nat.le_refl _)) this.2⟩
        · intro i h1 h2 h3
          rw [hsz] at h2
          rw [g, g]
          by_cases e1 : i = j
          · subst e1
            rw [if_pos rfl, if_neg (by omega), if_pos rfl]
            exact less_asymm hl
          · rw [if_neg e1, if_neg h3]
            by_cases e2 : (i - 1) / 2 = j
            · rw [if_pos e2]
              exact hgap i h2 h1 e2 (by omega)
            · rw [if_neg e2]
              by_cases e3 : (i - 1) / 2 = (j - 1) / 2
              · rw [if_pos e3]
                have h4 := hall i h1 h2 e1
                rw [e3] at h4
                cases hc : lessH d[j]! d[i]! with
                | false => rfl
                | true => have := less_trans hl hc; rw [h4] at this; cases this
              · rw [if_neg e3]
                exact hall i h1 h2 e1
        · intro c hc hc0 hcp hp0
          rw [hsz] at hc
          rw [g, g]
          rw [if_neg (by omega), if_neg (by omega)]
          have h4 := hall ((j - 1) / 2) hp0 (by omega) (by omega)
          by_cases e1 : c = j
          · subst e1
            rw [if_pos rfl]
            exact h4
          · rw [if_neg e1, if_neg (by omega)]
            have h5 := hall c hc0 hc e1
            rw [hcp] at h5
            exact lessH_swo.ntrans _ _ _ h4 h5
      · rename_i hl
        exact ⟨fin fun _ => by simpa using hl, permIn_refl _ _ _⟩

theorem permIn_all {d e : Array Hit} (h : PermIn 0 d.size d e) : e.toList.Perm d.toList := by
  have h2 := h.2.2
  have e1 : (d.extract 0 d.size) = d := Array.extract_size
  have e2 : (e.extract 0 d.size) = e := by rw [← h.1]; exact Array.extract_size
  rwa [e1, e2] at h2

structure HeapOf (d : Array Hit) (w : List Hit) : Prop where
  heap : HeapH d
  perm : d.toList.Perm w
  srt : Srt w
theorem HeapOf.size {d : Array Hit} {w : List Hit} (h : HeapOf d w) : d.size = w.length := by rw [← h.perm.length_eq]; simp

theorem HeapOf.nil : HeapOf #[] [] := ⟨fun i hi => by simp at hi, .refl _, List.Pairwise.nil⟩

theorem getElem!_mem {d : Array Hit} {j : Nat} (h : j < d.size) : d[j]! ∈ d.toList := by
  simp [h]

theorem HeapOf.worst {d : Array Hit} {w : List Hit} (h : HeapOf d w) {k : Nat} (hk : 0 < k) (hw : w.length = k) : d[0]! = w[k - 1]?.getD default := by
  have hs := h.size
  rw [List.getElem?_eq_getElem (by omega), Option.getD_some]
  have h1 : w[k - 1] ∈ d.toList := h.perm.mem_iff.mpr (List.getElem_mem _)
  have h2 : d[0]! ∈ w := h.perm.mem_iff.mp (getElem!_mem (by omega))
  obtain ⟨i, hi, hi2⟩ := List.getElem_of_mem h1
  obtain ⟨j, hj, hj2⟩ := List.getElem_of_mem h2
  have hi' : i < d.size := by simpa using hi
  have a1 : lessH d[0]! d[i]! = false := by
    have := root_max (lt := lessH) lessH_swo (F := 0) (hi := d.size) h.heap i i (Nat.le_refl _) hi'
    simpa using this
  have e1 : d[i]! = w[k - 1] := by
    rw [← hi2]; simp [hi']
  rw [e1] at a1
  have a2 : lessH w[k - 1] d[0]! = false := by
    rw [← hj2]
    rcases Nat.lt_or_ge j (k - 1) with h1 | h1
    · exact List.pairwise_iff_getElem.mp h.srt j (k - 1) hj (by omega) h1
    · have : j = k - 1 := by omega
      subst this; exact less_irrefl _
  exact less_total a1 a2

theorem HeapOf.push {d : Array Hit} {w : List Hit} (h : HeapOf d w) (x : Hit) : HeapOf (upH d.size (d.push x)) (insH x w) := by
  have hs : (d.push x).size = d.size + 1 := by simp
  have g : ∀ i, i < d.size → (d.push x)[i]! = d[i]! := fun i hi => by
    simp only [getElem!_def, Array.getElem?_push]
    rw [if_neg (by omega)]
  obtain ⟨h1, h2⟩ := upH_heap d.size (d.push x) (by omega) (fun i h1 h2 h3 => by
    rw [g i (by omega), g _ (by omega)]
    have := h.heap ((i - 1) / 2) (by omega) i (by omega) (by omega)
    simpa using this) (fun c hc hc0 hcp _ => by omega)
  refine ⟨h1, ?_, insH_srt _ _ h.srt⟩
  refine (permIn_all h2).trans ?_
  rw [Array.toList_push]
  refine List.perm_append_comm.trans ?_
  exact (h.perm.cons x).trans (insH_perm x w).symm

theorem HeapOf.fix {d : Array Hit} {w : List Hit} (h : HeapOf d w) {k : Nat} (hk : 0 < k) (hw : w.length = k) {x : Hit} (hx : lessH x d[0]! = true) :
    HeapOf (siftDown lessH d.size 0 0 (d.setIfInBounds 0 x)) ((insH x w).take k) := by
  have hs := h.size
  have hsz : (d.setIfInBounds 0 x).size = d.size := by simp
  have g : ∀ i, 0 < i → (d.setIfInBounds 0 x)[i]! = d[i]! := fun i hi => by
    simp only [getElem!_def, Array.getElem?_setIfInBounds]
    rw [if_neg (by omega)]
  have := sift (lt := lessH) lessH_swo d.size 0 0 d.size 0 (d.setIfInBounds 0 x) (by omega) (by omega) (Nat.le_refl _) (fun i h1 h2 h3 => by
    intro c hc hcs
    have := h.heap i h2 c hc hcs
    rw [Nat.zero_add, Nat.zero_add] at this ⊢
    rwa [g i (by omega), g c (by omega)]) (fun p hp hroot => by omega)
  rw [Nat.zero_add] at this
  have hz : (siftDown lessH d.size 0 0 (d.setIfInBounds 0 x)).size = d.size := by rw [this.2.1, hsz]
  refine ⟨?_, ?_, (insH_srt x w h.srt).sublist (List.take_sublist _ _)⟩
  · intro i hi
    rw [hz] at hi ⊢
    exact this.1 i (Nat.zero_le _) hi
  · have hp := permIn_all (d := d.setIfInBounds 0 x) (e := siftDown lessH d.size 0 0 (d.setIfInBounds 0 x)) (by rw [hsz]; exact this.2)
    refine hp.trans ?_
    have hd0 := h.worst hk hw
    rw [List.getElem?_eq_getElem (by omega), Option.getD_some] at hd0
    have hwl : w = w.dropLast ++ [w[k - 1]] := by
      have h1 : w ≠ [] := by intro e; rw [e] at hw; simp at hw; omega
      conv => lhs; rw [← List.dropLast_concat_getLast h1]
      congr 2
      rw [List.getLast_eq_getElem]; congr 1; omega
    have hins : ∀ (v : List Hit) (y : Hit), lessH x y = true → insH x (v ++ [y]) = insH x v ++ [y] := by
      intro v
      induction v with
      | nil => intro y hy; simp [insH, hy]
      | cons a v ih =>
        intro y hy
        simp only [List.cons_append, insH]
        split
        · rfl
        · rw [ih y hy]; rfl
    have e1 : (insH x w).take k = insH x w.dropLast := by
      rw [hwl, hins _ _ (by rw [← hd0]; exact hx), List.dropLast_concat, List.take_left']
      rw [insH_length, List.length_dropLast]; omega
    rw [e1]
    have e2 : (d.setIfInBounds 0 x).toList = x :: d.toList.drop 1 := by
      rw [Array.toList_setIfInBounds]
      cases hd : d.toList with
      | nil => have : d.size = 0 := by rw [← Array.length_toList, hd]; rfl
               omega
      | cons a l => simp
    rw [e2]
    refine List.Perm.trans ?_ (insH_perm x w.dropLast).symm
    refine List.Perm.cons x ?_
    have e3 : d.toList = d[0]! :: d.toList.drop 1 := by
      cases hd : d.toList with
      | nil => have : d.size = 0 := by rw [← Array.length_toList, hd]; rfl
               omega
      | cons a l =>
        have : d[0]! = a := by
          have h0 : 0 < d.size := by omega
          have : d.toList[0]'(by simpa using h0) = a := by simp [hd]
          simpa [h0] using this
        simp [this]
    have h4 : (d[0]! :: d.toList.drop 1).Perm (w[k - 1] :: w.dropLast) := by
      rw [← e3]
      refine h.perm.trans ?_
      conv => lhs; rw [hwl]
      exact List.perm_append_comm
    rw [hd0] at h4
    exact h4.cons_inv

theorem sortedIn_srt {d : Array Hit} (h : SortedIn lessH 0 d.size d) : Srt d.toList := by
  refine List.pairwise_iff_getElem.mpr fun i j hi hj hij => ?_
  have := h i j (Nat.zero_le _) hij (by simpa using hj)
  have hi' : i < d.size := by simpa using hi
  have hj' : j < d.size := by simpa using hj
  simpa [hi', hj'] using this

end Go.Th.Pure
end

section
/- topk: a heap in the store; New, Offer, Len, Full, Worst. -/
set_option linter.unusedSimpArgs false
set_option linter.unusedVariables false
set_option linter.unusedSectionVars false
namespace Go.Th.L
open Go Go.Th Go.Th.Pure Go.Sort
variable {P : Program} {N : Nat → Nat}

theorem Acc.arr {α : Type} [Inhabited α] {E : Enc α} {S : St} (hw : S.Wf) {B i o n c k' : Nat} {t : Bool} {d : Array α} (h : Acc S B E.k (.slice i o n c k' t) n ((d.toList.map E.enc).flatten)) (hd : d.size = n) :
    k' = E.k ∧ ∃ pre post, o = pre.length ∧ ArrAt E S i pre post S d ∧ ∀ S' d', ArrAt E S i pre post S' d' → d'.size = n → Acc S' B E.k (.slice i o n c k' t) n ((d'.toList.map E.enc).flatten) := by
  obtain ⟨⟨h1, h2, h3⟩, hone, hown, hroom⟩ := h
  rcases h3 with ⟨h3, _⟩ | ⟨i', o', c', t', he, hc, hld⟩
  · cases h3
  cases he
  obtain ⟨hB, vs, hg⟩ := hown i (by simp [V.block])
  obtain ⟨vs2, hg2, hr⟩ := hroom
  rw [hg] at hg2; cases hg2
  have hnc : n * E.k ≤ c * E.k := Nat.mul_le_mul_right _ hc
  have hlv : o + n * E.k ≤ vs.length := by omega
  have hcs : (vs.drop o).take (n * E.k) = (d.toList.map E.enc).flatten := by
    rw [St.loads_of hg hlv] at hld; exact Option.some.inj hld
  have ho : o = (vs.take o).length := by rw [List.length_take, Nat.min_eq_left (by omega)]
  have hsplit : vs = vs.take o ++ (d.toList.map E.enc).flatten ++ vs.drop (o + n * E.k) := by
    rw [← hcs, List.append_assoc, ← List.drop_drop, List.take_append_drop, List.take_append_drop]
  have hfl : ∀ d' : Array α, d'.size = n → ((d'.toList.map E.enc).flatten).length = n * E.k := fun d' hd' => by
    rw [Enc.flat_len, Array.length_toList, hd']
  refine ⟨rfl, vs.take o, vs.drop (o + n * E.k), ho, ⟨Upd.refl hw _, by rw [← hsplit]; exact hg⟩, fun S' d' hA hd' => ?_⟩
  have hlen : (vs.take o ++ (d'.toList.map E.enc).flatten ++ vs.drop (o + n * E.k)).length = vs.length := by
    simp only [List.length_append, List.length_take, List.length_drop, hfl d' hd']; omega
  refine ⟨⟨h1, hfl d' hd', .inr ⟨i, o, c, t, rfl, hc, ?_⟩⟩, ?_, ?_, ⟨_, hA.get, by rw [hlen]; exact hr⟩⟩
  · rw [St.loads_of hA.get (by rw [hlen]; exact hlv)]
    congr 1
    rw [List.append_assoc, List.drop_left' ho.symm, List.take_left' (hfl d' hd')]
  · rw [List.all_eq_true]
    intro x hx
    obtain ⟨e, he, hxe⟩ := List.mem_flatten.mp hx
    obtain ⟨a, _, rfl⟩ := List.mem_map.mp he
    exact List.all_eq_true.mp (E.one a) x hxe
  · simp only [V.block, List.mem_singleton]; rintro j rfl; exact ⟨hB, _, hA.get⟩

abbrev hitsE (l : List Hit) : List (List V) := l.map hcells
abbrev hitsC (d : Array Hit) : List V := (d.toList.map hcells).flatten
theorem hitsE_len (l : List Hit) : (hitsE l).length = l.length := by simp
theorem hitsE_three {l : List Hit} : ∀ e ∈ hitsE l, e.length = 3 := by
  intro e he; obtain ⟨x, _, rfl⟩ := List.mem_map.mp he; rfl
theorem hitsE_one (l : List Hit) : (hitsE l).flatten.all V.one = true := by
  rw [List.all_eq_true]; intro x hx
  obtain ⟨e, he, hxe⟩ := List.mem_flatten.mp hx
  obtain ⟨a, _, rfl⟩ := List.mem_map.mp he
  simp only [hcells, List.mem_cons, List.not_mem_nil, or_false] at hxe
  rcases hxe with rfl | rfl | rfl <;> rfl
def HitsAt (S : St) (v : V) (l : List Hit) : Prop := SlE S 3 v (hitsE l)
theorem HitsAt.sl {S : St} {v : V} {l : List Hit} (h : HitsAt S v l) : SlE S 3 v (hitsE l) := h
theorem HitsAt.at_ {S : St} {v : V} {l : List Hit} (h : HitsAt S v l) : SlAt S 3 v l.length (hitsE l).flatten := by
  have := h.sl.1; rwa [hitsE_len] at this
theorem HitsAt.mk {S : St} {v : V} {l : List Hit} (h : SlAt S 3 v l.length (hitsE l).flatten) : HitsAt S v l := ⟨by rwa [hitsE_len], fun e he => hitsE_three e he⟩
theorem HitsAt.grow {S S' : St} {v : V} {l : List Hit} (h : HitsAt S v l) (g : Grow S S') : HitsAt S' v l := h.sl.grow g
theorem HitsAt.upd {D : List Nat} {S S' : St} {v : V} {l : List Hit} (h : HitsAt S v l) (g : Upd D S S') (hD : ∀ i ∈ v.block, i ∉ D) : HitsAt S' v l := h.sl.upd g hD
theorem HitsAt.ro {S : St} {v : V} {l : List Hit} (h : HitsAt S v l) : HitsAt S.ro v l := ⟨h.sl.1.ro, h.sl.2⟩
theorem HitsAt.len {S : St} {v : V} {l : List Hit} (h : HitsAt S v l) : lenV S 2 v = some (.int .i64 l.length) := by
  have := h.sl.len; rwa [hitsE_len] at this
theorem HitsAt.idx {S : St} {v : V} {l : List Hit} (h : HitsAt S v l) {j : Nat} (hj : j < l.length) : idxAddrV 3 v (.int .i64 (j : Int)) = some (eltV 3 v j 0) := h.sl.idx (by rw [hitsE_len]; exact hj)
theorem HitsAt.get {S : St} {v : V} {l : List Hit} (h : HitsAt S v l) {j : Nat} (hj : j < l.length) : loadNV S 3 (eltV 3 v j 0) = some (hitV l[j]) := by
  rw [h.sl.getN (by rw [hitsE_len]; exact hj) (by omega)]; simp
theorem _root_.Go.Th.Built.hits {S0 S : St} {v : V} {l : List Hit} (h : Built S0 S 3 v (hitsE l)) : HitsAt S v l := h.sl
theorem HitsAt.sub {S : St} {v : V} {l : List Hit} (h : HitsAt S v l) {lo hi : Option V} {a b : Nat} (hb : ∀ cap, l.length ≤ cap → bnds l.length cap lo hi none = some (a, b, cap)) (h0 : a ≤ b) (h1 : b ≤ l.length) :
    ∃ v', sliceSlV 3 v lo hi none = some v' ∧ HitsAt S v' ((l.drop a).take (b - a)) ∧ (∀ i ∈ v'.block, i ∈ v.block) := by
  obtain ⟨v', e1, e2, e3⟩ := SlAt.sub (c := 0) h.at_ hb h0 h1
  refine ⟨v', e1, HitsAt.mk ?_, e3⟩
  have hl : ((l.drop a).take (b - a)).length = b - a := by rw [List.length_take, List.length_drop]; omega
  rw [hl]
  have : ((hitsE l).flatten.drop (a * 3)).take ((b - a) * 3) = (hitsE ((l.drop a).take (b - a))).flatten := by
    have key : ∀ (l : List Hit) (n : Nat), (hitsE l).flatten.take (n * 3) = (hitsE (l.take n)).flatten ∧ (hitsE l).flatten.drop (n * 3) = (hitsE (l.drop n)).flatten := by
      intro l
      induction l with
      | nil => intro n; simp
      | cons x l ih =>
        intro n
        cases n with
        | zero => simp
        | succ n =>
          have := ih n
          simp only [hitsE, List.map_cons, List.flatten_cons, List.take_succ_cons, List.drop_succ_cons, hcells] at this ⊢
          rw [show (n + 1) * 3 = n * 3 + 1 + 1 + 1 by omega]
          simp [this.1, this.2]
    rw [(key l a).2, (key _ _).1]
  rw [this] at e2; exact e2

structure HeapAt (S : St) (D : List Nat) (hb k : Nat) (w : List Hit) : Prop where
  wf : S.Wf
  lt : ∀ i ∈ D, i < S.next
  mem : hb ∈ D
  ex : ∃ v d, S.get hb = some (.cells [.int .i64 k, v] true) ∧ Acc S 0 3 v d.size (hitsC d) ∧ (∀ i ∈ v.block, i ∈ D ∧ i ≠ hb) ∧ HeapOf d w

theorem HeapAt.upd {D D' : List Nat} {S S' : St} {hb k : Nat} {w : List Hit} (h : HeapAt S D hb k w) (u : Upd D' S S') (hD : ∀ i ∈ D, i ∉ D') : HeapAt S' D hb k w := by
  obtain ⟨v, d, h1, h2, h3, h4⟩ := h.ex
  exact ⟨u.wf, fun i hi => Nat.lt_of_lt_of_le (h.lt i hi) u.le, h.mem, v, d, u.get h1 (hD _ h.mem), h2.upd u (fun i hi => hD i (h3 i hi).1), h3, h4⟩

theorem topk_hits_Push.spec (hF : topk_hits_Push.Ok P N) {S : St} (hw : S.Wf) {hb n : Nat} {kk : Int} {v : V} {cs : List V} {x : Hit} {K : St → Prop}
    (hg : S.get hb = some (.cells [.int .i64 kk, v] true)) (ha : Acc S 0 3 v n cs) (hne : ∀ i ∈ v.block, i ≠ hb) (hn : n < 1000000)
    (hk : ∀ v' S', S'.get hb = some (.cells [.int .i64 kk, v'] true) → Acc S' 0 3 v' (n + 1) (cs ++ hcells x) → (∀ i ∈ v'.block, i ∈ v.block ∨ S.next ≤ i) → Upd (hb :: v.block) S S' → K S') :
    CallA P (N Fn.topk_hits_Push) [.ptr hb 1, .iface (N Fn.ty_api_Hit) (hitV x)] S (retT [] K) := by
  have hlt : hb < S.next := hw.lt hg
  refine topk_hits_Push.run hF ⟨x.id, x.hi, x.lo, true, by simp [assertV], newS_mk hw fun S1 g1 m1 n1 => st_mk g1.wf m1 rfl (by simp [V.cells]) rfl fun S2 u2 m2 n2 => ifC_tt rfl ⟨rfl, ?_⟩⟩
  simp only [over, V.cells] at m2
  have gS2 : Grow S S2 := g1.after u2 (by simp)
  refine ifS_mk (ld (gS2.get hg) rfl) ⟨x.id, x.hi, x.lo, ldN m2 (by simp) rfl, newS_mk u2.wf fun S3 g3 m3 n3 => ⟨Same.of_grow g3 (by intro i hi; simp only [V.block, List.append_nil, List.mem_singleton] at hi; subst hi; omega), ?_⟩⟩
  have gS3 : Grow S S3 := gS2.trans g3
  have hs : srcV 3 S3 (.slice S2.next 0 1 1 3 true) = some (1, hcells x) := by
    simp only [srcV, if_true]
    rw [St.loads_of m3 (by simp)]; rfl
  obtain ⟨v', S4, e4, a4, u4, t4⟩ := (ha.grow gS3).app g3.wf (by omega) hs rfl rfl (bytes := 24) (by omega) (by omega)
  have hb4 : S4.get hb = some (.cells [.int .i64 kk, v] true) := u4.get (gS3.get hg) (fun h => hne _ h rfl)
  have hv' : ∀ i ∈ v'.block, i ≠ hb := fun i hi => by
    rcases t4 i hi with h | h
    · exact hne i h
    · have := gS3.le; omega
  refine ifP_mk e4 ⟨rfl, ?_⟩
  · have hone : v'.cells = [v'] := by rcases a4.at_.2.2 with ⟨rfl, _⟩ | ⟨i, o, c, t, rfl, _⟩ <;> rfl
    have hone2 : v'.one = true := a4.at_.one1
    refine st_mk u4.wf hb4 (by rw [hone]; rfl) (by rw [hone]; simp) (by rw [hone]; simp [hone2]) fun S5 u5 m5 n5 => hk v' S5 (by rw [m5, hone]; rfl) (a4.upd u5 fun i hi => by simpa using hv' i hi) (fun i hi => ?_) ?_
    · rcases t4 i hi with h | h
      · exact .inl h
      · exact .inr (by have := gS3.le; omega)
    · have h1 : Upd v.block S S4 := (gS3.mono (by simp) |>.trans u4)
      exact ((h1.mono (fun i hi => .inl (List.mem_cons_of_mem _ hi))).trans (u5.mono fun i hi => .inl (by simp only [List.mem_singleton] at hi; simp [hi])))

theorem topk_hits_Len.sl (hF : topk_hits_Len.Ok P N) {S : St} {v : V} {n : Nat} {cs : List V} (h : SlAt S 3 v n cs) {K : Int → St → Prop} (hk : K (n : Int) S) : CallA P (N Fn.topk_hits_Len) [v] S (retT [.one (.int .i64)] K) :=
  topk_hits_Len.run hF ⟨_, h.len, hk⟩

structure HeapOk (P : Program) (N : Nat → Nat) : Prop where
  meth : HeapM P N
  push : topk_hits_Push.Ok P N
  len : topk_hits_Len.Ok P N
  less : topk_hits_Less.Ok P N
  swap : topk_hits_Swap.Ok P N
  up : container_heap_up.Ok P N
  down : container_heap_down.Ok P N
  hpush : container_heap_Push.Ok P N
  fix : container_heap_Fix.Ok P N
  less0 : topk_Less.Spec P N

theorem heap_push (h : HeapOk P N) {S : St} {D : List Nat} {hb k : Nat} {w : List Hit} {x : Hit} {K : St → Prop} (hH : HeapAt S D hb k w) (hn : w.length < 1000)
    (hk : ∀ S' D', HeapAt S' D' hb k (insH x w) → Upd D S S' → (∀ i ∈ D', i ∈ D ∨ S.next ≤ i) → K S') : CallA P (N Fn.container_heap_Push) [.iface (N Fn.ty_ptopk_hits) (.ptr hb 1), .iface (N Fn.ty_api_Hit) (hitV x)] S (retT [] K) := by
  obtain ⟨v, d, h1, h2, h3, h4⟩ := hH.ex
  have hsz := h4.size
  refine container_heap_Push.run h.hpush (ifS_mk (invoke_val h.meth.push) (topk_hits_Push.spec h.push hH.wf h1 h2 (fun i hi => (h3 i hi).2) (by omega) fun v' S1 hg1 ha1 t1 u1 => ifS_mk (invoke_ld h.meth.len (ld hg1 rfl)) (topk_hits_Len.sl h.len ha1.at_ ?_)))
  have e1 : IntKind.i64.wrap (((d.size + 1 : Nat) : Int) - 1) = (d.size : Int) := by rw [IntKind.wrap_i64]; omega
  refine setI_mk e1 ?_
  obtain ⟨i, o, c, t, rfl⟩ : ∃ i o c t, v' = .slice i o (d.size + 1) c 3 t := by
    rcases ha1.at_.2.2 with ⟨_, h0⟩ | ⟨i, o, c, t, rfl, _⟩
    · omega
    · exact ⟨i, o, c, t, rfl⟩
  have hc : hitsC d ++ hcells x = ((d.push x).toList.map hitE.enc).flatten := by simp [hitsC]
  rw [hc] at ha1
  have hps : (d.push x).size = d.size + 1 := by simp
  obtain ⟨_, pre, post, rfl, hA, hback⟩ := Acc.arr (E := hitE) u1.wf ha1 hps
  have hlt : hb < S.next := hH.wf.lt h1
  have hne : hb ≠ i := fun e => by
    rcases t1 i (by simp [V.block]) with h' | h'
    · exact (h3 i h').2 e.symm
    · omega
  refine container_heap_up.spec h.up h.meth h.less h.swap h.less0 hA hps (by unfold big; omega) (by omega) (ld hg1 rfl) hne fun S2 hA2 hz2 => ?_
  refine hk S2 (i :: D) ⟨hA2.upd.wf, ?_, List.mem_cons_of_mem _ hH.mem, _, _, hA2.upd.get hg1 (by simpa using hne), ?_, ?_, h4.push x⟩ ?_ ?_
  · intro j hj
    rcases List.mem_cons.mp hj with rfl | hj
    · exact hA2.upd.wf.lt hA2.get
    · exact Nat.lt_of_lt_of_le (hH.lt j hj) (Nat.le_trans u1.le hA2.upd.le)
  · have := hback S2 _ hA2 hz2
    rw [show (upH d.size (d.push x)).size = d.size + 1 from hz2]
    exact this
  · simp only [V.block, List.mem_singleton]; rintro j rfl; exact ⟨List.mem_cons_self, fun e => hne e.symm⟩
  · refine Upd.after (u1.mono fun j hj => ?_) hA2.upd fun j hj => ?_
    · rcases List.mem_cons.mp hj with rfl | hj
      · exact .inl hH.mem
      · exact .inl (h3 j hj).1
    · simp only [List.mem_singleton] at hj; subst hj
      rcases t1 j (by simp [V.block]) with h' | h'
      · exact .inr (h3 j h').1
      · exact .inl h'
  · intro j hj
    rcases List.mem_cons.mp hj with rfl | hj
    · rcases t1 j (by simp [V.block]) with h' | h'
      · exact .inl (h3 j h').1
      · exact .inr h'
    · exact .inl hj

def topk_Heap_Offer.Spec (P : Program) (N : Nat → Nat) : Prop := ∀ (S : St) (D : List Nat) (hb k : Nat) (w : List Hit) (x : Hit) (K : Bool → St → Prop), HeapAt S D hb k w → 1 ≤ k → k ≤ 64 → w.length ≤ k →
  (∀ S' D', HeapAt S' D' hb k ((insH x w).take k) → Upd D S S' → (∀ i ∈ D', i ∈ D ∨ S.next ≤ i) → K (keptH k w x) S') → CallA P (N Fn.topk_Heap_Offer) [.ptr hb 0, hitV x] S (retT [.one .bool] K)
theorem topk_Heap_Offer.spec (hF : topk_Heap_Offer.Ok P N) (h : HeapOk P N) : topk_Heap_Offer.Spec P N := by
  intro S D hb k w x K hH hk1 hk2 hwl hk
  obtain ⟨v, d, h1, h2, h3, h4⟩ := hH.ex
  have hsz := h4.size
  have hlt : hb < S.next := hH.wf.lt h1
  refine topk_Heap_Offer.run hF (newS_mk hH.wf fun S1 g1 m1 n1 => ⟨false, rfl, ifC_ff rfl ⟨rfl, ifS_mk rfl (ifS_mk (ld (g1.get h1) rfl) ⟨_, (h2.grow g1).at_.len, rfl, ifS_mk rfl ⟨_, ld (g1.get h1) rfl, ifC_dec (fun hl => ?_) (fun hl => ?_)⟩⟩)⟩⟩)
  · have hl : w.length < k := by omega
    refine ⟨rfl, ifS_mk rfl ⟨x.id, x.hi, x.lo, ldN m1 (by simp) rfl, heap_push h (hH.upd g1 (by simp)) (by omega) fun S2 D2 hH2 u2 t2 => ⟨?_, ?_⟩⟩⟩
    · intro i hi
      simp only [List.mem_singleton] at hi; subst hi
      exact u2.keep _ (by omega) fun hd => by have := hH.lt _ hd; omega
    · have e : (insH x w).take k = insH x w := List.take_of_length_le (by rw [insH_length]; omega)
      have := hk S2 D2 (by rw [e]; exact hH2) ((g1.mono (by simp)).trans u2) (fun i hi => by
        rcases t2 i hi with h' | h'
        · exact .inl h'
        · exact .inr (by omega))
      rwa [keptH, decide_eq_true hl, Bool.true_or] at this
  · have hl : w.length = k := by omega
    have hw0 := h4.worst (k := k) (by omega) hl
    obtain ⟨i, o, c, t, rfl⟩ : ∃ i o c t, v = .slice i o d.size c 3 t := by
      rcases h2.at_.2.2 with ⟨_, h0⟩ | ⟨i, o, c, t, rfl, _⟩
      · omega
      · exact ⟨i, o, c, t, rfl⟩
    obtain ⟨_, pre, post, rfl, hA, hback⟩ := Acc.arr (E := hitE) g1.wf (h2.grow g1) rfl
    have hne : hb ≠ i := fun e => (h3 i (by simp [V.block])).2 e.symm
    have hiD : i ∈ D := (h3 i (by simp [V.block])).1
    have h0 : 0 < d.size := by omega
    have key : CallA P (N Fn.topk_Less) [hitV x, hitV d[0]!] S1 (retT [.one .bool] fun (x34 : Bool) (S3 : St) => S3 = S1 ∧ x34 = lessH x d[0]!) := h.less0 x d[0]! S1 _ ⟨rfl, rfl⟩
    refine ⟨x.id, x.hi, x.lo, ldN m1 (by simp) rfl, rfl, ifS_mk rfl (ifS_mk (ld (g1.get h1) rfl) (ifS_mk (arr_idx (j := 0) h0) ⟨_, _, _, hA.ldN h0, h.less0 x d[0]! S1 _ ⟨Same.refl _ _, ?_⟩⟩))⟩
    refine ifC_tt_ff (fun h5 => ?_) (fun h5 => ?_)
    · have h5 : lessH x d[0]! = false := by simpa using h5
      have hkf : keptH k w x = false := by
        rw [keptH, ← hw0, h5, decide_eq_false (by omega)]; rfl
      have e := keptH_not hk1 hwl h4.srt hkf
      have := hk S1 D (by rw [e]; exact hH.upd g1 (by simp)) (g1.mono (by simp)) (fun i hi => .inl hi)
      rwa [hkf] at this
    · have h5 : lessH x d[0]! = true := by simpa using h5
      have hkt : keptH k w x = true := by rw [keptH, ← hw0, h5, Bool.or_true]
      refine ⟨rfl, ifS_mk rfl (ifS_mk (ld (g1.get h1) rfl) ⟨x.id, x.hi, x.lo, ldN m1 (by simp) rfl, ifS_mk (arr_idx (j := 0) h0) (hA.set h0 x fun S4 hA4 => ⟨rfl, ifS_mk rfl ?_⟩)⟩)⟩
      have hz4 : (d.setIfInBounds 0 x).size = d.size := by simp
      have hb4 := hA4.upd.get (g1.get h1) (by simpa using hne)
      refine container_heap_Fix.spec h.fix h.up h.down h.meth h.len h.less h.swap h.less0 ⟨Upd.refl hA4.upd.wf _, hA4.get⟩ hz4 (by unfold big; omega) h0 (ld hb4 rfl) hne fun S5 hA5 => ?_
      have hfix := h4.fix (k := k) (by omega) hl h5
      have hz5 := hfix.size
      rw [List.length_take, insH_length] at hz5
      have hA5' := (hA4.upd.trans hA5.upd)
      have := hk S5 D ⟨hA5.upd.wf, fun j hj => Nat.lt_of_lt_of_le (hH.lt j hj) (by have := g1.le; have := hA5'.le; omega), hH.mem, _, _, hA5'.get (g1.get h1) (by simpa using hne), ?_, h3, hfix⟩ ?_ (fun i hi => .inl hi)
      · rwa [hkt] at this
      · have := hback S5 _ ⟨hA5', hA5.get⟩ (by omega)
        rw [show (siftDown lessH d.size 0 0 (d.setIfInBounds 0 x)).size = d.size by omega]
        exact this
      · exact (g1.mono (by simp)).after hA5' (fun j hj => by simp only [List.mem_singleton] at hj; subst hj; exact .inr hiD)

def topk_New.Spec (P : Program) (N : Nat → Nat) : Prop := ∀ (k : Int) (S : St) (K : V → Int → St → Prop), S.Wf → ((k < 1 ∨ 64 < k) → K .nilPtr 1 S) →
  (∀ n : Nat, k = n → 1 ≤ n → n ≤ 64 → ∀ S', Grow S S' → HeapAt S' [S.next] S.next n [] → K (.ptr S.next 0) 0 S') → CallA P (N Fn.topk_New) [.int .i64 k] S (retT [.one .any, .one (.int .i64)] K)
theorem topk_New.spec (hF : topk_New.Ok P N) : topk_New.Spec P N := by
  intro k S K hw h1 h2
  refine topk_New.run hF (Join0.mid (fun S' => S' = S ∧ 1 ≤ k ∧ k ≤ 64) (ifC_dec (fun h => h1 (.inl h)) (fun h => ifC_dec (fun h' => h1 (.inr h')) (fun h' => ⟨rfl, by omega, by omega⟩))) ?_)
  rintro S1 ⟨rfl, ha, hb⟩
  refine newS_mk hw fun S2 g2 m2 n2 => ?_
  obtain ⟨n, rfl⟩ := Int.eq_ofNat_of_zero_le (show 0 ≤ k by omega)
  refine h2 n rfl (by omega) (by omega) S2 g2 ⟨g2.wf, by simp; omega, by simp, _, #[], m2, Acc.nil _ _ _, by simp [V.block], HeapOf.nil⟩

end Go.Th.L
end

section
/- topk: List, together, Merge; the document's sorted lists. -/
set_option linter.unusedSimpArgs false
set_option linter.unusedVariables false
set_option linter.unusedSectionVars false
namespace Go.Th.L
open Go Go.Th Go.Th.Pure Go.Sort
variable {P : Program} {N : Nat → Nat}

theorem eqS_nil {S : St} {k : Nat} {v : V} {n : Nat} {cs : List V} (h : SlAt S k v n cs) : ∃ b, eqV 2 [] v .nilSlice = some b ∧ (b = true → v = .nilSlice ∧ n = 0) := by
  rcases h.2.2 with ⟨rfl, h0⟩ | ⟨i, o, c, t, rfl, _⟩
  · exact ⟨true, rfl, fun _ => ⟨rfl, h0⟩⟩
  · exact ⟨false, rfl, fun h => by cases h⟩

theorem slices_Clone_Lapi_Hit.spec (hF : slices_Clone_Lapi_Hit.Ok P N) {S : St} (hw : S.Wf) {v : V} {l : List Hit} (hv : HitsAt S v l) (hl : l.length < 1000000) {K : V → St → Prop} (hk : ∀ v' S', Built S S' 3 v' (hitsE l) → K v' S') :
    CallA P (N Fn.slices_Clone_Lapi_Hit) [v] S (retT [.one .any] K) := by
  obtain ⟨b, hb, hb2⟩ := eqS_nil hv.at_
  refine slices_Clone_Lapi_Hit.run hF ⟨b, hb, ifC_tt_ff (fun h1 => ?_) (fun h1 => ?_)⟩
  · have := (hb2 h1).2
    have hl0 := List.length_eq_zero_iff.mp this
    subst hl0
    exact hk _ _ (Built.nil (Upd.refl hw _) 3)
  · refine newS_mk hw fun S1 g1 m1 n1 => ?_
    have hB : Built S S1 3 (.slice S.next 0 0 0 3 true) [] := ⟨g1, ⟨⟨by simp, by simp, .inr ⟨_, 0, 0, true, rfl, Nat.le_refl _, by rw [St.loads_of m1 (by simp)]; simp⟩⟩, rfl, by simp only [V.block, List.mem_singleton]; rintro i rfl; exact ⟨Nat.le_refl _, _, m1⟩, ⟨_, m1, by simp⟩⟩, by simp⟩
    refine hB.app (ds := hitsE l) (by rw [hitsE_len]; exact (hv.grow g1).at_.src) (fun e he => hitsE_three e he) (hitsE_one l) (by simp only [List.length_nil, hitsE_len]; omega) (by simp only [List.length_nil, hitsE_len]; omega) fun v' S' b' _ _ => hk v' S' ?_
    simpa using b'

structure SortOk (P : Program) (N : Nat → Nat) : Prop where
  sort : slices_SortFunc_Lapi_Hit.Spec P N
  sortF : slices_SortFunc_Lapi_Hit.Ok P N
  pdqF : slices_pdqsortCmpFunc_api_Hit.Ok P N
  insF : slices_insertionSortCmpFunc_api_Hit.Ok P N
  bits : math_bits_Len.Spec P N
  cmp : CmpIs P (.func (.func (N Fn.topk_compare)) [] []) lessH

theorem hits_sort (h : SortOk P N) {S0 S : St} {v : V} {l : List Hit} (hB : Built S0 S 3 v (hitsE l)) (hl : l.length < 1000000) {K : St → Prop} (hk : ∀ S', Built S0 S' 3 v (hitsE (sortH l)) → K S') :
    CallA P (N Fn.slices_SortFunc_Lapi_Hit) [v, .func (.func (N Fn.topk_compare)) [] []] S (retT [] K) := by
  have hlen : (hitsE l).length = l.length := hitsE_len l
  have hat := hB.acc.at_.2.2
  rw [hlen] at hat
  rcases hat with ⟨rfl, h0⟩ | ⟨i, o, c, t, rfl, hc, hld⟩
  · have hl0 : l = [] := List.length_eq_zero_iff.mp h0
    subst hl0
    refine slices_SortFunc_Lapi_Hit.run h.sortF ⟨_, lenV_nil _, setI_mk (by decide) (h.bits 0 S _ (by omega) ?_)⟩
    refine slices_pdqsortCmpFunc_api_Hit.run h.pdqF (Loop5.ind (fun n a b c d e S' => a = 0 ∧ b = 0 ∧ S' = S) 0 ⟨rfl, rfl, rfl⟩ ?_)
    rintro n a b c d e S' ⟨rfl, rfl, rfl⟩
    refine setI_mk (n := 0) (by decide) (ifC_pos (by decide) (slices_insertionSortCmpFunc_api_Hit.run h.insF (setI_mk (n := 1) (by decide) (Loop1.ind (fun n x S'' => x = 1 ∧ S'' = S') 0 ⟨rfl, rfl⟩ ?_))))
    rintro n x S'' ⟨rfl, rfl⟩
    exact ifC_neg (by decide) (hk _ hB)
  · obtain ⟨_, pre, post, rfl, hA, hback⟩ := Acc.arr (E := hitE) (d := l.toArray) hB.grow.wf (by simpa using hB.acc) (by simp)
    refine h.sort lessH _ S S i _ c t pre post l.toArray _ lessH_swo h.cmp hA (by simp) (by unfold big; omega) fun S' d' hA' hp hs => hk S' ?_
    have hz : d'.size = l.length := by rw [hp.1]; simp
    have hsrt : d'.toList = sortH l := by
      have h1 : d'.toList.Perm l := by
        have := permIn_all (d := l.toArray) (e := d') (by simpa using hp)
        simpa using this
      refine srt_unique (h1.trans (sortH_perm l).symm) (sortedIn_srt (by rw [hz]; exact hs)) (sortH_srt l)
    have hacc := hback S' d' hA' hz
    refine ⟨hB.grow.after hA'.upd (fun j hj => .inl ?_), ?_, fun e he => hitsE_three e he⟩
    · simp only [List.mem_singleton] at hj; subst hj
      exact hB.from j (by simp [V.block])
    · rw [hsrt] at hacc
      have hl2 : (hitsE (sortH l)).length = l.length := by simp [sortH_length]
      rw [hl2]
      exact ⟨hacc.at_, hacc.ones, fun j hj => ⟨hB.from j hj, (hacc.own j hj).2⟩, hacc.room⟩

theorem topk_Heap_List.at_ (hF : topk_Heap_List.Ok P N) (hC : slices_Clone_Lapi_Hit.Ok P N) (hS : SortOk P N) {S : St} {D : List Nat} {hb k : Nat} {w : List Hit} (hH : HeapAt S D hb k w) (hn : w.length < 1000000) {K : V → St → Prop}
    (hk : ∀ v S', Built S S' 3 v (hitsE w) → K v S') : CallA P (N Fn.topk_Heap_List) [.ptr hb 0] S (retT [.one .any] K) := by
  obtain ⟨v, d, h1, h2, h3, h4⟩ := hH.ex
  have hsz := h4.size
  have hv : HitsAt S v d.toList := HitsAt.mk (by simpa using h2.at_)
  refine topk_Heap_List.run hF ⟨false, rfl, ifC_ff rfl ⟨rfl, ifS_mk rfl (ifS_mk (ld h1 rfl) (slices_Clone_Lapi_Hit.spec hC hH.wf hv (by simpa using (by omega : d.size < 1000000)) fun v' S1 b1 => hits_sort hS b1 (by simpa using (by omega : d.size < 1000000)) fun S2 b2 => hk v' S2 ?_))⟩⟩
  rwa [sortH_congr h4.perm, sortH_of h4.srt] at b2

structure ListsAt (S : St) (lv : V) (vs : List V) (ls : List (List Hit)) : Prop where
  len : vs.length = ls.length
  sl : SlAt S 1 lv vs.length vs
  at_ : ∀ j (h : j < vs.length) (h' : j < ls.length), HitsAt S vs[j] ls[j]

theorem ListsAt.length {S : St} {lv : V} {vs : List V} {ls : List (List Hit)} (h : ListsAt S lv vs ls) : lenV S 2 lv = some (.int .i64 ls.length) := by rw [h.sl.len, h.len]
theorem ListsAt.idx {S : St} {lv : V} {vs : List V} {ls : List (List Hit)} (h : ListsAt S lv vs ls) {j : Nat} (hj : j < ls.length) : idxAddrV 1 lv (.int .i64 (j : Int)) = some (eltV 1 lv j 0) := h.sl.idx (by rw [h.len]; exact hj)
theorem ListsAt.ltv {S : St} {lv : V} {vs : List V} {ls : List (List Hit)} (h : ListsAt S lv vs ls) {j : Nat} (hj : j < ls.length) : j < vs.length := by rw [h.len]; exact hj
theorem ListsAt.get {S : St} {lv : V} {vs : List V} {ls : List (List Hit)} (h : ListsAt S lv vs ls) {j : Nat} (hj : j < ls.length) : loadV S (eltV 1 lv j 0) = some (vs[j]'(h.ltv hj)) := by
  rw [SlAt.load h.sl (m := j) (off := 0) (by rw [h.len]; exact hj) (by omega), Nat.mul_one, Nat.add_zero, List.getElem?_eq_getElem (h.ltv hj)]
theorem ListsAt.hits {S : St} {lv : V} {vs : List V} {ls : List (List Hit)} (h : ListsAt S lv vs ls) {j : Nat} (hj : j < ls.length) : HitsAt S (vs[j]'(h.ltv hj)) ls[j] := h.at_ j _ hj
theorem ListsAt.upd {D : List Nat} {S S' : St} {lv : V} {vs : List V} {ls : List (List Hit)} (h : ListsAt S lv vs ls) (u : Upd D S S') (h1 : ∀ i ∈ lv.block, i ∉ D) (h2 : ∀ v ∈ vs, ∀ i ∈ v.block, i ∉ D) : ListsAt S' lv vs ls :=
  ⟨h.len, h.sl.upd u h1, fun j h' h'' => (h.at_ j h' h'').upd u (h2 _ (List.getElem_mem _))⟩
theorem ListsAt.grow {S S' : St} {lv : V} {vs : List V} {ls : List (List Hit)} (h : ListsAt S lv vs ls) (u : Grow S S') : ListsAt S' lv vs ls := h.upd u (by simp) (by simp)

theorem hitsE_append (a b : List Hit) : hitsE (a ++ b) = hitsE a ++ hitsE b := by simp

theorem hits_app {S0 S : St} {v y : V} {l m : List Hit} (h : Built S0 S 3 v (hitsE l)) (hy : HitsAt S y m) (hl : l.length + m.length < 1000000) {K : V → St → Prop}
    (hk : ∀ v' S', Built S0 S' 3 v' (hitsE (l ++ m)) → Upd v.block S S' → (∀ i ∈ v'.block, i ∈ v.block ∨ S.next ≤ i) → K v' S') : ifP (appV S 3 24 v y) K := by
  refine h.app (ds := hitsE m) (by rw [hitsE_len]; exact hy.at_.src) (fun e he => hitsE_three e he) (hitsE_one m) (by simp only [hitsE_len]; omega) (by simp only [hitsE_len]; omega) fun v' S' b => hk v' S' ?_
  rw [hitsE_append]; exact b
theorem hits_push {S0 S : St} {v : V} {l : List Hit} (x : Hit) (h : Built S0 S 3 v (hitsE l)) (hl : l.length + 1 < 1000000) {K : V → St → Prop}
    (hk : ∀ v' S', Built S0 S' 3 v' (hitsE (l ++ [x])) → Upd v.block S S' → (∀ i ∈ v'.block, i ∈ v.block ∨ S.next ≤ i) → K v' S') : newS S (.cells (hcells x) true) fun S1 => ifP (appV S1 3 24 v (.slice S.next 0 1 1 3 true)) K := by
  refine h.push (e := hcells x) rfl rfl (by simp only [hitsE_len]; omega) (by simp only [hitsE_len]; omega) fun v' S' b => hk v' S' ?_
  rw [hitsE_append]; exact b
theorem insH_split (x : Hit) (l : List Hit) {p : Nat} (hp : p ≤ l.length) (h1 : ∀ j (h : j < l.length), j < p → lessH x l[j] = false) (h2 : ∀ h : p < l.length, lessH x l[p] = true) : l.take p ++ [x] ++ l.drop p = insH x l := by
  induction l generalizing p with
  | nil => simp [insH]
  | cons y l ih =>
    cases p with
    | zero =>
      have := h2 (by simp)
      simp only [List.getElem_cons_zero] at this
      simp [insH, this]
    | succ p =>
      have h3 := h1 0 (by simp) (by omega)
      simp only [List.getElem_cons_zero] at h3
      have := ih (p := p) (by simpa using hp) (fun j h hj => by have := h1 (j + 1) (by simpa using h) (by omega); rwa [List.getElem_cons_succ] at this) (fun h => by have := h2 (by simpa using h); rwa [List.getElem_cons_succ] at this)
      simp only [List.take_succ_cons, List.drop_succ_cons, List.cons_append]
      rw [this]; simp [insH, h3]

end Go.Th.L
end
