/- What the row of one statement stands on: a store, abstract code, functions of the program and their laws (ThR12). -/
import Derived.Test.YtconjbbmdjaehaaGreatDoorThBGstringsLen

section
/- Worlds in which but a few blocks have changed; a block of the world that comes into the store. -/
set_option linter.unusedSimpArgs false
set_option linter.unusedVariables false
namespace Go.Th
open Go.RowKit Go.Lib Go

theorem Sim.except {m : LM} {S S' : St} {base : Nat} {w0 w w' : World} (h : Sim m S base w0 w) (D : List Nat) (hD : ∀ i ∈ D, ∃ b, S.get i = some b ∧ b.own = true) (hw : Below base w0 w') (hsz : w.heap.size ≤ w'.heap.size)
    (keep : ∀ k, k < w.heap.size → (∀ i ∈ D, ∀ L, m i = some L → L.block ≠ k) → w'.heap[k]? = w.heap[k]?) (hS : ∀ i, i ∉ D → S'.get i = S.get i) (hn : S'.next = S.next)
    (hblk : ∀ i ∈ D, ∀ b', S'.get i = some b' → b'.own = true ∧ ∃ L, m i = some L ∧ BlkR m L w' b') : Sim m S' base w0 w' := by
  have lt : ∀ i ∈ D, i < S.next := fun i hi => by
    obtain ⟨b, hb, _⟩ := hD i hi
    rcases Nat.lt_or_ge i S.next with h' | h'
    · exact h'
    · rw [h.freshS i h'] at hb; cases hb
  refine ⟨hw, Nat.le_trans h.base_le hsz, fun i hi => ?_, fun i hi => h.freshM i (by omega), fun i b hb => ?_, fun i j b b' L L' hij hb hb' ho hL hL' => ?_⟩
  · rw [hn] at hi
    rw [hS i fun hD' => by have := lt i hD'; omega]
    exact h.freshS i hi
  · by_cases hi : i ∈ D
    · obtain ⟨h1, L, h2, h3⟩ := hblk i hi b hb
      obtain ⟨b0, hb0, ho0⟩ := hD i hi
      obtain ⟨L0, g1, _, g3⟩ := h.blk i b0 hb0
      rw [g1] at h2; cases h2
      exact ⟨_, g1, h3, fun _ => g3 ho0⟩
    · rw [hS i hi] at hb
      obtain ⟨L, h1, h2, h3⟩ := h.blk i b hb
      refine ⟨L, h1, h2.keep (Ext.refl m) hsz (keep _ h2.lt fun d hd Ld hLd => ?_), h3⟩
      obtain ⟨b0, hb0, ho0⟩ := hD d hd
      exact h.apart d i b0 b Ld L (fun e => hi (e ▸ hd)) hb0 hb ho0 hLd h1
  · have old : ∀ i b, S'.get i = some b → ∃ b0, S.get i = some b0 ∧ (b.own = true → b0.own = true) := fun i b hb => by
      by_cases hi : i ∈ D
      · obtain ⟨b0, h1, h2⟩ := hD i hi
        exact ⟨b0, h1, fun _ => h2⟩
      · rw [hS i hi] at hb
        exact ⟨b, hb, id⟩
    obtain ⟨b0, g0, k0⟩ := old i b hb
    obtain ⟨b1, g1, _⟩ := old j b' hb'
    exact h.apart i j b0 b1 L L' hij g0 g1 (k0 ho) hL hL'

theorem Sim.adopt {m : LM} {S : St} {base : Nat} {w0 w : World} (h : Sim m S base w0 w) {b : Blk} {L : Loc} (hg : ∀ j b' L', S.get j = some b' → m j = some L' → L'.block ≠ L.block) (hb : base ≤ L.block) (hR : BlkR (m.put S.next L) L w b) :
    Sim (m.put S.next L) (S.new b) base w0 w := by
  have hx : Ext m (m.put S.next L) := LM.ext_put L (h.freshM _ (Nat.le_refl _))
  refine ⟨h.below, h.base_le, ?_, ?_, ?_, ?_⟩
  · intro i hi
    simp only [St.next_new] at hi
    rw [St.get_new, if_neg (by omega)]
    exact h.freshS i (by omega)
  · intro i hi
    simp only [St.next_new] at hi
    rw [LM.put_other m L (by omega)]
    exact h.freshM i (by omega)
  · intro i b' hi
    rw [St.get_new] at hi
    by_cases e : i = S.next
    · subst e
      rw [if_pos rfl] at hi
      cases hi
      exact ⟨L, LM.put_same m _ L, hR, fun _ => hb⟩
    · rw [if_neg e] at hi
      obtain ⟨L', h1, h2, h3⟩ := h.blk i b' hi
      exact ⟨L', by rw [LM.put_other m L e]; exact h1, h2.keep hx (Nat.le_refl _) rfl, h3⟩
  · intro i j b1 b2 L1 L2 hij h1 h2 ho g1 g2
    rw [St.get_new] at h1 h2
    by_cases e1 : i = S.next
    · subst e1
      rw [if_neg (fun e => hij e.symm)] at h2
      rw [LM.put_same] at g1
      cases g1
      rw [LM.put_other m L (fun e => hij e.symm)] at g2
      exact fun e => hg j b2 L2 h2 g2 e.symm
    · rw [if_neg e1] at h1
      rw [LM.put_other m L e1] at g1
      by_cases e2 : j = S.next
      · subst e2
        rw [LM.put_same] at g2
        cases g2
        exact hg i b1 L1 h1 g1
      · rw [if_neg e2] at h2
        rw [LM.put_other m L e2] at g2
        exact h.apart i j b1 b2 L1 L2 hij h1 h2 ho g1 g2

end Go.Th
end
