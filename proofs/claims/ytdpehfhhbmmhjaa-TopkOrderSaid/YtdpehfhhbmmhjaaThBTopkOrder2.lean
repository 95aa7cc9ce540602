/- What the row of one statement stands on: a store, abstract code, functions of the program and their laws (ThB). -/
import Derived.Test.YtdpehfhhbmmhjaaThBTopkOrder1

section
/- The simulation's moves: a new block, a block written, a block moved, a block given up. -/
namespace Go.Th
open Go.RowKit

def LM.put (m : LM) (i : Nat) (L : Loc) : LM := fun j => if j = i then some L else m j

theorem LM.put_same (m : LM) (i : Nat) (L : Loc) : m.put i L i = some L := by simp [LM.put]
theorem LM.put_other (m : LM) {i j : Nat} (L : Loc) (h : j ≠ i) : m.put i L j = m j := by simp [LM.put, h]
theorem LM.ext_put {m : LM} {i : Nat} (L : Loc) (h : m i = none) : Ext m (m.put i L) := by
  intro j L' hj
  by_cases e : j = i
  · subst e; rw [h] at hj; cases hj
  · rw [LM.put_other m L e]; exact hj

/-- The world with another object in a block. -/
def setAt (w : World) (b : Nat) (o : Obj) : World := { w with heap := w.heap.setIfInBounds b o }

@[simp] theorem setAt_size (w : World) (b : Nat) (o : Obj) : (setAt w b o).heap.size = w.heap.size := by simp [setAt]
theorem setAt_same (w : World) (b : Nat) (o : Obj) (h : b < w.heap.size) : (setAt w b o).heap[b]? = some o := by
  simp [setAt, h]
theorem setAt_other (w : World) (b : Nat) (o : Obj) {c : Nat} (h : c ≠ b) : (setAt w b o).heap[c]? = w.heap[c]? := by
  simp only [setAt, Array.getElem?_setIfInBounds]
  rw [if_neg (fun e => h e.symm)]
theorem setAt_setAt (w : World) (b : Nat) (o o' : Obj) : setAt (setAt w b o) b o' = setAt w b o' := by
  simp [setAt]
theorem setAt_id (w : World) (b : Nat) (o : Obj) (h : w.heap[b]? = some o) : setAt w b o = w := by
  unfold setAt
  have : w.heap.setIfInBounds b o = w.heap := by
    apply Array.ext_getElem?
    intro j
    rw [Array.getElem?_setIfInBounds]
    split
    · rename_i e
      subst e
      have hb : b < w.heap.size := by
        rcases Nat.lt_or_ge b w.heap.size with h' | h'
        · exact h'
        · simp [Array.getElem?_eq_none h'] at h
      rw [if_pos hb, h]
    · rfl
  rw [this]

theorem below_setAt {B : Nat} {a w : World} (h : Below B a w) {b : Nat} (hb : B ≤ b) (o : Obj) : Below B a (setAt w b o) :=
  h.trans ⟨rfl, rfl, rfl, by simp, fun k hk => setAt_other w b o (by omega)⟩

theorem cell_setAt (w : World) (b : Nat) (cs : Array Value) (t : TypeId) (fz : Nat × Nat) (h : b < w.heap.size) (i : Nat) :
    (setAt w b (.cells cs t fz)).cell? ⟨b, i, none⟩ = cs[i]? := by
  simp [World.cell?, setAt_same w b _ h]

theorem setCell_setAt (w : World) (b i : Nat) (v : Value) (cs : Array Value) (t : TypeId) (fz : Nat × Nat) (h : w.heap[b]? = some (.cells cs t fz)) :
    w.setCell ⟨b, i, none⟩ v = setAt w b (.cells (cs.setIfInBounds i v) t fz) := by
  unfold World.setCell setAt
  have hb : b < w.heap.size := by
    rcases Nat.lt_or_ge b w.heap.size with h' | h'
    · exact h'
    · simp [Array.getElem?_eq_none h'] at h
  congr 1
  apply Array.ext_getElem?
  intro j
  rw [Array.getElem?_modify, Array.getElem?_setIfInBounds]
  by_cases e : b = j
  · subst e
    rw [if_pos rfl, if_pos rfl, if_pos hb, h]
    simp
  · rw [if_neg e, if_neg e]

theorem frozen_setAt (w : World) (b i : Nat) (cs : Array Value) (t : TypeId) (fz : Nat × Nat) (h : w.heap[b]? = some (.cells cs t fz)) :
    w.frozen? ⟨b, i, none⟩ = (decide (fz.1 ≤ i) && decide (i < fz.2)) := by
  obtain ⟨lo, hi⟩ := fz
  simp [World.frozen?, h]

/-! ## the moves -/
theorem Sim.draw {m : LM} {S : St} {base : Nat} {w0 w : World} (h : Sim m S base w0 w) : Sim m S base w0 w.drew :=
  ⟨h.below.drew, h.base_le, h.freshS, h.freshM, h.blk, h.apart⟩

/-- A new block. -/
theorem Sim.newBlk {m : LM} {S : St} {base : Nat} {w0 w : World} (h : Sim m S base w0 w) (o : Obj) (b : Blk) (L : Loc) (hL : L.block = w.heap.size)
    (hR : BlkR (m.put S.next L) L (w.alloc o) b) : Sim (m.put S.next L) (S.new b) base w0 (w.alloc o) := by
  have hx : Ext m (m.put S.next L) := LM.ext_put L (h.freshM _ (Nat.le_refl _))
  refine ⟨h.below.alloc h.base_le o, by have := h.base_le; simp; omega, ?_, ?_, ?_, ?_⟩
  · intro i hi
    simp only [St.next_new] at hi
    rw [St.get_new, if_neg (by omega)]
    exact h.freshS i (by omega)
  · intro i hi
    simp only [St.next_new] at hi
    rw [LM.put_other m L (by omega)]
    exact h.freshM i (by omega)
  · intro i b' hi
    rw [St.get_new] at hi
    by_cases e : i = S.next
    · subst e
      rw [if_pos rfl] at hi
      cases hi
      exact ⟨L, LM.put_same m _ L, hR, fun _ => by have := h.base_le; omega⟩
    · rw [if_neg e] at hi
      obtain ⟨L', h1, h2, h3⟩ := h.blk i b' hi
      exact ⟨L', by rw [LM.put_other m L e]; exact h1, h2.keep hx (by simp) (Below.heap_alloc w o _ h2.lt), h3⟩
  · intro i j b1 b2 L1 L2 hij h1 h2 ho g1 g2
    rw [St.get_new] at h1 h2
    by_cases e1 : i = S.next
    · subst e1
      rw [if_neg (fun e => hij e.symm)] at h2
      rw [LM.put_same] at g1
      cases g1
      rw [LM.put_other m L (fun e => hij e.symm)] at g2
      obtain ⟨L', k1, k2, _⟩ := h.blk j b2 h2
      rw [k1] at g2; cases g2
      have := k2.lt
      omega
    · rw [if_neg e1] at h1
      rw [LM.put_other m L e1] at g1
      by_cases e2 : j = S.next
      · subst e2
        rw [LM.put_same] at g2
        cases g2
        obtain ⟨L', k1, k2, _⟩ := h.blk i b1 h1
        rw [k1] at g1; cases g1
        have := k2.lt
        omega
      · rw [if_neg e2] at h2
        rw [LM.put_other m L e2] at g2
        exact h.apart i j b1 b2 L1 L2 hij h1 h2 ho g1 g2

/-- One of the call's own blocks is written. -/
theorem Sim.putBlk {m : LM} {S : St} {base : Nat} {w0 w : World} (h : Sim m S base w0 w) {i : Nat} {b : Blk} {L : Loc} (hi : S.get i = some b) (ho : b.own = true) (hL : m i = some L)
    (o' : Obj) (b' : Blk) (hR : BlkR m L (setAt w L.block o') b') : Sim m (S.put i (some b')) base w0 (setAt w L.block o') := by
  have hbase : base ≤ L.block := by
    obtain ⟨L', h1, h2, h3⟩ := h.blk i b hi
    rw [h1] at hL; cases hL
    exact h3 ho
  refine ⟨below_setAt h.below hbase o', by simpa using h.base_le, ?_, h.freshM, ?_, ?_⟩
  · intro j hj
    simp only [St.next_put] at hj
    rw [St.get_put]
    by_cases e : j = i
    · subst e; rw [h.freshS j hj] at hi; cases hi
    · rw [if_neg e]; exact h.freshS j hj
  · intro j b2 hj
    rw [St.get_put] at hj
    by_cases e : j = i
    · subst e
      rw [if_pos rfl] at hj; cases hj
      exact ⟨L, hL, hR, fun _ => hbase⟩
    · rw [if_neg e] at hj
      obtain ⟨L', h1, h2, h3⟩ := h.blk j b2 hj
      have hne : L.block ≠ L'.block := h.apart i j b b2 L L' (fun e' => e e'.symm) hi hj ho hL h1
      exact ⟨L', h1, h2.keep (Ext.refl m) (by simp) (setAt_other w _ _ (fun e' => hne e'.symm)), h3⟩
  · intro j k b1 b2 L1 L2 hjk h1 h2 ho1 g1 g2
    rw [St.get_put] at h1 h2
    by_cases e1 : j = i
    · subst e1
      rw [if_neg (fun e => hjk e.symm)] at h2
      exact h.apart j k b b2 L1 L2 hjk hi h2 ho g1 g2
    · rw [if_neg e1] at h1
      by_cases e2 : k = i
      · subst e2
        exact h.apart j k b1 b L1 L2 hjk h1 hi ho1 g1 g2
      · rw [if_neg e2] at h2
        exact h.apart j k b1 b2 L1 L2 hjk h1 h2 ho1 g1 g2

/-- A block is given up. -/
theorem Sim.kill {m : LM} {S : St} {base : Nat} {w0 w : World} (h : Sim m S base w0 w) (i : Nat) : Sim m (S.put i none) base w0 w := by
  refine ⟨h.below, h.base_le, ?_, h.freshM, ?_, ?_⟩
  · intro j hj
    rw [St.get_put]
    split
    · rfl
    · exact h.freshS j hj
  · intro j b hj
    rw [St.get_put] at hj
    split at hj
    · cases hj
    · exact h.blk j b hj
  · intro j k b1 b2 L1 L2 hjk h1 h2
    rw [St.get_put] at h1 h2
    split at h1
    · cases h1
    · split at h2
      · cases h2
      · exact h.apart j k b1 b2 L1 L2 hjk h1 h2

/-- A block is given up; a new one lies in its place. -/
theorem Sim.moved {m : LM} {S : St} {base : Nat} {w0 w : World} (h : Sim m S base w0 w) {i : Nat} {b : Blk} {L : Loc} (hi : S.get i = some b) (ho : b.own = true) (hL : m i = some L)
    (o' : Obj) (b' : Blk) (L' : Loc) (hL' : L'.block = L.block) (hR : BlkR (m.put S.next L') L' (setAt w L.block o') b') :
    Sim (m.put S.next L') ((S.put i none).new b') base w0 (setAt w L.block o') := by
  have hx : Ext m (m.put S.next L') := LM.ext_put L' (h.freshM _ (Nat.le_refl _))
  have hbase : base ≤ L.block := by
    obtain ⟨L2, h1, h2, h3⟩ := h.blk i b hi
    rw [h1] at hL; cases hL
    exact h3 ho
  have hin : i ≠ S.next := by
    intro e; subst e; rw [h.freshS _ (Nat.le_refl _)] at hi; cases hi
  refine ⟨below_setAt h.below hbase o', by simpa using h.base_le, ?_, ?_, ?_, ?_⟩
  · intro j hj
    simp only [St.next_new, St.next_put] at hj
    rw [St.get_new, St.next_put, if_neg (by omega), St.get_put]
    split
    · rfl
    · exact h.freshS j (by omega)
  · intro j hj
    simp only [St.next_new, St.next_put] at hj
    rw [LM.put_other m L' (by omega)]
    exact h.freshM j (by omega)
  · intro j b2 hj
    rw [St.get_new, St.next_put, St.get_put] at hj
    by_cases e : j = S.next
    · subst e
      rw [if_pos rfl] at hj; cases hj
      exact ⟨L', LM.put_same m _ L', hR, fun _ => by omega⟩
    · rw [if_neg e] at hj
      by_cases e2 : j = i
      · rw [if_pos e2] at hj; cases hj
      · rw [if_neg e2] at hj
        obtain ⟨L2, h1, h2, h3⟩ := h.blk j b2 hj
        have hne : L.block ≠ L2.block := h.apart i j b b2 L L2 (fun e' => e2 e'.symm) hi hj ho hL h1
        exact ⟨L2, by rw [LM.put_other m L' e]; exact h1, h2.keep hx (by simp) (setAt_other w _ _ (fun e' => hne e'.symm)), h3⟩
  · intro j k b1 b2 L1 L2 hjk h1 h2 ho1 g1 g2
    rw [St.get_new, St.next_put, St.get_put] at h1 h2
    by_cases e1 : j = S.next
    · subst e1
      rw [LM.put_same] at g1; cases g1
      rw [if_neg (fun e => hjk e.symm)] at h2
      rw [LM.put_other m L' (fun e => hjk e.symm)] at g2
      by_cases e2 : k = i
      · rw [if_pos e2] at h2; cases h2
      · rw [if_neg e2] at h2
        rw [hL']
        exact h.apart i k b b2 L L2 (fun e => e2 e.symm) hi h2 ho hL g2
    · rw [if_neg e1] at h1
      rw [LM.put_other m L' e1] at g1
      by_cases e3 : j = i
      · rw [if_pos e3] at h1; cases h1
      · rw [if_neg e3] at h1
        by_cases e2 : k = S.next
        · subst e2
          rw [LM.put_same] at g2; cases g2
          rw [hL']
          intro e
          exact h.apart i j b b1 L L1 (fun e => e3 e.symm) hi h1 ho hL g1 e.symm
        · rw [if_neg e2] at h2
          rw [LM.put_other m L' e2] at g2
          by_cases e4 : k = i
          · rw [if_pos e4] at h2; cases h2
          · rw [if_neg e4] at h2
            exact h.apart j k b1 b2 L1 L2 hjk h1 h2 ho1 g1 g2

/-- The whole store looked at only. -/
theorem Sim.ro {m : LM} {S : St} {base : Nat} {w0 w : World} (h : Sim m S base w0 w) : Sim m S.ro w.heap.size w w := by
  refine ⟨Below.refl _ _, Nat.le_refl _, ?_, h.freshM, ?_, ?_⟩
  · intro i hi
    rw [St.get_ro, h.freshS i hi]; rfl
  · intro i b hi
    rw [St.get_ro] at hi
    cases hg : S.get i with
    | none => rw [hg] at hi; cases hi
    | some b0 =>
      rw [hg] at hi
      simp only [Option.map_some, Option.some.injEq] at hi
      subst hi
      obtain ⟨L, h1, h2, h3⟩ := h.blk i b0 hg
      refine ⟨L, h1, ?_, ?_⟩
      · cases b0 with
        | cells vs own => exact ⟨h2.1, h2.2.1, h2.2.2.1, fun e => by cases e⟩
        | map es own => exact h2
      · intro e; cases b0 <;> simp [Blk.ro, Blk.own] at e
  · intro i j b b' L L' hij h1 h2 ho
    rw [St.get_ro] at h1
    cases hg : S.get i with
    | none => rw [hg] at h1; cases h1
    | some b0 =>
      rw [hg] at h1
      simp only [Option.map_some, Option.some.injEq] at h1
      subst h1
      cases b0 <;> simp [Blk.ro, Blk.own] at ho

/-- What was there stays as it was, where only new blocks were made. -/
theorem Sim.later {m : LM} {S : St} {base : Nat} {w0 w w' : World} (h : Sim m S base w0 w) (hb : Below w.heap.size w w') : Sim m S base w0 w' := by
  refine ⟨h.below.trans (hb.mono h.base_le), Nat.le_trans h.base_le hb.size, h.freshS, h.freshM, ?_, h.apart⟩
  intro i b hi
  obtain ⟨L, h1, h2, h3⟩ := h.blk i b hi
  exact ⟨L, h1, h2.keep (Ext.refl m) hb.size (hb.block _ h2.lt), h3⟩

end Go.Th
end
