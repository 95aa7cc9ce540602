/- What the row of one statement stands on: a store, abstract code, functions of the program and their laws (ThHkeep). -/
import Derived.Test.YtilkmjbbdnnphaaGreatDoorThBQ10
import Derived.Test.YtilkmjbbdnnphaaGreatDoorThBGref17

section
/- keep: lists of numbers and rows lent, given back, compared. -/
set_option linter.unusedSimpArgs false
set_option linter.unusedVariables false
namespace Go.Th.L
open Go Go.Th
variable {P : Program} {N : Nat → Nat}

abbrev LentI (S : St) (B : Nat) (x : V) (l : List Int) : Prop := Lent S B 1 x l.length 1 (intsV .i64 l) (intsV .i64 [-77])

structure LentR (S : St) (B : Nat) (x : V) (rs : List Row) (ws : List V) : Prop where
  len : ws.length = rs.length
  list : Lent S B 2 x rs.length 1 (rowsC rs ws).flatten [.int .i64 (-77), .nilSlice]
  vecs : ∀ j (hw : j < ws.length) (hr : j < rs.length), LentI S B ws[j] rs[j].2
  apart : ∀ j (hw : j < ws.length), ∀ i ∈ (ws[j]).block, i ∉ x.block
  apart2 : ∀ j k (hj : j < ws.length) (hk : k < ws.length), j < k → ∀ i ∈ (ws[j]).block, i ∉ (ws[k]).block

def lentD (x : V) (ws : List V) : List Nat := x.block ++ ws.flatMap V.block

theorem LentR.rows {S : St} {B : Nat} {x : V} {rs : List Row} {ws : List V} (h : LentR S B x rs ws) : RowsAt' S x rs ws :=
  ⟨h.len, ⟨by have := h.list.sl; rwa [← rowsC_length h.len] at this, rowsC_two⟩, fun j hr hw => (h.vecs j hw hr).sl⟩

theorem LentR.upd {D : List Nat} {S S' : St} {B : Nat} {x : V} {rs : List Row} {ws : List V} (h : LentR S B x rs ws) (g : Upd D S S') (hD : ∀ i ∈ lentD x ws, i ∉ D) : LentR S' B x rs ws :=
  ⟨h.len, h.list.upd g (fun i hi => hD i (List.mem_append_left _ hi)), fun j hw hr => (h.vecs j hw hr).upd g (fun i hi => hD i (List.mem_append_right _ (List.mem_flatMap.mpr ⟨_, List.getElem_mem hw, hi⟩))), h.apart, h.apart2⟩
theorem LentR.grow {S S' : St} {B : Nat} {x : V} {rs : List Row} {ws : List V} (h : LentR S B x rs ws) (g : Grow S S') : LentR S' B x rs ws := h.upd g (by simp)
theorem LentR.range {S : St} (hw : S.Wf) {B : Nat} {x : V} {rs : List Row} {ws : List V} (h : LentR S B x rs ws) : ∀ i ∈ lentD x ws, B ≤ i ∧ i < S.next := by
  intro i hi
  rcases List.mem_append.mp hi with hi | hi
  · exact ⟨h.list.from i hi, h.list.lt hw i hi⟩
  · obtain ⟨w, hw', hi⟩ := List.mem_flatMap.mp hi
    obtain ⟨j, hj, rfl⟩ := List.getElem_of_mem hw'
    have := h.vecs j hj (by rw [← h.len]; exact hj)
    exact ⟨this.from i hi, this.lt hw i hi⟩

end Go.Th.L
end
