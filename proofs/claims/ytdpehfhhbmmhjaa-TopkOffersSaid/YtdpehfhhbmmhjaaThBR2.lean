/- What the row of one statement stands on: a store, abstract code, functions of the program and their laws (ThR2). -/
import Derived.Test.YtdpehfhhbmmhjaaThBGwide

section
/- A slice whose room is not known: its block is given up, all that its room may be is one's own. -/
set_option linter.unusedSimpArgs false
set_option linter.unusedVariables false
namespace Go.Th
open Go Go.RowKit

theorem Sim.dead {m : LM} {S : St} {base : Nat} {w0 w : World} (h : Sim m S base w0 w) {i : Nat} {vs : List V} {L : Loc} (hi : S.get i = some (.cells vs true)) (hL : m i = some L) : Sim m (S.put i (some (.dead (L.size - L.off)))) base w0 w := by
  obtain ⟨L', h1, h2, h3⟩ := h.blk i _ hi
  rw [h1] at hL; cases hL
  obtain ⟨g0, g1, g3, g2⟩ := h2
  obtain ⟨hown, ccs, t, fz, hb, hsz, hfz⟩ := g2 rfl
  have hroom := g3 hown
  have := h.putBlk hi rfl h1 (.cells ccs t fz) (.dead (L.size - L.off)) ⟨hown, by omega, ccs, t, fz, setAt_same w _ _ g0, hsz, hfz⟩
  rwa [setAt_id w _ _ hb] at this

theorem CallA.dead {P : Program} {f : FuncId} {S : St} {i o n c k : Nat} {t : Bool} {vs : List V} {Q : Post} (hi : S.get i = some (.cells vs true)) (hk : 0 < k)
    (h : ∀ c' sz, n ≤ c' → (0 < c' → o + c' * k ≤ sz) → (t = true → c' = c) → (t = false → 1 < k → c' ≤ 9223372036854775807) → CallA P f [.slice i o n c' k true] (S.put i (some (.dead sz))) Q) : CallA P f [.slice i o n c k t] S Q := by
  intro m base w0 w args hS hv
  simp only [VRs] at hv
  obtain ⟨u, us, e, hu, rfl⟩ := hv
  obtain ⟨L, x, c', hL, rfl, hs⟩ := hu.slice_inv
  have hown : L.own = true := by
    obtain ⟨L', h1, h2, _⟩ := hS.blk i _ hi
    rw [h1] at hL; cases hL
    exact (h2.2.2.2 rfl).1
  refine h c' (L.size - L.off) (Nat.le_trans hs.len_le hs.cap_le) (fun h0 => by have := hs.room hown h0; omega) hs.tight (hs.top hown) m base w0 w args (hS.dead hi hL) ?_
  simp only [VRs]
  refine ⟨_, _, e, ?_, rfl⟩
  simp only [VR]
  exact ⟨L, x, c', hL, rfl, ⟨Nat.le_trans hs.len_le hs.cap_le, Nat.le_refl _, fun _ => rfl, hs.place, hs.here, hs.room, fun _ h => by cases h⟩⟩

/-- A store into a block of which nothing is known. -/
theorem st_dead {S : St} {i o n sz : Nat} {v : V} {K : St → Prop} (h : S.get i = some (.dead sz)) (hn : v.cells.length = n) (hf : o + n ≤ sz) (ho : v.cells.all V.one = true) (hk : K (S.put i (some (.dead sz)))) : ifS (storeV S n (.ptr i o) v) K := by
  have e : storeV S n (.ptr i o) v = some (S.put i (some (.dead sz))) := by
    simp only [storeV, hn, if_true, St.stores, h]
    rw [if_pos]
    simp only [Bool.and_eq_true, decide_eq_true_eq]
    exact ⟨by omega, ho⟩
  exact ifS_mk e hk

end Go.Th
end
