/- What the row of one statement stands on: a store, abstract code, functions of the program and their laws (ThStoreStd). -/
import Derived.Test.YtkjmdgejbcphjaaGreatDoorThBStoreShelf
import Derived.Test.YtkjmdgejbcphjaaGreatDoorThBStoreMaps
import Derived.Test.YtkjmdgejbcphjaaGreatDoorThBStoreN
import Derived.Test.YtkjmdgejbcphjaaGreatDoorThBHstore10

section
/- The library's functions at the store seat: copies of maps, texts sorted. -/

set_option linter.unusedVariables false
set_option linter.unusedSimpArgs false
set_option maxHeartbeats 1000000
namespace Go.Th.Store
open Go Go.Th Go.Th.L Go.Th.Pure

theorem args1 {m : LM} {v : V} {args : Array Value} (h : VRs m [v] args.toList) : ∃ u, args = #[u] ∧ VR m v u := by
  simp only [VRs] at h
  obtain ⟨u, us, h1, h2, rfl⟩ := h
  obtain ⟨l⟩ := args
  simp only at h1
  exact ⟨u, by rw [h1], h2⟩

theorem calls_of {f : Nat} {args : Array Value} {w : World} {R : Ending → World → Prop} (hf : decide (f < PP.funcs.size) = true) (h : Calls PP f args w R) : CallsX PP f args w R := CallsX.of (of_decide_eq_true hf) h

theorem s_MapsClone : MapsClone PP (N Fn.maps_Clone_disk_names) := by
  intro S hw i es own K hg hk m base w0 w args hS hv
  rw [show N Fn.maps_Clone_disk_names = 97 from by kernel_rfl]
  obtain ⟨u, rfl, hu⟩ := args1 hv
  simp only [VR] at hu
  obtain ⟨L, hL, rfl⟩ := hu
  obtain ⟨L', h1, h2, _⟩ := hS.blk i _ hg
  rw [h1] at hL; cases hL
  obtain ⟨ces, clock, hb, he, hlt, hnd⟩ := h2
  refine calls_of (by kernel_rfl) ((Go.Proofs.Tryz.maps_Clone L.block ces clock w hb).mono ?_)
  rintro e w' ⟨rfl, rfl⟩
  have hx : Ext m (m.put S.next ⟨w.heap.size, 0, 0, true⟩) := LM.ext_put _ (hS.freshM _ (Nat.le_refl _))
  have hS2 : Sim (m.put S.next ⟨w.heap.size, 0, 0, true⟩) (S.new (.map es true)) base w0 (w.alloc (.map ces clock)) :=
    hS.newBlk _ _ _ rfl ⟨ces, clock, heap_alloc_new' w _, EntR.mono hx he, hlt, hnd⟩
  refine ⟨_, _, _, ⟨_, rfl, hk _ ((Upd.refl hw []).new _) (by simp) rfl⟩, hx, hS2, _, rfl, ?_⟩
  simp only [VR]
  exact ⟨_, LM.put_same _ _ _, rfl⟩

theorem below_grow {w : World} (os : Array Obj) : Go.RowKit.Below w.heap.size w (Go.Sort.grow w os) := ⟨rfl, rfl, rfl, by simp, fun k hk => by simp [Go.Sort.grow, Array.getElem?_append, hk]⟩
theorem below_ahead {w : World} (n : Nat) : Go.RowKit.Below w.heap.size w (Go.Sort.ahead w n) := ⟨rfl, rfl, rfl, Nat.le_refl _, fun _ _ => rfl⟩
theorem putRow_setAt {α : Type} [Inhabited α] {enc : α → Value} {w : World} {b o : Nat} {d : Array α} {cs : Array Value} {t : TypeId} {fz : Nat × Nat} (h : w.heap[b]? = some (.cells cs t fz)) : Go.Sort.putRow enc w b o d = setAt w b (.cells (Go.Sort.putCells enc o d cs) t fz) := by
  unfold Go.Sort.putRow Go.Sort.mapBlock setAt
  congr 1
  apply Array.ext_getElem?
  intro k
  have hb : b < w.heap.size := by
    rcases Nat.lt_or_ge b w.heap.size with h' | h'
    · exact h'
    · simp [Array.getElem?_eq_none h'] at h
  rw [Array.getElem?_modify, Array.getElem?_setIfInBounds]
  by_cases hk : b = k
  · subst hk
    simp only [if_true, h, Option.map_some, Go.Sort.onCells, hb]
  · simp [hk]

theorem s_Sort : SortsStr PP (N Fn.slices_Sort_Lstring) := by
  intro S0 S v l K hB hl hk m base w0 w args hS hv
  rw [show N Fn.slices_Sort_Lstring = 123 from by kernel_rfl]
  obtain ⟨u, rfl, hu⟩ := args1 hv
  by_cases h0 : l = []
  · subst h0
    have hs : srtN [] = [] := by simp [srtN]
    rw [hs] at hk
    have hcall : ∃ p cap, u = .slice p 0 cap := by
      rcases hB.acc.at_.2.2 with ⟨rfl, _⟩ | ⟨i, o, c, t, rfl, _, _⟩
      · simp only [VR] at hu
        exact ⟨_, _, hu⟩
      · simp only [VR] at hu
        obtain ⟨L, x, cap', _, rfl, _⟩ := hu
        exact ⟨_, _, rfl⟩
    obtain ⟨p, cap, rfl⟩ := hcall
    refine calls_of (by kernel_rfl) ((Go.Proofs.Tryz.slices_Sort_string_none p cap w).mono ?_)
    rintro e w' ⟨rfl, rfl⟩
    exact ⟨.ret (.tuple []), S, m, ⟨rfl, hk S hB⟩, Ext.refl m, hS, _, rfl, by simp only [VR]; exact ⟨#[], rfl, by simp [VRs]⟩⟩
  · have hpos : 0 < l.length := List.length_pos_iff.mpr h0
    have hat := hB.acc.at_
    have hlen : (strE l).length = l.length := strE_len l
    have hfl := strE_flat l
    rcases hat.2.2 with ⟨rfl, hz⟩ | ⟨i, o, c, t, rfl, hc, hld⟩
    · rw [hlen] at hz; omega
    have hv0 := hu
    simp only [VR] at hu
    obtain ⟨L, x, cap', hL, rfl, hok⟩ := hu
    obtain ⟨hbi, vs, hg⟩ := hB.acc.own i (by simp [V.block])
    obtain ⟨vs2, hg2, hroom⟩ := hB.acc.room
    rw [hg] at hg2
    simp only [Option.some.injEq, Blk.cells.injEq, and_true] at hg2
    subst hg2
    obtain ⟨L', h1, h2, _⟩ := hS.blk i _ hg
    rw [h1] at hL; cases hL
    obtain ⟨g0, g1, g3, g2⟩ := h2
    obtain ⟨hown, ccs, tt, fz, hb, hsz, hfz⟩ := g2 rfl
    have hcl : c ≤ cap' := hok.cap_le
    rw [hlen] at hc hld ⊢
    rw [hok.place (by omega)]
    have hvs : ∀ j, j < l.length → vs[o + j]? = l[j]?.map V.str := by
      intro j hj
      have e1 := hld
      rw [St.loads_of hg (by omega), Option.some.injEq] at e1
      have e2 : ((vs.drop o).take (l.length * 1))[j]? = (strsV l)[j]? := by rw [e1, hfl]
      rw [List.getElem?_take, if_pos (by omega), List.getElem?_drop] at e2
      rw [e2, strsV, List.getElem?_map]
    have hH : Go.Sort.Holds Go.Proofs.encStr w L.block (L.off + o) l.toArray := by
      intro j hj
      simp only [List.size_toArray] at hj
      refine ⟨?_, ?_⟩
      · obtain ⟨u, hu, r⟩ := g1 (o + j) (.str l[j]) (by rw [hvs j hj, List.getElem?_eq_getElem hj]; rfl)
        rw [Nat.add_assoc, hu]
        simp only [VR] at r
        rw [r, getElem!_pos _ j (by simpa using hj)]
        simp
      · simp only [World.frozen?, hb]
        have : fz.1 = fz.2 := hfz
        obtain ⟨a, b⟩ := fz
        simp only at this
        subst this
        simp
    refine calls_of (by kernel_rfl) ((Go.Proofs.Tryz.slices_Sort_string L.block (L.off + o) cap' l w hH g0 (by omega)).mono ?_)
    rintro e w' ⟨rfl, n, os, rfl⟩
    have hsl : (srtN l).length = l.length := (List.mergeSort_perm _ _).length_eq
    have hvl : o + l.length ≤ vs.length := by omega
    have hex : (strsV (srtN l)).length = l.length := by simp [strsV, hsl]
    have hsim : Sim m (S.put i (some (.cells (over vs o (strsV (srtN l))) true))) base w0 (setAt w L.block (.cells (Go.Sort.putCells Go.Proofs.encStr (L.off + o) (srtN l).toArray ccs) tt fz)) := by
      refine hS.putBlk hg rfl h1 _ _ ⟨by simpa using g0, ?_, fun _ => by rw [over_length]; exact g3 hown, fun _ => ⟨hown, _, tt, fz, setAt_same w _ _ g0, by simp [Go.Sort.putCells, hsz], hfz⟩⟩
      intro j y hj
      rw [over_get vs o _ j (by omega)] at hj
      rw [cell_setAt w _ _ tt fz g0]
      simp only [Go.Sort.putCells, Array.getElem?_mapIdx]
      have hjl : j < vs.length := by
        by_cases hin : o ≤ j ∧ j < o + (strsV (srtN l)).length
        · omega
        · rw [if_neg hin] at hj
          rcases Nat.lt_or_ge j vs.length with h' | h'
          · exact h'
          · rw [List.getElem?_eq_none h'] at hj; cases hj
      obtain ⟨u0, hu0, r0⟩ := g1 j _ (List.getElem?_eq_getElem hjl)
      have hcc : ccs[L.off + j]? = some u0 := by
        simpa [World.cell?, hb] using hu0
      rw [hcc, Option.map_some]
      by_cases hin : o ≤ j ∧ j < o + (strsV (srtN l)).length
      · rw [if_pos hin] at hj
        rw [if_pos (by simp only [List.size_toArray, hsl]; omega)]
        have hjj : j - o < (srtN l).length := by omega
        simp only [strsV, List.getElem?_map, List.getElem?_eq_getElem hjj, Option.map_some, Option.some.injEq] at hj
        subst hj
        refine ⟨_, rfl, ?_⟩
        simp only [VR]
        have e3 : L.off + j - (L.off + o) = j - o := by omega
        rw [e3, getElem!_pos _ (j - o) (by simpa using hjj)]
        simp
      · rw [if_neg hin] at hj
        rw [if_neg (by simp only [List.size_toArray, hsl]; omega)]
        rw [List.getElem?_eq_getElem hjl] at hj
        cases hj
        exact ⟨u0, rfl, r0⟩
    have hput : Go.Sort.putRow Go.Proofs.encStr (Go.Sort.ahead w n) L.block (L.off + o) (l.mergeSort fun x y => decide (x ≤ y)).toArray = Go.Sort.ahead (setAt w L.block (.cells (Go.Sort.putCells Go.Proofs.encStr (L.off + o) (srtN l).toArray ccs) tt fz)) n := by
      rw [Go.Sort.putRow_ahead, putRow_setAt hb]; rfl
    rw [hput]
    have hfin := (hsim.later (below_ahead n)).later (below_grow os)
    refine ⟨.ret (.tuple []), _, m, ⟨rfl, hk _ ?_⟩, Ext.refl m, hfin, _, rfl, by simp only [VR]; exact ⟨#[], rfl, by simp [VRs]⟩⟩
    have hi := hB.lt i (by simp [V.block])
    have hupd : Upd [i] S (S.put i (some (.cells (over vs o (strsV (srtN l))) true))) := (Upd.refl hB.grow.wf [i]).put hi (.inr (by simp)) _
    refine ⟨hB.grow.after hupd fun j hj => .inl (by simp only [List.mem_singleton] at hj; omega), ⟨⟨?_, ?_, .inr ⟨i, o, c, t, ?_, ?_, ?_⟩⟩, ?_, ?_, ?_⟩, ?_⟩
    · rw [strE_len, hsl, ← hlen]; exact hat.1
    · rw [strE_flat, hex, strE_len, hsl, Nat.mul_one]
    · rw [strE_len (srtN l), hsl, strE_len]
    · rw [strE_len, hsl]; exact hc
    · rw [strE_len, hsl, strE_flat]
      have hget : (S.put i (some (.cells (over vs o (strsV (srtN l))) true))).get i = some (.cells (over vs o (strsV (srtN l))) true) := by simp
      rw [St.loads_of hget (by rw [over_length]; omega)]
      congr 1
      apply List.ext_getElem?
      intro j
      rw [List.getElem?_take, Nat.mul_one]
      by_cases hj : j < l.length
      · rw [if_pos hj, List.getElem?_drop, over_get vs o _ _ (by omega), if_pos (by omega)]
        congr 1; omega
      · rw [if_neg hj, List.getElem?_eq_none (by omega)]
    · rw [strE_flat]; exact strsV_ones _
    · intro j hj
      simp only [V.block, List.mem_singleton] at hj
      subst hj
      exact ⟨hbi, over vs o (strsV (srtN l)), by simp⟩
    · exact ⟨over vs o (strsV (srtN l)), by simp, by rw [over_length]; exact hroom⟩
    · intro e he
      simp only [strE, List.mem_map] at he
      obtain ⟨_, _, rfl⟩ := he
      rfl

end Go.Th.Store
end
