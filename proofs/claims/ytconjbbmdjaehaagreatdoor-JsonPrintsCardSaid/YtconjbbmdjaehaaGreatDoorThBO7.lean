/- What the row of one statement stands on: a store, abstract code, functions of the program and their laws (ThO5, ThO7). -/
import Derived.Test.YtconjbbmdjaehaaGreatDoorThBO4
import Derived.Test.YtconjbbmdjaehaaGreatDoorThBHvar

section
/- A store that begins with some errors' variables and the table of powers of ten. -/
set_option linter.unusedSimpArgs false
set_option linter.unusedVariables false
namespace Go.Th
open Go Go.RowKit Go.ChangeShapes Go.WideShapes Go.ChangeAt Go.Th.L

def ErrTab (gs : List Nat) (n : Nat) (S : St) : Prop := GV gs S ∧ TabG n S
theorem ErrTab.keep {gs : List Nat} {n : Nat} (S S' : St) (k : ∀ i b, S.get i = some b → S'.get i = some b) (h : ErrTab gs n S) : ErrTab gs n S' :=
  ⟨fun g hg => by obtain ⟨t, ht⟩ := h.1 g hg; exact ⟨t, k _ _ ht⟩, k _ _ h.2⟩
theorem RoS.errs {gs : List Nat} {W : World} (hg : ∀ g ∈ gs, ∃ te v t fz, W.heap[g]? = some (.cells #[.iface te v] t fz) ∧ v.oneCell' = true) : ∀ n, ∃ m S, RoS m S W ∧ S.next = n ∧ ∀ g ∈ gs, g < n → ∃ t, S.get g = some (.glob g [.iface t .junk])
  | 0 => ⟨_, _, RoS.empty W, rfl, fun g _ h => by omega⟩
  | n + 1 => by
    obtain ⟨m, S, h1, h2, h3⟩ := RoS.errs hg n
    by_cases hn : n ∈ gs
    · obtain ⟨te, v, t, fz, hc, hv⟩ := hg n hn
      subst h2
      refine ⟨_, _, RoS.globE h1 (vs := [.iface te .junk]) rfl ⟨_, t, fz, hc, by simp only [VRs, VR]; exact ⟨_, _, rfl, ⟨_, rfl, hv⟩, rfl⟩⟩, rfl, fun g hg' hlt' => ?_⟩
      rw [St.get_new]
      by_cases e : g = S.next
      · rw [if_pos e]; exact ⟨te, by rw [e]⟩
      · rw [if_neg e]; exact h3 g hg' (by omega)
    · exact ⟨_, _, RoS.place h1 ⟨0, 0, 0, false⟩, by simp [h2], fun g hg' hlt' => by
        obtain ⟨t, ht⟩ := h3 g hg' (by have : g ≠ n := fun e => hn (e ▸ hg'); omega)
        exact ⟨t, ht⟩⟩
theorem ErrTab.start {gs : List Nat} {n : Nat} {W : World} (hlt : ∀ g ∈ gs, g < n) (hg : ∀ g ∈ gs, ∃ te v t fz, W.heap[g]? = some (.cells #[.iface te v] t fz) ∧ v.oneCell' = true) (h : ∃ t fz, W.heap[n]? = some (.cells (Lib.pow10Tab.map (Value.int .u64)).toArray t fz)) : ∃ m S, RoS m S W ∧ ErrTab gs n S := by
  obtain ⟨t, fz, h⟩ := h
  obtain ⟨m, S, h1, rfl, h3⟩ := RoS.errs hg n
  refine ⟨_, _, RoS.globE h1 (vs := Lib.pow10Tab.map (V.int .u64)) (tab_plain _) ⟨_, t, fz, h, tab_vrs _ _⟩, fun g hgs => ?_, by rw [TabG, St.get_new, if_pos rfl]⟩
  obtain ⟨u, hu⟩ := h3 g hgs (hlt g hgs)
  exact ⟨u, by rw [St.get_new, if_neg (by have := hlt g hgs; omega)]; exact hu⟩

end Go.Th
end

section
/- Readings of types that stand within themselves: shapes to any depth. -/
set_option linter.unusedSimpArgs false
set_option linter.unusedVariables false
namespace Go.Th
open Go Go.RowKit Go.Lib Go.ChangeShapes Go.WideShapes Go.ChangeAt

def Sh.stop : Sh := .agg (.cons 0 .bool .nil)
theorem not_stop {S : St} {cs : List V} : ¬ Has S Sh.stop cs := by
  intro h
  simp [Sh.stop, Has, HasF] at h
def shOfR (P : Program) : Nat → TypeId → Option Sh
  | 0, _ => some Sh.stop
  | n + 1, t =>
    match P.underlying t with
    | some .bool => some .bool
    | some (.int k) => some (.int k)
    | some .string => some .str
    | some (.slice e) => if 0 < P.cellsOf e ∧ 0 < P.bytesOf e then obind (shOfR P n e) fun s => some (.slice (P.cellsOf e) (P.bytesOf e) s) else none
    | some (.struct fs) => obind (fsOf P (shOfR P n) (P.cellsOf t) 0 fs.toList) fun q => some (.agg q)
    | _ => none
section
variable {H : Type} {enc : TypeId × Value → H} {P : Program} {W : World} {held : Bool}
theorem read_okR : ∀ (n g : Nat) (t : TypeId) (cs : List Value) (x : DataW H × List MemPlace) (sh : Sh) (m : LM) (S : St), RoS m S W → DataW.trod enc P W 0 (fun _ => true) held n t cs = some x →
    shOfR P g t = some sh → (∀ z ∈ x.1.weights P t, z ≤ reachBytes) → n ≤ g → Gives W m S sh cs := by
  intro n
  induction n with
  | zero => intro g t cs x sh m S _ h; simp [DataW.trod] at h
  | succ n ih =>
    intro g t cs x sh m S hR h hs hw hng
    cases g with
    | zero => omega
    | succ g =>
      simp only [shOfR] at hs
      split at hs
      · rename_i ht
        cases hs
        obtain ⟨b, rfl, rfl⟩ := DataW.trod_bool ht h
        exact ⟨m, S, [.bool b], hR, Ext.refl m, Keep.refl S, by simp [VRs, VR], by simp only [Has]; exact ⟨b, rfl⟩⟩
      · rename_i k ht
        cases hs
        obtain ⟨z, rfl, rfl, hz⟩ := DataW.trod_int ht h
        exact ⟨m, S, [.int k z], hR, Ext.refl m, Keep.refl S, by simp [VRs, VR], by simp only [Has]; exact ⟨z, rfl, hz⟩⟩
      · rename_i ht
        cases hs
        obtain ⟨s, rfl, rfl, hz⟩ := DataW.trod_string ht h
        refine ⟨m, S, [.str s.data.toList], hR, Ext.refl m, Keep.refl S, by simp [VRs, VR], ?_⟩
        simp only [Has]
        exact ⟨_, rfl, hw _ (by simp [DataW.weights])⟩
      · rename_i e ht
        split at hs
        · rename_i hpos
          obtain ⟨sh', hsh, hs⟩ := obind_some hs
          cases hs
          rcases DataW.trod_slice ht h with ⟨rfl, rfl⟩ | ⟨a, len, cap, elems, rest, n', hn', rfl, rfl, _, hlc, _, hel, hget, hrest, _⟩
          · refine ⟨m, S, [.nilSlice], hR, Ext.refl m, Keep.refl S, by simp [VRs, VR], ?_⟩
            simp only [Has]
            exact ⟨.nilSlice, 0, [], rfl, ⟨by omega, by simp, .inl ⟨rfl, rfl⟩⟩, by simp, fun m hm => by omega⟩
          · cases hn'
            have hwl : (elems.length + rest.length) * P.bytesOf e ≤ reachBytes := by
              have := hw ((elems.length + rest.length) * P.bytesOf e) (by simp [DataW.weights, ht])
              exact this
            have hlen : len * P.bytesOf e ≤ reachBytes := by
              refine Nat.le_trans (Nat.mul_le_mul_right _ ?_) hwl
              omega
            -- the elements, one behind another
            have hall : ∀ j, j ≤ len → ∃ (m' : LM) (S' : St) (vs : List V), RoS m' S' W ∧ Ext m m' ∧ Keep S S' ∧ vs.length = j * P.cellsOf e ∧
                (∀ q v, vs[q]? = some v → a = ⟨a.block, a.off, none⟩ ∧ a.block < W.heap.size ∧ ∃ u, W.cell? ⟨a.block, a.off + q, none⟩ = some u ∧ VR m' v u) ∧ (∀ i, i < j → Has S' sh' ((vs.drop (i * P.cellsOf e)).take (P.cellsOf e))) := by
              intro j
              induction j with
              | zero => intro _; exact ⟨m, S, [], hR, Ext.refl m, Keep.refl S, by simp, by simp, fun i hi => by omega⟩
              | succ j ihj =>
                intro hj
                obtain ⟨m1, S1, vs, hR1, hx1, hk1, hl1, hc1, hh1⟩ := ihj (by omega)
                have hg := hget j (by omega)
                obtain ⟨y, hy⟩ : ∃ y, elems[j]? = some y := ⟨elems[j], List.getElem?_eq_getElem (by omega)⟩
                rw [hy] at hg
                simp only [Option.bind_eq_some_iff] at hg
                obtain ⟨cj, hcj, htj⟩ := hg
                obtain ⟨hcl, hcg⟩ := cells?_get hcj
                obtain ⟨m2, S2, vj, hR2, hx2, hk2, hv2, hh2⟩ := ih g e cj y sh' m1 S1 hR1 htj hsh (fun z hz => hw z (by
                  simp only [DataW.weights, ht, List.mem_cons, List.mem_append]
                  refine .inr (.inl (weightsAll_mem (List.mem_map.mpr ⟨y, List.mem_of_getElem? hy, rfl⟩) z hz)))) (by omega)
                have hvl : vj.length = P.cellsOf e := by rw [← hv2.length]; exact hcl
                refine ⟨m2, S2, vs ++ vj, hR2, hx1.trans hx2, hk1.trans hk2, by rw [List.length_append, hl1, hvl, Nat.succ_mul], ?_, ?_⟩
                · intro q v hq
                  rw [List.getElem?_append] at hq
                  split at hq
                  · rename_i hql
                    obtain ⟨h0, h0', u, hu, r⟩ := hc1 q v hq
                    exact ⟨h0, h0', u, hu, VR.mono hx2 _ _ r⟩
                  · rename_i hql
                    rw [hl1] at hq hql
                    obtain ⟨u, hu, r⟩ := hv2.get hq
                    have hcell := hcg _ _ hu
                    obtain ⟨e1, e2⟩ := add_add_off a (j * P.cellsOf e) (q - j * P.cellsOf e)
                    have hsp := cell?_spot hcell
                    rw [e1, e2] at hsp
                    have hoff : a.off + (j * P.cellsOf e + (q - j * P.cellsOf e)) = a.off + q := by omega
                    rw [hoff] at hsp
                    rw [hsp.1] at hcell
                    refine ⟨?_, hsp.2, u, hcell, r⟩
                    -- the first cell of all
                    have h0 := hget 0 (by omega)
                    obtain ⟨y0, hy0⟩ : ∃ y, elems[0]? = some y := ⟨elems[0], List.getElem?_eq_getElem (by omega)⟩
                    rw [hy0] at h0
                    simp only [Option.bind_eq_some_iff] at h0
                    obtain ⟨c0, hc0, _⟩ := h0
                    obtain ⟨h0l, h0g⟩ := cells?_get hc0
                    have := h0g 0 _ (List.getElem?_eq_getElem (by rw [h0l]; exact hpos.1))
                    have hsp0 := (cell?_spot this).1
                    simpa [Addr.add] using hsp0
                · intro i hi
                  by_cases hij : i = j
                  · subst hij
                    rw [List.drop_append, List.drop_of_length_le (by omega), hl1, Nat.sub_self, List.drop_zero, List.nil_append, List.take_of_length_le (by omega)]
                    exact hh2
                  · have hle : (i + 1) * P.cellsOf e ≤ j * P.cellsOf e := Nat.mul_le_mul_right _ (by omega)
                    rw [Nat.succ_mul] at hle
                    rw [List.drop_append_of_le_length (by omega), List.take_append_of_le_length (by rw [List.length_drop]; omega)]
                    exact Has.keep hk2 _ _ (hh1 i (by omega))
            obtain ⟨m1, S1, vs, hR1, hx1, hk1, hl1, hc1, hh1⟩ := hall len (Nat.le_refl _)
            have hn62 : len ≤ 4611686018427387904 := by
              have h1 : len * 1 ≤ len * P.bytesOf e := Nat.mul_le_mul_left _ hpos.2
              have : reachBytes = 140737488351232 := rfl
              omega
            have hplace : 0 < cap → a = ⟨a.block, a.off, none⟩ := by
              intro hcap
              by_cases h0 : 0 < len
              · obtain ⟨v, hv⟩ : ∃ v, vs[0]? = some v := ⟨vs[0]'(by rw [hl1]; exact Nat.mul_pos h0 hpos.1), List.getElem?_eq_getElem _⟩
                exact (hc1 0 v hv).1
              · obtain ⟨hrl, hrg⟩ := hrest rfl
                have h0 := hrg 0 (by omega)
                obtain ⟨y0, hy0⟩ : ∃ y, rest[0]? = some y := ⟨rest[0]'(by omega), List.getElem?_eq_getElem _⟩
                rw [hy0] at h0
                simp only [Option.bind_eq_some_iff] at h0
                obtain ⟨c0, hc0, _⟩ := h0
                obtain ⟨h0l, h0g⟩ := cells?_get hc0
                have h00 : len = 0 := by omega
                have := h0g 0 _ (List.getElem?_eq_getElem (by rw [h0l]; exact hpos.1))
                have hsp0 := (cell?_spot this).1
                simpa [Addr.add, h00] using hsp0
            have hok : SliceOk ⟨a.block, a.off, 0, false⟩ 0 len len (P.cellsOf e) false a cap := ⟨Nat.le_refl _, hlc, by simp, fun h => by simpa using hplace h, fun _ => rfl, fun e => (by cases e), fun e => (by cases e)⟩
            by_cases hz : len = 0
            · subst hz
              have hR2 := hR1.place ⟨a.block, a.off, 0, false⟩
              have hx2 : Ext m1 (m1.put S1.next ⟨a.block, a.off, 0, false⟩) := LM.ext_put _ (hR1.sim.freshM _ (Nat.le_refl _))
              refine ⟨_, _, [.slice S1.next 0 0 0 (P.cellsOf e) false], hR2, hx1.trans hx2, hk1, ?_, ?_⟩
              · simp only [VRs]
                exact ⟨_, [], rfl, by simp only [VR]; exact ⟨_, a, cap, LM.put_same _ _ _, rfl, hok⟩, rfl⟩
              · simp only [Has]
                exact ⟨_, 0, [], rfl, ⟨by omega, by simp, .inr ⟨_, _, _, _, rfl, Nat.le_refl _, by simp [St.loads]⟩⟩, by simp, fun m hm => by omega⟩
            · have hlt : a.block < W.heap.size := by
                obtain ⟨v, hv⟩ : ∃ v, vs[0]? = some v := ⟨vs[0]'(by rw [hl1]; exact Nat.mul_pos (by omega) hpos.1), List.getElem?_eq_getElem _⟩
                exact (hc1 0 v hv).2.1
              have hR2 := hR1.look (vs := vs) (L := ⟨a.block, a.off, 0, false⟩) rfl hlt (fun j v hj => by
                obtain ⟨_, _, u, h1, h2⟩ := hc1 j v hj
                exact ⟨u, h1, h2⟩)
              have hx2 : Ext m1 (m1.put S1.next ⟨a.block, a.off, 0, false⟩) := LM.ext_put _ (hR1.sim.freshM _ (Nat.le_refl _))
              have hk2 := hR1.new_keep (.cells vs false)
              refine ⟨_, _, [.slice S1.next 0 len len (P.cellsOf e) false], hR2, hx1.trans hx2, hk1.trans hk2, ?_, ?_⟩
              · simp only [VRs]
                exact ⟨_, [], rfl, by simp only [VR]; exact ⟨_, a, cap, LM.put_same _ _ _, rfl, hok⟩, rfl⟩
              · simp only [Has]
                refine ⟨_, len, vs, rfl, ⟨hn62, hl1, .inr ⟨_, _, _, _, rfl, Nat.le_refl _, ?_⟩⟩, hlen, fun i hi => Has.keep hk2 _ _ (hh1 i hi)⟩
                rw [St.loads_of (cs := vs) (own := false) (by simp) (by omega), List.drop_zero, ← hl1, List.take_length]
        · cases hs
      · rename_i fs ht
        obtain ⟨q, hq, hs⟩ := obind_some hs
        cases hs
        obtain ⟨xs, n', hn', rfl, hcl, hxl, hget⟩ := DataW.trod_struct ht h
        cases hn'
        have hfl : ∀ (fl : List Field) (off : Nat) (q : Fs) (m : LM) (S : St), RoS m S W → fsOf P (shOfR P g) (P.cellsOf t) off fl = some q → (∀ f ∈ fl, ∃ i : Nat, fs[i]? = some f) →
            ∃ m' S' vs, RoS m' S' W ∧ Ext m m' ∧ Keep S S' ∧ VRs m' vs (cs.drop off) ∧ HasF S' q vs := by
          intro fl
          induction fl with
          | nil =>
            intro off q m S hR hq _
            simp only [fsOf] at hq
            split at hq
            · rename_i ho
              cases hq
              refine ⟨m, S, [], hR, Ext.refl m, Keep.refl S, ?_, by simp [HasF]⟩
              simp only [VRs]
              rw [List.drop_eq_nil_iff]; omega
            · cases hq
          | cons f fl ihf =>
            intro off q m S hR hq hmem
            simp only [fsOf] at hq
            split at hq
            · rename_i ho
              obtain ⟨s, hsf, hq⟩ := obind_some hq
              obtain ⟨q', hq', hq⟩ := obind_some hq
              cases hq
              obtain ⟨i, hi⟩ := hmem f (List.mem_cons_self ..)
              have htr := hget i f hi
              obtain ⟨y, hy⟩ : ∃ y, xs[i]? = some y := by
                have : i < fs.size := by
                  rcases Nat.lt_or_ge i fs.size with h' | h'
                  · exact h'
                  · rw [Array.getElem?_eq_none h'] at hi; cases hi
                exact ⟨xs[i], List.getElem?_eq_getElem (by omega)⟩
              rw [hy] at htr
              obtain ⟨m1, S1, v1, hR1, hx1, hk1, hv1, hh1⟩ := ih g f.type _ y s m S hR htr hsf (fun z hz => hw z (by
                simp only [DataW.weights, ht]
                exact DataW.weights_mem_each (j := i) (by simp; exact ⟨f, by simpa using hi, rfl⟩) (by simp [hy]) z hz)) (by omega)
              obtain ⟨m2, S2, v2, hR2, hx2, hk2, hv2, hh2⟩ := ihf (off + P.cellsOf f.type) q' m1 S1 hR1 hq' (fun f' hf' => hmem f' (List.mem_cons_of_mem _ hf'))
              have hle := fsOf_le hq'
              have hvl : v1.length = P.cellsOf f.type := by
                rw [← hv1.length, List.length_take, List.length_drop]; omega
              refine ⟨m2, S2, v1 ++ v2, hR2, hx1.trans hx2, hk1.trans hk2, ?_, ?_⟩
              · have := (VRs.mono hx2 _ _ hv1).append hv2
                rw [ho, ← List.drop_drop, List.take_append_drop] at this
                exact this
              · simp only [HasF]
                rw [List.take_left' hvl, List.drop_left' hvl]
                exact ⟨Has.keep hk2 _ _ hh1, hh2⟩
            · cases hq
        obtain ⟨m', S', vs, h1, h2, h3, h4, h5⟩ := hfl fs.toList 0 q m S hR hq (fun f hf => by
          obtain ⟨i, hi⟩ := List.getElem?_of_mem hf
          exact ⟨i, by simpa using hi⟩)
        exact ⟨m', S', vs, h1, h2, h3, by simpa using h4, by simp only [Has]; exact h5⟩
      · cases hs
def HasAsR (P : Program) (S : St) : List TypeId → List V → Prop
  | [], avs => avs = []
  | t :: ts, avs => ∃ a avs' g sh, avs = a :: avs' ∧ shOfR P g t = some sh ∧ HasA S sh a ∧ HasAsR P S ts avs'
theorem shOfR_agg {P : Program} {g : Nat} {t : TypeId} {sh : Sh} (h : shOfR P (g + 1) t = some sh) :
    (∃ fs q, P.underlying t = some (.struct fs) ∧ sh = .agg q) ∨ ((∀ q, sh ≠ .agg q) ∧ (P.underlying t = some .bool ∨ (∃ k, P.underlying t = some (.int k)) ∨ P.underlying t = some .string ∨ ∃ e, P.underlying t = some (.slice e))) := by
  · simp only [shOfR] at h
    split at h
    · rename_i ht; cases h; exact .inr ⟨fun q => (by intro e; cases e), .inl ht⟩
    · rename_i k ht; cases h; exact .inr ⟨fun q => (by intro e; cases e), .inr (.inl ⟨k, ht⟩)⟩
    · rename_i ht; cases h; exact .inr ⟨fun q => (by intro e; cases e), .inr (.inr (.inl ht))⟩
    · rename_i e ht
      split at h
      · obtain ⟨s, _, h⟩ := obind_some h
        cases h
        exact .inr ⟨fun q => (by intro e; cases e), .inr (.inr (.inr ⟨e, ht⟩))⟩
      · cases h
    · rename_i fs ht
      obtain ⟨q, _, h⟩ := obind_some h
      cases h
      exact .inl ⟨fs, q, ht, rfl⟩
    · cases h

theorem reads_okR {base : Nat} : ∀ {ts : List TypeId} {args : List Value} {ds : List (DataW H)} {ps : List MemPlace} {m : LM} {S : St}, RoS m S W → DataW.TrodAll enc P W 0 (fun _ => true) true ts args ds ps →
    (∀ t ∈ ts, ∀ g, (shOfR P g t).isSome = true) → (∀ z ∈ DataW.weightsEach P ts ds, z ≤ reachBytes) → (∀ (j : Nat) t v, ts[j]? = some t → args[j]? = some v → Value.okWide P W .any base t v) →
    ∃ m' S' avs, RoS m' S' W ∧ Ext m m' ∧ Keep S S' ∧ VRs m' avs args ∧ HasAsR P S' ts avs
  | [], args, ds, ps, m, S, hR, h, hs, hw, hv => by
    obtain ⟨rfl, rfl, rfl⟩ := trodAll_nil h
    exact ⟨m, S, [], hR, Ext.refl m, Keep.refl S, rfl, rfl⟩
  | t :: ts, args, ds, ps, m, S, hR, h, hs, hw, hv => by
    obtain ⟨v, vs, d, ds', p, q, rfl, rfl, rfl, ⟨n, htr⟩, hr⟩ := trodAll_cons h
    obtain ⟨s, hs1⟩ := Option.isSome_iff_exists.mp (hs t (List.mem_cons_self ..) (n + 1))
    have hs2 : ∀ t ∈ ts, ∀ g, (shOfR P g t).isSome = true := fun t ht => hs t (List.mem_cons_of_mem _ ht)
    obtain ⟨m1, S1, vs1, hR1, hx1, hk1, hv1, hh1⟩ := read_okR n (n + 1) t _ _ s m S hR htr hs1 (fun z hz => hw z (by simp only [DataW.weightsEach, List.mem_append]; exact .inl hz)) (by omega)
    obtain ⟨m2, S2, as2, hR2, hx2, hk2, hv2, hh2⟩ := reads_okR hR1 hr hs2 (fun z hz => hw z (by simp only [DataW.weightsEach, List.mem_append]; exact .inr hz)) (fun j t' v' ht' hv' => hv (j + 1) t' v' (by simpa using ht') (by simpa using hv'))
    have hok := hv 0 t v rfl rfl
    have hone : ∃ a, VR m1 a v ∧ HasA S1 s a := by
      rcases shOfR_agg hs1 with ⟨fs, q', ht, rfl⟩ | ⟨hne, ht⟩
      · obtain ⟨cs, rfl⟩ := okWide_agg ht hok
        refine ⟨.agg vs1, by simp only [VR]; exact ⟨cs, rfl, hv1⟩, ?_⟩
        simp only [Has] at hh1
        exact ⟨vs1, rfl, hh1⟩
      · have hc := okWide_cells ht hok
        rw [hc] at hv1
        cases vs1 with
        | nil => simp [VRs] at hv1
        | cons a r =>
          simp only [VRs] at hv1
          obtain ⟨u, us', he, ha, hr'⟩ := hv1
          simp only [List.cons.injEq] at he
          obtain ⟨rfl, rfl⟩ := he
          cases r with
          | cons b r => simp [VRs] at hr'
          | nil =>
            refine ⟨a, ha, ?_⟩
            cases s with
            | agg q => exact absurd rfl (hne q)
            | bool => exact hh1
            | int k => exact hh1
            | str => exact hh1
            | slice k b e => exact hh1
    obtain ⟨a, ha, hh⟩ := hone
    exact ⟨m2, S2, a :: as2, hR2, hx1.trans hx2, hk1.trans hk2, by simp only [VRs]; exact ⟨v, vs, rfl, VR.mono hx2 _ _ ha, hv2⟩, a, as2, _, s, rfl, hs1, hh.keep hk2, hh2⟩

theorem law_contractR {Q : St → Prop} {fn : Func} {f : FuncId} {s : ChangeSpec} {rt : TypeId}
    (hl : laidOutB P = true) (hlt : f.blt P.funcs.size = true) (hr : (fn.params.toList.all fun t => P.readableRec t && decide (t < P.types.size)) = true) (hsh : ∀ t ∈ fn.params.toList, ∀ g, (shOfR P g t).isSome = true)
    (hres : fn.resultTypes = #[rt]) (hrt : P.underlying rt = some .bool) (hvars : s.vars = [])
    (hfn : ∀ (ds : List (DataW H)), ds.length = fn.params.size → s.fn H ds = { results := [.lit (.bool true)], args := ds })
    (hQ : ∀ S S', (∀ i b, S.get i = some b → S'.get i = some b) → Q S → Q S')
    (spec : ∀ (S : St) (avs : List V), S.Wf → Q S → HasAsR P S fn.params.toList avs → CallA P f avs S (fun r _ => r = .ret (.bool true)))
    (hgl : ∃ m S, RoS m S W ∧ Q S)
    {base : Nat} {args : Array Value} {ds gs : List (DataW H)} {before : List MemPlace}
    (hval : ∀ (j : Nat) t v, fn.params[j]? = some t → args[j]? = some v → Value.okWide P W .any base t v)
    (hW : DataW.Whole enc P fn.params.toList s.vars false W args.toList ds gs before)
    (hsz : (DataW.weightsEach P (fn.params.toList ++ s.plain.varTypes P) (ds ++ gs)).all (· ≤ reachBytes) = true) :
    Calls P f args W fun e W' => ∃ v, e = .returned v ∧ s.post enc P fn false true false false W args v W' := by
  have hW' := hW
  obtain ⟨p, q, hA, hV, rfl, hfz, hnd⟩ := hW
  rw [hvars] at hV
  obtain ⟨rfl, rfl⟩ := trodVars_none hV
  have hlen : ds.length = fn.params.size := by
    have : ∀ {ts : List TypeId} {vs : List Value} {ds : List (DataW H)} {ps : List MemPlace}, DataW.TrodAll enc P W 0 (fun _ => true) true ts vs ds ps → ds.length = ts.length := by
      intro ts
      induction ts with
      | nil => intro vs ds ps h; obtain ⟨_, rfl, _⟩ := trodAll_nil h; rfl
      | cons t ts ih =>
        intro vs ds ps h
        obtain ⟨v, vs', d, ds', p, q, rfl, rfl, rfl, _, h2⟩ := trodAll_cons h
        simp [ih h2]
    rw [this hA, Array.length_toList]
  have hw : ∀ z ∈ DataW.weightsEach P fn.params.toList ds, z ≤ reachBytes := by
    intro z hz
    have := List.all_eq_true.mp hsz z (by
      rw [List.append_nil]
      have : ∀ (ts us : List TypeId) (ds : List (DataW H)), ∀ z ∈ DataW.weightsEach P ts ds, z ∈ DataW.weightsEach P (ts ++ us) ds := by
        intro ts
        induction ts with
        | nil => intro us ds z hz; simp [DataW.weightsEach] at hz
        | cons t ts ih =>
          intro us ds z hz
          cases ds with
          | nil => simp [DataW.weightsEach] at hz
          | cons d ds =>
            simp only [List.cons_append, DataW.weightsEach, List.mem_append] at hz ⊢
            rcases hz with h | h
            · exact .inl h
            · exact .inr (ih us ds z h)
      exact this _ _ _ z hz)
    simpa using this
  obtain ⟨m0, S0, hR0, hG0⟩ := hgl
  obtain ⟨m, S, avs, hR, _, hk, hv, hh⟩ := reads_okR (base := base) hR0 hA hsh hw (fun j t v ht hv => hval j t v (by simpa using ht) (by simpa using hv))
  have hGV : Q S := hQ S0 S hk hG0
  refine ((spec S avs hR.sim.freshS hGV hh m _ W W args hR.sim hv).1 (Nat.blt_eq ▸ hlt)).mono ?_
  rintro e W' ⟨r, S', m', rfl, _, hS', hres'⟩
  obtain ⟨u, rfl, hu⟩ := hres'
  simp only [VR] at hu
  subst hu
  have hb := hS'.below
  refine ⟨_, rfl, ds, [], p ++ [], [], p, [], hW', ?_, ?_, ?_, hb.frame _, fun h => by cases h⟩
  · rw [hfn _ (by simpa using hlen), hres]
    exact trodAll_mk1 (shut_bool hrt _)
  · rw [hfn _ (by simpa using hlen), List.append_nil]
    exact Below.trodAll hl hb hr hA
  · rw [hfn _ (by simpa using hlen), hvars]
    exact rfl
end
end Go.Th
end
