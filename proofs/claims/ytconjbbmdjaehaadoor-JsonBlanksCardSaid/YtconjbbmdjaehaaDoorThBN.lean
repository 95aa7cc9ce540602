/- What the row of one statement stands on: a store, abstract code, functions of the program and their laws (ThN). -/
import Derived.Test.YtconjbbmdjaehaaDoorThBM
import Derived.SizedLaws
import Derived.ChangeArms

section
/- What comes in: readings as abstract values over a store that is looked at only. -/
set_option linter.unusedSimpArgs false
set_option linter.unusedVariables false
namespace Go.Th
open Go.RowKit Go.Lib

mutual
inductive Sh where
  | bool
  | int (k : IntKind)
  | str
  | slice (k bytes : Nat) (e : Sh)
  | agg (fs : Fs)
inductive Fs where
  | nil
  | cons (size : Nat) (s : Sh) (r : Fs)
end

mutual
def Has (S : St) : Sh → List V → Prop
  | .bool, cs => ∃ b, cs = [.bool b]
  | .int k, cs => ∃ n, cs = [.int k n] ∧ (Lit.int k n).wf = true
  | .str, cs => ∃ s : List UInt8, cs = [.str s] ∧ s.length ≤ reachBytes
  | .slice k by_ e, cs => ∃ v n es, cs = [v] ∧ SlAt S k v n es ∧ n * by_ ≤ reachBytes ∧ ∀ m, m < n → Has S e ((es.drop (m * k)).take k)
  | .agg fs, cs => HasF S fs cs
def HasF (S : St) : Fs → List V → Prop
  | .nil, cs => cs = []
  | .cons size s r, cs => Has S s (cs.take size) ∧ HasF S r (cs.drop size)
end

def fsOf (P : Program) (sh : TypeId → Option Sh) (total : Nat) : Nat → List Field → Option Fs
  | off, [] => if off = total then some .nil else none
  | off, f :: r => if f.offset = off then obind (sh f.type) fun s => obind (fsOf P sh total (off + P.cellsOf f.type) r) fun q => some (.cons (P.cellsOf f.type) s q) else none

def shOf (P : Program) : Nat → TypeId → Option Sh
  | 0, _ => none
  | n + 1, t =>
    match P.underlying t with
    | some .bool => some .bool
    | some (.int k) => some (.int k)
    | some .string => some .str
    | some (.slice e) => if 0 < P.cellsOf e ∧ 0 < P.bytesOf e then obind (shOf P n e) fun s => some (.slice (P.cellsOf e) (P.bytesOf e) s) else none
    | some (.struct fs) => obind (fsOf P (shOf P n) (P.cellsOf t) 0 fs.toList) fun q => some (.agg q)
    | _ => none

def Keep (S S' : St) : Prop := ∀ i b, S.get i = some b → S'.get i = some b

theorem Keep.refl (S : St) : Keep S S := fun _ _ h => h
theorem Keep.trans {a b c : St} (h : Keep a b) (k : Keep b c) : Keep a c := fun i x hi => k i x (h i x hi)

theorem SlAt.keep {S S' : St} {k : Nat} {v : V} {n : Nat} {cs : List V} (h : SlAt S k v n cs) (g : Keep S S') : SlAt S' k v n cs := by
  obtain ⟨h1, h2, h3⟩ := h
  refine ⟨h1, h2, ?_⟩
  rcases h3 with h | ⟨i, o, c, t, rfl, hc, hl⟩
  · exact .inl h
  · refine .inr ⟨i, o, c, t, rfl, hc, ?_⟩
    by_cases hz : n * k = 0
    · rw [hz] at hl ⊢
      rw [St.loads_zero hl]; simp [St.loads]
    · obtain ⟨vs, own, hg, h4, rfl⟩ := St.loads_pos hl (by omega)
      exact St.loads_of (g _ _ hg) h4

mutual
theorem Has.keep {S S' : St} (g : Keep S S') : ∀ (sh : Sh) (cs : List V), Has S sh cs → Has S' sh cs
  | .bool, cs, h => by simpa only [Has] using h
  | .int k, cs, h => by simpa only [Has] using h
  | .str, cs, h => by simpa only [Has] using h
  | .slice k b e, cs, h => by
    simp only [Has] at h ⊢
    obtain ⟨v, n, es, rfl, h1, h2, h3⟩ := h
    exact ⟨v, n, es, rfl, h1.keep g, h2, fun m hm => Has.keep g e _ (h3 m hm)⟩
  | .agg fs, cs, h => by
    simp only [Has] at h ⊢
    exact HasF.keep g fs cs h
theorem HasF.keep {S S' : St} (g : Keep S S') : ∀ (fs : Fs) (cs : List V), HasF S fs cs → HasF S' fs cs
  | .nil, cs, h => by simpa only [HasF] using h
  | .cons size s r, cs, h => by
    simp only [HasF] at h ⊢
    exact ⟨Has.keep g s _ h.1, HasF.keep g r _ h.2⟩
end

structure RoS (m : LM) (S : St) (W : World) : Prop where
  sim : Sim m S W.heap.size W W
  ro : ∀ i b, S.get i = some b → b.own = false

theorem RoS.empty (W : World) : RoS (fun _ => none) St.empty W := ⟨Sim.empty W, fun i b h => by simp at h⟩

theorem RoS.place {m : LM} {S : St} {W : World} (h : RoS m S W) (L : Loc) : RoS (m.put S.next L) ⟨S.mem, S.next + 1⟩ W := by
  have hg : ∀ i, (⟨S.mem, S.next + 1⟩ : St).get i = S.get i := fun _ => rfl
  have hx : Ext m (m.put S.next L) := LM.ext_put L (h.sim.freshM _ (Nat.le_refl _))
  refine ⟨⟨h.sim.below, h.sim.base_le, ?_, ?_, ?_, ?_⟩, fun i b hi => h.ro i b (by rw [← hg]; exact hi)⟩
  · intro i hi
    rw [hg]; exact h.sim.freshS i (by simp only at hi; omega)
  · intro i hi
    simp only at hi
    rw [LM.put_other m L (by omega)]; exact h.sim.freshM i (by omega)
  · intro i b hi
    rw [hg] at hi
    obtain ⟨L', h1, h2, h3⟩ := h.sim.blk i b hi
    exact ⟨L', hx _ _ h1, h2.keep hx (Nat.le_refl _) rfl, h3⟩
  · intro i j b b' L1 L2 hij h1 h2 ho
    rw [hg] at h1
    rw [h.ro i b h1] at ho; cases ho

theorem RoS.look {m : LM} {S : St} {W : World} (h : RoS m S W) {vs : List V} {L : Loc} (hL : L.own = false) (hb : L.block < W.heap.size) (hc : ∀ j v, vs[j]? = some v → ∃ u, W.cell? ⟨L.block, L.off + j, none⟩ = some u ∧ VR m v u) :
    RoS (m.put S.next L) (S.new (.cells vs false)) W := by
  have hx : Ext m (m.put S.next L) := LM.ext_put L (h.sim.freshM _ (Nat.le_refl _))
  have hro : ∀ i b, (S.new (.cells vs false)).get i = some b → b.own = false := by
    intro i b hi
    rw [St.get_new] at hi
    split at hi
    · cases hi; rfl
    · exact h.ro i b hi
  refine ⟨⟨h.sim.below, h.sim.base_le, ?_, ?_, ?_, ?_⟩, hro⟩
  · intro i hi
    simp only [St.next_new] at hi
    rw [St.get_new, if_neg (by omega)]; exact h.sim.freshS i (by omega)
  · intro i hi
    simp only [St.next_new] at hi
    rw [LM.put_other m L (by omega)]; exact h.sim.freshM i (by omega)
  · intro i b hi
    rw [St.get_new] at hi
    split at hi
    · rename_i e
      subst e
      cases hi
      refine ⟨L, LM.put_same m _ _, ⟨hb, ?_, fun e => (by rw [hL] at e; cases e), fun e => by cases e⟩, fun e => by cases e⟩
      intro j v hj
      obtain ⟨u, h1, h2⟩ := hc j v hj
      exact ⟨u, h1, VR.mono hx _ _ h2⟩
    · obtain ⟨L', h1, h2, h3⟩ := h.sim.blk i b hi
      exact ⟨L', hx _ _ h1, h2.keep hx (Nat.le_refl _) rfl, h3⟩
  · intro i j b b' L1 L2 hij h1 h2 ho
    rw [hro i b h1] at ho; cases ho

theorem weightsAll_mem {H : Type} {P : Program} {e : TypeId} : ∀ {l : List (DataW H)} {d : DataW H}, d ∈ l → ∀ n ∈ d.weights P e, n ∈ DataW.weightsAll P e l
  | x :: l, d, hd, n, hn => by
    simp only [DataW.weightsAll, List.mem_append]
    rcases List.mem_cons.mp hd with rfl | h
    · exact .inl hn
    · exact .inr (weightsAll_mem h n hn)

theorem cells?_get {w : World} {a : Addr} {n : Nat} {cs : List Value} (h : w.cells? 0 a n = some cs) : cs.length = n ∧ ∀ j u, cs[j]? = some u → w.cell? (a.add j) = some u := by
  unfold World.cells? at h
  rw [if_pos (Nat.zero_le _)] at h
  have hl := mapM_some_length h
  refine ⟨by simpa using hl, fun j u hj => ?_⟩
  have hjl : j < n := by
    rcases Nat.lt_or_ge j cs.length with h' | h'
    · rw [hl] at h'; simpa using h'
    · rw [List.getElem?_eq_none h'] at hj; cases hj
  have := mapM_some_get h j j (by simp [hjl])
  rw [this, hj]

theorem cell?_spot {w : World} {a : Addr} {u : Value} (h : w.cell? a = some u) : a = ⟨a.block, a.off, none⟩ ∧ a.block < w.heap.size := by
  unfold World.cell? at h
  split at h
  · rename_i c t f hb
    split at h
    · cases h
    · rename_i hs
      refine ⟨?_, ?_⟩
      · cases a; simp_all
      · rcases Nat.lt_or_ge a.block w.heap.size with h' | h'
        · exact h'
        · simp [Array.getElem?_eq_none h'] at hb
  · cases h

theorem add_add_off (a : Addr) (x y : Nat) : ((a.add x).add y).block = a.block ∧ ((a.add x).add y).off = a.off + (x + y) := by
  unfold Addr.add
  split <;> split <;> simp_all <;> omega

theorem fsOf_le {P : Program} {sh : TypeId → Option Sh} {total : Nat} : ∀ {off : Nat} {l : List Field} {q : Fs}, fsOf P sh total off l = some q → off ≤ total
  | off, [], q, h => by
    simp only [fsOf] at h
    split at h
    · omega
    · cases h
  | off, f :: r, q, h => by
    simp only [fsOf] at h
    split at h
    · obtain ⟨s, _, h⟩ := obind_some h
      obtain ⟨q', hq, _⟩ := obind_some h
      have := fsOf_le hq
      omega
    · cases h

section
variable {H : Type} {enc : TypeId × Value → H} {P : Program} {W : World} {held : Bool}

def Gives (W : World) (m : LM) (S : St) (sh : Sh) (cs : List Value) : Prop :=
  ∃ m' S' vs, RoS m' S' W ∧ Ext m m' ∧ Keep S S' ∧ VRs m' vs cs ∧ Has S' sh vs

theorem RoS.new_keep {m : LM} {S : St} {W : World} (h : RoS m S W) (b : Blk) : Keep S (S.new b) := by
  intro i x hi
  rw [St.get_new, if_neg]
  · exact hi
  · rintro rfl
    rw [h.sim.freshS _ (Nat.le_refl _)] at hi; cases hi

theorem read_ok : ∀ (n g : Nat) (t : TypeId) (cs : List Value) (x : DataW H × List MemPlace) (sh : Sh) (m : LM) (S : St), RoS m S W → DataW.trod enc P W 0 (fun _ => true) held n t cs = some x →
    shOf P g t = some sh → (∀ z ∈ x.1.weights P t, z ≤ reachBytes) → Gives W m S sh cs := by
  intro n
  induction n with
  | zero => intro g t cs x sh m S _ h; simp [DataW.trod] at h
  | succ n ih =>
    intro g t cs x sh m S hR h hs hw
    cases g with
    | zero => cases hs
    | succ g =>
      simp only [shOf] at hs
      split at hs
      · rename_i ht
        cases hs
        obtain ⟨b, rfl, rfl⟩ := DataW.trod_bool ht h
        exact ⟨m, S, [.bool b], hR, Ext.refl m, Keep.refl S, by simp [VRs, VR], by simp only [Has]; exact ⟨b, rfl⟩⟩
      · rename_i k ht
        cases hs
        obtain ⟨z, rfl, rfl, hz⟩ := DataW.trod_int ht h
        exact ⟨m, S, [.int k z], hR, Ext.refl m, Keep.refl S, by simp [VRs, VR], by simp only [Has]; exact ⟨z, rfl, hz⟩⟩
      · rename_i ht
        cases hs
        obtain ⟨s, rfl, rfl, hz⟩ := DataW.trod_string ht h
        refine ⟨m, S, [.str s.data.toList], hR, Ext.refl m, Keep.refl S, by simp [VRs, VR], ?_⟩
        simp only [Has]
        exact ⟨_, rfl, hw _ (by simp [DataW.weights])⟩
      · rename_i e ht
        split at hs
        · rename_i hpos
          obtain ⟨sh', hsh, hs⟩ := obind_some hs
          cases hs
          rcases DataW.trod_slice ht h with ⟨rfl, rfl⟩ | ⟨a, len, cap, elems, rest, n', hn', rfl, rfl, _, hlc, _, hel, hget, hrest, _⟩
          · refine ⟨m, S, [.nilSlice], hR, Ext.refl m, Keep.refl S, by simp [VRs, VR], ?_⟩
            simp only [Has]
            exact ⟨.nilSlice, 0, [], rfl, ⟨by omega, by simp, .inl ⟨rfl, rfl⟩⟩, by simp, fun m hm => by omega⟩
          · cases hn'
            have hwl : (elems.length + rest.length) * P.bytesOf e ≤ reachBytes := by
              have := hw ((elems.length + rest.length) * P.bytesOf e) (by simp [DataW.weights, ht])
              exact this
            have hlen : len * P.bytesOf e ≤ reachBytes := by
              refine Nat.le_trans (Nat.mul_le_mul_right _ ?_) hwl
              omega
            -- the elements, one behind another
            have hall : ∀ j, j ≤ len → ∃ (m' : LM) (S' : St) (vs : List V), RoS m' S' W ∧ Ext m m' ∧ Keep S S' ∧ vs.length = j * P.cellsOf e ∧
                (∀ q v, vs[q]? = some v → a = ⟨a.block, a.off, none⟩ ∧ a.block < W.heap.size ∧ ∃ u, W.cell? ⟨a.block, a.off + q, none⟩ = some u ∧ VR m' v u) ∧ (∀ i, i < j → Has S' sh' ((vs.drop (i * P.cellsOf e)).take (P.cellsOf e))) := by
              intro j
              induction j with
              | zero => intro _; exact ⟨m, S, [], hR, Ext.refl m, Keep.refl S, by simp, by simp, fun i hi => by omega⟩
              | succ j ihj =>
                intro hj
                obtain ⟨m1, S1, vs, hR1, hx1, hk1, hl1, hc1, hh1⟩ := ihj (by omega)
                have hg := hget j (by omega)
                obtain ⟨y, hy⟩ : ∃ y, elems[j]? = some y := ⟨elems[j], List.getElem?_eq_getElem (by omega)⟩
                rw [hy] at hg
                simp only [Option.bind_eq_some_iff] at hg
                obtain ⟨cj, hcj, htj⟩ := hg
                obtain ⟨hcl, hcg⟩ := cells?_get hcj
                obtain ⟨m2, S2, vj, hR2, hx2, hk2, hv2, hh2⟩ := ih g e cj y sh' m1 S1 hR1 htj hsh (fun z hz => hw z (by
                  simp only [DataW.weights, ht, List.mem_cons, List.mem_append]
                  refine .inr (.inl (weightsAll_mem (List.mem_map.mpr ⟨y, List.mem_of_getElem? hy, rfl⟩) z hz))))
                have hvl : vj.length = P.cellsOf e := by rw [← hv2.length]; exact hcl
                refine ⟨m2, S2, vs ++ vj, hR2, hx1.trans hx2, hk1.trans hk2, by rw [List.length_append, hl1, hvl, Nat.succ_mul], ?_, ?_⟩
                · intro q v hq
                  rw [List.getElem?_append] at hq
                  split at hq
                  · rename_i hql
                    obtain ⟨h0, h0', u, hu, r⟩ := hc1 q v hq
                    exact ⟨h0, h0', u, hu, VR.mono hx2 _ _ r⟩
                  · rename_i hql
                    rw [hl1] at hq hql
                    obtain ⟨u, hu, r⟩ := hv2.get hq
                    have hcell := hcg _ _ hu
                    obtain ⟨e1, e2⟩ := add_add_off a (j * P.cellsOf e) (q - j * P.cellsOf e)
                    have hsp := cell?_spot hcell
                    rw [e1, e2] at hsp
                    have hoff : a.off + (j * P.cellsOf e + (q - j * P.cellsOf e)) = a.off + q := by omega
                    rw [hoff] at hsp
                    rw [hsp.1] at hcell
                    refine ⟨?_, hsp.2, u, hcell, r⟩
                    -- the first cell of all
                    have h0 := hget 0 (by omega)
                    obtain ⟨y0, hy0⟩ : ∃ y, elems[0]? = some y := ⟨elems[0], List.getElem?_eq_getElem (by omega)⟩
                    rw [hy0] at h0
                    simp only [Option.bind_eq_some_iff] at h0
                    obtain ⟨c0, hc0, _⟩ := h0
                    obtain ⟨h0l, h0g⟩ := cells?_get hc0
                    have := h0g 0 _ (List.getElem?_eq_getElem (by rw [h0l]; exact hpos.1))
                    have hsp0 := (cell?_spot this).1
                    simpa [Addr.add] using hsp0
                · intro i hi
                  by_cases hij : i = j
                  · subst hij
                    rw [List.drop_append, List.drop_of_length_le (by omega), hl1, Nat.sub_self, List.drop_zero, List.nil_append, List.take_of_length_le (by omega)]
                    exact hh2
                  · have hle : (i + 1) * P.cellsOf e ≤ j * P.cellsOf e := Nat.mul_le_mul_right _ (by omega)
                    rw [Nat.succ_mul] at hle
                    rw [List.drop_append_of_le_length (by omega), List.take_append_of_le_length (by rw [List.length_drop]; omega)]
                    exact Has.keep hk2 _ _ (hh1 i (by omega))
            obtain ⟨m1, S1, vs, hR1, hx1, hk1, hl1, hc1, hh1⟩ := hall len (Nat.le_refl _)
            have hn62 : len ≤ 4611686018427387904 := by
              have h1 : len * 1 ≤ len * P.bytesOf e := Nat.mul_le_mul_left _ hpos.2
              have : reachBytes = 140737488351232 := rfl
              omega
            have hplace : 0 < cap → a = ⟨a.block, a.off, none⟩ := by
              intro hcap
              by_cases h0 : 0 < len
              · obtain ⟨v, hv⟩ : ∃ v, vs[0]? = some v := ⟨vs[0]'(by rw [hl1]; exact Nat.mul_pos h0 hpos.1), List.getElem?_eq_getElem _⟩
                exact (hc1 0 v hv).1
              · obtain ⟨hrl, hrg⟩ := hrest rfl
                have h0 := hrg 0 (by omega)
                obtain ⟨y0, hy0⟩ : ∃ y, rest[0]? = some y := ⟨rest[0]'(by omega), List.getElem?_eq_getElem _⟩
                rw [hy0] at h0
                simp only [Option.bind_eq_some_iff] at h0
                obtain ⟨c0, hc0, _⟩ := h0
                obtain ⟨h0l, h0g⟩ := cells?_get hc0
                have h00 : len = 0 := by omega
                have := h0g 0 _ (List.getElem?_eq_getElem (by rw [h0l]; exact hpos.1))
                have hsp0 := (cell?_spot this).1
                simpa [Addr.add, h00] using hsp0
            have hok : SliceOk ⟨a.block, a.off, 0, false⟩ 0 len len (P.cellsOf e) false a cap := ⟨Nat.le_refl _, hlc, by simp, fun h => by simpa using hplace h, fun _ => rfl, fun e => (by cases e), fun e => (by cases e)⟩
            by_cases hz : len = 0
            · subst hz
              have hR2 := hR1.place ⟨a.block, a.off, 0, false⟩
              have hx2 : Ext m1 (m1.put S1.next ⟨a.block, a.off, 0, false⟩) := LM.ext_put _ (hR1.sim.freshM _ (Nat.le_refl _))
              refine ⟨_, _, [.slice S1.next 0 0 0 (P.cellsOf e) false], hR2, hx1.trans hx2, hk1, ?_, ?_⟩
              · simp only [VRs]
                exact ⟨_, [], rfl, by simp only [VR]; exact ⟨_, a, cap, LM.put_same _ _ _, rfl, hok⟩, rfl⟩
              · simp only [Has]
                exact ⟨_, 0, [], rfl, ⟨by omega, by simp, .inr ⟨_, _, _, _, rfl, Nat.le_refl _, by simp [St.loads]⟩⟩, by simp, fun m hm => by omega⟩
            · have hlt : a.block < W.heap.size := by
                obtain ⟨v, hv⟩ : ∃ v, vs[0]? = some v := ⟨vs[0]'(by rw [hl1]; exact Nat.mul_pos (by omega) hpos.1), List.getElem?_eq_getElem _⟩
                exact (hc1 0 v hv).2.1
              have hR2 := hR1.look (vs := vs) (L := ⟨a.block, a.off, 0, false⟩) rfl hlt (fun j v hj => by
                obtain ⟨_, _, u, h1, h2⟩ := hc1 j v hj
                exact ⟨u, h1, h2⟩)
              have hx2 : Ext m1 (m1.put S1.next ⟨a.block, a.off, 0, false⟩) := LM.ext_put _ (hR1.sim.freshM _ (Nat.le_refl _))
              have hk2 := hR1.new_keep (.cells vs false)
              refine ⟨_, _, [.slice S1.next 0 len len (P.cellsOf e) false], hR2, hx1.trans hx2, hk1.trans hk2, ?_, ?_⟩
              · simp only [VRs]
                exact ⟨_, [], rfl, by simp only [VR]; exact ⟨_, a, cap, LM.put_same _ _ _, rfl, hok⟩, rfl⟩
              · simp only [Has]
                refine ⟨_, len, vs, rfl, ⟨hn62, hl1, .inr ⟨_, _, _, _, rfl, Nat.le_refl _, ?_⟩⟩, hlen, fun i hi => Has.keep hk2 _ _ (hh1 i hi)⟩
                rw [St.loads_of (cs := vs) (own := false) (by simp) (by omega), List.drop_zero, ← hl1, List.take_length]
        · cases hs
      · rename_i fs ht
        obtain ⟨q, hq, hs⟩ := obind_some hs
        cases hs
        obtain ⟨xs, n', hn', rfl, hcl, hxl, hget⟩ := DataW.trod_struct ht h
        cases hn'
        have hfl : ∀ (fl : List Field) (off : Nat) (q : Fs) (m : LM) (S : St), RoS m S W → fsOf P (shOf P g) (P.cellsOf t) off fl = some q → (∀ f ∈ fl, ∃ i : Nat, fs[i]? = some f) →
            ∃ m' S' vs, RoS m' S' W ∧ Ext m m' ∧ Keep S S' ∧ VRs m' vs (cs.drop off) ∧ HasF S' q vs := by
          intro fl
          induction fl with
          | nil =>
            intro off q m S hR hq _
            simp only [fsOf] at hq
            split at hq
            · rename_i ho
              cases hq
              refine ⟨m, S, [], hR, Ext.refl m, Keep.refl S, ?_, by simp [HasF]⟩
              simp only [VRs]
              rw [List.drop_eq_nil_iff]; omega
            · cases hq
          | cons f fl ihf =>
            intro off q m S hR hq hmem
            simp only [fsOf] at hq
            split at hq
            · rename_i ho
              obtain ⟨s, hsf, hq⟩ := obind_some hq
              obtain ⟨q', hq', hq⟩ := obind_some hq
              cases hq
              obtain ⟨i, hi⟩ := hmem f (List.mem_cons_self ..)
              have htr := hget i f hi
              obtain ⟨y, hy⟩ : ∃ y, xs[i]? = some y := by
                have : i < fs.size := by
                  rcases Nat.lt_or_ge i fs.size with h' | h'
                  · exact h'
                  · rw [Array.getElem?_eq_none h'] at hi; cases hi
                exact ⟨xs[i], List.getElem?_eq_getElem (by omega)⟩
              rw [hy] at htr
              obtain ⟨m1, S1, v1, hR1, hx1, hk1, hv1, hh1⟩ := ih g f.type _ y s m S hR htr hsf (fun z hz => hw z (by
                simp only [DataW.weights, ht]
                exact DataW.weights_mem_each (j := i) (by simp; exact ⟨f, by simpa using hi, rfl⟩) (by simp [hy]) z hz))
              obtain ⟨m2, S2, v2, hR2, hx2, hk2, hv2, hh2⟩ := ihf (off + P.cellsOf f.type) q' m1 S1 hR1 hq' (fun f' hf' => hmem f' (List.mem_cons_of_mem _ hf'))
              have hle := fsOf_le hq'
              have hvl : v1.length = P.cellsOf f.type := by
                rw [← hv1.length, List.length_take, List.length_drop]; omega
              refine ⟨m2, S2, v1 ++ v2, hR2, hx1.trans hx2, hk1.trans hk2, ?_, ?_⟩
              · have := (VRs.mono hx2 _ _ hv1).append hv2
                rw [ho, ← List.drop_drop, List.take_append_drop] at this
                exact this
              · simp only [HasF]
                rw [List.take_left' hvl, List.drop_left' hvl]
                exact ⟨Has.keep hk2 _ _ hh1, hh2⟩
            · cases hq
        obtain ⟨m', S', vs, h1, h2, h3, h4, h5⟩ := hfl fs.toList 0 q m S hR hq (fun f hf => by
          obtain ⟨i, hi⟩ := List.getElem?_of_mem hf
          exact ⟨i, by simpa using hi⟩)
        exact ⟨m', S', vs, h1, h2, h3, by simpa using h4, by simp only [Has]; exact h5⟩
      · cases hs
end

end Go.Th
end
