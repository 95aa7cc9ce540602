/- What the row of one statement stands on: a store, abstract code, functions of the program and their laws (ThN). -/
import Derived.Test.YtconjbbmdjaehaaGreatDoorThBM
import Derived.SizedLaws
import Derived.ChangeArms

section
/- What comes in: readings as abstract values over a store that is looked at only. -/
set_option linter.unusedSimpArgs false
set_option linter.unusedVariables false
namespace Go.Th
open Go.RowKit Go.Lib

mutual
inductive Sh where
  | bool
  | int (k : IntKind)
  | str
  | slice (k bytes : Nat) (e : Sh)
  | agg (fs : Fs)
inductive Fs where
  | nil
  | cons (size : Nat) (s : Sh) (r : Fs)
end

mutual
def Has (S : St) : Sh → List V → Prop
  | .bool, cs => ∃ b, cs = [.bool b]
  | .int k, cs => ∃ n, cs = [.int k n] ∧ (Lit.int k n).wf = true
  | .str, cs => ∃ s : List UInt8, cs = [.str s] ∧ s.length ≤ reachBytes
  | .slice k by_ e, cs => ∃ v n es, cs = [v] ∧ SlAt S k v n es ∧ n * by_ ≤ reachBytes ∧ ∀ m, m < n → Has S e ((es.drop (m * k)).take k)
  | .agg fs, cs => HasF S fs cs
def HasF (S : St) : Fs → List V → Prop
  | .nil, cs => cs = []
  | .cons size s r, cs => Has S s (cs.take size) ∧ HasF S r (cs.drop size)
end

def fsOf (P : Program) (sh : TypeId → Option Sh) (total : Nat) : Nat → List Field → Option Fs
  | off, [] => if off = total then some .nil else none
  | off, f :: r => if f.offset = off then obind (sh f.type) fun s => obind (fsOf P sh total (off + P.cellsOf f.type) r) fun q => some (.cons (P.cellsOf f.type) s q) else none

def Keep (S S' : St) : Prop := ∀ i b, S.get i = some b → S'.get i = some b

theorem Keep.refl (S : St) : Keep S S := fun _ _ h => h
theorem Keep.trans {a b c : St} (h : Keep a b) (k : Keep b c) : Keep a c := fun i x hi => k i x (h i x hi)

theorem SlAt.keep {S S' : St} {k : Nat} {v : V} {n : Nat} {cs : List V} (h : SlAt S k v n cs) (g : Keep S S') : SlAt S' k v n cs := by
  obtain ⟨h1, h2, h3⟩ := h
  refine ⟨h1, h2, ?_⟩
  rcases h3 with h | ⟨i, o, c, t, rfl, hc, hl⟩
  · exact .inl h
  · refine .inr ⟨i, o, c, t, rfl, hc, ?_⟩
    by_cases hz : n * k = 0
    · rw [hz] at hl ⊢
      rw [St.loads_zero hl]; simp [St.loads]
    · obtain ⟨vs, own, hg, h4, rfl⟩ := St.loads_pos hl (by omega)
      exact St.loads_of (g _ _ hg) h4

mutual
theorem Has.keep {S S' : St} (g : Keep S S') : ∀ (sh : Sh) (cs : List V), Has S sh cs → Has S' sh cs
  | .bool, cs, h => by simpa only [Has] using h
  | .int k, cs, h => by simpa only [Has] using h
  | .str, cs, h => by simpa only [Has] using h
  | .slice k b e, cs, h => by
    simp only [Has] at h ⊢
    obtain ⟨v, n, es, rfl, h1, h2, h3⟩ := h
    exact ⟨v, n, es, rfl, h1.keep g, h2, fun m hm => Has.keep g e _ (h3 m hm)⟩
  | .agg fs, cs, h => by
    simp only [Has] at h ⊢
    exact HasF.keep g fs cs h
theorem HasF.keep {S S' : St} (g : Keep S S') : ∀ (fs : Fs) (cs : List V), HasF S fs cs → HasF S' fs cs
  | .nil, cs, h => by simpa only [HasF] using h
  | .cons size s r, cs, h => by
    simp only [HasF] at h ⊢
    exact ⟨Has.keep g s _ h.1, HasF.keep g r _ h.2⟩
end

structure RoS (m : LM) (S : St) (W : World) : Prop where
  sim : Sim m S W.heap.size W W
  ro : ∀ i b, S.get i = some b → b.own = false

theorem RoS.empty (W : World) : RoS (fun _ => none) St.empty W := ⟨Sim.empty W, fun i b h => by simp at h⟩

theorem RoS.place {m : LM} {S : St} {W : World} (h : RoS m S W) (L : Loc) : RoS (m.put S.next L) ⟨S.mem, S.next + 1⟩ W := by
  have hg : ∀ i, (⟨S.mem, S.next + 1⟩ : St).get i = S.get i := fun _ => rfl
  have hx : Ext m (m.put S.next L) := LM.ext_put L (h.sim.freshM _ (Nat.le_refl _))
  refine ⟨⟨h.sim.below, h.sim.base_le, ?_, ?_, ?_, ?_⟩, fun i b hi => h.ro i b (by rw [← hg]; exact hi)⟩
  · intro i hi
    rw [hg]; exact h.sim.freshS i (by simp only at hi; omega)
  · intro i hi
    simp only at hi
    rw [LM.put_other m L (by omega)]; exact h.sim.freshM i (by omega)
  · intro i b hi
    rw [hg] at hi
    obtain ⟨L', h1, h2, h3⟩ := h.sim.blk i b hi
    exact ⟨L', hx _ _ h1, h2.keep hx (Nat.le_refl _) rfl, h3⟩
  · intro i j b b' L1 L2 hij h1 h2 ho
    rw [hg] at h1
    rw [h.ro i b h1] at ho; cases ho

theorem RoS.look {m : LM} {S : St} {W : World} (h : RoS m S W) {vs : List V} {L : Loc} (hL : L.own = false) (hb : L.block < W.heap.size) (hc : ∀ j v, vs[j]? = some v → ∃ u, W.cell? ⟨L.block, L.off + j, none⟩ = some u ∧ VR m v u) :
    RoS (m.put S.next L) (S.new (.cells vs false)) W := by
  have hx : Ext m (m.put S.next L) := LM.ext_put L (h.sim.freshM _ (Nat.le_refl _))
  have hro : ∀ i b, (S.new (.cells vs false)).get i = some b → b.own = false := by
    intro i b hi
    rw [St.get_new] at hi
    split at hi
    · cases hi; rfl
    · exact h.ro i b hi
  refine ⟨⟨h.sim.below, h.sim.base_le, ?_, ?_, ?_, ?_⟩, hro⟩
  · intro i hi
    simp only [St.next_new] at hi
    rw [St.get_new, if_neg (by omega)]; exact h.sim.freshS i (by omega)
  · intro i hi
    simp only [St.next_new] at hi
    rw [LM.put_other m L (by omega)]; exact h.sim.freshM i (by omega)
  · intro i b hi
    rw [St.get_new] at hi
    split at hi
    · rename_i e
      subst e
      cases hi
      refine ⟨L, LM.put_same m _ _, ⟨hb, ?_, fun e => (by rw [hL] at e; cases e), fun e => by cases e⟩, fun e => by cases e⟩
      intro j v hj
      obtain ⟨u, h1, h2⟩ := hc j v hj
      exact ⟨u, h1, VR.mono hx _ _ h2⟩
    · obtain ⟨L', h1, h2, h3⟩ := h.sim.blk i b hi
      exact ⟨L', hx _ _ h1, h2.keep hx (Nat.le_refl _) rfl, h3⟩
  · intro i j b b' L1 L2 hij h1 h2 ho
    rw [hro i b h1] at ho; cases ho

theorem weightsAll_mem {H : Type} {P : Program} {e : TypeId} : ∀ {l : List (DataW H)} {d : DataW H}, d ∈ l → ∀ n ∈ d.weights P e, n ∈ DataW.weightsAll P e l
  | x :: l, d, hd, n, hn => by
    simp only [DataW.weightsAll, List.mem_append]
    rcases List.mem_cons.mp hd with rfl | h
    · exact .inl hn
    · exact .inr (weightsAll_mem h n hn)

theorem cells?_get {w : World} {a : Addr} {n : Nat} {cs : List Value} (h : w.cells? 0 a n = some cs) : cs.length = n ∧ ∀ j u, cs[j]? = some u → w.cell? (a.add j) = some u := by
  unfold World.cells? at h
  rw [if_pos (Nat.zero_le _)] at h
  have hl := mapM_some_length h
  refine ⟨by simpa using hl, fun j u hj => ?_⟩
  have hjl : j < n := by
    rcases Nat.lt_or_ge j cs.length with h' | h'
    · rw [hl] at h'; simpa using h'
    · rw [List.getElem?_eq_none h'] at hj; cases hj
  have := mapM_some_get h j j (by simp [hjl])
  rw [this, hj]

theorem cell?_spot {w : World} {a : Addr} {u : Value} (h : w.cell? a = some u) : a = ⟨a.block, a.off, none⟩ ∧ a.block < w.heap.size := by
  unfold World.cell? at h
  split at h
  · rename_i c t f hb
    split at h
    · cases h
    · rename_i hs
      refine ⟨?_, ?_⟩
      · cases a; simp_all
      · rcases Nat.lt_or_ge a.block w.heap.size with h' | h'
        · exact h'
        · simp [Array.getElem?_eq_none h'] at hb
  · cases h

theorem add_add_off (a : Addr) (x y : Nat) : ((a.add x).add y).block = a.block ∧ ((a.add x).add y).off = a.off + (x + y) := by
  unfold Addr.add
  split <;> split <;> simp_all <;> omega

theorem fsOf_le {P : Program} {sh : TypeId → Option Sh} {total : Nat} : ∀ {off : Nat} {l : List Field} {q : Fs}, fsOf P sh total off l = some q → off ≤ total
  | off, [], q, h => by
    simp only [fsOf] at h
    split at h
    · omega
    · cases h
  | off, f :: r, q, h => by
    simp only [fsOf] at h
    split at h
    · obtain ⟨s, _, h⟩ := obind_some h
      obtain ⟨q', hq, _⟩ := obind_some h
      have := fsOf_le hq
      omega
    · cases h

section
variable {H : Type} {enc : TypeId × Value → H} {P : Program} {W : World} {held : Bool}

def Gives (W : World) (m : LM) (S : St) (sh : Sh) (cs : List Value) : Prop :=
  ∃ m' S' vs, RoS m' S' W ∧ Ext m m' ∧ Keep S S' ∧ VRs m' vs cs ∧ Has S' sh vs

theorem RoS.new_keep {m : LM} {S : St} {W : World} (h : RoS m S W) (b : Blk) : Keep S (S.new b) := by
  intro i x hi
  rw [St.get_new, if_neg]
  · exact hi
  · rintro rfl
    rw [h.sim.freshS _ (Nat.le_refl _)] at hi; cases hi

end

end Go.Th
end
