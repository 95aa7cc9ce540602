/- What the row of one statement stands on: a store, abstract code, functions of the program and their laws (ThA). -/
import Derived.Below
import Derived.Tactics

section
/- The abstract store: values, blocks, a simulation with the model's world. -/
namespace Go.Th
open Go.RowKit

/-! ## values -/
inductive V where
  | bool (b : Bool)
  | int (k : IntKind) (n : Int)
  | str (s : List UInt8)
  | nilPtr
  | ptr (i o : Nat)
  | nilSlice
  | slice (i o len cap k : Nat) (tight : Bool)
  | nilMap
  | map (i : Nat)
  | func (fn : Fn) (first captured : List V)
  | nilFunc
  | iface (t : TypeId) (v : V)
  | nilIface
  | agg (cs : List V)
  | tuple (vs : List V)
  deriving Inhabited

/-- Where an abstract block lies: the block, where it begins, how many cells the block has, whether it is the call's own. -/
structure Loc where
  block : Nat
  off : Nat
  size : Nat
  own : Bool

abbrev LM := Nat → Option Loc

/-- The concrete side of a slice. -/
structure SliceOk (L : Loc) (o len cap k : Nat) (tight : Bool) (x : Addr) (cap' : Nat) : Prop where
  len_le : len ≤ cap
  cap_le : cap ≤ cap'
  tight : tight = true → cap' = cap
  place : 0 < cap' → x = ⟨L.block, L.off + o, none⟩
  here : L.own = true → x.block = L.block
  room : L.own = true → 0 < cap' → L.off + o + cap' * k ≤ L.size

mutual
def VR (m : LM) : V → Value → Prop
  | .bool b, u => u = .bool b
  | .int k n, u => u = .int k n
  | .str s, u => u = .string ⟨s.toArray⟩
  | .nilPtr, u => u = .pointer none
  | .ptr i o, u => ∃ L, m i = some L ∧ u = .pointer (some ⟨L.block, L.off + o, none⟩)
  | .nilSlice, u => u = .slice none 0 0
  | .slice i o len cap k t, u => ∃ L x cap', m i = some L ∧ u = .slice (some x) len cap' ∧ SliceOk L o len cap k t x cap'
  | .nilMap, u => u = .map none
  | .map i, u => ∃ L, m i = some L ∧ u = .map (some L.block)
  | .func fn fs cs, u => ∃ fs' cs', u = .func fn fs' cs' ∧ VRs m fs fs'.toList ∧ VRs m cs cs'.toList
  | .nilFunc, u => u = .nilFunc
  | .iface t v, u => ∃ v', u = .iface t v' ∧ VR m v v'
  | .nilIface, u => u = .nilIface
  | .agg cs, u => ∃ cs', u = .agg cs' ∧ VRs m cs cs'.toList
  | .tuple cs, u => ∃ cs', u = .tuple cs' ∧ VRs m cs cs'.toList
def VRs (m : LM) : List V → List Value → Prop
  | [], us => us = []
  | v :: vs, us => ∃ u us', us = u :: us' ∧ VR m v u ∧ VRs m vs us'
end

/-- More blocks have a place. -/
def Ext (m m' : LM) : Prop := ∀ i L, m i = some L → m' i = some L

theorem Ext.refl (m : LM) : Ext m m := fun _ _ h => h
theorem Ext.trans {a b c : LM} (h : Ext a b) (k : Ext b c) : Ext a c := fun i L hi => k i L (h i L hi)

mutual
theorem VR.mono {m m' : LM} (h : Ext m m') : ∀ (v : V) (u : Value), VR m v u → VR m' v u
  | .bool _, _, r | .int _ _, _, r | .str _, _, r | .nilPtr, _, r | .nilSlice, _, r | .nilMap, _, r | .nilFunc, _, r | .nilIface, _, r => by simpa only [VR] using r
  | .ptr _ _, _, r => by
    simp only [VR] at r ⊢
    obtain ⟨L, h1, h2⟩ := r
    exact ⟨L, h _ _ h1, h2⟩
  | .slice .., _, r => by
    simp only [VR] at r ⊢
    obtain ⟨L, x, c, h1, h2⟩ := r
    exact ⟨L, x, c, h _ _ h1, h2⟩
  | .map _, _, r => by
    simp only [VR] at r ⊢
    obtain ⟨L, h1, h2⟩ := r
    exact ⟨L, h _ _ h1, h2⟩
  | .func _ fs cs, _, r => by
    simp only [VR] at r ⊢
    obtain ⟨fs', cs', rfl, h1, h2⟩ := r
    exact ⟨fs', cs', rfl, VRs.mono h _ _ h1, VRs.mono h _ _ h2⟩
  | .iface _ v, _, r => by
    simp only [VR] at r ⊢
    obtain ⟨v', rfl, h1⟩ := r
    exact ⟨v', rfl, VR.mono h _ _ h1⟩
  | .agg cs, _, r => by
    simp only [VR] at r ⊢
    obtain ⟨cs', rfl, h1⟩ := r
    exact ⟨cs', rfl, VRs.mono h _ _ h1⟩
  | .tuple cs, _, r => by
    simp only [VR] at r ⊢
    obtain ⟨cs', rfl, h1⟩ := r
    exact ⟨cs', rfl, VRs.mono h _ _ h1⟩
theorem VRs.mono {m m' : LM} (h : Ext m m') : ∀ (vs : List V) (us : List Value), VRs m vs us → VRs m' vs us
  | [], _, r => by simpa only [VRs] using r
  | v :: vs, _, r => by
    simp only [VRs] at r ⊢
    obtain ⟨u, us', rfl, h1, h2⟩ := r
    exact ⟨u, us', rfl, VR.mono h _ _ h1, VRs.mono h _ _ h2⟩
end

theorem VRs.length {m : LM} : ∀ {vs : List V} {us : List Value}, VRs m vs us → us.length = vs.length
  | [], _, r => by simp only [VRs] at r; simp [r]
  | _ :: _, _, r => by
    simp only [VRs] at r
    obtain ⟨u, us', rfl, _, h2⟩ := r
    simp [h2.length]

theorem VRs.get {m : LM} : ∀ {vs : List V} {us : List Value}, VRs m vs us → ∀ {j : Nat} {v : V}, vs[j]? = some v → ∃ u, us[j]? = some u ∧ VR m v u
  | [], _, _, _, _, hj => by simp at hj
  | _ :: _, _, r, j, v, hj => by
    simp only [VRs] at r
    obtain ⟨u, us', rfl, h1, h2⟩ := r
    cases j with
    | zero => simp at hj; subst hj; exact ⟨u, rfl, h1⟩
    | succ j => simp at hj; simpa using h2.get hj

theorem VRs.of_get {m : LM} : ∀ {vs : List V} {us : List Value}, us.length = vs.length → (∀ (j : Nat) (v : V), vs[j]? = some v → ∃ u, us[j]? = some u ∧ VR m v u) → VRs m vs us
  | [], us, hl, _ => by simp only [VRs]; exact List.length_eq_zero_iff.mp (by simpa using hl)
  | v :: vs, us, hl, h => by
    simp only [VRs]
    cases us with
    | nil => simp at hl
    | cons u us' =>
      obtain ⟨u0, h0, r0⟩ := h 0 v rfl
      simp at h0; subst h0
      exact ⟨u, us', rfl, r0, VRs.of_get (by simpa using hl) (fun j v hj => by simpa using h (j + 1) v (by simpa using hj))⟩

theorem VRs.append {m : LM} : ∀ {vs vs2 : List V} {us us2 : List Value}, VRs m vs us → VRs m vs2 us2 → VRs m (vs ++ vs2) (us ++ us2)
  | [], _, us, _, h, h2 => by simp only [VRs] at h; subst h; exact h2
  | v :: vs, _, us, _, h, h2 => by
    simp only [VRs] at h
    obtain ⟨u, us', rfl, h0, h1⟩ := h
    simp only [List.cons_append, VRs]
    exact ⟨u, _, rfl, h0, h1.append h2⟩

theorem VRs.replicate {m : LM} {v : V} {u : Value} (h : VR m v u) : ∀ n, VRs m (List.replicate n v) (List.replicate n u)
  | 0 => by simp [VRs]
  | n + 1 => by simp only [List.replicate_succ, VRs]; exact ⟨u, _, rfl, h, VRs.replicate h n⟩

theorem VRs.take {m : LM} : ∀ {vs : List V} {us : List Value} (n : Nat), VRs m vs us → VRs m (vs.take n) (us.take n)
  | [], us, n, h => by simp only [VRs] at h; subst h; simp [VRs]
  | v :: vs, us, 0, h => by simp [VRs]
  | v :: vs, us, n + 1, h => by
    simp only [VRs] at h
    obtain ⟨u, us', rfl, h0, h1⟩ := h
    simp only [List.take_succ_cons, VRs]
    exact ⟨u, _, rfl, h0, h1.take n⟩

theorem VRs.drop {m : LM} : ∀ {vs : List V} {us : List Value} (n : Nat), VRs m vs us → VRs m (vs.drop n) (us.drop n)
  | [], us, n, h => by simp only [VRs] at h; subst h; simp [VRs]
  | v :: vs, us, 0, h => by simpa using h
  | v :: vs, us, n + 1, h => by
    simp only [VRs] at h
    obtain ⟨u, us', rfl, h0, h1⟩ := h
    simpa using h1.drop n

/-! ## the store -/
/-- A block: cells, or a map's entries; 'own': it may be written. -/
inductive Blk where
  | cells (vs : List V) (own : Bool)
  | map (es : List (V × V)) (own : Bool)
  deriving Inhabited

def Blk.own : Blk → Bool
  | .cells _ o | .map _ o => o

def Blk.ro : Blk → Blk
  | .cells vs _ => .cells vs false
  | .map es _ => .map es false

inductive Mem where
  | nil
  | node (b : Option Blk) (l r : Mem)

def Mem.get : Mem → Nat → Option Blk
  | .nil, _ => none
  | .node b l r, i => if i = 0 then b else if i % 2 = 1 then l.get (i / 2) else r.get (i / 2 - 1)

def Mem.kids : Mem → Option Blk × Mem × Mem
  | .nil => (none, .nil, .nil)
  | .node b l r => (b, l, r)

def Mem.put : Nat → Mem → Nat → Option Blk → Mem
  | 0, m, _, _ => m
  | f + 1, m, i, x =>
    if i = 0 then .node x m.kids.2.1 m.kids.2.2
    else if i % 2 = 1 then .node m.kids.1 (m.kids.2.1.put f (i / 2) x) m.kids.2.2
    else .node m.kids.1 m.kids.2.1 (m.kids.2.2.put f (i / 2 - 1) x)

theorem Mem.get_kids (m : Mem) (i : Nat) : m.get i = if i = 0 then m.kids.1 else if i % 2 = 1 then m.kids.2.1.get (i / 2) else m.kids.2.2.get (i / 2 - 1) := by
  cases m with
  | nil => simp [Mem.get, Mem.kids]
  | node b l r => simp [Mem.get, Mem.kids]

theorem Mem.get_put : ∀ (f : Nat) (m : Mem) (i : Nat) (x : Option Blk) (j : Nat), i < f → (m.put f i x).get j = if j = i then x else m.get j
  | 0, _, _, _, _, h => by omega
  | f + 1, m, i, x, j, h => by
    unfold Mem.put
    by_cases h0 : i = 0
    · subst h0
      rw [if_pos rfl, Mem.get_kids m j]
      simp only [Mem.get]
      by_cases hj : j = 0 <;> simp [hj]
    · rw [if_neg h0]
      by_cases h1 : i % 2 = 1
      · rw [if_pos h1, Mem.get_kids m j]
        simp only [Mem.get]
        by_cases hj : j = 0
        · subst hj; rw [if_pos rfl, if_neg (fun e => h0 e.symm), if_pos rfl]
        · rw [if_neg hj, if_neg hj]
          by_cases hj1 : j % 2 = 1
          · rw [if_pos hj1, if_pos hj1, Mem.get_put f _ _ _ _ (by omega)]
            by_cases e : j = i
            · subst e; simp
            · rw [if_neg e, if_neg (by omega)]
          · rw [if_neg hj1, if_neg hj1, if_neg (by omega)]
      · rw [if_neg h1, Mem.get_kids m j]
        simp only [Mem.get]
        by_cases hj : j = 0
        · subst hj; rw [if_pos rfl, if_neg (fun e => h0 e.symm), if_pos rfl]
        · rw [if_neg hj, if_neg hj]
          by_cases hj1 : j % 2 = 1
          · rw [if_pos hj1, if_pos hj1, if_neg (by omega)]
          · rw [if_neg hj1, if_neg hj1, Mem.get_put f _ _ _ _ (by omega)]
            by_cases e : j = i
            · subst e; simp
            · rw [if_neg e, if_neg (by omega)]

def Mem.ro : Mem → Mem
  | .nil => .nil
  | .node b l r => .node (b.map Blk.ro) l.ro r.ro

theorem Mem.get_ro : ∀ (m : Mem) (i : Nat), m.ro.get i = (m.get i).map Blk.ro
  | .nil, i => by simp [Mem.ro, Mem.get]
  | .node b l r, i => by
    simp only [Mem.ro, Mem.get]
    split
    · rfl
    · split
      · exact Mem.get_ro l _
      · exact Mem.get_ro r _

structure St where
  mem : Mem
  next : Nat

def St.get (S : St) (i : Nat) : Option Blk := S.mem.get i
def St.put (S : St) (i : Nat) (b : Option Blk) : St := { S with mem := S.mem.put (i + 1) i b }
/-- A new block. -/
def St.new (S : St) (b : Blk) : St := { mem := S.mem.put (S.next + 1) S.next (some b), next := S.next + 1 }
def St.ro (S : St) : St := { S with mem := S.mem.ro }
def St.empty : St := ⟨.nil, 0⟩

@[simp] theorem St.get_put (S : St) (i : Nat) (b : Option Blk) (j : Nat) : (S.put i b).get j = if j = i then b else S.get j := by
  simp [St.get, St.put, Mem.get_put]
@[simp] theorem St.get_new (S : St) (b : Blk) (j : Nat) : (S.new b).get j = if j = S.next then some b else S.get j := by
  simp [St.get, St.new, Mem.get_put]
@[simp] theorem St.next_put (S : St) (i : Nat) (b : Option Blk) : (S.put i b).next = S.next := rfl
@[simp] theorem St.next_new (S : St) (b : Blk) : (S.new b).next = S.next + 1 := rfl
@[simp] theorem St.get_ro (S : St) (i : Nat) : S.ro.get i = (S.get i).map Blk.ro := Mem.get_ro _ _
@[simp] theorem St.next_ro (S : St) : S.ro.next = S.next := rfl
@[simp] theorem St.get_empty (i : Nat) : St.empty.get i = none := rfl

/-! ## the simulation -/
/-- The entries of a map. -/
def EntR (m : LM) : List (V × V) → List MapEntry → Prop
  | [], es => es = []
  | (k, v) :: r, es => ∃ e es', es = e :: es' ∧ VR m k e.key ∧ VR m v e.val ∧ EntR m r es'

/-- No cell of a block of so many cells is frozen. -/
def Unfz (fz : Nat × Nat) (n : Nat) : Prop := fz.1 = fz.2 ∨ n ≤ fz.1

theorem Unfz.not {fz : Nat × Nat} {n o : Nat} (h : Unfz fz n) (ho : o < n) : ¬ (fz.1 ≤ o ∧ o < fz.2) := by
  rcases h with h | h <;> omega

def BlkR (m : LM) (L : Loc) (w : World) : Blk → Prop
  | .cells vs own => L.block < w.heap.size ∧ (∀ j v, vs[j]? = some v → ∃ u, w.cell? ⟨L.block, L.off + j, none⟩ = some u ∧ VR m v u) ∧ (L.own = true → L.off + vs.length ≤ L.size) ∧
      (own = true → L.own = true ∧ ∃ cs t fz, w.heap[L.block]? = some (.cells cs t fz) ∧ cs.size = L.size ∧ Unfz fz L.size)
  | .map es _ => ∃ ces clock, w.heap[L.block]? = some (.map ces clock) ∧ EntR m es ces.toList ∧ (∀ e ∈ ces.toList, e.born < clock) ∧ (ces.toList.map (·.born)).Nodup

structure Sim (m : LM) (S : St) (base : Nat) (w0 w : World) : Prop where
  below : Below base w0 w
  base_le : base ≤ w.heap.size
  freshS : ∀ i, S.next ≤ i → S.get i = none
  freshM : ∀ i, S.next ≤ i → m i = none
  blk : ∀ i b, S.get i = some b → ∃ L, m i = some L ∧ BlkR m L w b ∧ (b.own = true → base ≤ L.block)
  apart : ∀ i j b b' L L', i ≠ j → S.get i = some b → S.get j = some b' → b.own = true → m i = some L → m j = some L' → L.block ≠ L'.block

theorem BlkR.lt {m : LM} {L : Loc} {w : World} {b : Blk} (h : BlkR m L w b) : L.block < w.heap.size := by
  cases b with
  | cells vs own => exact h.1
  | map es own =>
    obtain ⟨ces, clock, h1, _⟩ := h
    rcases Nat.lt_or_ge L.block w.heap.size with h' | h'
    · exact h'
    · simp [Array.getElem?_eq_none h'] at h1

theorem EntR.mono {m m' : LM} (h : Ext m m') : ∀ {es : List (V × V)} {ces : List MapEntry}, EntR m es ces → EntR m' es ces
  | [], _, r => r
  | (k, v) :: es, _, r => by
    obtain ⟨e, es', rfl, h1, h2, h3⟩ := r
    exact ⟨e, es', rfl, VR.mono h _ _ h1, VR.mono h _ _ h2, EntR.mono h h3⟩

/-- What a block says stays, where its block stays and more has a place. -/
theorem BlkR.keep {m m' : LM} {L : Loc} {w w' : World} {b : Blk} (h : BlkR m L w b) (hm : Ext m m') (hs : w.heap.size ≤ w'.heap.size) (hb : w'.heap[L.block]? = w.heap[L.block]?) : BlkR m' L w' b := by
  cases b with
  | cells vs own =>
    obtain ⟨h1, h2, h4, h3⟩ := h
    refine ⟨by omega, fun j v hj => ?_, h4, fun ho => ?_⟩
    · obtain ⟨u, hu, r⟩ := h2 j v hj
      exact ⟨u, by rw [World.cell?_of_block (w := w) hb]; exact hu, VR.mono hm _ _ r⟩
    · obtain ⟨g1, cs, t, fz, g2, g3⟩ := h3 ho
      exact ⟨g1, cs, t, fz, by rw [hb]; exact g2, g3⟩
  | map es own =>
    obtain ⟨ces, clock, h1, h2, h3⟩ := h
    exact ⟨ces, clock, by rw [hb]; exact h1, EntR.mono hm h2, h3⟩

end Go.Th
end
