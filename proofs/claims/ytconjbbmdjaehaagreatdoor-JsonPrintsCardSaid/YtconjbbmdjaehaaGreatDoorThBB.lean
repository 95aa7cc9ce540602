/- What the row of one statement stands on: a store, abstract code, functions of the program and their laws (ThA, ThB). -/
import Derived.Below
import Derived.Tactics

section
/- The abstract store: values, blocks, a simulation with the model's world. -/
namespace Go.Th
open Go.RowKit

inductive V where
  | bool (b : Bool)
  | int (k : IntKind) (n : Int)
  | str (s : List UInt8)
  | nilPtr
  | ptr (i o : Nat)
  | nilSlice
  | slice (i o len cap k : Nat) (tight : Bool)
  | nilMap
  | map (i : Nat)
  | func (fn : Fn) (first captured : List V)
  | nilFunc
  | iface (t : TypeId) (v : V)
  | nilIface
  | agg (cs : List V)
  | tuple (vs : List V)
  | glob (g o : Nat)   -- a place in a package variable
  | junk               -- any value of one cell
  deriving Inhabited

structure Loc where
  block : Nat
  off : Nat
  size : Nat
  own : Bool

abbrev LM := Nat → Option Loc

structure SliceOk (L : Loc) (o len cap k : Nat) (tg : Bool) (x : Addr) (cap' : Nat) : Prop where
  len_le : len ≤ cap
  cap_le : cap ≤ cap'
  tight : tg = true → cap' = cap
  place : 0 < cap' → x = ⟨L.block, L.off + o, none⟩
  here : L.own = true → x.block = L.block
  room : L.own = true → 0 < cap' → L.off + o + cap' * k ≤ L.size
  top : L.own = true → tg = false → 1 < k → cap' ≤ 9223372036854775807

mutual
def VR (m : LM) : V → Value → Prop
  | .bool b, u => u = .bool b
  | .int k n, u => u = .int k n
  | .str s, u => u = .string ⟨s.toArray⟩
  | .nilPtr, u => u = .pointer none
  | .ptr i o, u => ∃ L, m i = some L ∧ u = .pointer (some ⟨L.block, L.off + o, none⟩)
  | .nilSlice, u => u = .slice none 0 0
  | .slice i o len cap k t, u => ∃ L x cap', m i = some L ∧ u = .slice (some x) len cap' ∧ SliceOk L o len cap k t x cap'
  | .nilMap, u => u = .map none
  | .map i, u => ∃ L, m i = some L ∧ u = .map (some L.block)
  | .func fn fs cs, u => ∃ fs' cs', u = .func fn fs' cs' ∧ VRs m fs fs'.toList ∧ VRs m cs cs'.toList
  | .nilFunc, u => u = .nilFunc
  | .iface t v, u => ∃ v', u = .iface t v' ∧ VR m v v'
  | .nilIface, u => u = .nilIface
  | .agg cs, u => ∃ cs', u = .agg cs' ∧ VRs m cs cs'.toList
  | .tuple cs, u => ∃ cs', u = .tuple cs' ∧ VRs m cs cs'.toList
  | .glob g o, u => u = .pointer (some ⟨g, o, none⟩)
  | .junk, u => u.oneCell' = true
def VRs (m : LM) : List V → List Value → Prop
  | [], us => us = []
  | v :: vs, us => ∃ u us', us = u :: us' ∧ VR m v u ∧ VRs m vs us'
end

def Ext (m m' : LM) : Prop := ∀ i L, m i = some L → m' i = some L

theorem Ext.refl (m : LM) : Ext m m := fun _ _ h => h
theorem Ext.trans {a b c : LM} (h : Ext a b) (k : Ext b c) : Ext a c := fun i L hi => k i L (h i L hi)

mutual
theorem VR.mono {m m' : LM} (h : Ext m m') : ∀ (v : V) (u : Value), VR m v u → VR m' v u
  | .bool _, _, r | .int _ _, _, r | .str _, _, r | .nilPtr, _, r | .nilSlice, _, r | .nilMap, _, r | .nilFunc, _, r | .nilIface, _, r | .glob _ _, _, r | .junk, _, r => by simpa only [VR] using r
  | .ptr _ _, _, r => by
    simp only [VR] at r ⊢
    obtain ⟨L, h1, h2⟩ := r
    exact ⟨L, h _ _ h1, h2⟩
  | .slice .., _, r => by
    simp only [VR] at r ⊢
    obtain ⟨L, x, c, h1, h2⟩ := r
    exact ⟨L, x, c, h _ _ h1, h2⟩
  | .map _, _, r => by
    simp only [VR] at r ⊢
    obtain ⟨L, h1, h2⟩ := r
    exact ⟨L, h _ _ h1, h2⟩
  | .func _ fs cs, _, r => by
    simp only [VR] at r ⊢
    obtain ⟨fs', cs', rfl, h1, h2⟩ := r
    exact ⟨fs', cs', rfl, VRs.mono h _ _ h1, VRs.mono h _ _ h2⟩
  | .iface _ v, _, r => by
    simp only [VR] at r ⊢
    obtain ⟨v', rfl, h1⟩ := r
    exact ⟨v', rfl, VR.mono h _ _ h1⟩
  | .agg cs, _, r => by
    simp only [VR] at r ⊢
    obtain ⟨cs', rfl, h1⟩ := r
    exact ⟨cs', rfl, VRs.mono h _ _ h1⟩
  | .tuple cs, _, r => by
    simp only [VR] at r ⊢
    obtain ⟨cs', rfl, h1⟩ := r
    exact ⟨cs', rfl, VRs.mono h _ _ h1⟩
theorem VRs.mono {m m' : LM} (h : Ext m m') : ∀ (vs : List V) (us : List Value), VRs m vs us → VRs m' vs us
  | [], _, r => by simpa only [VRs] using r
  | v :: vs, _, r => by
    simp only [VRs] at r ⊢
    obtain ⟨u, us', rfl, h1, h2⟩ := r
    exact ⟨u, us', rfl, VR.mono h _ _ h1, VRs.mono h _ _ h2⟩
end

theorem VRs.length {m : LM} : ∀ {vs : List V} {us : List Value}, VRs m vs us → us.length = vs.length
  | [], _, r => by simp only [VRs] at r; simp [r]
  | _ :: _, _, r => by
    simp only [VRs] at r
    obtain ⟨u, us', rfl, _, h2⟩ := r
    simp [h2.length]

theorem VRs.get {m : LM} : ∀ {vs : List V} {us : List Value}, VRs m vs us → ∀ {j : Nat} {v : V}, vs[j]? = some v → ∃ u, us[j]? = some u ∧ VR m v u
  | [], _, _, _, _, hj => by simp at hj
  | _ :: _, _, r, j, v, hj => by
    simp only [VRs] at r
    obtain ⟨u, us', rfl, h1, h2⟩ := r
    cases j with
    | zero => simp at hj; subst hj; exact ⟨u, rfl, h1⟩
    | succ j => simp at hj; simpa using h2.get hj

theorem VRs.of_get {m : LM} : ∀ {vs : List V} {us : List Value}, us.length = vs.length → (∀ (j : Nat) (v : V), vs[j]? = some v → ∃ u, us[j]? = some u ∧ VR m v u) → VRs m vs us
  | [], us, hl, _ => by simp only [VRs]; exact List.length_eq_zero_iff.mp (by simpa using hl)
  | v :: vs, us, hl, h => by
    simp only [VRs]
    cases us with
    | nil => simp at hl
    | cons u us' =>
      obtain ⟨u0, h0, r0⟩ := h 0 v rfl
      simp at h0; subst h0
      exact ⟨u, us', rfl, r0, VRs.of_get (by simpa using hl) (fun j v hj => by simpa using h (j + 1) v (by simpa using hj))⟩

theorem VRs.append {m : LM} : ∀ {vs vs2 : List V} {us us2 : List Value}, VRs m vs us → VRs m vs2 us2 → VRs m (vs ++ vs2) (us ++ us2)
  | [], _, us, _, h, h2 => by simp only [VRs] at h; subst h; exact h2
  | v :: vs, _, us, _, h, h2 => by
    simp only [VRs] at h
    obtain ⟨u, us', rfl, h0, h1⟩ := h
    simp only [List.cons_append, VRs]
    exact ⟨u, _, rfl, h0, h1.append h2⟩

theorem VRs.replicate {m : LM} {v : V} {u : Value} (h : VR m v u) : ∀ n, VRs m (List.replicate n v) (List.replicate n u)
  | 0 => by simp [VRs]
  | n + 1 => by simp only [List.replicate_succ, VRs]; exact ⟨u, _, rfl, h, VRs.replicate h n⟩

theorem VRs.take {m : LM} : ∀ {vs : List V} {us : List Value} (n : Nat), VRs m vs us → VRs m (vs.take n) (us.take n)
  | [], us, n, h => by simp only [VRs] at h; subst h; simp [VRs]
  | v :: vs, us, 0, h => by simp [VRs]
  | v :: vs, us, n + 1, h => by
    simp only [VRs] at h
    obtain ⟨u, us', rfl, h0, h1⟩ := h
    simp only [List.take_succ_cons, VRs]
    exact ⟨u, _, rfl, h0, h1.take n⟩

theorem VRs.drop {m : LM} : ∀ {vs : List V} {us : List Value} (n : Nat), VRs m vs us → VRs m (vs.drop n) (us.drop n)
  | [], us, n, h => by simp only [VRs] at h; subst h; simp [VRs]
  | v :: vs, us, 0, h => by simpa using h
  | v :: vs, us, n + 1, h => by
    simp only [VRs] at h
    obtain ⟨u, us', rfl, h0, h1⟩ := h
    simpa using h1.drop n

inductive Blk where
  | cells (vs : List V) (own : Bool)
  | map (es : List (V × V)) (own : Bool)
  | glob (g : Nat) (vs : List V)   -- a package variable: it lies at the block of its number
  | dead (n : Nat)   -- so many cells of one's own, of which nothing is known
  | odd (l : Nat) (o : Obj) (fr : List V)   -- an object that is no cells and no map (the record of a range over a function, with its frame), at block l
  | mapX (es : List (V × V)) (bs : List Nat) (c : Nat) (own : Bool)   -- a map that is ranged over: its entries' stamps and its clock are known
  | iter (i since : Nat) (seen : List Nat) (st : Nat)   -- an iterator over the map at abstract block i
  | obj (t : TypeId) (n : Nat) (vs : List V)   -- n cells of one's own whose type is known; the first ones are these
  deriving Inhabited

def Blk.own : Blk → Bool
  | .cells _ o | .map _ o => o
  | .glob _ _ => false
  | .dead _ => true
  | .odd .. => true
  | .mapX _ _ _ o => o
  | .iter .. => true
  | .obj .. => true

def Blk.ro : Blk → Blk
  | .cells vs _ => .cells vs false
  | .map es _ => .map es false
  | .glob g vs => .glob g vs
  | .dead _ => .cells [] false
  | .odd .. => .cells [] false
  | .mapX es _ _ _ => .map es false
  | .iter .. => .cells [] false
  | .obj .. => .cells [] false

inductive Mem where
  | nil
  | node (b : Option Blk) (l r : Mem)

def Mem.get : Mem → Nat → Option Blk
  | .nil, _ => none
  | .node b l r, i => if i = 0 then b else if i % 2 = 1 then l.get (i / 2) else r.get (i / 2 - 1)

def Mem.kids : Mem → Option Blk × Mem × Mem
  | .nil => (none, .nil, .nil)
  | .node b l r => (b, l, r)

def Mem.put : Nat → Mem → Nat → Option Blk → Mem
  | 0, m, _, _ => m
  | f + 1, m, i, x =>
    if i = 0 then .node x m.kids.2.1 m.kids.2.2
    else if i % 2 = 1 then .node m.kids.1 (m.kids.2.1.put f (i / 2) x) m.kids.2.2
    else .node m.kids.1 m.kids.2.1 (m.kids.2.2.put f (i / 2 - 1) x)

theorem Mem.get_kids (m : Mem) (i : Nat) : m.get i = if i = 0 then m.kids.1 else if i % 2 = 1 then m.kids.2.1.get (i / 2) else m.kids.2.2.get (i / 2 - 1) := by
  cases m with
  | nil => simp [Mem.get, Mem.kids]
  | node b l r => simp [Mem.get, Mem.kids]

theorem Mem.get_put : ∀ (f : Nat) (m : Mem) (i : Nat) (x : Option Blk) (j : Nat), i < f → (m.put f i x).get j = if j = i then x else m.get j
  | 0, _, _, _, _, h => by omega
  | f + 1, m, i, x, j, h => by
    unfold Mem.put
    by_cases h0 : i = 0
    · subst h0
      rw [if_pos rfl, Mem.get_kids m j]
      simp only [Mem.get]
      by_cases hj : j = 0 <;> simp [hj]
    · rw [if_neg h0]
      by_cases h1 : i % 2 = 1
      · rw [if_pos h1, Mem.get_kids m j]
        simp only [Mem.get]
        by_cases hj : j = 0
        · subst hj; rw [if_pos rfl, if_neg (fun e => h0 e.symm), if_pos rfl]
        · rw [if_neg hj, if_neg hj]
          by_cases hj1 : j % 2 = 1
          · rw [if_pos hj1, if_pos hj1, Mem.get_put f _ _ _ _ (by omega)]
            by_cases e : j = i
            · subst e; simp
            · rw [if_neg e, if_neg (by omega)]
          · rw [if_neg hj1, if_neg hj1, if_neg (by omega)]
      · rw [if_neg h1, Mem.get_kids m j]
        simp only [Mem.get]
        by_cases hj : j = 0
        · subst hj; rw [if_pos rfl, if_neg (fun e => h0 e.symm), if_pos rfl]
        · rw [if_neg hj, if_neg hj]
          by_cases hj1 : j % 2 = 1
          · rw [if_pos hj1, if_pos hj1, if_neg (by omega)]
          · rw [if_neg hj1, if_neg hj1, Mem.get_put f _ _ _ _ (by omega)]
            by_cases e : j = i
            · subst e; simp
            · rw [if_neg e, if_neg (by omega)]

def Mem.ro : Mem → Mem
  | .nil => .nil
  | .node b l r => .node (b.map Blk.ro) l.ro r.ro

structure St where
  mem : Mem
  next : Nat

def St.get (S : St) (i : Nat) : Option Blk := S.mem.get i
def St.put (S : St) (i : Nat) (b : Option Blk) : St := { S with mem := S.mem.put (i + 1) i b }
def St.new (S : St) (b : Blk) : St := { mem := S.mem.put (S.next + 1) S.next (some b), next := S.next + 1 }
def St.ro (S : St) : St := { S with mem := S.mem.ro }
def St.empty : St := ⟨.nil, 0⟩

@[simp] theorem St.get_put (S : St) (i : Nat) (b : Option Blk) (j : Nat) : (S.put i b).get j = if j = i then b else S.get j := by
  simp [St.get, St.put, Mem.get_put]
@[simp] theorem St.get_new (S : St) (b : Blk) (j : Nat) : (S.new b).get j = if j = S.next then some b else S.get j := by
  simp [St.get, St.new, Mem.get_put]
@[simp] theorem St.next_put (S : St) (i : Nat) (b : Option Blk) : (S.put i b).next = S.next := rfl
@[simp] theorem St.next_new (S : St) (b : Blk) : (S.new b).next = S.next + 1 := rfl
@[simp] theorem St.next_ro (S : St) : S.ro.next = S.next := rfl
@[simp] theorem St.get_empty (i : Nat) : St.empty.get i = none := rfl

def EntR (m : LM) : List (V × V) → List MapEntry → Prop
  | [], es => es = []
  | (k, v) :: r, es => ∃ e es', es = e :: es' ∧ VR m k e.key ∧ VR m v e.val ∧ EntR m r es'

def Unfz (fz : Nat × Nat) (_ : Nat) : Prop := fz.1 = fz.2

theorem Unfz.not {fz : Nat × Nat} {n o : Nat} (h : Unfz fz n) (_ : o < n) : ¬ (fz.1 ≤ o ∧ o < fz.2) := by
  unfold Unfz at h
  omega

def objTmps : Obj → List Value
  | .loop r => r.tmps.toList
  | _ => []

def BlkR (m : LM) (L : Loc) (w : World) : Blk → Prop
  | .cells vs own => L.block < w.heap.size ∧ (∀ j v, vs[j]? = some v → ∃ u, w.cell? ⟨L.block, L.off + j, none⟩ = some u ∧ VR m v u) ∧ (L.own = true → L.off + vs.length ≤ L.size) ∧
      (own = true → L.own = true ∧ ∃ cs t fz, w.heap[L.block]? = some (.cells cs t fz) ∧ cs.size = L.size ∧ Unfz fz L.size)
  | .map es _ => ∃ ces clock, w.heap[L.block]? = some (.map ces clock) ∧ EntR m es ces.toList ∧ (∀ e ∈ ces.toList, e.born < clock) ∧ (ces.toList.map (·.born)).Nodup
  | .dead n => L.own = true ∧ L.off + n ≤ L.size ∧ ∃ cs t fz, w.heap[L.block]? = some (.cells cs t fz) ∧ cs.size = L.size ∧ Unfz fz L.size
  | .odd l o fr => L.block = l ∧ L.off = 0 ∧ L.own = true ∧ w.heap[L.block]? = some o ∧ VRs m fr (objTmps o)
  | .glob g vs => L.block = g ∧ L.block < w.heap.size ∧ ∃ cs t fz, w.heap[g]? = some (.cells cs t fz) ∧ VRs m vs cs.toList
  | .mapX es bs c _ => ∃ ces, w.heap[L.block]? = some (.map ces c) ∧ EntR m es ces.toList ∧ (∀ e ∈ ces.toList, e.born < c) ∧ (ces.toList.map (·.born)).Nodup ∧ ces.toList.map (·.born) = bs
  | .obj t n vs => (L.block < w.heap.size ∧ (∀ j v, vs[j]? = some v → ∃ u, w.cell? ⟨L.block, L.off + j, none⟩ = some u ∧ VR m v u) ∧ (L.own = true → L.off + vs.length ≤ L.size) ∧
      (true = true → L.own = true ∧ ∃ cs t fz, w.heap[L.block]? = some (.cells cs t fz) ∧ cs.size = L.size ∧ Unfz fz L.size)) ∧ (L.off = 0 ∧ n = L.size) ∧ ∃ cs, w.heap[L.block]? = some (.cells cs t (0, 0))
  | .iter i since seen st => L.off = 0 ∧ ∃ Li, m i = some Li ∧ w.heap[L.block]? = some (.mapIter (some Li.block) since seen.toArray st)

structure Sim (m : LM) (S : St) (base : Nat) (w0 w : World) : Prop where
  below : Below base w0 w
  base_le : base ≤ w.heap.size
  freshS : ∀ i, S.next ≤ i → S.get i = none
  freshM : ∀ i, S.next ≤ i → m i = none
  blk : ∀ i b, S.get i = some b → ∃ L, m i = some L ∧ BlkR m L w b ∧ (b.own = true → base ≤ L.block)
  apart : ∀ i j b b' L L', i ≠ j → S.get i = some b → S.get j = some b' → b.own = true → m i = some L → m j = some L' → L.block ≠ L'.block

theorem BlkR.lt {m : LM} {L : Loc} {w : World} {b : Blk} (h : BlkR m L w b) : L.block < w.heap.size := by
  cases b with
  | cells vs own => exact h.1
  | obj t n vs => exact h.1.1
  | map es own =>
    obtain ⟨ces, clock, h1, _⟩ := h
    rcases Nat.lt_or_ge L.block w.heap.size with h' | h'
    · exact h'
    · simp [Array.getElem?_eq_none h'] at h1
  | glob g vs => exact h.2.1
  | dead n =>
    obtain ⟨_, _, cs, t, fz, h1, _⟩ := h
    rcases Nat.lt_or_ge L.block w.heap.size with h' | h'
    · exact h'
    · simp [Array.getElem?_eq_none h'] at h1
  | odd l o fr =>
    obtain ⟨_, _, _, h1, _⟩ := h
    rcases Nat.lt_or_ge L.block w.heap.size with h' | h'
    · exact h'
    · simp [Array.getElem?_eq_none h'] at h1
  | mapX es bs c own =>
    obtain ⟨ces, h1, _⟩ := h
    rcases Nat.lt_or_ge L.block w.heap.size with h' | h'
    · exact h'
    · simp [Array.getElem?_eq_none h'] at h1
  | iter i since seen st =>
    obtain ⟨_, Li, _, h1⟩ := h
    rcases Nat.lt_or_ge L.block w.heap.size with h' | h'
    · exact h'
    · simp [Array.getElem?_eq_none h'] at h1

theorem EntR.mono {m m' : LM} (h : Ext m m') : ∀ {es : List (V × V)} {ces : List MapEntry}, EntR m es ces → EntR m' es ces
  | [], _, r => r
  | (k, v) :: es, _, r => by
    obtain ⟨e, es', rfl, h1, h2, h3⟩ := r
    exact ⟨e, es', rfl, VR.mono h _ _ h1, VR.mono h _ _ h2, EntR.mono h h3⟩

theorem BlkR.keep {m m' : LM} {L : Loc} {w w' : World} {b : Blk} (h : BlkR m L w b) (hm : Ext m m') (hs : w.heap.size ≤ w'.heap.size) (hb : w'.heap[L.block]? = w.heap[L.block]?) : BlkR m' L w' b := by
  cases b with
  | obj t n vs =>
    obtain ⟨⟨h1, h2, h4, h3⟩, h5, cs', h6⟩ := h
    refine ⟨⟨by omega, fun j v hj => ?_, h4, fun ho => ?_⟩, h5, cs', by rw [hb]; exact h6⟩
    · obtain ⟨u, hu, r⟩ := h2 j v hj
      exact ⟨u, by rw [World.cell?_of_block (w := w) hb]; exact hu, VR.mono hm _ _ r⟩
    · obtain ⟨g1, cs, t, fz, g2, g3⟩ := h3 ho
      exact ⟨g1, cs, t, fz, by rw [hb]; exact g2, g3⟩
  | cells vs own =>
    obtain ⟨h1, h2, h4, h3⟩ := h
    refine ⟨by omega, fun j v hj => ?_, h4, fun ho => ?_⟩
    · obtain ⟨u, hu, r⟩ := h2 j v hj
      exact ⟨u, by rw [World.cell?_of_block (w := w) hb]; exact hu, VR.mono hm _ _ r⟩
    · obtain ⟨g1, cs, t, fz, g2, g3⟩ := h3 ho
      exact ⟨g1, cs, t, fz, by rw [hb]; exact g2, g3⟩
  | map es own =>
    obtain ⟨ces, clock, h1, h2, h3⟩ := h
    exact ⟨ces, clock, by rw [hb]; exact h1, EntR.mono hm h2, h3⟩
  | dead n =>
    obtain ⟨h1, h2, cs, t, fz, h3, h4⟩ := h
    exact ⟨h1, h2, cs, t, fz, by rw [hb]; exact h3, h4⟩
  | odd l o fr =>
    obtain ⟨h0, h1, h2, h3, h4⟩ := h
    exact ⟨h0, h1, h2, by rw [hb]; exact h3, VRs.mono hm _ _ h4⟩
  | mapX es bs c own =>
    obtain ⟨ces, h1, h2, h3⟩ := h
    exact ⟨ces, by rw [hb]; exact h1, EntR.mono hm h2, h3⟩
  | iter i since seen st =>
    obtain ⟨h0, Li, h1, h2⟩ := h
    exact ⟨h0, Li, hm _ _ h1, by rw [hb]; exact h2⟩
  | glob g vs =>
    obtain ⟨h1, h2, h3⟩ := h
    subst h1
    obtain ⟨cs, t, fz, h4, h5⟩ := h3
    exact ⟨rfl, by omega, cs, t, fz, by rw [hb]; exact h4, VRs.mono hm _ _ h5⟩

theorem BlkR.glob_cell {m : LM} {L : Loc} {w : World} {g : Nat} {vs : List V} (h : BlkR m L w (.glob g vs)) {j : Nat} {v : V} (hj : vs[j]? = some v) : ∃ u, w.cell? ⟨g, j, none⟩ = some u ∧ VR m v u := by
  obtain ⟨_, _, cs, t, fz, h1, h2⟩ := h
  obtain ⟨u, h3, h4⟩ := h2.get hj
  exact ⟨u, by simp only [World.cell?, h1]; simpa using h3, h4⟩

end Go.Th
end

section
/- The simulation's moves: a new block, a block written, a block moved, a block given up. -/
namespace Go.Th
open Go.RowKit

def LM.put (m : LM) (i : Nat) (L : Loc) : LM := fun j => if j = i then some L else m j

theorem LM.put_same (m : LM) (i : Nat) (L : Loc) : m.put i L i = some L := by simp [LM.put]
theorem LM.put_other (m : LM) {i j : Nat} (L : Loc) (h : j ≠ i) : m.put i L j = m j := by simp [LM.put, h]
theorem LM.ext_put {m : LM} {i : Nat} (L : Loc) (h : m i = none) : Ext m (m.put i L) := by
  intro j L' hj
  by_cases e : j = i
  · subst e; rw [h] at hj; cases hj
  · rw [LM.put_other m L e]; exact hj

def setAt (w : World) (b : Nat) (o : Obj) : World := { w with heap := w.heap.setIfInBounds b o }

@[simp] theorem setAt_size (w : World) (b : Nat) (o : Obj) : (setAt w b o).heap.size = w.heap.size := by simp [setAt]
theorem setAt_same (w : World) (b : Nat) (o : Obj) (h : b < w.heap.size) : (setAt w b o).heap[b]? = some o := by
  simp [setAt, h]
theorem setAt_other (w : World) (b : Nat) (o : Obj) {c : Nat} (h : c ≠ b) : (setAt w b o).heap[c]? = w.heap[c]? := by
  simp only [setAt, Array.getElem?_setIfInBounds]
  rw [if_neg (fun e => h e.symm)]
theorem setAt_setAt (w : World) (b : Nat) (o o' : Obj) : setAt (setAt w b o) b o' = setAt w b o' := by
  simp [setAt]
theorem setAt_id (w : World) (b : Nat) (o : Obj) (h : w.heap[b]? = some o) : setAt w b o = w := by
  unfold setAt
  have : w.heap.setIfInBounds b o = w.heap := by
    apply Array.ext_getElem?
    intro j
    rw [Array.getElem?_setIfInBounds]
    split
    · rename_i e
      subst e
      have hb : b < w.heap.size := by
        rcases Nat.lt_or_ge b w.heap.size with h' | h'
        · exact h'
        · simp [Array.getElem?_eq_none h'] at h
      rw [if_pos hb, h]
    · rfl
  rw [this]

theorem below_setAt {B : Nat} {a w : World} (h : Below B a w) {b : Nat} (hb : B ≤ b) (o : Obj) : Below B a (setAt w b o) :=
  h.trans ⟨rfl, rfl, rfl, by simp, fun k hk => setAt_other w b o (by omega)⟩

theorem cell_setAt (w : World) (b : Nat) (cs : Array Value) (t : TypeId) (fz : Nat × Nat) (h : b < w.heap.size) (i : Nat) :
    (setAt w b (.cells cs t fz)).cell? ⟨b, i, none⟩ = cs[i]? := by
  simp [World.cell?, setAt_same w b _ h]

theorem setCell_setAt (w : World) (b i : Nat) (v : Value) (cs : Array Value) (t : TypeId) (fz : Nat × Nat) (h : w.heap[b]? = some (.cells cs t fz)) :
    w.setCell ⟨b, i, none⟩ v = setAt w b (.cells (cs.setIfInBounds i v) t fz) := by
  unfold World.setCell setAt
  have hb : b < w.heap.size := by
    rcases Nat.lt_or_ge b w.heap.size with h' | h'
    · exact h'
    · simp [Array.getElem?_eq_none h'] at h
  congr 1
  apply Array.ext_getElem?
  intro j
  rw [Array.getElem?_modify, Array.getElem?_setIfInBounds]
  by_cases e : b = j
  · subst e
    rw [if_pos rfl, if_pos rfl, if_pos hb, h]
    simp
  · rw [if_neg e, if_neg e]

theorem frozen_setAt (w : World) (b i : Nat) (cs : Array Value) (t : TypeId) (fz : Nat × Nat) (h : w.heap[b]? = some (.cells cs t fz)) :
    w.frozen? ⟨b, i, none⟩ = (decide (fz.1 ≤ i) && decide (i < fz.2)) := by
  obtain ⟨lo, hi⟩ := fz
  simp [World.frozen?, h]

theorem Sim.draw {m : LM} {S : St} {base : Nat} {w0 w : World} (h : Sim m S base w0 w) : Sim m S base w0 w.drew :=
  ⟨h.below.drew, h.base_le, h.freshS, h.freshM, h.blk, h.apart⟩

theorem Sim.newBlk {m : LM} {S : St} {base : Nat} {w0 w : World} (h : Sim m S base w0 w) (o : Obj) (b : Blk) (L : Loc) (hL : L.block = w.heap.size)
    (hR : BlkR (m.put S.next L) L (w.alloc o) b) : Sim (m.put S.next L) (S.new b) base w0 (w.alloc o) := by
  have hx : Ext m (m.put S.next L) := LM.ext_put L (h.freshM _ (Nat.le_refl _))
  refine ⟨h.below.alloc h.base_le o, by have := h.base_le; simp; omega, ?_, ?_, ?_, ?_⟩
  · intro i hi
    simp only [St.next_new] at hi
    rw [St.get_new, if_neg (by omega)]
    exact h.freshS i (by omega)
  · intro i hi
    simp only [St.next_new] at hi
    rw [LM.put_other m L (by omega)]
    exact h.freshM i (by omega)
  · intro i b' hi
    rw [St.get_new] at hi
    by_cases e : i = S.next
    · subst e
      rw [if_pos rfl] at hi
      cases hi
      exact ⟨L, LM.put_same m _ L, hR, fun _ => by have := h.base_le; omega⟩
    · rw [if_neg e] at hi
      obtain ⟨L', h1, h2, h3⟩ := h.blk i b' hi
      exact ⟨L', by rw [LM.put_other m L e]; exact h1, h2.keep hx (by simp) (Below.heap_alloc w o _ h2.lt), h3⟩
  · intro i j b1 b2 L1 L2 hij h1 h2 ho g1 g2
    rw [St.get_new] at h1 h2
    by_cases e1 : i = S.next
    · subst e1
      rw [if_neg (fun e => hij e.symm)] at h2
      rw [LM.put_same] at g1
      cases g1
      rw [LM.put_other m L (fun e => hij e.symm)] at g2
      obtain ⟨L', k1, k2, _⟩ := h.blk j b2 h2
      rw [k1] at g2; cases g2
      have := k2.lt
      omega
    · rw [if_neg e1] at h1
      rw [LM.put_other m L e1] at g1
      by_cases e2 : j = S.next
      · subst e2
        rw [LM.put_same] at g2
        cases g2
        obtain ⟨L', k1, k2, _⟩ := h.blk i b1 h1
        rw [k1] at g1; cases g1
        have := k2.lt
        omega
      · rw [if_neg e2] at h2
        rw [LM.put_other m L e2] at g2
        exact h.apart i j b1 b2 L1 L2 hij h1 h2 ho g1 g2

theorem Sim.putBlk {m : LM} {S : St} {base : Nat} {w0 w : World} (h : Sim m S base w0 w) {i : Nat} {b : Blk} {L : Loc} (hi : S.get i = some b) (ho : b.own = true) (hL : m i = some L)
    (o' : Obj) (b' : Blk) (hR : BlkR m L (setAt w L.block o') b') : Sim m (S.put i (some b')) base w0 (setAt w L.block o') := by
  have hbase : base ≤ L.block := by
    obtain ⟨L', h1, h2, h3⟩ := h.blk i b hi
    rw [h1] at hL; cases hL
    exact h3 ho
  refine ⟨below_setAt h.below hbase o', by simpa using h.base_le, ?_, h.freshM, ?_, ?_⟩
  · intro j hj
    simp only [St.next_put] at hj
    rw [St.get_put]
    by_cases e : j = i
    · subst e; rw [h.freshS j hj] at hi; cases hi
    · rw [if_neg e]; exact h.freshS j hj
  · intro j b2 hj
    rw [St.get_put] at hj
    by_cases e : j = i
    · subst e
      rw [if_pos rfl] at hj; cases hj
      exact ⟨L, hL, hR, fun _ => hbase⟩
    · rw [if_neg e] at hj
      obtain ⟨L', h1, h2, h3⟩ := h.blk j b2 hj
      have hne : L.block ≠ L'.block := h.apart i j b b2 L L' (fun e' => e e'.symm) hi hj ho hL h1
      exact ⟨L', h1, h2.keep (Ext.refl m) (by simp) (setAt_other w _ _ (fun e' => hne e'.symm)), h3⟩
  · intro j k b1 b2 L1 L2 hjk h1 h2 ho1 g1 g2
    rw [St.get_put] at h1 h2
    by_cases e1 : j = i
    · subst e1
      rw [if_neg (fun e => hjk e.symm)] at h2
      exact h.apart j k b b2 L1 L2 hjk hi h2 ho g1 g2
    · rw [if_neg e1] at h1
      by_cases e2 : k = i
      · subst e2
        exact h.apart j k b1 b L1 L2 hjk h1 hi ho1 g1 g2
      · rw [if_neg e2] at h2
        exact h.apart j k b1 b2 L1 L2 hjk h1 h2 ho1 g1 g2

theorem Sim.kill {m : LM} {S : St} {base : Nat} {w0 w : World} (h : Sim m S base w0 w) (i : Nat) : Sim m (S.put i none) base w0 w := by
  refine ⟨h.below, h.base_le, ?_, h.freshM, ?_, ?_⟩
  · intro j hj
    rw [St.get_put]
    split
    · rfl
    · exact h.freshS j hj
  · intro j b hj
    rw [St.get_put] at hj
    split at hj
    · cases hj
    · exact h.blk j b hj
  · intro j k b1 b2 L1 L2 hjk h1 h2
    rw [St.get_put] at h1 h2
    split at h1
    · cases h1
    · split at h2
      · cases h2
      · exact h.apart j k b1 b2 L1 L2 hjk h1 h2

theorem Sim.moved {m : LM} {S : St} {base : Nat} {w0 w : World} (h : Sim m S base w0 w) {i : Nat} {b : Blk} {L : Loc} (hi : S.get i = some b) (ho : b.own = true) (hL : m i = some L)
    (o' : Obj) (b' : Blk) (L' : Loc) (hL' : L'.block = L.block) (hR : BlkR (m.put S.next L') L' (setAt w L.block o') b') :
    Sim (m.put S.next L') ((S.put i none).new b') base w0 (setAt w L.block o') := by
  have hx : Ext m (m.put S.next L') := LM.ext_put L' (h.freshM _ (Nat.le_refl _))
  have hbase : base ≤ L.block := by
    obtain ⟨L2, h1, h2, h3⟩ := h.blk i b hi
    rw [h1] at hL; cases hL
    exact h3 ho
  have hin : i ≠ S.next := by
    intro e; subst e; rw [h.freshS _ (Nat.le_refl _)] at hi; cases hi
  refine ⟨below_setAt h.below hbase o', by simpa using h.base_le, ?_, ?_, ?_, ?_⟩
  · intro j hj
    simp only [St.next_new, St.next_put] at hj
    rw [St.get_new, St.next_put, if_neg (by omega), St.get_put]
    split
    · rfl
    · exact h.freshS j (by omega)
  · intro j hj
    simp only [St.next_new, St.next_put] at hj
    rw [LM.put_other m L' (by omega)]
    exact h.freshM j (by omega)
  · intro j b2 hj
    rw [St.get_new, St.next_put, St.get_put] at hj
    by_cases e : j = S.next
    · subst e
      rw [if_pos rfl] at hj; cases hj
      exact ⟨L', LM.put_same m _ L', hR, fun _ => by omega⟩
    · rw [if_neg e] at hj
      by_cases e2 : j = i
      · rw [if_pos e2] at hj; cases hj
      · rw [if_neg e2] at hj
        obtain ⟨L2, h1, h2, h3⟩ := h.blk j b2 hj
        have hne : L.block ≠ L2.block := h.apart i j b b2 L L2 (fun e' => e2 e'.symm) hi hj ho hL h1
        exact ⟨L2, by rw [LM.put_other m L' e]; exact h1, h2.keep hx (by simp) (setAt_other w _ _ (fun e' => hne e'.symm)), h3⟩
  · intro j k b1 b2 L1 L2 hjk h1 h2 ho1 g1 g2
    rw [St.get_new, St.next_put, St.get_put] at h1 h2
    by_cases e1 : j = S.next
    · subst e1
      rw [LM.put_same] at g1; cases g1
      rw [if_neg (fun e => hjk e.symm)] at h2
      rw [LM.put_other m L' (fun e => hjk e.symm)] at g2
      by_cases e2 : k = i
      · rw [if_pos e2] at h2; cases h2
      · rw [if_neg e2] at h2
        rw [hL']
        exact h.apart i k b b2 L L2 (fun e => e2 e.symm) hi h2 ho hL g2
    · rw [if_neg e1] at h1
      rw [LM.put_other m L' e1] at g1
      by_cases e3 : j = i
      · rw [if_pos e3] at h1; cases h1
      · rw [if_neg e3] at h1
        by_cases e2 : k = S.next
        · subst e2
          rw [LM.put_same] at g2; cases g2
          rw [hL']
          intro e
          exact h.apart i j b b1 L L1 (fun e => e3 e.symm) hi h1 ho hL g1 e.symm
        · rw [if_neg e2] at h2
          rw [LM.put_other m L' e2] at g2
          by_cases e4 : k = i
          · rw [if_pos e4] at h2; cases h2
          · rw [if_neg e4] at h2
            exact h.apart j k b1 b2 L1 L2 hjk h1 h2 ho1 g1 g2

theorem Sim.later {m : LM} {S : St} {base : Nat} {w0 w w' : World} (h : Sim m S base w0 w) (hb : Below w.heap.size w w') : Sim m S base w0 w' := by
  refine ⟨h.below.trans (hb.mono h.base_le), Nat.le_trans h.base_le hb.size, h.freshS, h.freshM, ?_, h.apart⟩
  intro i b hi
  obtain ⟨L, h1, h2, h3⟩ := h.blk i b hi
  exact ⟨L, h1, h2.keep (Ext.refl m) hb.size (hb.block _ h2.lt), h3⟩

end Go.Th
end
