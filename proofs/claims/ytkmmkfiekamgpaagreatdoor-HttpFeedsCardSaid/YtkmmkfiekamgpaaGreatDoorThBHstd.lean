/- What the row of one statement stands on: a store, abstract code, functions of the program and their laws (ThHstd). -/
import Derived.Test.YtkmmkfiekamgpaaGreatDoorThBQ11
import Derived.Test.YtkmmkfiekamgpaaGreatDoorThBR4
import Derived.Test.YtkmmkfiekamgpaaGreatDoorThBPfind
import Derived.Test.YtkmmkfiekamgpaaGreatDoorThBPfact
import Derived.Lib.TrimByte
import Derived.Lib.Case
import Derived.Lib.SlicesS
import Derived.Lib.Bytes

section
/- What the library's functions answer (texts, bytes), as calls over the store; package variables that they read. -/
set_option linter.unusedSimpArgs false
set_option linter.unusedVariables false
namespace Go.Th
open Go Go.Th.Pure

/-- The variables: the greatest length for an index by hand, the two errors of numbers, the powers of ten. -/
structure HG (S : St) : Prop where
  len : ∃ m, S.get 0 = some (.glob 0 [.int .i64 m])
  e1 : ∃ t, S.get 1 = some (.glob 1 [.iface t .junk])
  e2 : ∃ t, S.get 2 = some (.glob 2 [.iface t .junk])
  tab : S.get 3 = some (.glob 3 (Lib.pow10Tab.map (V.int .u64)))
theorem glob_upd {D : List Nat} {S S' : St} (u : Upd D S S') (hD : ∀ i ∈ D, (∃ cs, S.get i = some (.cells cs true)) ∨ S.next ≤ i) {g : Nat} {vs : List V} (h : S.get g = some (.glob g vs)) : S'.get g = some (.glob g vs) := by
  refine u.get h fun hi => ?_
  rcases hD g hi with ⟨cs, h1⟩ | h1
  · rw [h] at h1; cases h1
  · have := u.wf0.lt h; omega
theorem glob_ro {S : St} {g : Nat} {vs : List V} (h : S.get g = some (.glob g vs)) : S.ro.get g = some (.glob g vs) := by rw [St.get_ro, h]; rfl
theorem HG.upd {D : List Nat} {S S' : St} (h : HG S) (u : Upd D S S') (hD : ∀ i ∈ D, (∃ cs, S.get i = some (.cells cs true)) ∨ S.next ≤ i) : HG S' :=
  ⟨h.len.imp fun _ h => glob_upd u hD h, h.e1.imp fun _ h => glob_upd u hD h, h.e2.imp fun _ h => glob_upd u hD h, glob_upd u hD h.tab⟩
theorem HG.grow {S S' : St} (h : HG S) (g : Grow S S') : HG S' := h.upd g (by simp)
theorem HG.ro {S : St} (h : HG S) : HG S.ro := ⟨h.len.imp fun _ h => glob_ro h, h.e1.imp fun _ h => glob_ro h, h.e2.imp fun _ h => glob_ro h, glob_ro h.tab⟩

def strsV (l : List Bs) : List V := l.map V.str

def CutS (P : Program) (f : Nat) : Prop := ∀ (s t : Bs) (S : St) (Q : Post), HG S → s.length < 4294967281 → Q (.ret (.tuple [.str (cutL s t).1, .str (cutL s t).2.1, .bool (cutL s t).2.2])) S → CallA P f [.str s, .str t] S Q
def SplitS (P : Program) (f : Nat) : Prop := ∀ (s t : Bs) (S : St) (Q : Post), HG S → s.length < 4294967281 → t ≠ [] →
  Q (.ret (.slice S.next 0 (splitL s t).length (splitL s t).length 1 true)) (S.new (.cells (strsV (splitL s t)) true)) → CallA P f [.str s, .str t] S Q
def BIndexS (P : Program) (f : Nat) : Prop := ∀ (v u : V) (s t : Bs) (S : St) (Q : Post), HG S → BytesAt S v s → BytesAt S u t → t ≠ [] → s.length < 4294967281 → Q (.ret (.int .i64 (Lib.index s t))) S → CallA P f [v, u] S Q
def BPrefixS (P : Program) (f : Nat) : Prop := ∀ (v u : V) (s t : Bs) (S : St) (Q : Post), BytesAt S v s → BytesAt S u t → Q (.ret (.bool (Lib.hasPrefix s t))) S → CallA P f [v, u] S Q
def BEqualS (P : Program) (f : Nat) : Prop := ∀ (v u : V) (s t : Bs) (S : St) (Q : Post), BytesAt S v s → BytesAt S u t → Q (.ret (.bool (s == t))) S → CallA P f [v, u] S Q
def PrefixS (P : Program) (f : Nat) : Prop := ∀ (s t : Bs) (S : St) (Q : Post), Q (.ret (.bool (Lib.hasPrefix s t))) S → CallA P f [.str s, .str t] S Q
def CutPrefixS (P : Program) (f : Nat) : Prop := ∀ (s t : Bs) (S : St) (Q : Post), Q (.ret (.tuple [.str (Lib.trimPrefix s t), .bool (Lib.hasPrefix s t)])) S → CallA P f [.str s, .str t] S Q
def TrimS (P : Program) (f : Nat) : Prop := ∀ (s : Bs) (c : UInt8) (S : St) (Q : Post), c.toNat < 128 → s.length ≤ 9223372036854775807 → Q (.ret (.str (Lib.trimB s c))) S → CallA P f [.str s, .str [c]] S Q
def LowerS (P : Program) (f : Nat) : Prop := ∀ (s : Bs) (S : St) (Q : Post), s.length ≤ 140737488355328 → (s.all fun b => decide (b.toNat < 128)) = true → Q (.ret (.str (Lib.toLowerA s))) S → CallA P f [.str s] S Q
def ItoaS (P : Program) (f : Nat) : Prop := ∀ (n : Int) (S : St) (Q : Post), HG S → -9223372036854775808 ≤ n → n ≤ 9223372036854775807 → Q (.ret (.str (Lib.itoa n))) S → CallA P f [.int .i64 n] S Q
def AtoiS (P : Program) (f : Nat) : Prop := ∀ (s : Bs) (S : St) (Q : Post), HG S → s.length ≤ 281474976710656 → (∀ v, Lib.atoiAll s = .ok v → Q (.ret (.tuple [.int .i64 v, .nilIface])) S) →
  ((∀ v, Lib.atoiAll s ≠ .ok v) → ∀ n t, Q (.ret (.tuple [.int .i64 n, .iface t .junk])) S) → CallA P f [.str s] S Q
def ContainsS (P : Program) (f : Nat) : Prop := ∀ (v : V) (zs : List Bs) (x : Bs) (S : St) (Q : Post), SlAt S 1 v zs.length (strsV zs) → Q (.ret (.bool (zs.contains x))) S → CallA P f [v, .str x] S Q

/-! ## slices of plain cells, concretely -/
theorem sl_arg {m : LM} {S : St} {base : Nat} {w0 w : World} (hS : Sim m S base w0 w) {v : V} {n : Nat} {cs : List V} {u : Value} (h : SlAt S 1 v n cs) (hv : VR m v u) :
    ∃ p c, u = .slice p n c ∧ n ≤ c ∧ (p = none → n = 0 ∧ c = 0) ∧ (0 < n → ∃ b o, p = some ⟨b, o, none⟩ ∧ ∀ j x, cs[j]? = some x → ∃ y, w.cell? ⟨b, o + j, none⟩ = some y ∧ VR m x y) := by
  rcases h.2.2 with ⟨rfl, rfl⟩ | ⟨i, o, c, t, rfl, hc, hl⟩
  · obtain rfl := hv.nilSlice_inv
    exact ⟨none, 0, rfl, Nat.le_refl _, fun _ => ⟨rfl, rfl⟩, fun h => absurd h (Nat.lt_irrefl 0)⟩
  · obtain ⟨L, x, c', hL, rfl, ok⟩ := hv.slice_inv
    refine ⟨some x, c', rfl, Nat.le_trans hc ok.cap_le, (fun h => nomatch h), fun hn => ?_⟩
    refine ⟨L.block, L.off + o, ?_, fun j y hj => ?_⟩
    · rw [ok.place (by have := ok.cap_le; omega)]
    · rw [Nat.mul_one] at hl
      obtain ⟨vs, own, hg, h2, rfl⟩ := St.loads_pos hl hn
      have hj' : vs[o + j]? = some y := by
        rw [List.getElem?_take] at hj
        split at hj
        · rwa [List.getElem?_drop] at hj
        · cases hj
      obtain ⟨L', u, k1, k2, k3⟩ := hS.cell hg hj'
      rw [k1] at hL; cases hL
      exact ⟨u, by rw [Nat.add_assoc]; exact k2, k3⟩

def zs (l : Bs) : List Int := l.map fun b => ((b.toNat : Nat) : Int)
theorem zs_of (l : Bs) : Lib.bytesOf (zs l) = l := by
  simp only [Lib.bytesOf, zs, List.map_map]
  rw [List.map_congr_left (g := id)]
  · simp
  · intro b _; simp
theorem zs_len (l : Bs) : (zs l).length = l.length := by simp [zs]
theorem zs_range (l : Bs) : ∀ x ∈ zs l, 0 ≤ x ∧ x < 256 := by
  intro x hx
  simp only [zs, List.mem_map] at hx
  obtain ⟨b, _, rfl⟩ := hx
  have := b.toNat_lt
  omega
theorem bytes_cell {m : LM} {w : World} {b o : Nat} {l : Bs} (h : ∀ j x, (bytesV l)[j]? = some x → ∃ y, w.cell? ⟨b, o + j, none⟩ = some y ∧ VR m x y) : ∀ i, i < l.length → w.cell? ⟨b, o + i, none⟩ = some (.int .u8 ((zs l).getD i 0)) := by
  intro i hi
  obtain ⟨y, h1, h2⟩ := h i _ (bytesV_get hi)
  rw [h1, h2.int_inv]
  simp [zs, List.getD, hi]
theorem bytes_arg {m : LM} {S : St} {base : Nat} {w0 w : World} (hS : Sim m S base w0 w) {v : V} {l : Bs} {u : Value} (h : BytesAt S v l) (hv : VR m v u) :
    ∃ p c, u = .slice p l.length c ∧ l.length ≤ c ∧ (p = none → l.length = 0 ∧ c = 0) ∧ (0 < l.length → ∃ b o, p = some ⟨b, o, none⟩ ∧ ∀ i, i < l.length → w.cell? ⟨b, o + i, none⟩ = some (.int .u8 ((zs l).getD i 0))) := by
  obtain ⟨p, c, h1, h2, h3, h4⟩ := sl_arg hS h hv
  exact ⟨p, c, h1, h2, h3, fun hn => let ⟨b, o, h5, h6⟩ := h4 hn; ⟨b, o, h5, bytes_cell h6⟩⟩

theorem args1 {m : LM} {v : V} {args : Array Value} (h : VRs m [v] args.toList) : ∃ u, args = #[u] ∧ VR m v u := by
  simp only [VRs] at h
  obtain ⟨u, us, h1, h2, rfl⟩ := h
  obtain ⟨l⟩ := args
  simp only at h1
  subst h1
  exact ⟨u, rfl, h2⟩
theorem args2 {m : LM} {v v' : V} {args : Array Value} (h : VRs m [v, v'] args.toList) : ∃ u u', args = #[u, u'] ∧ VR m v u ∧ VR m v' u' := by
  simp only [VRs] at h
  obtain ⟨u, us, h1, h2, u', us', rfl, h3, rfl⟩ := h
  obtain ⟨l⟩ := args
  simp only at h1
  subst h1
  exact ⟨u, u', rfl, h2, h3⟩

theorem glob_get {m : LM} {S : St} {base : Nat} {w0 w : World} (hS : Sim m S base w0 w) {g : Nat} {vs : List V} (h : S.get g = some (.glob g vs)) : ∃ cs t fz, w.heap[g]? = some (.cells cs t fz) ∧ VRs m vs cs.toList := by
  obtain ⟨L, _, hb, _⟩ := hS.blk g _ h
  exact hb.2.2
theorem glob_cell {m : LM} {S : St} {base : Nat} {w0 w : World} (hS : Sim m S base w0 w) {g : Nat} {vs : List V} (h : S.get g = some (.glob g vs)) {j : Nat} {v : V} (hj : vs[j]? = some v) : ∃ u, w.cell? ⟨g, j, none⟩ = some u ∧ VR m v u := by
  obtain ⟨L, _, hb, _⟩ := hS.blk g _ h
  exact hb.glob_cell hj
end Go.Th
end
