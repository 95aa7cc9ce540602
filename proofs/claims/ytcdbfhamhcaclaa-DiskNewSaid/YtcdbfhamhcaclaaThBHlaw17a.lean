/- What the row of one statement stands on: a store, abstract code, functions of the program and their laws (ThHlaw17a). -/
import Derived.Test.YtcdbfhamhcaclaaThBHdiskR
import Derived.Test.YtcdbfhamhcaclaaThBPdisk2

section
/- Calls in a script, read; large; play. -/
set_option linter.unusedSimpArgs false
set_option linter.unusedVariables false
set_option maxHeartbeats 1000000
namespace Go.Th.L
open Go Go.Th Go.Th.Pure
variable {P : Program} {N : Nat → Nat}

theorem pr {α β : Type} (p : α × β) : p = (p.1, p.2) := rfl
structure OpV where
  o : OpR
  vb : V
  vc : V
def opC (x : OpV) : List V := [.int .i64 x.o.kind, .str x.o.a, .str x.o.to, x.vb, .int .i64 x.o.n, x.vc]
structure OpAt (S : St) (Z : Nat → Prop) (x : OpV) : Prop where
  b : BytesAt S x.vb x.o.b
  bl : x.o.b ≠ [] → ∀ i ∈ x.vb.block, Z i
  c : IntsAt S x.vc x.o.cs
  cl : x.o.cs ≠ [] → ∀ i ∈ x.vc.block, Z i
  n : -9223372036854775808 ≤ x.o.n ∧ x.o.n ≤ 9223372036854775807
  cs : ∀ c ∈ x.o.cs, -9223372036854775808 ≤ c ∧ c ≤ 9223372036854775807
structure ScrAt (S : St) (Z : Nat → Prop) (v : V) (l : List OpV) : Prop where
  sl : SlE S 6 v (l.map opC)
  lo : l ≠ [] → ∀ i ∈ v.block, Z i
  op : ∀ x ∈ l, OpAt S Z x
theorem bytes_none {S S' : St} {v : V} (h : BytesAt S v []) : BytesAt S' v [] := SlAt.none_ h
theorem bytes_z {S S' : St} {Z : Nat → Prop} {X : List Nat} {v : V} {b : List UInt8} (h : BytesAt S v b) (hb : b ≠ [] → ∀ i ∈ v.block, Z i) (u : Upd X S S') (hX : ∀ i ∈ X, ¬ Z i) : BytesAt S' v b := by
  by_cases h0 : b = []
  · subst h0; exact bytes_none h
  · exact SlAt.upd h u fun i hi hx => hX i hx (hb h0 i hi)
theorem ints_z {S S' : St} {Z : Nat → Prop} {X : List Nat} {v : V} {b : List Int} (h : IntsAt S v b) (hb : b ≠ [] → ∀ i ∈ v.block, Z i) (u : Upd X S S') (hX : ∀ i ∈ X, ¬ Z i) : IntsAt S' v b := by
  by_cases h0 : b = []
  · subst h0; exact ints_none h
  · exact SlAt.upd h u fun i hi hx => hX i hx (hb h0 i hi)
theorem OpAt.upd {S S' : St} {Z : Nat → Prop} {X : List Nat} {x : OpV} (h : OpAt S Z x) (u : Upd X S S') (hX : ∀ i ∈ X, ¬ Z i) : OpAt S' Z x :=
  { h with b := bytes_z h.b h.bl u hX, c := ints_z h.c h.cl u hX }
theorem ScrAt.upd {S S' : St} {Z : Nat → Prop} {X : List Nat} {v : V} {l : List OpV} (h : ScrAt S Z v l) (u : Upd X S S') (hX : ∀ i ∈ X, ¬ Z i) : ScrAt S' Z v l := by
  refine ⟨?_, h.lo, fun x hx => (h.op x hx).upd u hX⟩
  by_cases h0 : l = []
  · subst h0
    exact ⟨SlAt.none_ h.sl.1, h.sl.2⟩
  · exact SlE.upd h.sl u fun i hi hx => hX i hx (h.lo h0 i hi)
theorem ScrAt.len {S : St} {Z : Nat → Prop} {v : V} {l : List OpV} (h : ScrAt S Z v l) : lenV S 2 v = some (.int .i64 l.length) := by
  have := h.sl.len
  rwa [List.length_map] at this
theorem ScrAt.ix {S : St} {Z : Nat → Prop} {v : V} {l : List OpV} (h : ScrAt S Z v l) {j : Nat} (hj : j < l.length) : idxAddrV 6 v (.int .i64 (j : Int)) = some (eltV 6 v j 0) := h.sl.idx (by rw [List.length_map]; exact hj)
theorem ScrAt.fd {S : St} {Z : Nat → Prop} {v : V} {l : List OpV} (h : ScrAt S Z v l) {j : Nat} (hj : j < l.length) (f : Nat) : fieldAddrV f (eltV 6 v j 0) = some (eltV 6 v j f) := h.sl.fld (by rw [List.length_map]; exact hj) f
theorem ScrAt.get {S : St} {Z : Nat → Prop} {v : V} {l : List OpV} (h : ScrAt S Z v l) {j : Nat} (hj : j < l.length) : loadNV S 6 (eltV 6 v j 0) = some (.agg (opC l[j])) := by
  rw [h.sl.getN (by rw [List.length_map]; exact hj) (by omega)]
  simp
theorem ScrAt.kind {S : St} {Z : Nat → Prop} {v : V} {l : List OpV} (h : ScrAt S Z v l) {j : Nat} (hj : j < l.length) : loadV S (eltV 6 v j 0) = some (.int .i64 l[j].o.kind) := by
  rw [h.sl.get (by rw [List.length_map]; exact hj) (by omega)]
  simp [opC]

end Go.Th.L
end
