/- What the row of one statement stands on: a store, abstract code, functions of the program and their laws (ThHlaw17a). -/
import Derived.Test.YtcdbfhamhcaclaaThBHdiskR
import Derived.Test.YtcdbfhamhcaclaaThBPdisk2

section
/- Calls in a script, read; large; play. -/
set_option linter.unusedSimpArgs false
set_option linter.unusedVariables false
set_option maxHeartbeats 1000000
namespace Go.Th.L
open Go Go.Th Go.Th.Pure
variable {P : Program} {N : Nat → Nat}

theorem pr {α β : Type} (p : α × β) : p = (p.1, p.2) := rfl
structure OpV where
  o : OpR
  vb : V
  vc : V
def opC (x : OpV) : List V := [.int .i64 x.o.kind, .str x.o.a, .str x.o.to, x.vb, .int .i64 x.o.n, x.vc]
structure OpAt (S : St) (Z : Nat → Prop) (x : OpV) : Prop where
  b : BytesAt S x.vb x.o.b
  bl : x.o.b ≠ [] → ∀ i ∈ x.vb.block, Z i
  c : IntsAt S x.vc x.o.cs
  cl : x.o.cs ≠ [] → ∀ i ∈ x.vc.block, Z i
  n : -9223372036854775808 ≤ x.o.n ∧ x.o.n ≤ 9223372036854775807
  cs : ∀ c ∈ x.o.cs, -9223372036854775808 ≤ c ∧ c ≤ 9223372036854775807
structure ScrAt (S : St) (Z : Nat → Prop) (v : V) (l : List OpV) : Prop where
  sl : SlE S 6 v (l.map opC)
  lo : l ≠ [] → ∀ i ∈ v.block, Z i
  op : ∀ x ∈ l, OpAt S Z x
theorem bytes_none {S S' : St} {v : V} (h : BytesAt S v []) : BytesAt S' v [] := SlAt.none_ h
theorem bytes_z {S S' : St} {Z : Nat → Prop} {X : List Nat} {v : V} {b : List UInt8} (h : BytesAt S v b) (hb : b ≠ [] → ∀ i ∈ v.block, Z i) (u : Upd X S S') (hX : ∀ i ∈ X, ¬ Z i) : BytesAt S' v b := by
  by_cases h0 : b = []
  · subst h0; exact bytes_none h
  · exact SlAt.upd h u fun i hi hx => hX i hx (hb h0 i hi)
theorem ints_z {S S' : St} {Z : Nat → Prop} {X : List Nat} {v : V} {b : List Int} (h : IntsAt S v b) (hb : b ≠ [] → ∀ i ∈ v.block, Z i) (u : Upd X S S') (hX : ∀ i ∈ X, ¬ Z i) : IntsAt S' v b := by
  by_cases h0 : b = []
  · subst h0; exact ints_none h
  · exact SlAt.upd h u fun i hi hx => hX i hx (hb h0 i hi)
theorem OpAt.upd {S S' : St} {Z : Nat → Prop} {X : List Nat} {x : OpV} (h : OpAt S Z x) (u : Upd X S S') (hX : ∀ i ∈ X, ¬ Z i) : OpAt S' Z x :=
  { h with b := bytes_z h.b h.bl u hX, c := ints_z h.c h.cl u hX }
theorem ScrAt.upd {S S' : St} {Z : Nat → Prop} {X : List Nat} {v : V} {l : List OpV} (h : ScrAt S Z v l) (u : Upd X S S') (hX : ∀ i ∈ X, ¬ Z i) : ScrAt S' Z v l := by
  refine ⟨?_, h.lo, fun x hx => (h.op x hx).upd u hX⟩
  by_cases h0 : l = []
  · subst h0
    exact ⟨SlAt.none_ h.sl.1, h.sl.2⟩
  · exact SlE.upd h.sl u fun i hi hx => hX i hx (h.lo h0 i hi)
theorem ScrAt.len {S : St} {Z : Nat → Prop} {v : V} {l : List OpV} (h : ScrAt S Z v l) : lenV S 2 v = some (.int .i64 l.length) := by
  have := h.sl.len
  rwa [List.length_map] at this
theorem ScrAt.ix {S : St} {Z : Nat → Prop} {v : V} {l : List OpV} (h : ScrAt S Z v l) {j : Nat} (hj : j < l.length) : idxAddrV 6 v (.int .i64 (j : Int)) = some (eltV 6 v j 0) := h.sl.idx (by rw [List.length_map]; exact hj)
theorem ScrAt.fd {S : St} {Z : Nat → Prop} {v : V} {l : List OpV} (h : ScrAt S Z v l) {j : Nat} (hj : j < l.length) (f : Nat) : fieldAddrV f (eltV 6 v j 0) = some (eltV 6 v j f) := h.sl.fld (by rw [List.length_map]; exact hj) f
theorem ScrAt.get {S : St} {Z : Nat → Prop} {v : V} {l : List OpV} (h : ScrAt S Z v l) {j : Nat} (hj : j < l.length) : loadNV S 6 (eltV 6 v j 0) = some (.agg (opC l[j])) := by
  rw [h.sl.getN (by rw [List.length_map]; exact hj) (by omega)]
  simp
theorem ScrAt.kind {S : St} {Z : Nat → Prop} {v : V} {l : List OpV} (h : ScrAt S Z v l) {j : Nat} (hj : j < l.length) : loadV S (eltV 6 v j 0) = some (.int .i64 l[j].o.kind) := by
  rw [h.sl.get (by rw [List.length_map]; exact hj) (by omega)]
  simp [opC]

def SmallO (x : OpV) : Prop := x.o.b.length ≤ 65536 ∧ x.o.cs.length ≤ 1000 ∧ x.o.a.length ≤ 65536 ∧ x.o.to.length ≤ 65536
def SmallS (l : List OpV) : Prop := l.length ≤ 1000 ∧ ∀ x ∈ l, SmallO x

theorem op_mk {S : St} {Z : Nat → Prop} (hw : S.Wf) {x : OpV} (h : OpAt S Z x) {k : St → Prop} (hk : ∀ S', Grow S S' → S'.get S.next = some (.cells (opC x) true) → S'.next = S.next + 1 → k S') :
    newS S (.cells [.int .i64 0, .str [], .str [], .nilSlice, .int .i64 0, .nilSlice] true) fun S1 => ifS (storeV S1 6 (.ptr S.next 0) (.agg [.int .i64 x.o.kind, .str x.o.a, .str x.o.to, x.vb, .int .i64 x.o.n, x.vc])) k := by
  have c1 := SlAt.one1 h.b
  have c2 := SlAt.one1 h.c
  refine newS_mk hw fun S1 g1 m1 n1 => st_mk g1.wf m1 (by simp [V.cells]) (by simp [V.cells]) (by simp only [V.cells, List.all_cons, List.all_nil, c1, c2]; rfl) fun S2 u2 m2 n2 => hk S2 (g1.after u2 fun i hi => .inl (by simp only [List.mem_singleton] at hi; omega)) ?_ (by omega)
  rw [m2]; rfl

theorem law17_large.spec (hF : law17_large.Ok P N) {S : St} (hw : S.Wf) {Z : Nat → Prop} {v : V} {l : List OpV} (h : ScrAt S Z v l) {K : Bool → St → Prop} (h1 : ∀ S', Grow S S' → K true S') (h2 : SmallS l → ∀ S', Grow S S' → K false S') : CallA P (N Fn.law17_large) [v] S (retT [.one .bool] K) := by
  refine law17_large.run hF ⟨_, h.len, ifC_dec (fun _ => h1 S (Upd.refl hw _)) (fun hle => ?_)⟩
  have hZ : ∀ i ∈ ([] : List Nat), ¬ Z i := by simp
  refine Loop1.ind (fun m z S' => ∃ i : Nat, z = i ∧ i + m = l.length ∧ Grow S S' ∧ ∀ x ∈ l.take i, SmallO x) l.length ⟨0, rfl, by omega, Upd.refl hw _, by simp⟩ ?_
  rintro m z S1 ⟨i, rfl, hi, g1, hs⟩
  have k1 := h.upd g1 hZ
  refine ⟨_, k1.len, ifC_dec (fun hlt => ?_) (fun hge => ?_)⟩
  · have hin : i < l.length := by omega
    have ho := k1.op _ (List.getElem_mem hin)
    refine ifS_mk (k1.ix hin) ⟨_, _, _, _, _, _, k1.get hin, op_mk g1.wf ho fun S3 g3 m3 n3 => ?_⟩
    have o3 := ho.upd g3 hZ
    have g13 := g1.trans g3
    refine ifS_mk (ld m3 rfl) ⟨_, SlAt.len o3.b, ifC_dec (fun _ => h1 S3 g13) (fun a1 => ifS_mk (ld m3 rfl) ⟨_, SlAt.len o3.c, ifC_dec (fun _ => h1 S3 g13) (fun a2 => ⟨_, ld m3 rfl, ifC_dec (fun _ => h1 S3 g13) (fun a3 => ⟨_, ld m3 rfl, ifC_dec (fun _ => h1 S3 g13) (fun a4 => setI_mk (n := ((i + 1 : Nat) : Int)) (by rw [IntKind.wrap_i64]; omega) ⟨m - 1, by omega, i + 1, rfl, by omega, g13, fun x hx => ?_⟩)⟩)⟩)⟩)⟩
    rw [List.take_add_one, List.getElem?_eq_getElem hin, Option.toList_some] at hx
    rcases List.mem_append.mp hx with hx | hx
    · exact hs x hx
    · simp only [List.mem_singleton] at hx
      subst hx
      exact ⟨by omega, by omega, by omega, by omega⟩
  · have : i = l.length := by omega
    subst this
    rw [List.take_length] at hs
    exact h2 ⟨by omega, hs⟩ S1 g1

end Go.Th.L
end
