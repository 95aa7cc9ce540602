/- What the row of one statement stands on: a store, abstract code, functions of the program and their laws (ThHlaw17a). -/
import Derived.Test.YtcdbfhamhcaclaaThBHdiskR
import Derived.Test.YtcdbfhamhcaclaaThBPdisk3

section
/- Calls in a script, read; large; play. -/
set_option linter.unusedSimpArgs false
set_option linter.unusedVariables false
set_option maxHeartbeats 1000000
namespace Go.Th.L
open Go Go.Th Go.Th.Pure
variable {P : Program} {N : Nat → Nat}

theorem pr {α β : Type} (p : α × β) : p = (p.1, p.2) := rfl
structure OpV where
  o : OpR
  vb : V
  vc : V
def opC (x : OpV) : List V := [.int .i64 x.o.kind, .str x.o.a, .str x.o.to, x.vb, .int .i64 x.o.n, x.vc]
structure OpAt (S : St) (Z : Nat → Prop) (x : OpV) : Prop where
  b : BytesAt S x.vb x.o.b
  bl : x.o.b ≠ [] → ∀ i ∈ x.vb.block, Z i
  c : IntsAt S x.vc x.o.cs
  cl : x.o.cs ≠ [] → ∀ i ∈ x.vc.block, Z i
  n : -9223372036854775808 ≤ x.o.n ∧ x.o.n ≤ 9223372036854775807
  cs : ∀ c ∈ x.o.cs, -9223372036854775808 ≤ c ∧ c ≤ 9223372036854775807
structure ScrAt (S : St) (Z : Nat → Prop) (v : V) (l : List OpV) : Prop where
  sl : SlE S 6 v (l.map opC)
  lo : l ≠ [] → ∀ i ∈ v.block, Z i
  op : ∀ x ∈ l, OpAt S Z x
theorem bytes_none {S S' : St} {v : V} (h : BytesAt S v []) : BytesAt S' v [] := SlAt.none_ h
theorem bytes_z {S S' : St} {Z : Nat → Prop} {X : List Nat} {v : V} {b : List UInt8} (h : BytesAt S v b) (hb : b ≠ [] → ∀ i ∈ v.block, Z i) (u : Upd X S S') (hX : ∀ i ∈ X, ¬ Z i) : BytesAt S' v b := by
  by_cases h0 : b = []
  · subst h0; exact bytes_none h
  · exact SlAt.upd h u fun i hi hx => hX i hx (hb h0 i hi)
theorem ints_z {S S' : St} {Z : Nat → Prop} {X : List Nat} {v : V} {b : List Int} (h : IntsAt S v b) (hb : b ≠ [] → ∀ i ∈ v.block, Z i) (u : Upd X S S') (hX : ∀ i ∈ X, ¬ Z i) : IntsAt S' v b := by
  by_cases h0 : b = []
  · subst h0; exact ints_none h
  · exact SlAt.upd h u fun i hi hx => hX i hx (hb h0 i hi)
theorem OpAt.upd {S S' : St} {Z : Nat → Prop} {X : List Nat} {x : OpV} (h : OpAt S Z x) (u : Upd X S S') (hX : ∀ i ∈ X, ¬ Z i) : OpAt S' Z x :=
  { h with b := bytes_z h.b h.bl u hX, c := ints_z h.c h.cl u hX }
theorem ScrAt.upd {S S' : St} {Z : Nat → Prop} {X : List Nat} {v : V} {l : List OpV} (h : ScrAt S Z v l) (u : Upd X S S') (hX : ∀ i ∈ X, ¬ Z i) : ScrAt S' Z v l := by
  refine ⟨?_, h.lo, fun x hx => (h.op x hx).upd u hX⟩
  by_cases h0 : l = []
  · subst h0
    exact ⟨SlAt.none_ h.sl.1, h.sl.2⟩
  · exact SlE.upd h.sl u fun i hi hx => hX i hx (h.lo h0 i hi)
theorem ScrAt.len {S : St} {Z : Nat → Prop} {v : V} {l : List OpV} (h : ScrAt S Z v l) : lenV S 2 v = some (.int .i64 l.length) := by
  have := h.sl.len
  rwa [List.length_map] at this
theorem ScrAt.ix {S : St} {Z : Nat → Prop} {v : V} {l : List OpV} (h : ScrAt S Z v l) {j : Nat} (hj : j < l.length) : idxAddrV 6 v (.int .i64 (j : Int)) = some (eltV 6 v j 0) := h.sl.idx (by rw [List.length_map]; exact hj)
theorem ScrAt.get {S : St} {Z : Nat → Prop} {v : V} {l : List OpV} (h : ScrAt S Z v l) {j : Nat} (hj : j < l.length) : loadNV S 6 (eltV 6 v j 0) = some (.agg (opC l[j])) := by
  rw [h.sl.getN (by rw [List.length_map]; exact hj) (by omega)]
  simp
theorem ScrAt.kind {S : St} {Z : Nat → Prop} {v : V} {l : List OpV} (h : ScrAt S Z v l) {j : Nat} (hj : j < l.length) : loadV S (eltV 6 v j 0) = some (.int .i64 l[j].o.kind) := by
  rw [h.sl.get (by rw [List.length_map]; exact hj) (by omega)]
  simp [opC]

def SmallO (x : OpV) : Prop := x.o.b.length ≤ 65536 ∧ x.o.cs.length ≤ 1000 ∧ x.o.a.length ≤ 65536 ∧ x.o.to.length ≤ 65536
def SmallS (l : List OpV) : Prop := l.length ≤ 1000 ∧ ∀ x ∈ l, SmallO x

theorem op_mk {S : St} {Z : Nat → Prop} (hw : S.Wf) {x : OpV} (h : OpAt S Z x) {k : St → Prop} (hk : ∀ S', Grow S S' → S'.get S.next = some (.cells (opC x) true) → S'.next = S.next + 1 → k S') :
    newS S (.cells [.int .i64 0, .str [], .str [], .nilSlice, .int .i64 0, .nilSlice] true) fun S1 => ifS (storeV S1 6 (.ptr S.next 0) (.agg [.int .i64 x.o.kind, .str x.o.a, .str x.o.to, x.vb, .int .i64 x.o.n, x.vc])) k := by
  have c1 := SlAt.one1 h.b
  have c2 := SlAt.one1 h.c
  refine newS_mk hw fun S1 g1 m1 n1 => st_mk g1.wf m1 (by simp [V.cells]) (by simp [V.cells]) (by simp only [V.cells, List.all_cons, List.all_nil, c1, c2]; rfl) fun S2 u2 m2 n2 => hk S2 (g1.after u2 fun i hi => .inl (by simp only [List.mem_singleton] at hi; omega)) ?_ (by omega)
  rw [m2]; rfl

theorem law17_large.spec (hF : law17_large.Ok P N) {S : St} (hw : S.Wf) {Z : Nat → Prop} {v : V} {l : List OpV} (h : ScrAt S Z v l) {K : Bool → St → Prop} (h1 : ∀ S', Grow S S' → K true S') (h2 : SmallS l → ∀ S', Grow S S' → K false S') : CallA P (N Fn.law17_large) [v] S (retT [.one .bool] K) := by
  refine law17_large.run hF ⟨_, h.len, ifC_dec (fun _ => h1 S (Upd.refl hw _)) (fun hle => ?_)⟩
  have hZ : ∀ i ∈ ([] : List Nat), ¬ Z i := by simp
  refine Loop1.ind (fun m z S' => ∃ i : Nat, z = i ∧ i + m = l.length ∧ Grow S S' ∧ ∀ x ∈ l.take i, SmallO x) l.length ⟨0, rfl, by omega, Upd.refl hw _, by simp⟩ ?_
  rintro m z S1 ⟨i, rfl, hi, g1, hs⟩
  have k1 := h.upd g1 hZ
  refine ⟨_, k1.len, ifC_dec (fun hlt => ?_) (fun hge => ?_)⟩
  · have hin : i < l.length := by omega
    have ho := k1.op _ (List.getElem_mem hin)
    refine ifS_mk (k1.ix hin) ⟨_, _, _, _, _, _, k1.get hin, op_mk g1.wf ho fun S3 g3 m3 n3 => ?_⟩
    have o3 := ho.upd g3 hZ
    have g13 := g1.trans g3
    refine ifS_mk (ld m3 rfl) ⟨_, SlAt.len o3.b, ifC_dec (fun _ => h1 S3 g13) (fun a1 => ifS_mk (ld m3 rfl) ⟨_, SlAt.len o3.c, ifC_dec (fun _ => h1 S3 g13) (fun a2 => ⟨_, ld m3 rfl, ifC_dec (fun _ => h1 S3 g13) (fun a3 => ⟨_, ld m3 rfl, ifC_dec (fun _ => h1 S3 g13) (fun a4 => setI_mk (n := ((i + 1 : Nat) : Int)) (by rw [IntKind.wrap_i64]; omega) ⟨m - 1, by omega, i + 1, rfl, by omega, g13, fun x hx => ?_⟩)⟩)⟩)⟩)⟩
    rw [List.take_add_one, List.getElem?_eq_getElem hin, Option.toList_some] at hx
    rcases List.mem_append.mp hx with hx | hx
    · exact hs x hx
    · simp only [List.mem_singleton] at hx
      subst hx
      exact ⟨by omega, by omega, by omega, by omega⟩
  · have : i = l.length := by omega
    subst this
    rw [List.take_length] at hs
    exact h2 ⟨by omega, hs⟩ S1 g1

def playAll (r : DiskR) (l : List OpV) : DiskR := l.foldl (fun r x => playR r x.o) r
theorem playAll_ok {M : Nat} : ∀ {l : List OpV} {r : DiskR}, OkR M r → (∀ x ∈ l, x.o.n ≤ 9223372036854775807) → OkR (M + l.length) (playAll r l) := by
  intro l
  induction l generalizing M with
  | nil => intro r h _; exact h
  | cons x l ih =>
    intro r h hn
    have := ih (playR_ok h x.o (hn x (by simp))) fun y hy => hn y (by simp [hy])
    exact this.mono (by simp only [List.length_cons]; omega)

theorem law17_play.spec (hO : DiskF3 P N) (hF : law17_play.Ok P N) {S : St} (hw : S.Wf) {D B : List Nat} {d : Nat} {r : DiskR} (h : DH S D B d r) {M : Nat} (hok : OkR M r) {Z : Nat → Prop} {v : V} {l : List OpV} (hs : ScrAt S Z v l) (hsm : SmallS l) (hM : M + l.length ≤ 1000000) (hZ : ∀ i, Z i → i ∉ D ∧ i < S.next) {K : St → Prop}
    (hk : ∀ S' D' B', DH S' D' B' d (playAll r l) → Foot D B S D' B' S' → K S') : CallA P (N Fn.law17_play) [.ptr d 0, v] S (retT [] K) := by
  refine law17_play.run hF (Loop1.ind (fun m z S' => ∃ (i : Nat) (D' B' : List Nat), z = i ∧ i + m = l.length ∧ DH S' D' B' d (playAll r (l.take i)) ∧ Foot D B S D' B' S') l.length ⟨0, D, B, rfl, by omega, h, fun i hi => .inl hi, fun i hi => .inl hi, Upd.refl hw _⟩ ?_)
  rintro m z S1 ⟨i, D1, B1, rfl, hi, h1, f1⟩
  have hDZ : ∀ i ∈ D, ¬ Z i := fun i hi hz => (hZ i hz).1 hi
  have k1 := hs.upd f1.2.2 hDZ
  have w1 := f1.2.2.wf
  have l1 := f1.2.2.le
  refine ⟨_, k1.len, ifC_dec (fun hlt => ?_) (fun hge => ?_)⟩
  · have hin : i < l.length := by omega
    have ho := k1.op _ (List.getElem_mem hin)
    obtain ⟨sb, scs, sa, sto⟩ := hsm.2 _ (List.getElem_mem hin)
    have okI : OkR (M + i) (playAll r (l.take i)) := by
      have := playAll_ok hok (l := l.take i) fun x hx => ((hs.op x (List.mem_of_mem_take hx)).n).2
      exact this.mono (by rw [List.length_take]; omega)
    have hMi : M + i ≤ 1000000 := by omega
    have et : playAll r (l.take (i + 1)) = playR (playAll r (l.take i)) l[i].o := by
      simp only [playAll]
      rw [List.take_add_one, List.getElem?_eq_getElem hin, Option.toList_some, List.foldl_append]
      rfl
    refine ifS_mk (k1.ix hin) ⟨_, _, _, _, _, _, k1.get hin, op_mk w1 ho fun S3 g3 m3 n3 => ⟨_, ld m3 rfl, ?_⟩⟩
    have h3 := h1.grow g3
    have o3 := ho.upd g3 (by simp)
    have wi : IntKind.i64.wrap ((i : Int) + 1) = ((i + 1 : Nat) : Int) := by rw [IntKind.wrap_i64]; have := hsm.1; omega
    have fin : ∀ {S' : St} {D' B' : List Nat} {r' : DiskR}, r' = playR (playAll r (l.take i)) l[i].o → DH S' D' B' d r' → Foot D1 B1 S3 D' B' S' →
        ∃ m', m' < m ∧ ∃ (i' : Nat) (D' B' : List Nat), ((i + 1 : Nat) : Int) = i' ∧ i' + m' = l.length ∧ DH S' D' B' d (playAll r (l.take i')) ∧ Foot D B S D' B' S' := by
      intro S' D' B' r' e h' f'
      exact ⟨m - 1, by omega, i + 1, D', B', rfl, by omega, by rw [et, ← e]; exact h', f1.trans ((Foot.grow g3).trans f')⟩
    have hO2 := hO
    generalize hx : l[i] = x at *
    have ek : ∀ {a b : DiskR}, a = b → a = b := fun h => h
    refine ifC_dec (fun c1 => ⟨_, ld m3 rfl, DH.create hO g3.wf h3 okI hMi (by omega) (pr _) fun S4 D4 B4 h4 f4 => setI_mk wi (fin (by rw [playR, if_pos c1]) h4 f4)⟩) fun c1 => ?_
    refine ifC_dec (fun c2 => ⟨_, ld m3 rfl, ifS_mk (ld m3 rfl) (DH.append hO g3.wf h3 okI hMi o3.b (by omega) (pr _) fun S4 D4 B4 h4 f4 => setI_mk wi (fin (by rw [playR, if_neg c1, if_pos c2]) h4 f4))⟩) fun c2 => ?_
    refine ifC_dec (fun c3 => ⟨_, ld m3 rfl, DH.sync hO g3.wf h3 okI hMi (pr _) fun S4 D4 B4 h4 f4 => setI_mk wi (fin (by rw [playR, if_neg c1, if_neg c2, if_pos c3]) h4 f4)⟩) fun c3 => ?_
    refine ifC_dec (fun c4 => ⟨_, ld m3 rfl, _, ld m3 rfl, DH.rename hO g3.wf h3 okI hMi (by omega) (pr _) fun S4 D4 B4 h4 f4 => setI_mk wi (fin (by rw [playR, if_neg c1, if_neg c2, if_neg c3, if_pos c4]) h4 f4)⟩) fun c4 => ?_
    refine ifC_dec (fun c5 => ⟨_, ld m3 rfl, DH.remove hO g3.wf h3 okI hMi (pr _) fun S4 D4 B4 h4 f4 => setI_mk wi (fin (by rw [playR, if_neg c1, if_neg c2, if_neg c3, if_neg c4, if_pos c5]) h4 f4)⟩) fun c5 => ?_
    refine ifC_dec (fun c6 => DH.syncDir hO g3.wf h3 okI hMi (pr _) fun S4 D4 B4 h4 f4 => setI_mk wi (fin (by rw [playR, if_neg c1, if_neg c2, if_neg c3, if_neg c4, if_neg c5, if_pos c6]) h4 f4)) fun c6 => ?_
    refine ifC_dec (fun c8 => ⟨_, ld m3 rfl, DH.stop hO h3 g3.wf (pr _) fun S4 D4 B4 h4 f4 => setI_mk wi (fin (by rw [playR, if_neg c1, if_neg c2, if_neg c3, if_neg c4, if_neg c5, if_neg c6, if_pos c8]) h4 f4)⟩) fun c8 => ?_
    refine ifC_dec (fun c9 => ifS_mk (ld m3 rfl) (DH.crash hO g3.wf h3 okI hMi o3.c (fun h0 j hj hD => ?_) (fun h0 j hj => ?_) o3.cs rfl fun S4 D4 B4 h4 f4 => setI_mk wi (fin (by rw [playR, if_neg c1, if_neg c2, if_neg c3, if_neg c4, if_neg c5, if_neg c6, if_neg c8, if_pos c9]) h4 f4))) fun c9 => ?_
    · have hz := hZ j (o3.cl h0 j hj)
      rcases f1.1 j hD with h2 | h2
      · exact hz.1 h2
      · omega
    · have hz := hZ j (o3.cl h0 j hj)
      have := g3.le; omega
    · exact setI_mk wi (fin (by rw [playR, if_neg c1, if_neg c2, if_neg c3, if_neg c4, if_neg c5, if_neg c6, if_neg c8, if_neg c9]) h3 (Foot.refl g3.wf _ _))
  · have : i = l.length := by omega
    subst this
    rw [List.take_length] at h1
    exact hk S1 D1 B1 h1 f1

end Go.Th.L
end
