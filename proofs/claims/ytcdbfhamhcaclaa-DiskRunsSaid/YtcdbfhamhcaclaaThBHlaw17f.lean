/- What the row of one statement stands on: a store, abstract code, functions of the program and their laws (ThHlaw17e, ThHlaw17f). -/
import Derived.Test.YtcdbfhamhcaclaaThBHlaw17d
import Derived.Test.YtcdbfhamhcaclaaThBHkeep3

section
/- DiskRuns. -/
set_option linter.unusedSimpArgs false
set_option linter.unusedVariables false
set_option maxHeartbeats 2000000
namespace Go.Th.L
open Go Go.Th Go.Th.Pure
variable {P : Program} {N : Nat → Nat}

structure LawF3 (P : Program) (N : Nat → Nat) : Prop where
  f : LawF2 P N
  step : law17_step.Ok P N
  lend : keep_LendBytes.Ok P N
  back : keep_BackBytes.Ok P N

structure Ft (D B E C : List Nat) (S : St) (D' B' E' C' : List Nat) (S' : St) : Prop where
  d : ∀ i ∈ D', i ∈ D ∨ S.next ≤ i
  b : ∀ i ∈ B', i ∈ B ∨ S.next ≤ i
  e : ∀ i ∈ E', i ∈ E ∨ S.next ≤ i
  c : ∀ i ∈ C', i ∈ C ∨ S.next ≤ i
  u : Upd (D ++ E) S S'
theorem Ft.grow {D B E C : List Nat} {S S' : St} (u : Grow S S') : Ft D B E C S D B E C S' := ⟨fun i hi => .inl hi, fun i hi => .inl hi, fun i hi => .inl hi, fun i hi => .inl hi, u.mono (by simp)⟩
theorem Ft.trans {D B E C D1 B1 E1 C1 D2 B2 E2 C2 : List Nat} {S S1 S2 : St} (h : Ft D B E C S D1 B1 E1 C1 S1) (k : Ft D1 B1 E1 C1 S1 D2 B2 E2 C2 S2) : Ft D B E C S D2 B2 E2 C2 S2 := by
  have hl := h.u.le
  refine ⟨fun i hi => ?_, fun i hi => ?_, fun i hi => ?_, fun i hi => ?_, h.u.after k.u fun i hi => ?_⟩
  · rcases k.d i hi with h' | h'
    · exact h.d i h'
    · exact .inr (by omega)
  · rcases k.b i hi with h' | h'
    · exact h.b i h'
    · exact .inr (by omega)
  · rcases k.e i hi with h' | h'
    · exact h.e i h'
    · exact .inr (by omega)
  · rcases k.c i hi with h' | h'
    · exact h.c i h'
    · exact .inr (by omega)
  · rcases List.mem_append.mp hi with hi | hi
    · rcases h.d i hi with h' | h'
      · exact .inr (List.mem_append_left _ h')
      · exact .inl h'
    · rcases h.e i hi with h' | h'
      · exact .inr (List.mem_append_right _ h')
      · exact .inl h'

structure Pr2 (S0 S : St) (D B E C : List Nat) (d e : Nat) (r r' : DiskR) : Prop where
  dh : DH S D B d r
  rh : RH S E C e r'
  g : Grow S0 S
  fD : ∀ i ∈ D, S0.next ≤ i
  fE : ∀ i ∈ E, S0.next ≤ i
  a1 : ∀ i ∈ D, i ∉ E ∧ i ∉ C
  a2 : ∀ i ∈ E, i ∉ B
theorem Pr.two {S0 S : St} {D B E C : List Nat} {d e : Nat} {r : DiskR} (h : Pr S0 S D B E C d e r) : Pr2 S0 S D B E C d e r r := ⟨h.dh, h.rh, h.g, h.fD, h.fE, h.a1, h.a2⟩
theorem Pr2.one {S0 S : St} {D B E C : List Nat} {d e : Nat} {r : DiskR} (h : Pr2 S0 S D B E C d e r r) : Pr S0 S D B E C d e r := ⟨h.dh, h.rh, h.g, h.fD, h.fE, h.a1, h.a2⟩
section
variable {S0 S S' : St} {D B E C D1 B1 : List Nat} {d e : Nat} {r r' r1 : DiskR}
theorem Pr2.disk (h : Pr2 S0 S D B E C d e r r') (k : DH S' D1 B1 d r1) (f : Foot D B S D1 B1 S') : Pr2 S0 S' D1 B1 E C d e r1 r' ∧ Ft D B E C S D1 B1 E C S' := by
  have lE := h.rh.ltD
  have lC := h.rh.ltB
  have hl := h.g.le
  refine ⟨⟨k, h.rh.upd f.2.2 (fun i hi => (h.a1 i hi).1) (fun i hi => (h.a1 i hi).2), h.g.after f.2.2 fun i hi => .inl (h.fD i hi), fun i hi => ?_, h.fE, fun i hi => ?_, fun i hi hB => ?_⟩, f.1, f.2.1, fun i hi => .inl hi, fun i hi => .inl hi, f.2.2.mono fun i hi => .inl (List.mem_append_left _ hi)⟩
  · rcases f.1 i hi with h' | h'
    · exact h.fD i h'
    · omega
  · rcases f.1 i hi with h' | h'
    · exact h.a1 i h'
    · exact ⟨fun h2 => by have := lE i h2; omega, fun h2 => by have := lC i h2; omega⟩
  · rcases f.2.1 i hB with h' | h'
    · exact h.a2 i hi h'
    · have := lE i hi; omega
theorem Pr2.ref (h : Pr2 S0 S D B E C d e r r') (k : RH S' D1 B1 e r1) (f : Foot E C S D1 B1 S') : Pr2 S0 S' D B D1 B1 d e r r1 ∧ Ft D B E C S D B D1 B1 S' := by
  have lD := h.dh.ltD
  have lB := h.dh.ltB
  have hl := h.g.le
  refine ⟨⟨h.dh.upd f.2.2 (fun i hi hD => (h.a1 i hD).1 hi) (fun i hi => h.a2 i hi), k, h.g.after f.2.2 fun i hi => .inl (h.fE i hi), h.fD, fun i hi => ?_, fun i hi => ⟨fun hE => ?_, fun hC => ?_⟩, fun i hi hB => ?_⟩, fun i hi => .inl hi, fun i hi => .inl hi, f.1, f.2.1, f.2.2.mono fun i hi => .inl (List.mem_append_right _ hi)⟩
  · rcases f.1 i hi with h' | h'
    · exact h.fE i h'
    · omega
  · rcases f.1 i hE with h' | h'
    · exact (h.a1 i hi).1 h'
    · have := lD i hi; omega
  · rcases f.2.1 i hC with h' | h'
    · exact (h.a1 i hi).2 h'
    · have := lD i hi; omega
  · rcases f.1 i hi with h' | h'
    · exact h.a2 i h' hB
    · have := lB i hB; omega
theorem Pr2.grow (h : Pr2 S0 S D B E C d e r r') (u : Grow S S') : Pr2 S0 S' D B E C d e r r' := ⟨h.dh.grow u, h.rh.upd u (by simp) (by simp), h.g.trans u, h.fD, h.fE, h.a1, h.a2⟩
end

theorem law17_step.spec (hO : LawF3 P N) {S0 S : St} {D B E C : List Nat} {d e : Nat} {r : DiskR} (h : Pr S0 S D B E C d e r) {M : Nat} (hok : OkR M r) (hM : M ≤ 1000000) {x : OpV} (hx : OpAt S (fun i => i < S0.next) x) (hs : SmallO x) {K : Bool → St → Prop}
    (hk : ∀ S' D' B' E' C', Pr S0 S' D' B' E' C' d e (playR r x.o) → Ft D B E C S D' B' E' C' S' → K true S') :
    CallA P (N Fn.law17_step) [.ptr d 0, .ptr e 0, .agg (opC x)] S (retT [.one .bool] K) := by
  have hf3 := hO.f.f.f3
  have hR := hO.f.ref
  obtain ⟨s1, s2, s3, s4⟩ := hs
  have c1 := SlAt.one1 hx.b
  have c2 := SlAt.one1 hx.c
  refine law17_step.run hO.step (newS_mk h.wf fun S1 g1 m1 n1 => ⟨_, ld m1 rfl, ?_⟩)
  have h1 := (h.grow g1).two
  have F1 : Ft D B E C S D B E C S1 := Ft.grow g1
  have x1 := hx.upd g1 (by simp)
  have w1 := g1.wf
  have hS0 : S0.next ≤ S.next := h.g.le
  have hnx : S.next ∉ D ∧ S.next ∉ E := ⟨fun hi => by have := h.dh.ltD _ hi; omega, fun hi => by have := h.rh.ltD _ hi; omega⟩
  have same1 : ∀ {S' : St} {D1 B1 : List Nat}, Foot D B S1 D1 B1 S' → ∀ R : List Nat, (∀ i ∈ R, i = S.next) → Same R S1 S' := fun f R hR => same_upd f.2.2 fun i hi => by rw [hR i hi]; exact ⟨by omega, hnx.1⟩
  have same2 : ∀ {S' S2 : St} {D1 B1 : List Nat}, S.next < S'.next → Foot E C S' D1 B1 S2 → ∀ R : List Nat, (∀ i ∈ R, i = S.next) → Same R S' S2 := fun hl f R hR => same_upd f.2.2 fun i hi => by rw [hR i hi]; exact ⟨hl, hnx.2⟩
  have fin : ∀ {S4 S5 : St} {D4 B4 E5 C5 : List Nat} {rr : DiskR}, rr = playR r x.o → DH S4 D4 B4 d rr → Foot D B S1 D4 B4 S4 → RH S5 E5 C5 e rr → Foot E C S4 E5 C5 S5 → K true S5 := by
    intro S4 S5 D4 B4 E5 C5 rr er hd fd hr fr
    obtain ⟨p1, f1⟩ := h1.disk hd fd
    obtain ⟨p2, f2⟩ := p1.ref hr fr
    rw [er] at p2
    exact hk S5 D4 B4 E5 C5 p2.one (F1.trans (f1.trans f2))
  refine ifC_dec (fun k1 => ?_) fun k1 => ?_
  · refine ⟨_, ld m1 rfl, _, ld m1 rfl, DH.create hf3 w1 h1.dh hok hM (by omega) (pr _) fun S4 D4 B4 h4 f4 => ⟨same1 f4 _ (by simp), ?_⟩⟩
    obtain ⟨p4, _⟩ := h1.disk h4 f4
    obtain ⟨q, rfl, hq⟩ := p4.rh
    refine RefIn.create hR hq f4.2.2.wf hok hM (pr _) fun S5 E5 C5 h5 f5 => ⟨same2 (by have := f4.2.2.le; omega) f5 _ (by simp), ?_⟩
    rw [decide_eq_true rfl]
    exact fin (by rw [playR, if_pos k1]) h4 f4 h5 f5
  refine ifC_dec (fun k2 => ?_) fun k2 => ?_
  · refine ifS_mk (ld m1 rfl) (keep_LendBytes.spec hO.lend _ x.o.b _ _ w1 x1.b (by omega) fun S4 y g4 ly => ⟨_, ld (g4.get m1) rfl, ?_⟩)
    have h4 := h1.grow g4
    refine DH.append hf3 g4.wf h4.dh hok hM ly.at_ (by omega) (pr _) fun S5 D5 B5 h5 f5 => ?_
    obtain ⟨p5, F5⟩ := h4.disk h5 f5
    have m5 := f5.2.2.get (g4.get m1) hnx.1
    have x5 := (x1.upd g4 (by simp)).upd f5.2.2 fun i hi hz => by have := h.fD i hi; omega
    have yD : ∀ i ∈ y.block, S1.next ≤ i := ly.from
    have yl : ∀ i ∈ y.block, i < S4.next := Lent.lt g4.wf ly
    have l4 := g4.le
    have hDy : ∀ i ∈ y.block, i ∉ D ∧ i ∉ B ∧ i ∉ E ∧ i ∉ C := fun i hi => by
      have := yD i hi
      exact ⟨fun h' => by have := h1.dh.ltD i h'; omega, fun h' => by have := h1.dh.ltB i h'; omega, fun h' => by have := h1.rh.ltD i h'; omega, fun h' => by have := h1.rh.ltB i h'; omega⟩
    have ly5 := Lent.upd ly f5.2.2 fun i hi => (hDy i hi).1
    refine ifS_mk (ld m5 rfl) (keep_BackBytes.spec hO.back _ _ x.o.b _ _ _ f5.2.2.wf ly5 x5.b (by omega) fun S6 u6 => ifC_tt rfl ?_)
    have y5 : ∀ i ∈ y.block, i ∉ D5 ∧ i ∉ B5 ∧ i ∉ E ∧ i ∉ C := fun i hi => ⟨fun h' => by
      rcases f5.1 i h' with h2 | h2
      · exact (hDy i hi).1 h2
      · have := yl i hi; omega, fun h' => by
      rcases f5.2.1 i h' with h2 | h2
      · exact (hDy i hi).2.1 h2
      · have := yl i hi; omega, (hDy i hi).2.2⟩
    have l1 := g1.le
    have p6 : Pr2 S0 S6 D5 B5 E C d e _ r := ⟨p5.dh.upd u6 (fun i hi => (y5 i hi).1) (fun i hi => (y5 i hi).2.1), p5.rh.upd u6 (fun i hi => (y5 i hi).2.2.1) (fun i hi => (y5 i hi).2.2.2), p5.g.after u6 fun i hi => .inl (by have := yD i hi; omega), p5.fD, p5.fE, p5.a1, p5.a2⟩
    have m6 := u6.get m5 (fun hi => by have := yD _ hi; omega)
    have x6 := x5.upd u6 fun i hi hz => by have := yD i hi; omega
    have F06 : Ft D B E C S D5 B5 E C S6 := by
      have t := (F1.trans (Ft.grow g4)).trans F5
      exact ⟨t.d, t.b, t.e, t.c, t.u.after u6 fun i hi => .inl (by have := yD i hi; omega)⟩
    obtain ⟨q, rfl, hq⟩ := p6.rh
    refine ⟨_, ld m6 rfl, ifS_mk (ld m6 rfl) (RefIn.append hR hq u6.wf hok hM x6.b (by omega) (pr _) fun S7 E7 C7 h7 f7 => ?_)⟩
    obtain ⟨p7, F7⟩ := p6.ref h7 f7
    have er : (appendR r x.o.a x.o.b).2 = playR r x.o := by rw [playR, if_neg k1, if_pos k2]
    rw [er] at p7
    rw [decide_eq_true rfl]
    exact hk S7 D5 B5 E7 C7 p7.one (F06.trans F7)
  refine ifC_dec (fun k3 => ?_) fun k3 => ?_
  · refine ⟨_, ld m1 rfl, _, ld m1 rfl, DH.sync hf3 w1 h1.dh hok hM (pr _) fun S4 D4 B4 h4 f4 => ⟨same1 f4 _ (by simp), ?_⟩⟩
    obtain ⟨p4, _⟩ := h1.disk h4 f4
    obtain ⟨q, rfl, hq⟩ := p4.rh
    refine RefIn.sync hR hq f4.2.2.wf hok hM (pr _) fun S5 E5 C5 h5 f5 => ⟨same2 (by have := f4.2.2.le; omega) f5 _ (by simp), ?_⟩
    rw [decide_eq_true rfl]
    exact fin (by rw [playR, if_neg k1, if_neg k2, if_pos k3]) h4 f4 h5 f5
  refine ifC_dec (fun k4 => ?_) fun k4 => ?_
  · refine ⟨_, ld m1 rfl, _, ld m1 rfl, _, ld m1 rfl, _, ld m1 rfl, DH.rename hf3 w1 h1.dh hok hM (by omega) (pr _) fun S4 D4 B4 h4 f4 => ⟨same1 f4 _ (by simp), ?_⟩⟩
    obtain ⟨p4, _⟩ := h1.disk h4 f4
    obtain ⟨q, rfl, hq⟩ := p4.rh
    refine RefIn.rename hR hq f4.2.2.wf hok hM (pr _) fun S5 E5 C5 h5 f5 => ⟨same2 (by have := f4.2.2.le; omega) f5 _ (by simp), ?_⟩
    rw [decide_eq_true rfl]
    exact fin (by rw [playR, if_neg k1, if_neg k2, if_neg k3, if_pos k4]) h4 f4 h5 f5
  refine ifC_dec (fun k5 => ?_) fun k5 => ?_
  · refine ⟨_, ld m1 rfl, _, ld m1 rfl, DH.remove hf3 w1 h1.dh hok hM (pr _) fun S4 D4 B4 h4 f4 => ⟨same1 f4 _ (by simp), ?_⟩⟩
    obtain ⟨p4, _⟩ := h1.disk h4 f4
    obtain ⟨q, rfl, hq⟩ := p4.rh
    refine RefIn.remove hR hq f4.2.2.wf hok hM (pr _) fun S5 E5 C5 h5 f5 => ⟨same2 (by have := f4.2.2.le; omega) f5 _ (by simp), ?_⟩
    rw [decide_eq_true rfl]
    exact fin (by rw [playR, if_neg k1, if_neg k2, if_neg k3, if_neg k4, if_pos k5]) h4 f4 h5 f5
  refine ifC_dec (fun k6 => ?_) fun k6 => ?_
  · refine DH.syncDir hf3 w1 h1.dh hok hM (pr _) fun S4 D4 B4 h4 f4 => ?_
    obtain ⟨p4, _⟩ := h1.disk h4 f4
    obtain ⟨q, rfl, hq⟩ := p4.rh
    refine RefIn.syncDir hR hq f4.2.2.wf hok hM (pr _) fun S5 E5 C5 h5 f5 => ?_
    rw [decide_eq_true rfl]
    exact fin (by rw [playR, if_neg k1, if_neg k2, if_neg k3, if_neg k4, if_neg k5, if_pos k6]) h4 f4 h5 f5
  refine ifC_dec (fun k7 => ?_) fun k7 => ?_
  · refine ⟨_, ld m1 rfl, DH.read hf3 h1.dh w1 hok (pr _) fun y S4 b4 => ⟨_, ld (b4.grow.get m1) rfl, ?_⟩⟩
    have p4 := h1.grow b4.grow
    obtain ⟨q, rfl, hq⟩ := p4.rh
    refine RefIn.read hR hq hok (pr _) fun z hz => ifC_tt (by simp) (keep_Bytes.spec hf3.bytes _ _ (readR r x.o.a).1 (readR r x.o.a).1 _ _ b4.at_ hz ?_)
    rw [decide_eq_true rfl]
    have er : r = playR r x.o := by
      have a8 : ¬ x.o.kind = 8 := by omega
      have a9 : ¬ x.o.kind = 9 := by omega
      rw [playR, if_neg k1, if_neg k2, if_neg k3, if_neg k4, if_neg k5, if_neg k6, if_neg a8, if_neg a9]
    exact hk S4 D B E C (er ▸ p4.one) (F1.trans (Ft.grow b4.grow))
  refine ifC_dec (fun k8 => ?_) fun k8 => ?_
  · refine ⟨_, ld m1 rfl, _, ld m1 rfl, DH.stop hf3 h1.dh w1 (pr _) fun S4 D4 B4 h4 f4 => ⟨same1 f4 _ (by simp), ?_⟩⟩
    obtain ⟨p4, _⟩ := h1.disk h4 f4
    obtain ⟨q, rfl, hq⟩ := p4.rh
    refine RefIn.stop hR hq f4.2.2.wf (pr _) fun S5 E5 C5 h5 f5 => ⟨same2 (by have := f4.2.2.le; omega) f5 _ (by simp), ?_⟩
    rw [decide_eq_true rfl]
    exact fin (by rw [playR, if_neg k1, if_neg k2, if_neg k3, if_neg k4, if_neg k5, if_neg k6, if_pos k8]) h4 f4 h5 f5
  refine ifC_dec (fun k9 => ?_) fun k9 => ?_
  · obtain ⟨q, rfl, hq⟩ := h1.rh
    refine ifS_mk (ld m1 rfl) (RefIn.crash hR hq w1 hok hM x1.c (fun h0 i hi hE => by have := x1.cl h0 i hi; have := h.fE i hE; omega) x1.cs fun S4 E4 C4 h4 f4 => ?_)
    obtain ⟨p4, F4⟩ := h1.ref h4 f4
    have m4 := f4.2.2.get m1 hnx.2
    have x4 := x1.upd f4.2.2 fun i hi hz => by have := h.fE i hi; omega
    refine ifS_mk (ld m4 rfl) (DH.crash hf3 f4.2.2.wf p4.dh hok hM x4.c (fun h0 i hi hE => by have := x4.cl h0 i hi; have := h.fD i hE; omega) (fun h0 i hi => by have := x4.cl h0 i hi; have := g1.le; have := f4.2.2.le; omega) x4.cs rfl fun S5 D5 B5 h5 f5 => ?_)
    obtain ⟨p5, F5⟩ := p4.disk h5 f5
    have er : crashR x.o.cs r = playR r x.o := by rw [playR, if_neg k1, if_neg k2, if_neg k3, if_neg k4, if_neg k5, if_neg k6, if_neg k8, if_pos k9]
    rw [er] at p5
    exact hk S5 D5 B5 E4 C4 p5.one (F1.trans (F4.trans F5))
  · have er : r = playR r x.o := by
      rw [playR, if_neg k1, if_neg k2, if_neg k3, if_neg k4, if_neg k5, if_neg k6, if_neg k8, if_neg k9]
    exact hk S1 D B E C (er ▸ h1.one) F1

end Go.Th.L
end

section
/- DiskRuns, put together. -/
set_option linter.unusedSimpArgs false
set_option linter.unusedVariables false
set_option maxHeartbeats 2000000
namespace Go.Th.L
open Go Go.Th Go.Th.Pure
variable {P : Program} {N : Nat → Nat}

def Eld (S0 S : St) (D E : List Nat) (d e : Nat) (r : DiskR) (d2 e2 : Nat) : Prop :=
  (d2 = d ∧ e2 = e) ∨ ∃ D2 B2 E2 C2 r2, Pr S0 S D2 B2 E2 C2 d2 e2 r2 ∧ OkR 1000 r2 ∧ ∀ i, i ∈ D ++ E → i ∉ D2 ∧ i ∉ B2 ∧ i ∉ E2 ∧ i ∉ C2
theorem Pr.lt {S0 S : St} {D B E C : List Nat} {d e : Nat} {r : DiskR} (h : Pr S0 S D B E C d e r) : (∀ i ∈ D, i < S.next) ∧ (∀ i ∈ B, i < S.next) ∧ (∀ i ∈ E, i < S.next) ∧ ∀ i ∈ C, i < S.next := ⟨h.dh.ltD, h.dh.ltB, h.rh.ltD, h.rh.ltB⟩
theorem Eld.next {S0 S S' : St} {D B E C D' B' E' C' : List Nat} {d e d2 e2 : Nat} {r r' : DiskR} (h : Eld S0 S D E d e r d2 e2) (p : Pr S0 S D B E C d e r) (f : Ft D B E C S D' B' E' C' S') : Eld S0 S' D' E' d e r' d2 e2 := by
  rcases h with h | ⟨D2, B2, E2, C2, r2, p2, o2, hd⟩
  · exact .inl h
  · obtain ⟨t1, t2, t3, t4⟩ := p2.lt
    refine .inr ⟨D2, B2, E2, C2, r2, p2.upd f.u fun i hi => ⟨?_, hd i hi⟩, o2, fun i hi => ?_⟩
    · rcases List.mem_append.mp hi with hi | hi
      · exact p.fD i hi
      · exact p.fE i hi
    · have key : i ∈ D ++ E ∨ S.next ≤ i := by
        rcases List.mem_append.mp hi with hi | hi
        · rcases f.d i hi with h' | h'
          · exact .inl (List.mem_append_left _ h')
          · exact .inr h'
        · rcases f.e i hi with h' | h'
          · exact .inl (List.mem_append_right _ h')
          · exact .inr h'
      rcases key with h' | h'
      · exact hd i h'
      · exact ⟨fun h2 => by have := t1 i h2; omega, fun h2 => by have := t2 i h2; omega, fun h2 => by have := t3 i h2; omega, fun h2 => by have := t4 i h2; omega⟩

theorem law17_DiskRuns.spec (hO : LawF3 P N) (hF : law17_DiskRuns.Ok P N) {S : St} (hw : S.Wf) {room : Int} {v : V} {l : List OpV} (hs : ScrAt S (fun i => i < S.next) v l) {K : Bool → St → Prop} (hk : ∀ S', K true S') :
    CallA P (N Fn.law17_DiskRuns) [.int .i64 room, v] S (retT [.one .bool] K) := by
  have hf3 := hO.f.f.f3
  refine law17_DiskRuns.run hF (Join1.mid (fun b S' => Grow S S' ∧ (b = false → SmallS l ∧ 1 ≤ room ∧ room ≤ 4194304)) (law17_large.spec hO.f.f.large hw hs (fun S' g => ifC_tt rfl ⟨g, fun h => by cases h⟩) fun hsm S' g => ifC_ff rfl (ifC_dec (fun _ => ⟨g, fun h => by cases h⟩) fun h1 => ⟨g, fun h => ⟨hsm, by omega, by rw [decide_eq_false_iff_not] at h; omega⟩⟩)) ?_)
  rintro b S1 ⟨g1, hb⟩
  cases b with
  | true => exact ifC_tt rfl (law17_awake.spec hf3 hO.f.f.awake g1.wf fun S3 _ => hk S3)
  | false =>
    obtain ⟨hsm, hr⟩ := hb rfl
    have hl1 := hsm.1
    refine ifC_ff rfl (disk_New.spec hf3.new g1.wf (fun h => absurd hr h) fun _ S4 D d g4 h4 f4 => Join0.mid (fun S' => S' = S4) ⟨false, rfl, ifC_ff rfl (ifC_ff rfl rfl)⟩ ?_)
    rintro S5 rfl
    refine ref17_New.spec hO.f.ref.new g4.wf fun S6 E e g6 h6 f6 => ?_
    have l4 := g4.le
    have l6 := g6.le
    have P6 : Pr S1 S6 D [] E [] d e (newR room) := ⟨h4.grow g6, h6, g4.trans g6, f4, fun i hi => by have := f6 i hi; omega, fun i hi => ⟨fun hE => by have := f6 i hE; have := h4.ltD i hi; omega, by simp⟩, by simp⟩
    refine Loop5.ind (fun m x5 x7 x8 x9 z S' => ∃ (i : Nat) (d e d2 e2 : Nat) (r : DiskR) (D B E C : List Nat), x5 = .ptr d 0 ∧ x7 = .ptr e 0 ∧ x8 = .ptr d2 0 ∧ x9 = .ptr e2 0 ∧ z = i ∧ i + m = l.length ∧ Pr S1 S' D B E C d e r ∧ OkR i r ∧ Eld S1 S' D E d e r d2 e2) l.length
      ⟨0, d, e, d, e, newR room, D, [], E, [], rfl, rfl, rfl, rfl, rfl, by omega, P6, newR_ok hr, .inl ⟨rfl, rfl⟩⟩ ?_
    rintro m x5 x7 x8 x9 z S7 ⟨i, d, e, d2, e2, r, D, B, E, C, rfl, rfl, rfl, rfl, rfl, hi, p, ok, eld⟩
    have s7 := hs.upd (g1.trans p.g) (by simp)
    refine ⟨_, s7.len, ifC_dec (fun hlt => ?_) (fun hge => ?_)⟩
    · have hin : i < l.length := by omega
      have hMi : i ≤ 1000000 := by omega
      refine Join4.mid (fun y5 y7 y8 y9 S' => ∃ (d e d2 e2 : Nat) (D B E C : List Nat), y5 = .ptr d 0 ∧ y7 = .ptr e 0 ∧ y8 = .ptr d2 0 ∧ y9 = .ptr e2 0 ∧ Pr S1 S' D B E C d e r ∧ Eld S1 S' D E d e r d2 e2) ?_ ?_
      · refine ifS_mk (s7.ix hin) (ifS_mk (s7.fd hin 0) ⟨_, s7.kind hin, ifC_dec (fun _ => ?_) (fun _ => ⟨d, e, d2, e2, D, B, E, C, rfl, rfl, rfl, rfl, p, eld⟩)⟩)
        refine DH.clone hf3 p.wf p.dh ok hMi fun S9 D9 B9 d9 g9 h9 fD9 fB9 e9 => ?_
        have p9 := p.grow g9
        have l9 := g9.le
        obtain ⟨q, rfl, hq⟩ := p9.rh
        refine RefIn.clone hO.f.ref hq g9.wf ok hMi fun S10 E10 C10 e10 g10 h10 fE10 fC10 ee10 => ⟨false, rfl, ifC_ff rfl ?_⟩
        have p10 := p9.grow g10
        have l10 := g10.le
        have lp := p9.lt
        have lh9 := h9.ltD
        have lh9B := h9.ltB
        have hS1 := p.g.le
        have oldD : ∀ i ∈ D ++ E, True := fun _ _ => trivial
        refine ⟨d9, e10, d, q.e, D9, B9, E10, C10, rfl, rfl, rfl, rfl, ⟨h9.grow g10, h10, p10.g, fun i hi => by have := fD9 i hi; omega, fun i hi => by have := fE10 i hi; omega, fun i hi => ⟨fun h' => by have := fE10 i h'; have := lh9 i hi; omega, fun h' => ?_⟩, fun i hi h' => by have := fE10 i hi; have := lh9B i h'; omega⟩, .inr ⟨D, B, E, C, r, p10, ok.mono (by omega), fun i hi => ?_⟩⟩
        · rcases fC10 i h' with h2 | h2
          · have := p.lt.2.2.2 i h2; have := fD9 i hi; omega
          · have := lh9 i hi; omega
        · have key : S7.next ≤ i := by
            rcases List.mem_append.mp hi with hi | hi
            · exact fD9 i hi
            · have := fE10 i hi; omega
          obtain ⟨t1, t2, t3, t4⟩ := p.lt
          exact ⟨fun h2 => by have := t1 i h2; omega, fun h2 => by have := t2 i h2; omega, fun h2 => by have := t3 i h2; omega, fun h2 => by have := t4 i h2; omega⟩
      · rintro y5 y7 y8 y9 S8 ⟨d, e, d2, e2, D, B, E, C, rfl, rfl, rfl, rfl, p, eld⟩
        have s8 := hs.upd (g1.trans p.g) (by simp)
        have ho := s8.op _ (List.getElem_mem hin)
        have hso := hsm.2 _ (List.getElem_mem hin)
        have lS := g1.le
        have ho' : OpAt S8 (fun i => i < S1.next) l[i] := { ho with bl := fun h0 j hj => Nat.lt_of_lt_of_le (ho.bl h0 j hj) lS, cl := fun h0 j hj => Nat.lt_of_lt_of_le (ho.cl h0 j hj) lS }
        refine ifS_mk (s8.ix hin) ⟨_, _, _, _, _, _, s8.get hin, law17_step.spec hO p ok hMi ho' hso fun S11 D' B' E' C' p' f' => ifC_ff rfl (law17_same.spec hO.f p' (playR_ok ok _ ho.n.2) fun S12 g12 => ifC_ff rfl (setI_mk (n := ((i + 1 : Nat) : Int)) (by rw [IntKind.wrap_i64]; omega) ?_))⟩
        exact ⟨m - 1, by omega, i + 1, d, e, d2, e2, playR r l[i].o, D', B', E', C', rfl, rfl, rfl, rfl, rfl, by omega, p'.grow g12, playR_ok ok _ ho.n.2, (eld.next p f').next p' (Ft.grow g12)⟩
    · refine law17_awake.spec hf3 hO.f.f.awake p.wf fun S13 g13 => ifC_tt rfl ?_
      rcases eld with ⟨rfl, rfl⟩ | ⟨D2, B2, E2, C2, r2, p2, o2, _⟩
      · exact law17_same.spec hO.f (p.grow g13) ok fun S14 _ => hk S14
      · exact law17_same.spec hO.f (p2.grow g13) o2 fun S14 _ => hk S14

end Go.Th.L
end
