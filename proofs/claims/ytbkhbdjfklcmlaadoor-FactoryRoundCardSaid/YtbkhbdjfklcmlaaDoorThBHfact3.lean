/- What the row of one statement stands on: a store, abstract code, functions of the program and their laws (ThHfact3). -/
import Derived.Test.YtbkhbdjfklcmlaaDoorThBO2

section
/- factory, the document: Parse, whole. -/
set_option linter.unusedSimpArgs false
set_option linter.unusedVariables false
namespace Go.Th.L
open Go Go.Th Go.Th.Pure
variable {P : Program} {N : Nat → Nat}

theorem front_false {t w : Bs} (h : (frontF t w).2 = false) : (frontF t w).1 = t := by
  unfold frontF at h ⊢; split <;> rename_i h1
  · rw [if_pos h1] at h; cases h
  · rfl
theorem num_len' (t : Bs) : (numR t).length ≤ t.length := by simp [numR]

/-- The parser's four blocks. -/
structure PSt (gs : List Nat) (S0 S : St) (tb rb ob sb : Nat) (r : Bs) (b : Bool) (s : FSpec) : Prop where
  grow : Grow S0 S
  t : S.get tb = some (.cells [.str r] true)
  o : S.get ob = some (.cells [.bool b] true)
  s : S.get sb = some (.cells (c4 s) true)
  res : S.get rb = some (.cells (c4 zSpec) true)
  gv : GV gs S

theorem factory_Parse.spec (hF : factory_Parse.Ok P N) {gs : List Nat} (hW : WordOk P (N Fn.factory_Parse_1)) (hN : NumberOk P (N Fn.factory_Parse_2) gs) (hE1 : canEnter P (N Fn.factory_Parse_1) = true) (hE2 : canEnter P (N Fn.factory_Parse_2) = true)
    (hC : ChecksSpec P (N Fn.factory_Check)) : ParseOk P (N Fn.factory_Parse) (GV gs) := by
  intro t S K hl hg hk
  refine CallA.gcT (ds := [dt4, .one (.int .i64)]) rfl (CallA.wfT fun hw => ?_)
  have hg := hg.ro
  refine factory_Parse.run hF (newS_mk hw fun S1 g1 m1 n1 => newS_mk g1.wf fun S2 g2 m2 n2 => newS_mk g2.wf fun S3 g3 m3 n3 => st_mk g3.wf m3 rfl (by simp [V.cells]) rfl fun S4 u4 m4 n4 => newS_mk u4.wf fun S5 g5 m5 n5 => ?_)
  simp only [over, V.cells] at m4
  have g34 : Grow S2 S4 := g3.after u4 (fun i hi => by simp at hi; subst hi; exact .inl (Nat.le_refl _))
  have g05 : Grow S.ro S5 := g1.trans (g2.trans (g34.trans g5))
  have e2 := g2.le; have e3 := g3.le
  have h5 : PSt gs S.ro S5 S.ro.next S1.next S2.next S4.next t true zSpec := ⟨g05, Grow.get (g2.trans (g34.trans g5)) m1, g5.get (by simpa using m4), m5, Grow.get (g34.trans g5) m2, hg.grow g05⟩
  have er : S.ro.next = S.next := rfl
  have ne1 : S.ro.next ≠ S2.next := by omega
  have ne2 : S.ro.next ≠ S4.next := by omega
  have ne3 : S2.next ≠ S4.next := by omega
  have ne4 : S1.next ≠ S.ro.next := by omega
  have ne5 : S1.next ≠ S2.next := by omega
  have ne6 : S1.next ≠ S4.next := by omega
  have wstep : ∀ {S' : St} {r : Bs} {b : Bool} {s : FSpec} (w : Bs) {K : Bool → St → Prop}, PSt gs S.ro S' S.ro.next S1.next S2.next S4.next r b s → (∀ S'', PSt gs S.ro S'' S.ro.next S1.next S2.next S4.next (frontF r w).1 b s → K (frontF r w).2 S'') →
      ifS (calleeV (envP P) (V.func (.func (N Fn.factory_Parse_1)) [] [V.ptr S.ro.next 0]) [V.str w]) fun xf => CallA P xf.1 xf.2 S' (retT [.one .bool] K) := fun {S' r b s} w {K} h hk =>
    ifS_mk (callee_mk hE1) (hW S.ro.next r w S' K h.grow.wf h.t fun S'' u m => hk S'' ⟨h.grow.after u (by simp), m, u.get h.o (by simpa using fun e => ne1 e.symm), u.get h.s (by simpa using fun e => ne2 e.symm), u.get h.res (by simpa using ne4), h.gv.upd u fun i hi => by simp at hi; subst hi; exact .inl ⟨_, h.t⟩⟩)
  have nstep : ∀ {S' : St} {r : Bs} {b : Bool} {s : FSpec} {K : Int → St → Prop}, PSt gs S.ro S' S.ro.next S1.next S2.next S4.next r b s → r.length ≤ 65536 → (∀ n S'', PSt gs S.ro S'' S.ro.next S1.next S2.next S4.next (numR r) (b && numOk r) s → (numOk r = true → n = numV r) → K n S'') →
      ifS (calleeV (envP P) (V.func (.func (N Fn.factory_Parse_2)) [] [V.ptr S.ro.next 0, V.ptr S2.next 0]) []) fun xf => CallA P xf.1 xf.2 S' (retT [.one (.int .i64)] K) := fun {S' r b s K} h hr hk =>
    ifS_mk (callee_mk hE2) (hN S.ro.next S2.next r b S' K h.grow.wf ne1 h.t h.o hr h.gv fun n S'' u m1 m2 hn => hk n S'' ⟨h.grow.after u (by intro i hi; simp at hi; rcases hi with rfl | rfl <;> (left; omega)), m1, m2, u.get h.s (by simp; omega), u.get h.res (by simp; omega), h.gv.upd u fun i hi => by simp at hi; rcases hi with rfl | rfl; exact .inl ⟨_, h.t⟩; exact .inl ⟨_, h.o⟩⟩ hn)
  have sset : ∀ {S' : St} {r : Bs} {b : Bool} {s : FSpec} (y : FSpec) {K : St → Prop}, PSt gs S.ro S' S.ro.next S1.next S2.next S4.next r b s → (∀ S'', PSt gs S.ro S'' S.ro.next S1.next S2.next S4.next r b y → K S'') → ifS (storeV S' 4 (V.ptr S4.next 0) (v4 y)) K := fun {S' r b s} y {K} h hk =>
    st_mk h.grow.wf h.s rfl (by simp [V.cells]) rfl fun S'' u m n => hk S'' ⟨h.grow.after u (by intro i hi; simp at hi; subst hi; left; omega), u.get h.t (by simp; omega), u.get h.o (by simp; omega), by simpa [over, V.cells] using m, u.get h.res (by simp; omega), h.gv.upd u fun i hi => by simp at hi; subst hi; exact .inl ⟨_, h.s⟩⟩
  have oset : ∀ {S' : St} {r : Bs} {b : Bool} {s : FSpec} (y : Bool) {K : St → Prop}, PSt gs S.ro S' S.ro.next S1.next S2.next S4.next r b s → (∀ S'', PSt gs S.ro S'' S.ro.next S1.next S2.next S4.next r y s → K S'') → ifS (storeV S' 1 (V.ptr S2.next 0) (V.bool y)) K := fun {S' r b s} y {K} h hk =>
    st_mk h.grow.wf h.o rfl (by simp [V.cells]) rfl fun S'' u m n => hk S'' ⟨h.grow.after u (by intro i hi; simp at hi; subst hi; left; omega), u.get h.t (by simp; omega), by simpa [over, V.cells] using m, u.get h.s (by simp; omega), u.get h.res (by simp; omega), h.gv.upd u fun i hi => by simp at hi; subst hi; exact .inl ⟨_, h.o⟩⟩
  have fset : ∀ {S' : St} {r : Bs} {b : Bool} {s : FSpec} (f : Nat) (x : Int) (y : FSpec) {K : St → Prop}, f < 4 → PSt gs S.ro S' S.ro.next S1.next S2.next S4.next r b s → over (c4 s) f [V.int .i64 x] = c4 y → (∀ S'', PSt gs S.ro S'' S.ro.next S1.next S2.next S4.next r b y → K S'') → ifS (storeV S' 1 (V.ptr S4.next f) (V.int .i64 x)) K := fun {S' r b s} f x y {K} hf h he hk =>
    st_mk h.grow.wf h.s rfl (by simp [V.cells]; omega) rfl fun S'' u m n => hk S'' ⟨h.grow.after u (by intro i hi; simp at hi; subst hi; left; omega), u.get h.t (by simp; omega), u.get h.o (by simp; omega), by rw [← he]; exact m, u.get h.res (by simp; omega), h.gv.upd u fun i hi => by simp at hi; subst hi; exact .inl ⟨_, h.s⟩⟩
  refine Join0.mid (fun S' => ∃ s ok r, PSt gs S.ro S' S.ro.next S1.next S2.next S4.next r ok s ∧ Tells t s ok r) ?_ ?_
  · refine wstep wFlat h5 fun S7 h7 => ifC_tt_ff (fun e0 => ?_) (fun e0 => ?_)
    · have ht := front_inv (t := t) (w := wFlat) (r := (frontF t wFlat).1) (by rw [← e0])
      refine fset 0 1 ⟨1, 0, 0, 0⟩ (by omega) h7 rfl fun S8 h8 => ⟨_, _, _, h8, ?_⟩
      have := tells_flat (frontF t wFlat).1
      rw [← ht] at this; exact this
    rw [front_false e0] at h7
    refine wstep wKD h7 fun S9 h9 => ifC_tt_ff (fun e1 => ?_) (fun e1 => ?_)
    · have ht := front_inv (t := t) (w := wKD) (r := (frontF t wKD).1) (by rw [← e1])
      refine nstep h9 (by have := front_len t wKD; omega) fun n S10 h10 hn => sset ⟨2, n, 0, 0⟩ h10 fun S11 h11 => ⟨_, _, _, h11, ?_⟩
      have := tells_kd (frontF t wKD).1
      rw [← ht] at this
      unfold Tells at this ⊢
      split
      · rename_i h; rw [Bool.true_and] at h; rw [if_pos h] at this; rw [hn h.1]; exact this
      · rename_i h; rw [Bool.true_and] at h; rw [if_neg h] at this; exact this
    rw [front_false e1] at h9
    refine wstep wVP h9 fun S12 h12 => ifC_tt_ff (fun e2 => ?_) (fun e2 => ?_)
    · have ht := front_inv (t := t) (w := wVP) (r := (frontF t wVP).1) (by rw [← e2])
      refine nstep h12 (by have := front_len t wVP; omega) fun n S10 h10 hn => sset ⟨3, n, 0, 0⟩ h10 fun S11 h11 => ⟨_, _, _, h11, ?_⟩
      have := tells_vp (frontF t wVP).1
      rw [← ht] at this
      unfold Tells at this ⊢
      split
      · rename_i h; rw [Bool.true_and] at h; rw [if_pos h] at this; rw [hn h.1]; exact this
      · rename_i h; rw [Bool.true_and] at h; rw [if_neg h] at this; exact this
    rw [front_false e2] at h12
    refine wstep wHN h12 fun S15 h15 => ifC_tt_ff (fun e3 => ?_) (fun e3 => ?_)
    · have ht := front_inv (t := t) (w := wHN) (r := (frontF t wHN).1) (by rw [← e3])
      refine nstep h15 (by have := front_len t wHN; omega) fun n S10 h10 hn => sset ⟨6, n, 0, 0⟩ h10 fun S11 h11 => ⟨_, _, _, h11, ?_⟩
      have := tells_hn (frontF t wHN).1
      rw [← ht] at this
      unfold Tells at this ⊢
      split
      · rename_i h; rw [Bool.true_and] at h; rw [if_pos h] at this; rw [hn h.1]; exact this
      · rename_i h; rw [Bool.true_and] at h; rw [if_neg h] at this; exact this
    rw [front_false e3] at h15
    refine wstep wIVF h15 fun S18 h18 => ifC_tt_ff (fun e4 => ?_) (fun e4 => ?_)
    · have ht := front_inv (t := t) (w := wIVF) (r := (frontF t wIVF).1) (by rw [← e4])
      have lr := front_len t wIVF
      generalize (frontF t wIVF).1 = r at *
      have lr1 := num_len' r
      refine nstep h18 (by omega) fun n S19 h19 hn => sset ⟨4, n, 0, 0⟩ h19 fun S20 h20 => wstep wPQ h20 fun S21 h21 => ifC_tt_ff (fun e5 => ?_) (fun e5 => ?_)
      · obtain ⟨r2, hr2⟩ : ∃ r2, frontF (numR r) wPQ = (r2, true) := ⟨(frontF (numR r) wPQ).1, by rw [← e5]⟩
        have lr2 := front_len (numR r) wPQ
        rw [hr2] at h21 lr2
        simp only at h21 lr2
        have lr3 := num_len' r2
        refine fset 0 5 ⟨5, n, 0, 0⟩ (by omega) h21 rfl fun S22 h22 => nstep h22 (by omega) fun p S23 h23 hp => fset 2 p ⟨5, n, p, 0⟩ (by omega) h23 rfl fun S24 h24 => ?_
        have lr4 := front_len (numR r2) wX
        obtain ⟨r4, bx, hr4⟩ : ∃ r4 bx, frontF (numR r2) wX = (r4, bx) := ⟨_, _, rfl⟩
        rw [hr4] at lr4
        refine Join0.mid (fun S' => PSt gs S.ro S' S.ro.next S1.next S2.next S4.next r4 (true && numOk r && numOk r2 && bx) ⟨5, n, p, 0⟩) (wstep wX h24 fun S26 h26 => ?_) ?_
        · rw [hr4] at h26 ⊢
          refine ifC_tt_ff (fun e6 => ⟨_, ld h26.o rfl, oset _ h26 fun S27 h27 => ?_⟩) (fun e6 => oset false h26 fun S28 h28 => ?_)
          · have e6 : bx = true := e6
            rw [e6, Bool.and_true]; exact h27
          · have e6 : bx = false := e6
            rw [e6, Bool.and_false]; exact h28
        · rintro S25 h25
          refine nstep h25 (by simp only at lr4; omega) fun c S29 h29 hc => fset 3 c ⟨5, n, p, c⟩ (by omega) h29 rfl fun S30 h30 => ⟨_, _, _, h30, ?_⟩
          have := tells_pq (r := r) (r2 := r2) (r4 := r4) (bx := bx) hr2 hr4 ⟨5, n, p, c⟩ (fun a1 a2 a3 a4 => by rw [hn a1, hp a2, hc a4])
          rw [← ht] at this
          rw [Bool.true_and]; exact this
      · rw [front_false e5] at h21
        have hti := tells_ivf r e5
        rw [← ht] at hti
        refine wstep wCF h21 fun S31 h31 => ifC_tt_ff (fun e6 => ⟨_, ld h31.o rfl, oset _ h31 fun S32 h32 => ⟨_, _, _, h32, ?_⟩⟩) (fun e6 => oset false h31 fun S33 h33 => ⟨_, _, _, h33, ?_⟩)
        · rw [e6] at hti
          unfold Tells at hti ⊢
          split
          · rename_i h; rw [Bool.true_and] at h hti; rw [if_pos h] at hti; rw [hn h.1]; exact hti
          · rename_i h; rw [Bool.true_and] at h hti; rw [if_neg h] at hti; exact hti
        · rw [e6] at hti
          unfold Tells at hti ⊢
          rw [if_neg (fun h => by cases h.1)]
          rw [if_neg (fun h => by rw [Bool.false_and] at h; cases h.1)] at hti
          exact hti
    · rw [front_false e4] at h18
      exact oset false h18 fun S34 h34 => ⟨_, _, _, h34, tells_none e0 e1 e2 e3 e4 _⟩
  · rintro S6 ⟨s, ok, r, h6, hT⟩
    refine Join1.mid (fun x S' => S6 = S' ∧ x = !(decide (ok = true ∧ r = []))) ⟨_, ld h6.o rfl, ifC_tt_ff (fun h => ⟨rfl, ?_⟩) (fun h => ⟨_, ld h6.t rfl, rfl, ?_⟩)⟩ ?_
    · have h : ok = false := by simpa using h
      rw [decide_eq_false (fun h' => by rw [h] at h'; cases h'.1)]; rfl
    · have h : ok = true := by simpa using h
      congr 1
      exact decide_eq_decide.mpr ⟨fun h' => ⟨h, h'⟩, fun h' => h'.2⟩
    rintro _ _ ⟨rfl, rfl⟩
    unfold Tells at hT
    refine ifC_ndec (fun h => ?_) (fun h => ?_)
    · rw [if_neg h] at hT
      rw [parse_no hT] at hk
      exact tell4 (K := fun a b c d S' => atS (flats [dt4, .one (.int .i64)]) K S a b c d 120 S') h6.grow.wf h6.res rfl fun S' u => hk
    · rw [if_pos h] at hT
      refine ⟨_, _, _, _, ldN h6.s (by simp) rfl, hC s _ _ (ifC_ndec (fun hc => ?_) (fun hc => ⟨_, _, _, _, ldN h6.s (by simp) rfl, ?_⟩))⟩
      · rw [parse_bad hT hc] at hk
        exact tell4 (K := fun a b c d S' => atS (flats [dt4, .one (.int .i64)]) K S a b c d (checkF s) S') h6.grow.wf h6.res rfl fun S' u => hk
      · rw [parse_of hT hc] at hk
        exact tell4 (K := fun a b c d S' => atS (flats [dt4, .one (.int .i64)]) K S a b c d 0 S') h6.grow.wf h6.res rfl fun S' u => hk

end Go.Th.L
end
