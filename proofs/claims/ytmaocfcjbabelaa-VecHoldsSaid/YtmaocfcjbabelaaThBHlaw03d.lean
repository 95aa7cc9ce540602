/- What the row of one statement stands on: a store, abstract code, functions of the program and their laws (ThHlaw03d). -/
import Derived.Test.YtmaocfcjbabelaaThBHlaw03c

section
/- The laws of layer 3: VecShapes, VecHolds. -/
set_option linter.unusedSimpArgs false
set_option linter.unusedVariables false
namespace Go.Th.L
open Go Go.Th Go.Th.Pure
variable {P : Program} {N : Nat → Nat}

/-- A region that a call tells. -/
structure TellR (S S' : St) (r : Reg) (s : Int) (a b : V) (h l : Int) (c : V) : Prop where
  grow : Grow S S'
  reg : RegAt S' a b c h l r
  shape : s = r.shape
  oa : a.one = true
  ob : b.one = true
  oc : c.one = true
  from_ : ∀ i, i ∈ a.block ∨ i ∈ b.block ∨ i ∈ c.block → S.next ≤ i

theorem TellR.upd {D : List Nat} {S S1 S2 : St} {r : Reg} {s h l : Int} {a b c : V} (t : TellR S S1 r s a b h l c) (u : Upd D S1 S2) (hD : ∀ i ∈ D, i < S.next) : RegAt S2 a b c h l r :=
  ⟨SlAt.upd t.reg.lo u fun i hi hi' => by have := t.from_ i (.inl hi); have := hD i hi'; omega, SlAt.upd t.reg.hi u fun i hi hi' => by have := t.from_ i (.inr (.inl hi)); have := hD i hi'; omega,
    SlAt.upd t.reg.ids u fun i hi hi' => by have := t.from_ i (.inr (.inr hi)); have := hD i hi'; omega, t.reg.rad, t.reg.radN⟩

theorem vec_Box.tell (hB : vec_Box.Spec P N) {v : V} {rs : List Row} {d : Int} {S : St} {K : Int → V → V → Int → Int → V → Int → St → Prop} (hw : S.Wf) (hv : RowsAt S v rs)
    (hk : ∀ s a b h l c S', TellR S S' (boxOf rs d) s a b h l c → (errBox rs d = 0 → BuiltI S S' a (boxLo rs d.toNat) ∧ BuiltI S S' b (boxHi rs d.toNat) ∧ BuiltI S S' c (idsR rs) ∧ h = 0 ∧ l = 0 ∧ ∀ i ∈ a.block, i ∉ b.block ∧ i ∉ c.block) → K s a b h l c (errBox rs d) S') :
    CallA P (N Fn.vec_Box) [v, .int .i64 d] S (retT [.agg [.int .i64, .any, .any, .int .u64, .int .u64, .any], .one (.int .i64)] K) := by
  refine hB v rs d S K hw hv (fun h S' g => ?_) (fun h a b c S' ba bb bc hd => ?_)
  · have hz : boxOf rs d = zeroReg := by rw [boxOf, if_neg h]
    exact hk _ _ _ _ _ _ _ ⟨g, by rw [hz]; exact zreg_at S', by rw [hz]; rfl, rfl, rfl, rfl, by simp [V.block]⟩ (fun h' => absurd h' h)
  · have hz : boxOf rs d = boxReg rs d.toNat := by rw [boxOf, if_pos h]
    have := hk 2 a b 0 0 c S' ⟨ba.grow, by rw [hz]; exact ⟨BuiltI.at_ ba, BuiltI.at_ bb, BuiltI.at_ bc, ⟨by omega, by omega, by omega, by omega⟩, rfl⟩, by rw [hz]; rfl, ba.one, bb.one, bc.one, fun i hi => by rcases hi with hi | hi | hi; exact ba.from i hi; exact bb.from i hi; exact bc.from i hi⟩ (fun _ => ⟨ba, bb, bc, rfl, rfl, hd⟩)
    rw [h] at this; exact this

theorem vec_Ball.tell (hB : vec_Ball.Spec P N) {u v : V} {ce : List Int} {rs : List Row} {S : St} {K : Int → V → V → Int → Int → V → Int → St → Prop} (hw : S.Wf) (hu : IntsAt S u ce) (hv : RowsAt S v rs) (hl : ce.length ≤ 65536)
    (hk : ∀ s a b h l c S', TellR S S' (ballOf ce rs) s a b h l c → K s a b h l c (errBall ce rs) S') :
    CallA P (N Fn.vec_Ball) [u, v] S (retT [.agg [.int .i64, .any, .any, .int .u64, .int .u64, .any], .one (.int .i64)] K) := by
  refine hB u v ce rs S K hw hu hv hl (fun h S' g => ?_) (fun h a c hi lo S' ba bc w n => ?_)
  · have hz : ballOf ce rs = zeroReg := by rw [ballOf, if_neg h]
    exact hk _ _ _ _ _ _ _ ⟨g, by rw [hz]; exact zreg_at S', by rw [hz]; rfl, rfl, rfl, rfl, by simp [V.block]⟩
  · have hz : ballOf ce rs = ballReg ce rs := by rw [ballOf, if_pos h]
    have := hk 3 a .nilSlice hi lo c S' ⟨ba.grow, by rw [hz]; exact ⟨BuiltI.at_ ba, (zreg_at S').hi, BuiltI.at_ bc, w, n⟩, by rw [hz]; rfl, ba.one, rfl, bc.one, fun i hi => by rcases hi with hi | hi | hi; exact ba.from i hi; simp [V.block] at hi; exact bc.from i hi⟩
    rw [h] at this; exact this

structure Law03dOk (P : Program) (N : Nat → Nat) : Prop where
  vectors : keep_Vectors.Spec P N
  lendR : keep_LendRows.Spec P N
  backR : keep_BackRows.Spec P N
  bx : vec_Box.Spec P N
  ball : vec_Ball.Spec P N
  bx' : ref03_Box.Spec P N
  ball' : ref03_Ball.Spec P N
  same : ref03_Same.Spec P N
  inside : InsideOk P (N Fn.vec_Inside)
  awake : AwakeF P (N Fn.law03_awake)

def law03_VecShapes.Spec (P : Program) (N : Nat → Nat) : Prop := ∀ (u v : V) (ce : List Int) (rs : List Row) (d : Int) (S : St) (K : Bool → St → Prop), S.Wf → RowsAt S v rs → rs.length ≤ 17592186044416 → (∀ r ∈ rs, r.2.length ≤ 17592186044416) → IntsAt S u ce → (∀ S', K true S') → CallA P (N Fn.law03_VecShapes) [v, .int .i64 d, u] S (retT [.one .bool] K)
theorem law03_VecShapes.spec (hF : law03_VecShapes.Ok P N) (hO : Law03dOk P N) : law03_VecShapes.Spec P N := by
  intro u v ce rs d S K hw hv hl hlv hu hk
  refine law03_VecShapes.run hF (Join0.mid (fun S' => S = S' ∧ rs.length ≤ 2000 ∧ (∀ r ∈ rs, r.2.length ≤ 65536) ∧ ce.length ≤ 65536) ?_ ?_)
  · refine hO.vectors v rs 65536 S _ hv hl hlv (by omega) fun n hn => ifC_dec (fun _ => hk _) (fun h1 => ?_)
    obtain ⟨_, hv'⟩ := id hv
    obtain ⟨h2, h3⟩ := hn (by omega)
    exact ⟨_, hv'.length, ifC_dec (fun _ => hk _) (fun h4 => ⟨_, hu.len, ifC_dec (fun _ => hk _) (fun h5 => ⟨rfl, by omega, fun r hr => by have := h3 r hr; omega, by omega⟩)⟩)⟩
  rintro _ ⟨rfl, hl1, hl2, hl3⟩
  refine hO.lendR v rs S _ hw hv (by omega) (fun r hr => by have := hl2 r hr; omega) fun S3 x ws g3 hx => ?_
  have hr3 := hx.range g3.wf
  refine vec_Box.tell hO.bx g3.wf ⟨_, hx.rows⟩ fun s1 a1 b1 h1 l1 c1 S4 t1 _ => keepReg t1.grow.wf t1.oa t1.ob t1.oc fun S6 g6 m6 n6 => ?_
  have g36 : Grow S3 S6 := t1.grow.trans g6
  refine vec_Ball.tell hO.ball g6.wf (hu.grow (g3.trans g36)) ⟨_, (hx.grow g36).rows⟩ hl3 fun s2 a2 b2 h2 l2 c2 S7 t2 => keepReg t2.grow.wf t2.oa t2.ob t2.oc fun S9 g9 m9 n9 => ?_
  have g69 : Grow S6 S9 := t2.grow.trans g9
  have g39 : Grow S3 S9 := g36.trans g69
  refine hO.backR x v rs ws S S9 S.next _ g9.wf (hx.grow g39) hv (g3.trans g39) (Nat.le_refl _) (by omega) (fun r hr => by have := hl2 r hr; omega) fun S10 u10 => ?_
  have g10 : Grow S S10 := (g3.trans g39).after u10 fun i hi => .inl (hr3 i hi).1
  have n3 := t1.grow.le
  have n4 := g6.wf.lt m6
  have n7 := g9.wf.lt m9
  have n47 : S6.next ≤ S7.next := t2.grow.le
  have m6' := u10.get (g69.get m6) fun hi => by have := (hr3 _ hi).2; omega
  have m9' := u10.get m9 fun hi => by have := (hr3 _ hi).2; have := g6.le; omega
  have r1 : RegAt S10 a1 b1 c1 h1 l1 (boxOf rs d) := by
    have t : TellR S3 S9 (boxOf rs d) s1 a1 b1 h1 l1 c1 := ⟨g39, t1.reg.grow (g6.trans g69), t1.shape, t1.oa, t1.ob, t1.oc, t1.from_⟩
    exact t.upd u10 fun i hi => (hr3 i hi).2
  have r2 : RegAt S10 a2 b2 c2 h2 l2 (ballOf ce rs) := by
    have t : TellR S6 S9 (ballOf ce rs) s2 a2 b2 h2 l2 c2 := ⟨g69, t2.reg.grow g9, t2.shape, t2.oa, t2.ob, t2.oc, t2.from_⟩
    exact t.upd u10 fun i hi => by have := (hr3 i hi).2; have := g36.le; omega
  refine hO.bx' v rs d S10 _ g10.wf (hv.grow g10) fun a3 b3 c3 h3 l3 S11 g11 r3 o1 o2 o3 => keepReg g11.wf o1 o2 o3 fun S13 g13 m13 n13 => ?_
  have g1013 : Grow S10 S13 := g11.trans g13
  refine hO.ball' u v ce rs S13 _ g13.wf (hu.grow (g10.trans g1013)) (hv.grow (g10.trans g1013)) hl3 fun a4 b4 c4 h4 l4 S14 g14 r4 o4 o5 o6 => keepReg g14.wf o4 o5 o6 fun S16 g16 m16 n16 => ?_
  have g1016 : Grow S10 S16 := g1013.trans (g14.trans g16)
  have e1 := t1.shape; subst e1
  have e2 := t2.shape; subst e2
  refine hO.awake _ _ (ifC_tt rfl (ifC_tt rfl ⟨_, _, _, _, _, _, ldN (g1016.get m6') (by simp) rfl, _, _, _, _, _, _, ldN (g16.get (g14.get m13)) (by simp) rfl, ?_⟩))
  refine hO.same _ _ _ _ _ _ _ _ _ _ _ _ _ _ (r1.grow g1016) (r3.grow (g13.trans (g14.trans g16))) (ifC_tt (decide_eq_true rfl) (ifC_pos rfl ⟨_, _, _, _, _, _, ldN (g1016.get m9') (by simp) rfl, _, _, _, _, _, _, ldN m16 (by simp) rfl, ?_⟩))
  refine hO.same _ _ _ _ _ _ _ _ _ _ _ _ _ _ (r2.grow g1016) (r4.grow g16) (ifC_tt (decide_eq_true rfl) ?_)
  rw [decide_eq_true rfl]; exact hk _

def law03_VecHolds.Spec (P : Program) (N : Nat → Nat) : Prop := ∀ (u v : V) (ce : List Int) (rs : List Row) (at_ : Int) (S : St) (K : Bool → St → Prop), S.Wf → RowsAt S v rs → rs.length ≤ 17592186044416 → (∀ r ∈ rs, r.2.length ≤ 17592186044416) → IntsAt S u ce → (∀ S', K true S') → CallA P (N Fn.law03_VecHolds) [v, u, .int .i64 at_] S (retT [.one .bool] K)
theorem law03_VecHolds.spec (hF : law03_VecHolds.Ok P N) (hO : Law03dOk P N) : law03_VecHolds.Spec P N := by
  intro u v ce rs at_ S K hw hv hl hlv hu hk
  refine law03_VecHolds.run hF (Join0.mid (fun S' => S = S' ∧ rs.length ≤ 2000 ∧ (∀ r ∈ rs, r.2.length ≤ 65536) ∧ ce.length ≤ 65536) ?_ ?_)
  · refine hO.vectors v rs 65536 S _ hv hl hlv (by omega) fun n hn => ifC_dec (fun _ => hk _) (fun h1 => ?_)
    obtain ⟨_, hv'⟩ := id hv
    obtain ⟨h2, h3⟩ := hn (by omega)
    exact ⟨_, hv'.length, ifC_dec (fun _ => hk _) (fun h4 => ⟨_, hu.len, ifC_dec (fun _ => hk _) (fun h5 => ⟨rfl, by omega, fun r hr => by have := h3 r hr; omega, by omega⟩)⟩)⟩
  rintro _ ⟨rfl, hl1, hl2, hl3⟩
  refine ⟨_, hu.len, vec_Box.tell hO.bx hw hv fun s1 a b h1 l1 c S3 t1 own => keepReg t1.grow.wf t1.oa t1.ob t1.oc fun S5 g5 m5 n5 => ?_⟩
  have gS5 : Grow S S5 := t1.grow.trans g5
  refine vec_Ball.tell hO.ball g5.wf (hu.grow gS5) (hv.grow gS5) hl3 fun s2 a2 b2 h2 l2 c2 S6 t2 => keepReg t2.grow.wf t2.oa t2.ob t2.oc fun S8 g8 m8 n8 => ?_
  have g58 : Grow S5 S8 := t2.grow.trans g8
  have gS8 : Grow S S8 := gS5.trans g58
  have e1 := t1.shape; subst e1
  have e2 := t2.shape; subst e2
  refine Join1.mid (fun x S' => S8 = S' ∧ x = !(decide (errBox rs ce.length = 0) && decide (errBall ce rs = 0))) (ifC_ndec (fun h => ⟨rfl, by rw [decide_eq_false h]; rfl⟩) (fun h => ⟨rfl, by rw [decide_eq_true h, Bool.true_and]⟩)) ?_
  rintro _ _ ⟨rfl, rfl⟩
  refine ifC_tt_ff (fun hbad => hO.awake _ _ (ifC_tt rfl (ifC_ndec (fun h => hk _) (fun h => ?_)))) (fun hgood => ?_)
  · have : errBall ce rs ≠ 0 := fun h' => by rw [decide_eq_true h, decide_eq_true h'] at hbad; cases hbad
    rw [decide_eq_false this]; exact hk _
  have hE : errBox rs ce.length = 0 := Decidable.byContradiction fun h => by rw [decide_eq_false h] at hgood; cases hgood
  have hL : errBall ce rs = 0 := Decidable.byContradiction fun h => by rw [decide_eq_false h, Bool.and_false] at hgood; cases hgood
  obtain ⟨ba, bb, bc, rfl, rfl, hd⟩ := own hE
  have hz : boxOf rs ce.length = boxReg rs ce.length := by rw [boxOf, if_pos hE]; rfl
  have hz' : ballOf ce rs = ballReg ce rs := by rw [ballOf, if_pos hL]
  have r1 := t1.reg.grow (g5.trans g58)
  have r2 := t2.reg.grow g8
  rw [hz] at r1 m5
  rw [hz'] at r2 m8
  have m5' := g58.get m5
  obtain ⟨ws, hvs⟩ := hv
  have hv8 := hvs.grow gS8
  refine Loop1.ind (fun m x S' => S8 = S' ∧ ∃ q : Nat, x = q ∧ m = rs.length - q ∧ q ≤ rs.length) rs.length ⟨rfl, 0, rfl, rfl, Nat.zero_le _⟩ ?_
  rintro m _ _ ⟨rfl, q, rfl, rfl, hq⟩
  refine ⟨_, hv8.length, ifC_dec (fun h4 => ?_) (fun h4 => ?_)⟩
  · have h4 : q < rs.length := by omega
    have hbx := box_in hE (List.getElem_mem h4)
    have hbl := ball_in hL (List.getElem_mem h4)
    rw [Int.toNat_natCast] at hbx
    refine ⟨_, _, _, _, _, _, ldN m5' (by simp) rfl, ifS_mk (hv8.idx h4) (ifS_mk (hv8.fld h4 1) (ifS_mk (hv8.vec h4) (hO.inside _ _ _ _ _ _ _ _ _ _ r1 (hv8.at_ h4) (fun h => absurd hbx.1 h) fun _ => ?_)))⟩
    refine ⟨_, _, _, _, _, _, ldN m8 (by simp) rfl, ifS_mk (hv8.idx h4) (ifS_mk (hv8.fld h4 1) (ifS_mk (hv8.vec h4) (hO.inside _ _ _ _ _ _ _ _ _ _ r2 (hv8.at_ h4) (fun h => absurd hbl.1 h) fun _ => ?_)))⟩
    rw [decide_eq_true hbx.2, decide_eq_true hbl.2]
    exact ifC_npos rfl (ifC_npos rfl (ifC_ff rfl (ifC_ff rfl (setI_mk (wrap_succ (by omega)) ⟨rs.length - (q + 1), by omega, rfl, q + 1, rfl, rfl, h4⟩))))
  have hll : (boxLo rs ce.length).length = ce.length := boxLo_len _ _
  have hhl : (boxHi rs ce.length).length = ce.length := boxHi_len _ _
  refine Join0.mid (fun S' => S8 = S') (ifS_mk (ld m5' rfl) ⟨_, r1.lo.len, ifC_npos (by simp only [boxReg, hll]) (ifS_mk (ld m5' rfl) ⟨_, r1.hi.len, ifC_npos (by simp only [boxReg, hhl]) rfl⟩)⟩) ?_
  rintro _ rfl
  refine Join1.mid (fun x S' => S8 = S' ∧ (x = false → ∃ k : Nat, at_ = k ∧ k < ce.length ∧ (boxLo rs ce.length).getD k 0 < (boxHi rs ce.length).getD k 0)) (ifC_dec (fun h => ⟨rfl, fun h' => by cases h'⟩) (fun h => ifC_dec (fun h' => ⟨rfl, fun h' => by cases h'⟩) (fun h' => ?_))) ?_
  · obtain ⟨k, rfl⟩ : ∃ k : Nat, at_ = k := ⟨at_.toNat, by omega⟩
    have hkl : k < (boxLo rs ce.length).length := by omega
    have hkh : k < (boxHi rs ce.length).length := by omega
    refine ifS_mk (ld m5' rfl) (ifS_mk (IntsAt.idx r1.lo hkl) ⟨_, IntsAt.get r1.lo hkl, ifS_mk (ld m5' rfl) (ifS_mk (IntsAt.idx r1.hi hkh) ⟨_, IntsAt.get r1.hi hkh, rfl, fun hf => ⟨k, rfl, by omega, ?_⟩⟩)⟩)
    rw [getD_get hkl, getD_get hkh]
    have := of_decide_eq_false hf
    simp only [boxReg] at this; omega
  rintro x _ ⟨rfl, hx⟩
  refine ifC_tt_ff (fun h => hO.awake _ _ (hk _)) (fun h => ?_)
  obtain ⟨k, rfl, hkc, hlt⟩ := hx h
  have hkl : k < (boxLo rs ce.length).length := by omega
  have hinC : inC (boxLo rs ce.length)[k] = true := by
    obtain ⟨_, _, _, _, _, hzz⟩ := errReg_zero (box_ok hE)
    have := (hzz rfl).2.2.1
    simp only [boxReg, Int.toNat_natCast] at this
    exact this _ (List.getElem_mem _)
  have hrange := inC_iff.mp hinC
  have hIl := IntsAt.idx r1.lo hkl
  refine ifS_mk (ld m5' rfl) (ifS_mk hIl ⟨_, IntsAt.get r1.lo hkl, setI_mk (n := (boxLo rs ce.length)[k] + 1) (by simp only [boxReg]; rw [IntKind.wrap_i64]; omega) (ifS_mk hIl ?_)⟩)
  have ba8 := ba.next (g5.trans g58)
  rw [Int.toNat_natCast] at ba8
  refine BuiltI.set ba8 hkl _ fun S17 ba17 u17 => ?_
  have hbx := box_less hE (j := k) (by omega) (by rw [Int.toNat_natCast]; exact hlt)
  rw [Int.toNat_natCast] at hbx
  obtain ⟨r, hr, hr1, hr2⟩ := hbx
  obtain ⟨p, hp, rfl⟩ := List.getElem_of_mem hr
  rw [getD_get hkl] at hr1 hr2
  have hib : ∀ i ∈ a.block, i < S3.next := ba.lt
  have m17 := u17.get m5' fun hi => by have := hib _ hi; omega
  have hr17 : RegAt S17 a b c 0 0 ⟨2, (boxLo rs ce.length).set k ((boxLo rs ce.length)[k] + 1), boxHi rs ce.length, 0, idsR rs⟩ :=
    ⟨BuiltI.at_ ba17, SlAt.upd r1.hi u17 fun i hi hi' => (hd i hi').1 hi, SlAt.upd r1.ids u17 fun i hi hi' => (hd i hi').2 hi, r1.rad, r1.radN⟩
  have hv17 := hvs.grow ba17.grow
  refine Loop1.ind (fun m x S' => S17 = S' ∧ ∃ q : Nat, x = q ∧ m = rs.length - q ∧ q ≤ p) rs.length ⟨rfl, 0, rfl, rfl, Nat.zero_le _⟩ ?_
  rintro m _ _ ⟨rfl, q, rfl, rfl, hq⟩
  have h4 : q < rs.length := by omega
  refine ⟨_, hv17.length, ifC_pos (by omega) ⟨_, _, _, _, _, _, ldN m17 (by simp) rfl, ifS_mk (hv17.idx h4) (ifS_mk (hv17.fld h4 1) (ifS_mk (hv17.vec h4) (InsideOk.tell (r := ⟨2, (boxLo rs ce.length).set k ((boxLo rs ce.length)[k] + 1), boxHi rs ce.length, 0, idsR rs⟩) hO.inside hr17 (hv17.at_ h4) fun ib e hT => ?_)))⟩⟩
  obtain ⟨rfl, rfl⟩ := hT
  refine Join1.mid (fun x S' => S17 = S' ∧ (x = false → q ≠ p)) (ifC_dec (fun h => ⟨rfl, fun hf e => ?_⟩) (fun h => ⟨rfl, fun _ e => ?_⟩)) ?_
  · subst e
    rw [decide_eq_false (fun hh => hr2 hh.2)] at hf; cases hf
  · subst e; exact h hr1
  rintro x _ ⟨rfl, hx⟩
  exact ifC_tt_ff (fun h => hO.awake _ _ (hk _)) (fun h => setI_mk (wrap_succ (by omega)) ⟨rs.length - (q + 1), by omega, rfl, q + 1, rfl, rfl, by have := hx h; omega⟩)

end Go.Th.L
end
