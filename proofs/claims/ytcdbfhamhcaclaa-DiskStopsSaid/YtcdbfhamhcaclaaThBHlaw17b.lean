/- What the row of one statement stands on: a store, abstract code, functions of the program and their laws (ThHlaw17b). -/
import Derived.Test.YtcdbfhamhcaclaaThBHlaw17a
import Derived.Test.YtcdbfhamhcaclaaThBHkeep2

section
/- DiskStops. -/
set_option linter.unusedSimpArgs false
set_option linter.unusedVariables false
set_option maxHeartbeats 1000000
namespace Go.Th.L
open Go Go.Th Go.Th.Pure
variable {P : Program} {N : Nat → Nat}

structure LawF (P : Program) (N : Nat → Nat) : Prop where
  f3 : DiskF3 P N
  awake : law17_awake.Ok P N
  large : law17_large.Ok P N
  play : law17_play.Ok P N
  texts : keep_Texts.Ok P N

structure Two2 (S0 S : St) (D B : List Nat) (d : Nat) (r : DiskR) (D' B' : List Nat) (x : Nat) (r' : DiskR) : Prop where
  a : Fd S0 S D B d r
  b : Fd S0 S D' B' x r'
  ap : ∀ i, (i ∈ D → i ∉ D' ∧ i ∉ B') ∧ (i ∈ D' → i ∉ B)
theorem Two2.grow {S0 S S' : St} {D B D' B' : List Nat} {d x : Nat} {r r' : DiskR} (h : Two2 S0 S D B d r D' B' x r') (u : Grow S S') : Two2 S0 S' D B d r D' B' x r' := ⟨h.a.grow u, h.b.grow u, h.ap⟩
theorem Two2.one {S0 S S' : St} {D B D' B' D1 B1 : List Nat} {d x : Nat} {r r' r1 : DiskR} (h : Two2 S0 S D B d r D' B' x r') (k : DH S' D1 B1 d r1) (f : Foot D B S D1 B1 S') : Two2 S0 S' D1 B1 d r1 D' B' x r' := by
  have lD := h.b.dh.ltD
  have lB := h.b.dh.ltB
  refine ⟨h.a.step k f, ⟨h.b.dh.upd f.2.2 (fun i hi => ((h.ap i).1 hi).1) (fun i hi => ((h.ap i).1 hi).2), h.a.g.after f.2.2 fun i hi => .inl (h.a.fD i hi), h.b.fD, h.b.fB⟩, fun i => ⟨fun hi => ?_, fun hi hb => ?_⟩⟩
  · rcases f.1 i hi with h1 | h1
    · exact (h.ap i).1 h1
    · exact ⟨fun h2 => by have := lD i h2; omega, fun h2 => by have := lB i h2; omega⟩
  · rcases f.2.1 i hb with h1 | h1
    · exact (h.ap i).2 hi h1
    · have := lD i hi; omega
theorem Two2.swap {S0 S : St} {D B D' B' : List Nat} {d x : Nat} {r r' : DiskR} (h : Two2 S0 S D B d r D' B' x r') : Two2 S0 S D' B' x r' D B d r :=
  ⟨h.b, h.a, fun i => ⟨fun hi => ⟨fun h2 => ((h.ap i).1 h2).1 hi, (h.ap i).2 hi⟩, fun hi => ((h.ap i).1 hi).2⟩⟩

theorem law17_DiskStops.spec (hO : LawF P N) (hF : law17_DiskStops.Ok P N) {S : St} (hw : S.Wf) {room n : Int} (hn : n ≤ 9223372036854775807) {v : V} {l : List OpV} (hs : ScrAt S (fun i => i < S.next) v l) {K : Bool → St → Prop} (hk : ∀ S', K true S') :
    CallA P (N Fn.law17_DiskStops) [.int .i64 room, v, .int .i64 n] S (retT [.one .bool] K) := by
  refine law17_DiskStops.run hF (Join0.mid (fun S' => Grow S S' ∧ SmallS l ∧ 0 ≤ n) (law17_large.spec hO.large hw hs (fun S' _ => ifC_tt rfl (hk S')) fun hsm S' g => ifC_ff rfl (ifC_dec (fun _ => hk S') fun hn0 => ⟨g, hsm, by omega⟩)) ?_)
  rintro S1 ⟨g1, hsm, hn0⟩
  refine disk_New.spec hO.f3.new g1.wf (fun hr => ?_) (fun hr S2 D d g2 h2 f2 => ?_)
  · refine disk_New.spec hO.f3.new g1.wf (fun _ => ?_) (fun hr2 => absurd hr2 hr)
    refine Join1.mid (fun b S' => b = true ∧ S' = S1) ⟨true, rfl, ifC_tt rfl ⟨rfl, rfl⟩⟩ ?_
    rintro b S' ⟨rfl, rfl⟩
    exact ifC_tt rfl (law17_awake.spec hO.f3 hO.awake g1.wf fun S5 g5 => ifC_tt rfl (ifC_tt rfl (hk _)))
  refine disk_New.spec hO.f3.new g2.wf (fun h' => absurd hr h') (fun _ S3 D' x g3 h3 f3 => ?_)
  have T : Two2 S1 S3 D [] d (newR room) D' [] x (newR room) := by
    have l2 := g2.le
    refine ⟨⟨h2.grow g3, g2.trans g3, f2, by simp⟩, ⟨h3, g2.trans g3, fun i hi => by have := f3 i hi; omega, by simp⟩, fun i => ⟨fun hi => ⟨fun hi' => ?_, by simp⟩, by simp⟩⟩
    have := h2.ltD i hi
    have := f3 i hi'
    omega
  refine Join1.mid (fun b S' => b = false ∧ S' = S3) ⟨false, rfl, ifC_ff rfl ⟨false, rfl, ifC_ff rfl (ifC_ff rfl ⟨rfl, rfl⟩)⟩⟩ ?_
  rintro b S' ⟨rfl, rfl⟩
  have o0 : OkR 0 (newR room) := newR_ok hr
  have ow : OkR 0 (wl (newR room) n) := by
    have := stopR_ok (n := n) o0 hn
    have e : stopR (newR room) n = (0, wl (newR room) n) := by
      have h1 : ¬ n < 0 := by omega
      simp [stopR, downR, newR, wl, h1]
    rwa [e] at this
  refine ifC_ff rfl (DH.stop hO.f3 T.a.dh T.a.wf (v := 0) (r' := wl (newR room) n) (by
    have h1 : ¬ n < 0 := by omega
    simp [stopR, downR, newR, wl, h1]) fun S7 D7 B7 h7 f7 => ifC_ff rfl ?_)
  have T7 := T.one h7 f7
  have lS : S.next ≤ S1.next := g1.le
  refine Join0.mid (fun S' => ∃ (r : DiskR) (D1 B1 D2 B2 : List Nat), Two2 S1 S' D1 B1 d (wl r (n - r.steps)) D2 B2 x r ∧ r.left = -1 ∧ r.steps ≤ n ∧ OkR 1000 r ∧ OkR 1000 (wl r (n - r.steps))) ?_ ?_
  · refine Loop1.ind (fun m z S' => ∃ (i : Nat) (r : DiskR) (D1 B1 D2 B2 : List Nat), z = i ∧ i + m = l.length ∧ Two2 S1 S' D1 B1 d (wl r (n - r.steps)) D2 B2 x r ∧ r.left = -1 ∧ r.steps ≤ n ∧ OkR i r ∧ OkR i (wl r (n - r.steps))) l.length
      ⟨0, newR room, D7, B7, D', [], rfl, by omega, by simpa [newR] using T7, rfl, hn0, o0, by simpa [newR] using ow⟩ ?_
    rintro m z S9 ⟨i, r, D1, B1, D2, B2, rfl, hi, T9, hl, hst, ok1, ok2⟩
    have k9 := hs.upd (g1.trans T9.a.g) (by simp)
    have wi : ∀ {Q : Int → Prop}, i < l.length → Q ((i + 1 : Nat) : Int) → setI (IntKind.i64.wrap ((i : Int) + 1)) Q := fun hin q => setI_mk (by rw [IntKind.wrap_i64]; have := hsm.1; omega) q
    refine ⟨_, k9.len, ifC_dec (fun hlt => ?_) (fun hge => ⟨r, D1, B1, D2, B2, T9, hl, hst, ok1.mono (by have := hsm.1; omega), ok2.mono (by have := hsm.1; omega)⟩)⟩
    have hin : i < l.length := by omega
    have ho := k9.op _ (List.getElem_mem hin)
    have hso := hsm.2 _ (List.getElem_mem hin)
    have hl1 := hsm.1
    generalize hx : l[i] = o at ho hso
    have hget := k9.get hin
    rw [hx] at hget
    refine ifS_mk (k9.ix hin) ⟨_, _, _, _, _, _, hget, op_mk T9.a.wf ho fun S11 g11 m11 n11 => ?_⟩
    have T11 := T9.grow g11
    have o11 := ho.upd g11 (by simp)
    have skip : ∀ {Q : Prop}, (∃ m', m' < m ∧ ∃ (i' : Nat) (r : DiskR) (D1 B1 D2 B2 : List Nat), ((i + 1 : Nat) : Int) = i' ∧ i' + m' = l.length ∧ Two2 S1 S11 D1 B1 d (wl r (n - r.steps)) D2 B2 x r ∧ r.left = -1 ∧ r.steps ≤ n ∧ OkR i' r ∧ OkR i' (wl r (n - r.steps))) := ⟨m - 1, by omega, i + 1, r, D1, B1, D2, B2, rfl, by omega, T11, hl, hst, ok1.mono (by omega), ok2.mono (by omega)⟩
    refine Join0.mid (fun S' => S' = S11 ∧ o.o.kind ≠ 8 ∧ o.o.kind ≠ 9) ⟨_, ld m11 rfl, ifC_dec (fun _ => wi hin (skip (Q := True))) (fun h8 => ⟨_, ld m11 rfl, ifC_dec (fun _ => wi hin (skip (Q := True))) (fun h9 => ⟨rfl, h8, h9⟩)⟩)⟩ ?_
    rintro S12 ⟨rfl, h8, h9⟩
    refine DH.steps hO.f3 T11.b.dh (ifC_dec (fun hse => ⟨r, D1, B1, D2, B2, T11, hl, hst, ok1.mono (by omega), ok2.mono (by omega)⟩) fun hse => ?_)
    have hpos : 0 < n - r.steps := by omega
    have K1 := play_kept hl hpos o.o h8 h9
    have ones : ∀ {S' : St}, S'.get S9.next = some (.cells (opC o) true) → loadNV S' 6 (.ptr S9.next 0) = some (.agg (opC o)) := fun h => ldN h (by simp [opC]) rfl
    refine ⟨_, _, _, _, _, _, ones m11, newS_mk T11.a.wf fun S14 g14 m14 n14 => ?_⟩
    have T14 := T11.grow g14
    have one : ∀ {S' : St} {b : Nat}, S'.get b = some (.cells (opC o) true) → SlE S' 6 (.slice b 0 1 1 6 true) ([o].map opC) := fun {S' b} h => ⟨⟨by simp, by simp [opC], .inr ⟨_, _, _, _, rfl, Nat.le_refl _, by rw [St.loads_of h (by simp [opC])]; simp [opC]⟩⟩, by simp [opC]⟩
    have sm1 : SmallS [o] := ⟨by simp, by simpa using hso⟩
    have hfar : ∀ i, (i < S.next ∨ S12.next ≤ i) → ∀ {E : List Nat}, (∀ j ∈ E, S1.next ≤ j) → (∀ j ∈ E, j < S12.next) → i ∉ E := fun i hi E h1 h2 hE => by
      have := h1 i hE; have := h2 i hE; omega
    have sc1 : ScrAt S14 (fun i => i < S.next ∨ i = S12.next) (.slice S12.next 0 1 1 6 true) [o] := ⟨one m14, fun _ i hi => by simp only [V.block, List.mem_singleton] at hi; exact .inr hi, fun y hy => by
      simp only [List.mem_singleton] at hy
      subst hy
      have := o11.upd g14 (by simp)
      exact { this with bl := fun h0 i hi => .inl (this.bl h0 i hi), cl := fun h0 i hi => .inl (this.cl h0 i hi) }⟩
    have l14 := g14.le
    have n14' : S12.next < S14.next := by omega
    have ll : S1.next ≤ S12.next := T11.a.g.le
    refine law17_play.spec hO.f3 hO.play T14.a.wf T14.a.dh ok2 sc1 sm1 (by simp only [List.length_singleton]; omega) (fun i hi => ⟨hfar i (by omega) T11.a.fD T11.a.dh.ltD, by omega⟩) fun S15 D15 B15 h15 f15 => ?_
    have T15 := T14.one h15 f15
    have m15 : S15.get S9.next = some (.cells (opC o) true) := f15.2.2.get (g14.get m11) (fun hi => by
      have := T9.a.dh.ltD _ hi; omega)
    refine ⟨_, _, _, _, _, _, ones m15, newS_mk T15.a.wf fun S16 g16 m16 n16 => ?_⟩
    have T16 := T15.grow g16
    have o16 : OpAt S16 (fun i => i < S.next) o := ((o11.upd g14 (by simp)).upd f15.2.2 (fun i hi hz => by have := T11.a.fD i hi; omega)).upd g16 (by simp)
    have l15 := f15.2.2.le
    have sc2 : ScrAt S16 (fun i => i < S.next ∨ i = S15.next) (.slice S15.next 0 1 1 6 true) [o] := ⟨one m16, fun _ i hi => by simp only [V.block, List.mem_singleton] at hi; exact .inr hi, fun y hy => by
      simp only [List.mem_singleton] at hy
      subst hy
      exact { o16 with bl := fun h0 i hi => .inl (o16.bl h0 i hi), cl := fun h0 i hi => .inl (o16.cl h0 i hi) }⟩
    refine law17_play.spec hO.f3 hO.play T16.b.wf T16.b.dh ok1 sc2 sm1 (by simp only [List.length_singleton]; omega) (fun i hi => ⟨fun hE => ?_, by omega⟩) fun S17 D17 B17 h17 f17 => wi hin ?_
    · have h1 := T15.b.fD i hE
      have h2 := T15.b.dh.ltD i hE
      omega
    · have T17 := (T16.swap.one h17 f17).swap
      have e1 : playAll r [o] = playR r o.o := rfl
      have e2 : playAll (wl r (n - r.steps)) [o] = wl (playR r o.o) (n - (playR r o.o).steps) := K1.eq
      rw [e1, e2] at T17
      have ok1' := playR_ok ok1 o.o o11.n.2
      have ok2' := playR_ok ok2 o.o o11.n.2
      rw [K1.eq] at ok2'
      exact ⟨m - 1, by omega, i + 1, playR r o.o, D15, B15, D17, B17, rfl, by omega, T17, K1.left, by have := K1.hi; omega, ok1', ok2'⟩
  · rintro S8 ⟨r, D1, B1, D2, B2, T8, hl, hst, ok1, ok2⟩
    have hdn : downR (wl r (n - r.steps)) = decide (r.steps = n) := by
      show decide (n - r.steps = 0) = _
      by_cases h : r.steps = n
      · simp [h]
      · have : ¬ n - r.steps = 0 := by omega
        simp [h, this]
    refine DH.steps hO.f3 T8.b.dh (Join0.mid (fun S' => S' = S8) (DH.down hO.f3 T8.a.dh (ifC_ff (by rw [hdn]; simp) (DH.steps hO.f3 T8.a.dh (DH.steps hO.f3 T8.b.dh (ifC_ff (by simp [wl]) rfl))))) ?_)
    rintro S19 rfl
    by_cases h : r.steps = n
    · have hd : downR (wl r (n - r.steps)) = true := by rw [hdn]; simp [h]
      refine ifC_ff (by simp [h]) ?_
      refine DH.create hO.f3 T8.a.wf T8.a.dh ok2 (by omega) (by decide) (v := 174) (r' := wl r (n - r.steps)) (by simp [createR, hd]) fun S27 D27 B27 h27 f27 => ?_
      have T27 := T8.one h27 f27
      refine DH.syncDir hO.f3 T27.a.wf T27.a.dh ok2 (by omega) (v := 174) (r' := wl r (n - r.steps)) (by simp [syncDirR, hd]) fun S28 D28 B28 h28 f28 => ?_
      have T28 := T27.one h28 f28
      refine DH.read hO.f3 T28.a.dh T28.a.wf ok2 (b := []) (v := 174) (by simp [readR, hd]) fun y S29 b29 => ?_
      have T29 := T28.grow b29.grow
      refine Join0.mid (fun S' => ∃ D3 B3, Two2 S1 S' D3 B3 d (wl r (n - r.steps)) D2 B2 x r) (ifC_ff rfl (ifC_ff rfl (ifC_ff rfl (DH.names hO.f3 T29.a.dh T29.a.wf ok2 fun u S31 b31 => ?_)))) ?_
      · have T31 := T29.grow b31.grow
        have e0 : namesR (wl r (n - r.steps)) = [] := by simp [namesR, hd]
        have hu := txs_of b31
        rw [e0] at hu
        refine ⟨_, SlAt.len hu, ifC_ff rfl (DH.used hO.f3 T31.a.dh ok2 (ifC_ff ?_ (DH.stop hO.f3 T31.a.dh T31.a.wf (v := 174) (r' := wl r (n - r.steps)) (by simp [stopR, hd]) fun S33 D33 B33 h33 f33 => ifC_ff rfl ⟨D33, B33, T31.one h33 f33⟩)))⟩
        have : usedR (wl r (n - r.steps)) = 0 := by simp [usedR, hd]
        rw [this]; rfl
      · rintro S30 ⟨D3, B3, T30⟩
        have nil0 : ∀ S : St, IntsAt S .nilSlice [] := fun S => ⟨by simp, by simp [intsV], .inl ⟨rfl, rfl⟩⟩
        refine DH.crash hO.f3 T30.a.wf T30.a.dh ok2 (by omega) (cs := []) (nil0 _) (fun h => absurd rfl h) (fun h => absurd rfl h) (by simp) rfl fun S34 D34 B34 h34 f34 => ?_
        have T34 := T30.one h34 f34
        refine DH.crash hO.f3 T34.b.wf T34.b.dh ok1 (by omega) (cs := []) (nil0 _) (fun h => absurd rfl h) (fun h => absurd rfl h) (by simp) rfl fun S35 D35 B35 h35 f35 => ?_
        have T35 := (T34.swap.one h35 f35).swap
        rw [crash_wl] at T35
        have okc := crashR_ok ok1 []
        refine law17_awake.spec hO.f3 hO.awake T35.a.wf fun S36 g36 => ifC_tt rfl ?_
        have T36 := T35.grow g36
        refine DH.names hO.f3 T36.a.dh T36.a.wf okc fun u S37 b37 => ?_
        have T37 := T36.grow b37.grow
        refine DH.names hO.f3 T37.b.dh T37.b.wf okc fun u' S38 b38 => ?_
        have T38 := T37.grow b38.grow
        refine keep_Texts.spec hO.texts (SlAt.grow (txs_of b37) b38.grow) (txs_of b38) (ifC_tt (by simp) (DH.used hO.f3 T38.a.dh okc (DH.used hO.f3 T38.b.dh okc ?_)))
        rw [decide_eq_true rfl]; exact hk _
    · have hd : downR (wl r (n - r.steps)) = false := by rw [hdn]; simp [h]
      have hd' := not_down hl
      refine ifC_tt (by simp [h]) (law17_awake.spec hO.f3 hO.awake T8.a.wf fun S36 g36 => ifC_tt rfl ?_)
      have T36 := T8.grow g36
      refine DH.names hO.f3 T36.a.dh T36.a.wf ok2 fun u S37 b37 => ?_
      have T37 := T36.grow b37.grow
      refine DH.names hO.f3 T37.b.dh T37.b.wf ok1 fun u' S38 b38 => ?_
      have e := txs_of b37
      rw [names_wl hd' hd] at e
      refine keep_Texts.spec hO.texts (SlAt.grow e b38.grow) (txs_of b38) ?_
      rw [decide_eq_true rfl]; exact hk _

end Go.Th.L
end
