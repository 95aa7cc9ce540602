/- What the row of one statement stands on: a store, abstract code, functions of the program and their laws (ThHlaw17c). -/
import Derived.Test.YtcdbfhamhcaclaaThBHlaw17b
import Derived.Test.YtcdbfhamhcaclaaThBPdisk3

section
/- DiskSafe. -/
set_option linter.unusedSimpArgs false
set_option linter.unusedVariables false
set_option maxHeartbeats 2000000
namespace Go.Th.L
open Go Go.Th Go.Th.Pure
variable {P : Program} {N : Nat → Nat}

structure MoreAt (S : St) (Z : Nat → Prop) (w : V) (l : List (V × List UInt8)) : Prop where
  sl : SlE S 1 w (l.map fun p => [p.1])
  lo : l ≠ [] → ∀ i ∈ w.block, Z i
  b : ∀ p ∈ l, BytesAt S p.1 p.2 ∧ (p.2 ≠ [] → ∀ i ∈ p.1.block, Z i)
theorem MoreAt.upd {S S' : St} {Z : Nat → Prop} {X : List Nat} {w : V} {l : List (V × List UInt8)} (h : MoreAt S Z w l) (u : Upd X S S') (hX : ∀ i ∈ X, ¬ Z i) : MoreAt S' Z w l := by
  refine ⟨?_, h.lo, fun p hp => ⟨bytes_z (h.b p hp).1 (h.b p hp).2 u hX, (h.b p hp).2⟩⟩
  by_cases h0 : l = []
  · subst h0
    exact ⟨SlAt.none_ h.sl.1, h.sl.2⟩
  · exact SlE.upd h.sl u fun i hi hx => hX i hx (h.lo h0 i hi)
section
variable {S : St} {Z : Nat → Prop} {w : V} {l : List (V × List UInt8)} (h : MoreAt S Z w l) {j : Nat}
include h
theorem MoreAt.len : lenV S 2 w = some (.int .i64 l.length) := by
  have := h.sl.len
  rwa [List.length_map] at this
theorem MoreAt.ix (hj : j < l.length) : idxAddrV 1 w (.int .i64 (j : Int)) = some (eltV 1 w j 0) := h.sl.idx (by rw [List.length_map]; exact hj)
theorem MoreAt.get (hj : j < l.length) : loadV S (eltV 1 w j 0) = some l[j].1 := by
  rw [h.sl.get (by rw [List.length_map]; exact hj) (by omega)]
  simp
end

theorem law17_DiskSafe.spec (hO : LawF P N) (hF : law17_DiskSafe.Ok P N) {S : St} (hw : S.Wf) {room : Int} {v w x4 x5 : V} {l : List OpV} {name : Nm} {more : List (V × List UInt8)} {ch ag : List Int} (hs : ScrAt S (fun i => i < S.next) v l) (hm : MoreAt S (fun i => i < S.next) w more)
    (h4 : IntsAt S x4 ch) (z4 : ch ≠ [] → ∀ i ∈ x4.block, i < S.next) (c4 : ∀ c ∈ ch, -9223372036854775808 ≤ c ∧ c ≤ 9223372036854775807) (h5 : IntsAt S x5 ag) (z5 : ag ≠ [] → ∀ i ∈ x5.block, i < S.next) (c5 : ∀ c ∈ ag, -9223372036854775808 ≤ c ∧ c ≤ 9223372036854775807) {K : Bool → St → Prop} (hk : ∀ S', K true S') :
    CallA P (N Fn.law17_DiskSafe) [.int .i64 room, v, .str name, w, x4, x5] S (retT [.one .bool] K) := by
  refine law17_DiskSafe.run hF (Join0.mid (fun S' => Grow S S' ∧ SmallS l ∧ name.length ≤ 65536 ∧ more.length ≤ 1000) (law17_large.spec hO.large hw hs (fun S' _ => ifC_tt rfl (hk S')) fun hsm S' g => ifC_ff rfl (ifC_dec (fun _ => hk S') fun hn0 => ⟨_, (hm.upd g (by simp)).len, ifC_dec (fun _ => hk S') fun hm0 => ⟨_, SlAt.len (ints_z h4 z4 g (by simp)), ifC_dec (fun _ => hk S') fun _ => ⟨_, SlAt.len (ints_z h5 z5 g (by simp)), ifC_dec (fun _ => hk S') fun _ => ⟨g, hsm, by omega, by omega⟩⟩⟩⟩)) ?_)
  rintro S1 ⟨g1, hsm, hnl, hml⟩
  have lS : S.next ≤ S1.next := g1.le
  refine disk_New.spec hO.f3.new g1.wf (fun hr => ?_) (fun hr S3 D d g3 h3 f3 => ?_)
  · refine Join1.mid (fun b S' => b = true ∧ S' = S1) ⟨true, rfl, ifC_tt rfl ⟨rfl, rfl⟩⟩ ?_
    rintro b S' ⟨rfl, rfl⟩
    exact ifC_tt rfl (law17_awake.spec hO.f3 hO.awake g1.wf fun S5 g5 => ifC_tt rfl (hk _))
  refine Join1.mid (fun b S' => b = false ∧ S' = S3) ⟨false, rfl, ifC_ff rfl ⟨rfl, rfl⟩⟩ ?_
  rintro b S' ⟨rfl, rfl⟩
  have o0 : OkR 0 (newR room) := newR_ok hr
  have F3 : Fd S1 S' D [] d (newR room) := ⟨h3, g3, f3, by simp⟩
  have hl1 := hsm.1
  have ZD : ∀ {S' : St} {D' B' : List Nat} {r : DiskR}, Fd S1 S' D' B' d r → ∀ i, i < S.next → i ∉ D' ∧ i < S'.next := fun F i hi => ⟨fun h => by have := F.fD i h; omega, by have := F.g.le; omega⟩
  have nil0 : ∀ S : St, IntsAt S .nilSlice [] := fun S => ⟨by simp, by simp [intsV], .inl ⟨rfl, rfl⟩⟩
  refine ifC_ff rfl (law17_play.spec hO.f3 hO.play F3.wf F3.dh o0 (hs.upd (g1.trans g3) (by simp)) hsm (by omega) (ZD F3) fun S6 D6 B6 h6 f6 => ?_)
  have F6 := F3.step h6 f6
  have o6 : OkR (0 + l.length) (playAll (newR room) l) := playAll_ok o0 fun x hx => ((hs.op x hx).n).2
  have o6' := o6.mono (M := 1000) (by omega)
  generalize playAll (newR room) l = r6 at F6 o6' h6
  refine DH.crash hO.f3 F6.wf F6.dh o6' (by omega) (cs := []) (nil0 _) (fun h => absurd rfl h) (fun h => absurd rfl h) (by simp) rfl fun S7 D7 B7 h7 f7 => ?_
  have F7 := F6.step h7 f7
  have o7 := crashR_ok o6' []
  have e7 : (crashR [] r6).left = -1 := rfl
  generalize crashR [] r6 = r7 at F7 o7 e7 h7
  refine DH.create hO.f3 F7.wf F7.dh o7 (by omega) (by omega) (pr _) fun S8 D8 B8 h8 f8 => ?_
  have F8 := F7.step h8 f8
  have o8 := createR_ok o7 name
  have e8 := create_left e7 name
  generalize (createR r7 name).2 = r8 at F8 o8 e8 h8
  obtain ⟨r9, q9, e9, k9, s9⟩ := syncDir_left e8
  have o9 := syncDirR_ok o8
  rw [q9] at o9
  refine DH.syncDir hO.f3 F8.wf F8.dh o8 (by omega) q9 fun S9 D9 B9 h9 f9 => ?_
  have F9 := F8.step h9 f9
  refine DH.sync hO.f3 F9.wf F9.dh o9 (by omega) (pr _) fun S10 D10 B10 h10 f10 => ?_
  have F10 := F9.step h10 f10
  have o10 := syncR_ok o9 name
  refine ifC_ndec (fun hne => law17_awake.spec hO.f3 hO.awake F10.wf fun S11 g11 => hk _) fun hz => ?_
  obtain ⟨k, b0, sf0⟩ := sync_sf o9 e9 k9 s9 hz
  generalize (syncR r9 name).2 = r10 at F10 o10 sf0 h10
  have o10' := o10.mono (M := 2000) (by omega)
  refine DH.read hO.f3 F10.dh F10.wf o10' (read_sf sf0) fun x S12 b12 => ifC_ff rfl ?_
  have F12 := F10.grow b12.grow
  have a12 : Acc S12 0 1 x b0.length (bytesV b0) := by
    have := b12.acc.below (Nat.zero_le _)
    rwa [byteE_len, byteE_flat] at this
  have x12 : ∀ i ∈ x.block, i ∉ D10 := fun i hi hD => by have := b12.from i hi; have := F10.dh.ltD i hD; omega
  have accb : ∀ {S : St} {v : V} {b : List UInt8}, Acc S 0 1 v b.length (bytesV b) → S.Wf → ∀ i ∈ v.block, i < S.next := fun a hw i hi => by
    obtain ⟨_, vs, hg⟩ := a.own i hi
    exact hw.lt hg
  refine Loop3.ind (fun m y z t S' => ∃ (i : Nat) (r : DiskR) (D1 B1 : List Nat) (all : List UInt8) (s : Nat), t = i ∧ i + m = more.length ∧ Fd S1 S' D1 B1 d r ∧ SfAt r name k all s ∧ OkR (2000 + 2 * i) r ∧ s ≤ all.length ∧
      Acc S' 0 1 y (all.take s).length (bytesV (all.take s)) ∧ (∀ j ∈ y.block, j ∉ D1) ∧ Acc S' 0 1 z all.length (bytesV all) ∧ ∀ j ∈ z.block, j ∉ D1) more.length
      ⟨0, r10, D10, B10, b0, b0.length, rfl, by omega, F12, sf0, o10', Nat.le_refl _, by rw [List.take_length]; exact a12, x12, a12, x12⟩ ?_
  rintro m y z t S13 ⟨i, r, D1, B1, all, s, rfl, hi, F13, sf, ok, hsl, ay, dy, az, dz⟩
  have m13 := hm.upd (g1.trans F13.g) (by simp)
  have hal : all.length ≤ 4194304 := by
    have := (ok.fl k).2
    rw [sf.fl] at this
    exact this
  refine ⟨_, m13.len, ifC_dec (fun hlt => ?_) (fun hge => ?_)⟩
  · have hin : i < more.length := by omega
    have hbm := (m13.b _ (List.getElem_mem hin)).1
    have hzm := (m13.b _ (List.getElem_mem hin)).2
    have hmg : ∀ {S' : St}, Upd D1 S13 S' → BytesAt S' more[i].1 more[i].2 ∧ MoreAt S' (fun i => i < S.next) w more := fun u => ⟨bytes_z hbm hzm u fun j hj hz => by have := F13.fD j hj; omega, m13.upd u fun j hj hz => by have := F13.fD j hj; omega⟩
    refine ifS_mk (m13.ix hin) (ifS_mk (m13.get hin) ⟨_, SlAt.len hbm, ifC_dec (fun _ => hk _) fun hsmall => ?_⟩)
    refine Join1.mid (fun z' S' => ∃ (r' : DiskR) (D2 B2 : List Nat) (all' : List UInt8), Fd S1 S' D2 B2 d r' ∧ SfAt r' name k all' s ∧ OkR (2000 + 2 * i + 1) r' ∧ s ≤ all'.length ∧ all'.take s = all.take s ∧
      Acc S' 0 1 y (all.take s).length (bytesV (all.take s)) ∧ (∀ j ∈ y.block, j ∉ D2) ∧ Acc S' 0 1 z' all'.length (bytesV all') ∧ ∀ j ∈ z'.block, j ∉ D2) (ifS_mk (m13.ix hin) (ifS_mk (m13.get hin) ?_)) ?_
    · have okA := appendR_ok ok name more[i].2
      have ly := accb ay F13.wf
      have lz := accb az F13.wf
      have apart : ∀ {D2 : List Nat} {v : V}, (∀ j ∈ D2, j ∈ D1 ∨ S13.next ≤ j) → (∀ j ∈ v.block, j ∉ D1) → (∀ j ∈ v.block, j < S13.next) → ∀ j ∈ v.block, j ∉ D2 := fun h1 h2 h3 j hj hD => by
        rcases h1 j hD with h | h
        · exact h2 j hj h
        · have := h3 j hj; omega
      rcases append_sf ok sf more[i].2 with ⟨r', e, sf'⟩ | ⟨vv, r', e, hv, sf'⟩
      · rw [e] at okA
        refine DH.append hO.f3 F13.wf F13.dh ok (by omega) hbm (by omega) e fun S15 D2 B2 h15 f15 => ifC_tt rfl ?_
        have F15 := F13.step h15 f15
        have ay15 := ay.upd f15.2.2 dy
        have az15 := az.upd f15.2.2 dz
        obtain ⟨v1, e1, a1, t1, b1⟩ := Acc.tight az15
        obtain ⟨hb15, m15⟩ := hmg f15.2.2
        obtain ⟨v2, S16, e2, a2, g2, b2⟩ := app_tight F15.wf (Nat.zero_le _) a1 t1 (SlAt.src hb15) (by rw [bytesV_length, Nat.mul_one]) (bytesV_ones _) (bytes := 1) (by omega) (by omega)
        have F16 := F15.grow g2
        have l15 := f15.2.2.le
        refine ⟨_, az15.at_.len, _, az15.at_.len, ifS_mk e1 (ifS_mk (m15.ix hin) (ifS_mk (m15.get hin) (ifP_mk e2 ⟨r', D2, B2, all ++ more[i].2, F16, sf', okA, by rw [List.length_append]; omega, by rw [List.take_append_of_le_length hsl], ay15.grow g2, apart f15.1 dy ly, ?_, fun j hj hD => ?_⟩)))⟩
        · have hlb : bytesV (all ++ more[i].2) = bytesV all ++ bytesV more[i].2 := by simp [bytesV]
          rw [List.length_append, hlb]; exact a2
        · rcases b2 j hj with h' | h'
          · exact apart f15.1 dz lz j (b1 j h') hD
          · have := F15.dh.ltD j hD; omega
      · rw [e] at okA
        refine DH.append hO.f3 F13.wf F13.dh ok (by omega) hbm (by omega) e fun S15 D2 B2 h15 f15 => ifC_ff (by simp [hv]) ?_
        exact ⟨r', D2, B2, all, F13.step h15 f15, sf', okA, hsl, rfl, ay.upd f15.2.2 dy, apart f15.1 dy ly, az.upd f15.2.2 dz, apart f15.1 dz lz⟩
    · rintro z' S14 ⟨r', D2, B2, all', F14, sf', ok', hsl', het, ay14, dy14, az14, dz14⟩
      have wi : ∀ {Q : Int → Prop}, Q ((i + 1 : Nat) : Int) → setI (IntKind.i64.wrap ((i : Int) + 1)) Q := fun q => setI_mk (by rw [IntKind.wrap_i64]; omega) q
      refine ⟨by omega, setI_mk rfl (ifC_dec (fun _ => ?_) fun _ => wi ⟨m - 1, by omega, i + 1, r', D2, B2, all', s, rfl, by omega, F14, sf', ok'.mono (by omega), hsl', by rw [het]; exact ay14, dy14, az14, dz14⟩)⟩
      obtain ⟨r2, q2, sf2⟩ := sync_sf2 ok' sf'
      have ok2 := syncR_ok ok' name
      rw [q2] at ok2
      have lz := accb az14 F14.wf
      refine DH.sync hO.f3 F14.wf F14.dh ok' (by omega) q2 fun S17 D3 B3 h17 f17 => ifC_tt rfl (wi ?_)
      have az17 := az14.upd f17.2.2 dz14
      have dz17 : ∀ j ∈ z'.block, j ∉ D3 := fun j hj hD => by
        rcases f17.1 j hD with h | h
        · exact dz14 j hj h
        · have := lz j hj; omega
      exact ⟨m - 1, by omega, i + 1, r2, D3, B3, all', all'.length, rfl, by omega, F14.step h17 f17, sf2, ok2.mono (by omega), Nat.le_refl _, by rw [List.take_length]; exact az17, dz17, az17, dz17⟩
  · have hMM : 2000 + 2 * i ≤ 1000000 := by omega
    have ly := accb ay F13.wf
    have lz := accb az F13.wf
    have hc4 : IntsAt S13 x4 ch := ints_z h4 z4 (g1.trans F13.g) (by simp)
    obtain ⟨c, sfc, hnm⟩ := crash_sf ok sf ch
    have okc := crashR_ok ok ch
    refine DH.crash hO.f3 F13.wf F13.dh ok hMM hc4 (fun h0 j hj hD => by have := z4 h0 j hj; have := F13.fD j hD; omega) (fun h0 j hj => by have := z4 h0 j hj; have := F13.g.le; omega) c4 rfl fun S18 D2 B2 h18 f18 => ?_
    have F18 := F13.step h18 f18
    obtain ⟨w1, w2, w3, w4⟩ := cutF_what c hsl
    generalize hb : (cutF c ⟨all, s⟩).b = b at sfc w1 w2 w3 w4
    have ay18 := ay.upd f18.2.2 dy
    have az18 := az.upd f18.2.2 dz
    have lts : (all.take s).length = s := by rw [List.length_take]; omega
    refine DH.read hO.f3 F18.dh F18.wf okc (read_sf sfc) fun xb S19 b19 => ?_
    have F19 := F18.grow b19.grow
    have ay19 := ay18.grow b19.grow
    have az19 := az18.grow b19.grow
    have hby : BytesAt S19 y (all.take s) := ay19.at_
    have hbz : BytesAt S19 z all := az19.at_
    have hbb := b19.at_
    obtain ⟨xs, e1, a1, _⟩ := bytes_first hbb (m := s) w1
    refine Join0.mid (fun S' => S' = S19) (ifC_ff rfl ⟨_, SlAt.len hbb, _, SlAt.len hby, ifC_ff (by rw [lts, decide_eq_false_iff_not]; omega) ⟨_, SlAt.len hbb, _, SlAt.len hbz, ifC_ff (by rw [decide_eq_false_iff_not]; omega) ⟨_, SlAt.len hby, by rw [lts]; exact ifS_mk e1 (keep_Bytes.spec hO.f3.bytes _ _ (b.take s) (all.take s) _ _ a1 hby (ifC_ff (by simp [w3]) rfl))⟩⟩⟩) ?_
    rintro S20 rfl
    refine ⟨_, SlAt.len hby, ?_⟩
    rw [lts]
    refine Loop3.ind (fun m2 p q t S' => ∃ i2 : Nat, t = i2 ∧ i2 + m2 = b.length ∧ s ≤ i2 ∧ S' = S20 ∧ ((∀ i (hi : i < b.length), s ≤ i → b[i] = 0) → p = true) ∧ ((∀ i (hi : i < b.length) (h2 : i < all.length), b[i] = all[i]) → q = true)) (b.length - s) ⟨s, rfl, by omega, Nat.le_refl _, rfl, fun _ => rfl, fun _ => rfl⟩ ?_
    rintro m2 p q t S22 ⟨i2, rfl, hi2, hsi, rfl, hp, hq⟩
    refine ⟨_, SlAt.len hbb, ifC_dec (fun hlt2 => ?_) (fun hge2 => ?_)⟩
    · have hin2 : i2 < b.length := by omega
      have wi : ∀ {Q : Int → Prop}, Q ((i2 + 1 : Nat) : Int) → setI (IntKind.i64.wrap ((i2 : Int) + 1)) Q := fun q => setI_mk (by rw [IntKind.wrap_i64]; omega) q
      refine Join1.mid (fun p' S' => S' = S22 ∧ ((∀ i (hi : i < b.length), s ≤ i → b[i] = 0) → p' = true)) ?_ ?_
      · cases p with
        | true => exact ifC_tt rfl (ifS_mk (SlAt.idx hbb hin2) ⟨_, BytesAt.get hbb hin2, rfl, fun h => by rw [h i2 hin2 hsi]; rfl⟩)
        | false => exact ifC_ff rfl ⟨rfl, fun h => by have := hp h; cases this⟩
      · rintro p' S23 ⟨rfl, hp'⟩
        cases q with
        | true =>
          have hia : i2 < all.length := by omega
          exact ifC_tt rfl (ifS_mk (SlAt.idx hbb hin2) ⟨_, BytesAt.get hbb hin2, ifS_mk (SlAt.idx hbz hia) ⟨_, BytesAt.get hbz hia, wi ⟨m2 - 1, by omega, i2 + 1, rfl, by omega, by omega, rfl, hp', fun h => by rw [h i2 hin2 hia]; simp⟩⟩⟩)
        | false => exact ifC_ff rfl (wi ⟨m2 - 1, by omega, i2 + 1, rfl, by omega, by omega, rfl, hp', fun h => by have := hq h; cases this⟩)
    · have hc5 : IntsAt S22 x5 ag := ints_z h5 z5 (g1.trans F19.g) (by simp)
      refine DH.names hO.f3 F19.dh F19.wf okc fun u S24 b24 => ?_
      have F24 := F19.grow b24.grow
      obtain ⟨c', sfd, hnm2⟩ := crash_sf okc sfc ag
      have okd := crashR_ok okc ag
      rw [cutF_full] at sfd
      have hnow : (crashR ch r).now.map (·.1) = namesR (crashR ch r) := by simp [namesR, not_down (r := crashR ch r) rfl]
      refine DH.crash hO.f3 F24.wf F24.dh okc hMM (SlAt.grow hc5 b24.grow) (fun h0 j hj hD => by have := z5 h0 j hj; have := F24.fD j hD; omega) (fun h0 j hj => by have := z5 h0 j hj; have := F24.g.le; omega) c5 rfl fun S25 D4 B4 h25 f25 => ?_
      have F25 := F24.step h25 f25
      refine DH.read hO.f3 F25.dh F25.wf okd (read_sf sfd) fun xc S26 b26 => ?_
      have F26 := F25.grow b26.grow
      have hub : ∀ j ∈ u.block, j ∉ D2 := fun j hj hD => by have := b24.from j hj; have := F19.dh.ltD j hD; omega
      have hxb : ∀ j ∈ xb.block, j ∉ D2 := fun j hj hD => by have := b19.from j hj; have := F18.dh.ltD j hD; omega
      have hu26 : TxsAt S26 u (namesR (crashR ch r)) := SlAt.grow (SlAt.upd (txs_of b24) f25.2.2 hub) b26.grow
      have hb26 : BytesAt S26 xb b := SlAt.grow (SlAt.upd (SlAt.grow hbb b24.grow) f25.2.2 hxb) b26.grow
      refine law17_awake.spec hO.f3 hO.awake F26.wf fun S27 g27 => ifC_tt rfl ?_
      have F27 := F26.grow g27
      have last : ifC (decide ((0 : Int) = 0)) (CallA P (N Fn.keep_Bytes) [xc, xb] S27 (retT [(.one .bool)] fun (x217 : Bool) (S28 : St) => ifC x217 (CallA P (N Fn.disk_Disk_Names) [.ptr d 0] S28 (retT [(.one .any)] fun (x221 : V) (S29 : St) => CallA P (N Fn.keep_Texts) [x221, u] S29 (retT [(.one .bool)] fun (x223 : Bool) (S30 : St) => ifC x223 (CallA P (N Fn.disk_Disk_Down) [.ptr d 0] S30 (retT [(.one .bool)] fun (x227 : Bool) (S31 : St) => K (!x227) S31)) (K false S30)))) (K false S28))) (K false S27) := by
        refine ifC_tt rfl (keep_Bytes.spec hO.f3.bytes _ _ b b _ _ (SlAt.grow b26.at_ g27) (SlAt.grow hb26 g27) (ifC_tt (by simp) (DH.names hO.f3 F27.dh F27.wf okd fun u2 S29 b29 => ?_)))
        refine keep_Texts.spec hO.texts (a := namesR (crashR ch r)) (b := namesR (crashR ch r)) ?_ (SlAt.grow (SlAt.grow hu26 g27) b29.grow) (ifC_tt (by simp) (DH.down hO.f3 (F27.grow b29.grow).dh ?_))
        · have := txs_of b29
          rw [hnm2, hnow] at this
          exact this
        · have : downR (crashR ag (crashR ch r)) = false := not_down rfl
          rw [this]; exact hk _
      rcases w4 with w4 | w4
      · have := hp w4
        subst this
        exact ifC_tt rfl last
      · have hq' := hq w4
        subst hq'
        cases p with
        | true => exact ifC_tt rfl last
        | false => exact ifC_ff rfl (ifC_tt rfl last)

end Go.Th.L
end
