/- What the row of one statement stands on: a store, abstract code, functions of the program and their laws (ThHwal17). -/
import Derived.Test.YtilkmjbbdnnphaaGreatDoorThBHwal16
import Derived.Test.YtilkmjbbdnnphaaGreatDoorThBGref17

section
/- wal: the document's examples; no disk, no log. -/
set_option linter.unusedSimpArgs false
set_option linter.unusedVariables false
set_option maxHeartbeats 1000000
set_option maxRecDepth 10000
namespace Go.Th.L
open Go Go.Th Go.Th.Pure
variable {P : Program} {N : Nat → Nat}

theorem layR_ok {M : Nat} {l : LogR} {r : DiskR} (h : OkR M r) (seq : Int) (t : Nm) : OkR (M + 1) (layR l r seq t).2.2 := by
  unfold layR
  split
  · exact h.mono (by omega)
  · split <;> exact appendR_ok h _ _
theorem prw3 {α β : Type} {p : Int × α × β} (h : p.1 = 0) : p = (0, p.2.1, p.2.2) := by rw [← h]
theorem St.grow0 {S : St} (hw : S.Wf) : Grow St.empty S := ⟨St.Wf.empty, hw, Nat.zero_le _, fun i hi => absurd hi (Nat.not_lt_zero _)⟩
theorem Fd.of {S : St} (hw : S.Wf) {D B : List Nat} {d : Nat} {r : DiskR} (h : DH S D B d r) : Fd St.empty S D B d r := ⟨h, St.grow0 hw, fun _ _ => Nat.zero_le _, fun _ _ => Nat.zero_le _⟩

def w0 : DiskR := newR 4194304
def wa : Int × LogR × DiskR := logSyncR { newL with names := true } w0
def wb : Int × LogR × DiskR := beginR wa.2.1 wa.2.2 1
def wc : Int × LogR × DiskR := logSyncR wb.2.1 wb.2.2
def l1 : LogR := { wc.2.1 with synced := lastR wc.2.1 }
def wd : Int × LogR × DiskR := layR l1 wc.2.2 (lastR l1 + 1) [97]
def we : Int × LogR × DiskR := layR wd.2.1 wd.2.2 (lastR wd.2.1 + 1) [98]
def wf : Int × LogR × DiskR := logSyncR we.2.1 we.2.2
def wg : Int × LogR × DiskR := layR wf.2.1 wf.2.2 (lastR wf.2.1 + 1) [99]
def wh : DiskR := crashR [] wg.2.2
def wt : List UInt8 := (readR wh (nameB 0)).1
def wi : Int × LogR × DiskR := logSyncR ⟨[⟨nameB 0, 1, 1 + (2 : Nat), wt.length, true⟩], 0, true, 0 + 1⟩ wh
def l2 : LogR := { wi.2.1 with synced := lastR wi.2.1 }

theorem wa_0 : wa.1 = 0 := by decide +kernel
theorem wb_0 : wb.1 = 0 := by decide +kernel
theorem wc_0 : wc.1 = 0 := by decide +kernel
theorem wi_0 : wi.1 = 0 := by decide +kernel
def okB (l : LogR) : Bool := l.segs.all fun s => decide (0 ≤ s.next) && decide (s.next ≤ 4611686018427387904) && decide (0 ≤ s.size) && decide (s.size ≤ 16384)
theorem okB.segs {l : LogR} (h : okB l = true) : SegsOk l.segs := fun s hs => by
  have := List.all_eq_true.mp h s hs
  simp only [Bool.and_eq_true, decide_eq_true_eq] at this
  exact ⟨this.1.1.1, this.1.1.2⟩
theorem okB.size {l : LogR} (h : okB l = true) : ∀ s ∈ l.segs, 0 ≤ s.size ∧ s.size ≤ 16384 := fun s hs => by
  have := List.all_eq_true.mp h s hs
  simp only [Bool.and_eq_true, decide_eq_true_eq] at this
  exact ⟨this.1.2, this.2⟩
theorem wb_o : okB wb.2.1 = true ∧ wb.2.1.segs.length = 1 := by decide +kernel
theorem l1_o : okB l1 = true ∧ l1.segs.length = 1 ∧ lastR l1 = 0 := by decide +kernel
theorem wd_o : okB wd.2.1 = true ∧ wd.2.1.segs.length = 1 ∧ lastR wd.2.1 = 1 := by decide +kernel
theorem we_o : okB we.2.1 = true ∧ we.2.1.segs.length = 1 ∧ lastR we.2.1 = 2 := by decide +kernel
theorem wf_o : okB wf.2.1 = true ∧ wf.2.1.segs.length = 1 ∧ lastR wf.2.1 = 2 ∧ wf.2.1.synced = 2 := by decide +kernel
theorem wi_o : okB wi.2.1 = true ∧ wi.2.1.segs.length = 1 := by decide +kernel
theorem l2_o : okB l2 = true ∧ l2.segs.length = 1 ∧ lastR l2 = 2 := by decide +kernel
theorem wa_e : wa.2.1.segs = [] ∧ 0 ≤ wa.2.1.file ∧ wa.2.1.file ≤ 8000000 := ⟨rfl, by decide +kernel, by decide +kernel⟩
theorem ea : logSyncR { newL with names := true } w0 = (0, wa.2.1, wa.2.2) := prw3 wa_0
theorem eb : beginR wa.2.1 wa.2.2 1 = (0, wb.2.1, wb.2.2) := prw3 wb_0
theorem ec : logSyncR wb.2.1 wb.2.2 = (0, wc.2.1, wc.2.2) := prw3 wc_0
theorem ei : logSyncR ⟨[⟨nameB 0, 1, 1 + (([(1, [97]), (2, [98])] : List (Int × List UInt8)).length : Nat), wt.length, true⟩], 0, true, 0 + 1⟩ wh = (0, wi.2.1, wi.2.2) := prw3 wi_0
theorem wc_o : okB wc.2.1 = true ∧ wc.2.1.segs.length = 1 := by decide +kernel
theorem wt_e : readR wh (nameB 0) = (wt, 0) := by
  have h : (readR wh (nameB 0)).2 = 0 := by decide +kernel
  exact Prod.ext rfl h
theorem wh_n : namesR wh = [nameB 0] ∧ downR wh = false ∧ (readR wh (nameB 0)).2 = 0 := by decide +kernel
theorem wt_b : beginsB wt = (1, true) ∧ wt.length = 50 ∧ recsB wt.length (wt.drop 16) 1 = ([(1, [97]), (2, [98])], true) := by decide +kernel

theorem reps_bytes (n : Nat) : reps n [V.int .u8 0] = bytesV (List.replicate n 0) := by
  rw [reps_nums]; simp [intsV, bytesV]

theorem law18_awake.spec (hO : WalF P N) {S : St} (hI : ItoaW P (N Fn.strconv_Itoa) S) (hP : PrefixW P (N Fn.strings_HasPrefix)) (hA : AtoiW P (N Fn.strconv_Atoi)) (hy : wal_Log_Synced.Ok P N) (hR : law18_room.Ok P N) (hF : law18_awake.Ok P N) (hw : S.Wf) {K : Bool → St → Prop} (hk : ∀ S', K true S') :
    CallA P (N Fn.law18_awake) [] S (retT [.one .bool] K) := by
  refine law18_awake.run hF (law18_room.run hR (disk_New.spec hO.d.new hw (fun h => absurd (by omega) h) fun _ S1 D1 d g1 h1 n1 => ?_))
  have o0 : OkR 0 w0 := newR_ok (by omega)
  refine wal_Open.fresh hO hI (⟨h1, g1, n1, by simp⟩ : Fd S S1 D1 [] d w0) o0 (by omega) rfl rfl ea wa_e.1 wa_e.2 eb (by rw [wb_o.2]; omega) (okB.segs wb_o.1) ec (by rw [wc_o.2]; omega) (okB.segs wc_o.1) fun S2 G2 D2 B2 q2 h2 ok2 => ?_
  change LD _ _ _ _ _ _ _ l1 _ at h2
  refine Join0.mid (fun S' => S' = S2) ⟨false, rfl, ifC_ff rfl (ifC_ff rfl ⟨0, rfl, ifC_ff rfl rfl⟩)⟩ ?_
  rintro S3 rfl
  refine wal_Log_Append.spec hO h2 ok2 (by omega) (by rw [l1_o.2.1]; omega) (okB.segs l1_o.1) (okB.size l1_o.1) (by rw [l1_o.2.2]; omega) (t := [97]) (by decide) fun S4 D4 B4 h4 => ?_
  have ok4 := layR_ok (l := l1) ok2 (lastR l1 + 1) [97]
  change LD _ _ _ _ _ _ _ wd.2.1 wd.2.2 at h4
  change OkR _ wd.2.2 at ok4
  refine wal_Log_Append.spec hO h4 ok4 (by omega) (by rw [wd_o.2.1]; omega) (okB.segs wd_o.1) (okB.size wd_o.1) (by rw [wd_o.2.2]; omega) (t := [98]) (by decide) fun S5 D5 B5 h5 => ?_
  have ok5 := layR_ok (l := wd.2.1) ok4 (lastR wd.2.1 + 1) [98]
  change LD _ _ _ _ _ _ _ we.2.1 we.2.2 at h5
  change OkR _ we.2.2 at ok5
  refine wal_Log_Sync.spec hO h5 ok5 (by rw [we_o.2.1]; omega) (by rw [we_o.2.1]; omega) (okB.segs we_o.1) fun S6 D6 B6 h6 ok6 _ => ?_
  change LD _ _ _ _ _ _ _ wf.2.1 wf.2.2 at h6
  rw [we_o.2.1] at ok6
  change OkR _ wf.2.2 at ok6
  refine wal_Log_Synced.spec hy h6.lg (ifP_mk (mk_slice (n := 65537) (by omega) (by omega)) ?_)
  have g8 : Grow S6 (S6.new (.cells (reps 65537 [V.int .u8 0]) true)) := (Upd.refl h6.wf []).new _
  have hat : BytesAt (S6.new (.cells (reps 65537 [V.int .u8 0]) true)) (.slice S6.next 0 65537 65537 1 true) (List.replicate 65537 0) := SlAt.bytes (sl_of (own := true) (by rw [St.get_new, if_pos rfl, reps_bytes]) (by rw [bytesV_length, List.length_replicate]) (by omega))
  refine ⟨_, bytes_str hat, wal_Log_Append.long hO (by rw [List.length_replicate]; omega) ?_⟩
  have h8 := h6.grow g8
  generalize S6.new (.cells (reps 65537 [V.int .u8 0]) true) = S8 at h8
  refine wal_Log_Append.spec hO h8 ok6 (by omega) (by rw [wf_o.2.1]; omega) (okB.segs wf_o.1) (okB.size wf_o.1) (by rw [wf_o.2.2.1]; omega) (t := [99]) (by decide) fun S10 D10 B10 h10 => ?_
  have ok10 := layR_ok (l := wf.2.1) ok6 (lastR wf.2.1 + 1) [99]
  change LD _ _ _ _ _ _ _ wg.2.1 wg.2.2 at h10
  change OkR _ wg.2.2 at ok10
  refine DH.crash hO.d h10.wf h10.dh ok10 (by omega) (x := .nilSlice) (cs := []) ⟨by simp, rfl, .inl ⟨rfl, rfl⟩⟩ (fun h => absurd rfl h) (fun h => absurd rfl h) (by simp) rfl fun S11 D11 B11 h11 f11 => ?_
  have ok11 := crashR_ok ok10 []
  change DH _ _ _ _ wh at h11
  change OkR _ wh at ok11
  refine wal_Open.one hO hP hA (Fd.of f11.2.2.wf h11) ok11 (by omega) (k := 0) (by omega) wh_n.1 wh_n.2.1 (b := wt) wt_e wt_b.1 (by rw [wt_b.2.1]; omega) wt_b.2.2 (by decide) ei (by rw [wi_o.2]; omega) (okB.segs wi_o.1) fun _ S12 G12 D12 B12 q12 v _ h12 ok12 sl12 => ?_
  change LD _ _ _ _ _ _ _ l2 _ at h12
  refine Join0.mid (fun S' => S' = S12) ⟨false, rfl, ifC_ff rfl (ifC_ff rfl ⟨2, sl12.len, ifC_ff rfl ⟨2, sl12.len, ifC_ff rfl rfl⟩⟩)⟩ ?_
  rintro S13 rfl
  refine ifC_tt ?_ (ifC_tt ?_ (ifC_tt ?_ (ifC_tt ?_ (ifC_tt ?_ (ifC_tt ?_ (ifC_tt rfl (ifS_mk (sl12.idx (j := 0) (by decide)) ⟨1, [97], sl12.getN (j := 0) (by decide) (by omega), true, rfl, ifC_tt rfl (ifS_mk (sl12.idx (j := 1) (by decide)) ⟨2, [98], sl12.getN (j := 1) (by decide) (by omega), true, rfl, ifC_tt rfl (wal_Log_Last.spec hO.last h12.lg (by rw [l2_o.2.1]; omega) (okB.segs l2_o.1) ⟨2, sl12.len, ifC_tt ?_ (wal_Log_Cut.more hO h12.lg (by rw [l2_o.2.1]; omega) (okB.segs l2_o.1) (by rw [l2_o.2.2]; omega) (hk _))⟩)⟩)⟩)))))))
  all_goals decide +kernel

theorem law18_WalNil.spec (hO : WalF P N) {S : St} (hI : ItoaW P (N Fn.strconv_Itoa) S) (hP : PrefixW P (N Fn.strings_HasPrefix)) (hA : AtoiW P (N Fn.strconv_Atoi)) (hy : wal_Log_Synced.Ok P N) (hf : wal_Log_First.Ok P N) (hR : law18_room.Ok P N) (hW : law18_awake.Ok P N) (hF : law18_WalNil.Ok P N) (hw : S.Wf) {t : Nm} {n : Int} {K : Bool → St → Prop} (hk : ∀ S', K true S') :
    CallA P (N Fn.law18_WalNil) [.str t, .int .i64 n] S (retT [.one .bool] K) := by
  refine law18_WalNil.run hF (ifC_dec (fun _ => law18_awake.spec hO hI hP hA hy hR hW hw hk) fun _ => wal_Open.nil hO.open_ (wal_Log_Append.nil hO.append (law18_awake.spec hO hI hP hA hy hR hW hw fun S4 => ?_)))
  exact ifC_tt rfl ⟨true, rfl, ifC_tt rfl ⟨0, rfl, ifC_tt rfl (ifC_tt rfl (ifC_tt rfl (ifC_tt rfl (wal_Log_Sync.nil hO.sync (ifC_tt rfl (wal_Log_Cut.nil hO.cut (ifC_tt rfl (wal_Log_Synced.nil hy (ifC_tt rfl (wal_Log_Last.nil hO.last (ifC_tt rfl (wal_Log_First.nil hf (hk _)))))))))))))⟩⟩

end Go.Th.L
end
