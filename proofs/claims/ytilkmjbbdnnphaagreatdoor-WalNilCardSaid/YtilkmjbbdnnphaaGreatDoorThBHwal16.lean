/- What the row of one statement stands on: a store, abstract code, functions of the program and their laws (ThHwal10, ThHwal11, ThHwal12, ThHwal13, ThHwal14, ThHwal15, ThHwal16). -/
import Derived.Test.YtilkmjbbdnnphaaGreatDoorThBHwal9
import Derived.Lib.ItoaNum

section
/- wal: a new segment. -/
set_option linter.unusedSimpArgs false
set_option linter.unusedVariables false
set_option maxHeartbeats 1000000
namespace Go.Th.L
open Go Go.Th Go.Th.Pure
variable {P : Program} {N : Nat → Nat}

def ItoaW (P : Program) (f : FuncId) (S0 : St) : Prop := ∀ {n : Int} {S : St} {K : List UInt8 → St → Prop}, Grow S0 S → 1000000 ≤ n → n < 10000000 → ((Lib.decDigits n.toNat).length = 7 → K (Lib.decDigits n.toNat) S) → CallA P f [.int .i64 n] S (retT [.one .str] K)
def nameB (file : Int) : Nm := [108, 111, 103, 46] ++ (Lib.decDigits (1000001 + file).toNat).drop 1
def beginR (l : LogR) (r : DiskR) (first : Int) : Int × LogR × DiskR :=
  let c := createR r (nameB l.file)
  let a := appendR c.2 (nameB l.file) (headB first)
  if c.1 = 0 ∨ c.1 = 171 then (if a.1 = 0 then (0, { l with names := true, file := l.file + 1, segs := l.segs ++ [⟨nameB l.file, first, first, 16, true⟩] }, a.2) else (a.1, { l with names := true }, (removeR a.2 (nameB l.file)).2)) else (c.1, l, c.2)
theorem headB_len (x : Int) : (headB x).length = 16 := by simp [headB, sealB, le_length]

theorem wal_Log_begin.spec (hO : WalF P N) {S0 S : St} (hI : ItoaW P (N Fn.strconv_Itoa) S0) {G D B : List Nat} {d : Nat} {q : LP} {l : LogR} {r : DiskR} (h : LD S0 S G D B d q l r) {M : Nat} (hok : OkR M r) (hM : M + 3 ≤ 1000000) (hf : 0 ≤ l.file ∧ l.file ≤ 8000000) (hl : l.segs.length ≤ 1000000)
    {first : Int} (hq : 0 ≤ first ∧ first < 4611686018427387904) {K : Int → St → Prop}
    (hk : ∀ S' G' D' B' q', q'.o = q.o → LD S0 S' G' D' B' d q' (beginR l r first).2.1 (beginR l r first).2.2 → OkR (M + 3) (beginR l r first).2.2 → K (beginR l r first).1 S') : CallA P (N Fn.wal_Log_begin) [.ptr q.o 0, .int .i64 first] S (retT [.one (.int .i64)] K) := by
  refine wal_Log_begin.run hO.begin_ ⟨rfl, ifS_mk (a := .ptr q.o 4) rfl ⟨_, ld h.lg.obj rfl, setI_mk (n := 1000001 + l.file) (by rw [IntKind.wrap_i64]; omega) (hI h.g (by omega) (by omega) fun h7 => ?_)⟩⟩
  have hsl : sliceStrV (.str (Lib.decDigits (1000001 + l.file).toNat)) (some (.int .i64 1)) none = some (.str ((Lib.decDigits (1000001 + l.file).toNat).drop 1)) := by
    have := bnds_l (len := (Lib.decDigits (1000001 + l.file).toNat).length) (cap := (Lib.decDigits (1000001 + l.file).toNat).length) (l := 1) (k := .i64) (by omega)
    simp only [sliceStrV]
    rw [show ((1 : Int)) = ((1 : Nat) : Int) from rfl, this]
    simp
  have hnl : (nameB l.file).length = 10 := by
    simp only [nameB, List.length_append, List.length_drop, h7]; rfl
  refine ⟨_, hsl, by simp only [List.length_drop, h7]; decide, newS_mk h.wf fun S2 g2 m2 n2 => ?_⟩
  have h2 := h.grow g2
  have m2' : S2.get S.next = some (.cells (segC ⟨nameB l.file, first, first, 16, true⟩) true) := m2
  have hSn : S.next < S2.next := by omega
  have eD : ∀ {i : Nat}, i = S.next → i ∉ D ∧ i ∉ G := fun e => ⟨fun hi => by have := h.dh.ltD _ hi; omega, fun hi => by have := h.lg.lt _ hi; omega⟩
  refine Join0.mid (fun S' => ((createR r (nameB l.file)).1 = 0 ∨ (createR r (nameB l.file)).1 = 171) ∧ ∃ D1 B1, LD S0 S' G D1 B1 d q l (createR r (nameB l.file)).2 ∧ (∀ i ∈ D1, i ∈ D ∨ S2.next ≤ i) ∧ (∀ i ∈ B1, i ∈ B ∨ S2.next ≤ i) ∧ S2.next ≤ S'.next ∧ S'.get S.next = some (.cells (segC ⟨nameB l.file, first, first, 16, true⟩) true)) ⟨rfl, ifS_mk (a := .ptr q.o 0) rfl (ifS_mk (ld h2.lg.obj rfl) ⟨rfl, _, ld m2 rfl, ?_⟩)⟩ ?_
  · refine DH.create hO.d h2.wf h2.dh hok (by omega) (by rw [show (([108, 111, 103, 46] : List UInt8) ++ (Lib.decDigits (1000001 + l.file).toNat).drop 1) = nameB l.file from rfl, hnl]; decide) (prw _) fun S4 D4 B4 h4 f4 => ?_
    have L4 := h2.disk h4 f4
    have ok4 := createR_ok hok (nameB l.file)
    have m4 := f4.2.2.get m2' (eD rfl).1
    have keep : ((createR r (nameB l.file)).1 = 0 ∨ (createR r (nameB l.file)).1 = 171) → ((createR r (nameB l.file)).1 = 0 ∨ (createR r (nameB l.file)).1 = 171) ∧ ∃ D1 B1, LD S0 S4 G D1 B1 d q l (createR r (nameB l.file)).2 ∧ (∀ i ∈ D1, i ∈ D ∨ S2.next ≤ i) ∧ (∀ i ∈ B1, i ∈ B ∨ S2.next ≤ i) ∧ S2.next ≤ S4.next ∧ S4.get S.next = some (.cells (segC ⟨nameB l.file, first, first, 16, true⟩) true) := fun hc => ⟨hc, D4, B4, L4, f4.1, f4.2.1, f4.2.2.le, m4⟩
    refine ifC_ndec (fun hne => ifC_ndec (fun hne2 => ?_) (fun he => keep (.inr he))) (fun he => keep (.inl he))
    have e0 : beginR l r first = ((createR r (nameB l.file)).1, l, (createR r (nameB l.file)).2) := by
      have : ¬ ((createR r (nameB l.file)).1 = 0 ∨ (createR r (nameB l.file)).1 = 171) := by
        rintro (h' | h')
        · exact hne h'
        · exact hne2 h'
      simp only [beginR, if_neg this]
    rw [e0] at hk
    exact hk S4 G D4 B4 q rfl L4 (ok4.mono (by omega))
  · rintro S3 ⟨hc, D1, B1, L3, hD1, hB1, l23, m3⟩
    have ok3 := createR_ok hok (nameB l.file)
    have sD1 : S.next ∉ D1 := fun hi => by
      rcases hD1 _ hi with h' | h'
      · exact (eD rfl).1 h'
      · omega
    have e0 : beginR l r first = if (appendR (createR r (nameB l.file)).2 (nameB l.file) (headB first)).1 = 0 then (0, { l with names := true, file := l.file + 1, segs := l.segs ++ [⟨nameB l.file, first, first, 16, true⟩] }, (appendR (createR r (nameB l.file)).2 (nameB l.file) (headB first)).2) else ((appendR (createR r (nameB l.file)).2 (nameB l.file) (headB first)).1, { l with names := true }, (removeR (appendR (createR r (nameB l.file)).2 (nameB l.file) (headB first)).2 (nameB l.file)).2) := by
      simp only [beginR, if_pos hc]
    generalize (createR r (nameB l.file)).2 = r3 at L3 ok3 e0
    refine ⟨rfl, ifS_mk (a := .ptr q.o 3) rfl (st_mk L3.wf L3.lg.obj rfl (by simp [logC, V.cells]) (by simp [V.cells, V.one]) fun S5 u5 m5 n5 => ?_)⟩
    have L5 := L3.log (L3.lg.setObj (l' := { l with names := true }) u5 (by rw [m5]; rfl) rfl) u5 fun j hj => by
      simp only [List.mem_singleton] at hj
      subst hj; exact L3.lg.oG
    have m5s := u5.get m3 (by simp only [List.mem_singleton]; rintro e; exact (eD e.symm).2 h.lg.oG)
    have l5 := u5.le
    refine ⟨rfl, ifS_mk (a := .ptr q.o 0) rfl (ifS_mk (ld L5.lg.obj rfl) ⟨rfl, _, ld m5s rfl, wal_head.spec hO.b L5.wf (by omega) fun v6 S6 b6 => ⟨same_upd b6.grow (fun i hi => ?_), ?_⟩⟩)⟩
    · simp only [V.block, List.mem_cons, List.append_nil, List.mem_singleton, List.not_mem_nil, or_false] at hi
      rcases hi with rfl | rfl
      · exact ⟨by omega, by simp⟩
      · exact ⟨L5.lg.lt _ L5.lg.oG, by simp⟩
    have L6 := L5.grow b6.grow
    have m6s := b6.grow.get m5s
    have l6 := b6.grow.le
    refine DH.append hO.d L6.wf L6.dh ok3 (by omega) b6.at_ (by rw [headB_len]; omega) (prw _) fun S7 D7 B7 h7 f7 => ?_
    have L7 := L6.disk h7 f7
    have ok7 := appendR_ok ok3 (nameB l.file) (headB first)
    have m7s := f7.2.2.get m6s sD1
    have l7 := f7.2.2.le
    refine ifC_ndec (fun hne => ?_) (fun hz => ?_)
    · rw [if_neg hne] at e0
      rw [e0] at hk
      refine ⟨rfl, ifS_mk (a := .ptr q.o 0) rfl (ifS_mk (ld L7.lg.obj rfl) ⟨rfl, _, ld m7s rfl, DH.remove hO.d L7.wf L7.dh ok7 (by omega) (prw _) fun S8 D8 B8 h8 f8 => hk S8 G D8 B8 q rfl (L7.disk h8 f8) (removeR_ok ok7 _)⟩)⟩
    · rw [if_pos hz] at e0
      rw [e0] at hk
      refine ⟨rfl, ifS_mk (a := .ptr q.o 4) rfl ⟨_, ld L7.lg.obj rfl, setI_mk (n := l.file + 1) (by rw [IntKind.wrap_i64]; simp only; omega) ⟨rfl, ifS_mk (a := .ptr q.o 4) rfl (st_mk L7.wf L7.lg.obj rfl (by simp [logC, V.cells]) (by simp [V.cells, V.one]) fun S9 u9 m9 n9 => ?_)⟩⟩⟩
      have L9 := L7.log (L7.lg.setObj (l' := { l with names := true, file := l.file + 1 }) u9 (by rw [m9]; rfl) rfl) u9 fun j hj => by
        simp only [List.mem_singleton] at hj
        subst hj; exact L7.lg.oG
      have m9s := u9.get m7s (by simp only [List.mem_singleton]; rintro e; exact (eD e.symm).2 h.lg.oG)
      refine ⟨rfl, ifS_mk (a := .ptr q.o 1) rfl (ifS_mk (ld L9.lg.obj rfl) ⟨rfl, newS_mk L9.wf fun S10 g10 m10 n10 => ?_⟩)⟩
      have L10 := L9.grow g10
      have m10s := g10.get m9s
      have hsrc : srcV 1 S10 (.slice S9.next 0 1 1 1 true) = some (1, [.ptr S.next 0]) := by
        simp only [srcV, if_true]
        rw [St.loads_of m10 (by simp)]; rfl
      have hgl : q.gs.length = l.segs.length := h.lg.len
      obtain ⟨v11, S11, e11, a11, u11, t11⟩ := L10.lg.sl.app g10.wf (by omega) hsrc rfl (by simp [V.one]) (bytes := 8) (by omega) (by omega)
      have sD7 : S.next ∉ D7 := fun hi => by
        rcases f7.1 _ hi with h' | h'
        · exact sD1 h'
        · omega
      have sB7 : S.next ∉ B7 := fun hi => by
        rcases f7.2.1 _ hi with h' | h'
        · rcases hB1 _ h' with h' | h'
          · have := h.dh.ltB _ h'; omega
          · omega
        · omega
      have hv11 : ∀ i ∈ v11.block, i < S11.next := fun i hi => by
        obtain ⟨_, vs, hg⟩ := a11.own i hi
        exact u11.wf.lt hg
      have l9 := u9.le
      have l10 := g10.le
      have l11 := u11.le
      have sS7 : S.next < S7.next := by omega
      have o11 := u11.get L10.lg.obj L10.lg.n2
      refine ifP_mk e11 ⟨rfl, ifS_mk (a := .ptr q.o 1) rfl (st_mk u11.wf o11 (by rw [a11.at_.cells1]; rfl) (by rw [a11.at_.cells1]; simp [logC]) (by rw [a11.at_.cells1]; simp [a11.at_.one1]) fun S12 u12 m12 n12 => ?_)⟩
      rw [a11.at_.cells1] at m12
      have u1012 : Upd (q.o :: q.sv.block) S10 S12 := (u11.mono fun i hi => .inl (List.mem_cons_of_mem _ hi)).after u12 fun i hi => .inr (by simp only [List.mem_singleton] at hi; simp [hi])
      have qS : q.o ≠ S.next := fun e => (eD e).2 h.lg.oG
      have svS : S.next ∉ q.sv.block := fun hi => (eD rfl).2 (h.lg.sG _ hi)
      have m12s := u12.get (u11.get m10s svS) (by simp only [List.mem_singleton]; exact fun e => qS e.symm)
      have gLt : ∀ i ∈ G, i < S10.next := L10.lg.lt
      have vS : ∀ i ∈ v11.block, i ≠ S.next := fun i hi e => by
        rcases t11 i hi with h' | h'
        · exact svS (e ▸ h')
        · omega
      have k12 := L10.lg.add (S' := S12) (X := q.o :: q.sv.block) (Gn := S.next :: v11.block.filter fun i => decide (S10.next ≤ i)) (g := S.next) (v := v11) (s := ⟨nameB l.file, first, first, 16, true⟩) (l' := { l with names := true, file := l.file + 1, segs := l.segs ++ [⟨nameB l.file, first, first, 16, true⟩] }) u1012 (fun i hi => by simpa using hi) (fun i hi => by
          rcases List.mem_cons.mp hi with rfl | hi
          · exact ⟨(eD rfl).2, by omega⟩
          · simp only [List.mem_filter, decide_eq_true_eq] at hi
            exact ⟨fun hG => by have := gLt i hG; omega, by have := hv11 i hi.1; omega⟩)
        (by rw [m12]; rfl) rfl (by
          have := a11.upd u12 fun i hi => by
            simp only [List.mem_singleton]
            rintro rfl
            rcases t11 _ hi with h' | h'
            · exact L10.lg.n2 h'
            · have := L10.lg.lt _ L10.lg.oG; omega
          simpa [ptrE] using this) m12s (by simp) (fun i hi => by
          rcases t11 i hi with h' | h'
          · exact .inl h'
          · exact .inr ⟨by simp [hi, h'], vS i hi⟩)
      have l0 := h.g.le
      have lD7 := L7.dh.ltD
      have lB7 := L7.dh.ltB
      refine hk S12 _ D7 B7 { q with sv := v11, gs := q.gs ++ [S.next] } rfl ⟨k12, L10.dh.upd u1012 (fun i hi hD => ?_) (fun i hi hB => ?_), L10.g.after u1012 fun i hi => .inl ?_, fun i hi => ?_, L10.fD, fun i hi => ?_⟩ (ok7.mono (by omega))
      · rcases List.mem_cons.mp hi with rfl | hi
        · exact (L10.ap _ L10.lg.oG).1 hD
        · exact (L10.ap _ (L10.lg.sG _ hi)).1 hD
      · rcases List.mem_cons.mp hi with rfl | hi
        · exact (L10.ap _ L10.lg.oG).2 hB
        · exact (L10.ap _ (L10.lg.sG _ hi)).2 hB
      · rcases List.mem_cons.mp hi with rfl | hi
        · exact L10.fG _ L10.lg.oG
        · exact L10.fG _ (L10.lg.sG _ hi)
      · rcases List.mem_append.mp hi with hi | hi
        · exact L10.fG i hi
        · rcases List.mem_cons.mp hi with rfl | hi
          · exact l0
          · simp only [List.mem_filter, decide_eq_true_eq] at hi
            omega
      · rcases List.mem_append.mp hi with hi | hi
        · exact L10.ap i hi
        · rcases List.mem_cons.mp hi with rfl | hi
          · exact ⟨sD7, sB7⟩
          · simp only [List.mem_filter, decide_eq_true_eq] at hi
            exact ⟨fun hD => by have := lD7 i hD; omega, fun hB => by have := lB7 i hB; omega⟩

end Go.Th.L
end

section
/- wal: Append. -/
set_option linter.unusedSimpArgs false
set_option linter.unusedVariables false
set_option maxHeartbeats 1000000
namespace Go.Th.L
open Go Go.Th Go.Th.Pure
variable {P : Program} {N : Nat → Nat}

theorem wal_Log_Append.long (hO : WalF P N) {S : St} {o : Nat} {t : Nm} (ht : 65536 < t.length) {K : Int → Int → St → Prop} (hk : K 0 2 S) : CallA P (N Fn.wal_Log_Append) [.ptr o 0, .str t] S (retT [.one (.int .i64), .one (.int .i64)] K) :=
  wal_Log_Append.run hO.append ⟨false, rfl, ifC_ff rfl (ifC_tt (by rw [decide_eq_true_eq]; omega) hk)⟩

theorem wal_Log_Append.spec (hO : WalF P N) {S0 S : St} {G D B : List Nat} {d : Nat} {q : LP} {l : LogR} {r : DiskR} (h : LD S0 S G D B d q l r) {M : Nat} (hok : OkR M r) (hM : M ≤ 1000000) (hl : 0 < l.segs.length ∧ l.segs.length ≤ 1000) (hs : SegsOk l.segs) (hz : ∀ s ∈ l.segs, 0 ≤ s.size ∧ s.size ≤ 16384)
    (hq : 0 ≤ lastR l ∧ lastR l < 4611686018427387904) {t : Nm} (ht : t.length ≤ 65536) {K : Int → Int → St → Prop}
    (hk : ∀ S' D' B', LD S0 S' G D' B' d q (layR l r (lastR l + 1) t).2.1 (layR l r (lastR l + 1) t).2.2 → K (if (layR l r (lastR l + 1) t).1 = 0 then lastR l + 1 else 0) (layR l r (lastR l + 1) t).1 S') : CallA P (N Fn.wal_Log_Append) [.ptr q.o 0, .str t] S (retT [.one (.int .i64), .one (.int .i64)] K) := by
  have hi : l.segs.length - 1 < l.segs.length := by omega
  have hmem := List.getElem_mem hi
  have i1 : IntKind.i64.wrap (((l.segs.length : Nat) : Int) - 1) = ((l.segs.length - 1 : Nat) : Int) := by rw [IntKind.wrap_i64]; omega
  refine wal_Log_Append.run hO.append ⟨false, rfl, ifC_ff rfl (ifC_ff (by rw [decide_eq_false_iff_not]; omega) (wal_Log_Last.spec hO.last h.lg (by omega) hs (setI_mk (n := lastR l + 1) (by rw [IntKind.wrap_i64]; omega) (newS_mk h.wf fun S2 g2 m2 n2 => st_mk g2.wf m2 rfl (by simp [V.cells]) (by simp [V.cells, V.one]) fun S3 u3 m3 n3 => ?_))))⟩
  simp only [V.cells, over] at m3
  have g3 : Grow S S3 := g2.after u3 fun i hi => .inl (by simp only [List.mem_singleton] at hi; omega)
  have h3 := h.grow g3
  refine Join0.mid (fun S' => S' = S3) ⟨rfl, ifS_mk (a := .ptr q.o 1) rfl (ifS_mk (ld h3.lg.obj rfl) ⟨rfl, ifS_mk (a := .ptr q.o 1) rfl (ifS_mk (ld h3.lg.obj rfl) ⟨_, h3.lg.length, setI_mk i1 (ifS_mk (h3.lg.ix hi) (ifS_mk (h3.lg.ptr hi) ⟨rfl, ifS_mk rfl ⟨_, ld (h3.lg.at hi) rfl, ifC_ff (by rw [decide_eq_false_iff_not]; have := hz _ hmem; omega) rfl⟩⟩))⟩)⟩)⟩ ?_
  rintro S4 rfl
  refine ⟨_, _, ldN m3 (by simp) rfl, wal_Log_lay.spec hO h3 hok hM ⟨hl.1, by omega⟩ hs (fun s hs' => by have := hz s hs'; omega) (by omega) ht fun S6 D6 B6 h6 u6 => ?_⟩
  have hS : S.next ∉ G ++ D := fun hi => by
    rcases List.mem_append.mp hi with hi | hi
    · have := h.lg.lt _ hi; omega
    · have := h.dh.ltD _ hi; omega
  have m6 := u6.get m3 hS
  have hk6 := hk S6 D6 B6 h6
  refine ifC_ndec (fun hne => ?_) (fun hz0 => ⟨_, ld m6 rfl, ?_⟩)
  · rw [if_neg hne] at hk6; exact hk6
  · rw [if_pos hz0, hz0] at hk6; exact hk6

end Go.Th.L
end

section
/- wal: settle, where nothing is stale and the last segment is well. -/
set_option linter.unusedSimpArgs false
set_option linter.unusedVariables false
set_option maxHeartbeats 1000000
namespace Go.Th.L
open Go Go.Th Go.Th.Pure
variable {P : Program} {N : Nat → Nat}

theorem wal_Log_settle.well (hO : WalF P N) {S0 S : St} {G D B : List Nat} {d : Nat} {q : LP} {l : LogR} {r : DiskR} (h : LD S0 S G D B d q l r) {M : Nat} (hok : OkR M r) (hl : l.segs.length ≤ 1000) (hM : M + l.segs.length + 1 ≤ 1000000) (hs : SegsOk l.segs) {x : V} {K : Int → St → Prop}
    (hk : ∀ S' D' B', LD S0 S' G D' B' d q (logSyncR { l with names := true } r).2.1 (logSyncR { l with names := true } r).2.2 → OkR (M + l.segs.length + 1) (logSyncR { l with names := true } r).2.2 → Mvd G D S D' S' → K (logSyncR { l with names := true } r).1 S') :
    CallA P (N Fn.wal_Log_settle) [.ptr q.o 0, .nilSlice, x, .bool true] S (retT [.one (.int .i64)] K) := by
  refine wal_Log_settle.run hO.settle ⟨rfl, ifS_mk (a := .ptr q.o 3) rfl (st_mk h.wf h.lg.obj rfl (by simp [logC, V.cells]) (by simp [V.cells, V.one]) fun S1 u1 m1 n1 => ⟨0, rfl, ?_⟩)⟩
  have L1 := h.log (h.lg.setObj (l' := { l with names := true }) u1 (by rw [m1]; rfl) rfl) u1 fun j hj => by
    simp only [List.mem_singleton] at hj
    subst hj; exact h.lg.oG
  refine Loop1.ind (fun m z S' => z = 0 ∧ S' = S1) 0 ⟨rfl, rfl⟩ ?_
  rintro m z S2 ⟨rfl, rfl⟩
  refine ifC_ff rfl (wal_Log_Sync.spec hO L1 hok hl hM hs fun S4 D4 B4 h4 ok4 mv4 => ?_)
  have hk4 := hk S4 D4 B4 h4 ok4 (((Mvd.refl h.wf G D).log u1 fun j hj => by
    simp only [List.mem_singleton] at hj
    subst hj; exact h.lg.oG).trans mv4)
  refine ifC_ndec (fun hne => hk4) (fun hz => ifC_tt rfl ?_)
  rw [hz] at hk4
  exact hk4

end Go.Th.L
end

section
/- wal: settle on a disk without a log. -/
set_option linter.unusedSimpArgs false
set_option linter.unusedVariables false
set_option maxHeartbeats 1000000
namespace Go.Th.L
open Go Go.Th Go.Th.Pure
variable {P : Program} {N : Nat → Nat}

theorem wal_Log_settle.fresh (hO : WalF P N) {S0 S : St} (hI : ItoaW P (N Fn.strconv_Itoa) S0) {G D B : List Nat} {d : Nat} {q : LP} {l la lb : LogR} {r ra rb : DiskR} (h : LD S0 S G D B d q l r) {M : Nat} (hok : OkR M r) (hl : l.segs = []) (hM : M + 2000 ≤ 1000000)
    (ea : logSyncR { l with names := true } r = (0, la, ra)) (la0 : la.segs = []) (fa : 0 ≤ la.file ∧ la.file ≤ 8000000) (eb : beginR la ra 1 = (0, lb, rb)) (lb1 : lb.segs.length ≤ 1000) (hsb : SegsOk lb.segs) {K : Int → St → Prop}
    (hk : ∀ S' G' D' B' q', q'.o = q.o → LD S0 S' G' D' B' d q' (logSyncR lb rb).2.1 (logSyncR lb rb).2.2 → OkR (M + 2000) (logSyncR lb rb).2.2 → K (logSyncR lb rb).1 S') :
    CallA P (N Fn.wal_Log_settle) [.ptr q.o 0, .nilSlice, .nilSlice, .bool false] S (retT [.one (.int .i64)] K) := by
  refine wal_Log_settle.run hO.settle ⟨rfl, ifS_mk (a := .ptr q.o 3) rfl (st_mk h.wf h.lg.obj rfl (by simp [logC, V.cells]) (by simp [V.cells, V.one]) fun S1 u1 m1 n1 => ⟨0, rfl, ?_⟩)⟩
  have L1 := h.log (h.lg.setObj (l' := { l with names := true }) u1 (by rw [m1]; rfl) rfl) u1 fun j hj => by
    simp only [List.mem_singleton] at hj
    subst hj; exact h.lg.oG
  have l0 : ({ l with names := true } : LogR).segs.length = 0 := by simp [hl]
  refine Loop1.ind (fun m z S' => z = 0 ∧ S' = S1) 0 ⟨rfl, rfl⟩ ?_
  rintro m z S2 ⟨rfl, rfl⟩
  refine ifC_ff rfl (wal_Log_Sync.spec hO L1 hok (by omega) (by omega) (by simp [SegsOk, hl]) fun S4 D4 B4 h4 ok4 mv4 => ?_)
  rw [ea] at h4 ok4 ⊢
  have o4 : OkR (M + 1) ra := ok4.mono (by omega)
  refine ifC_ff rfl (ifC_ff rfl (wal_Log_Last.spec hO.last h4.lg (by simp [la0]) (by simp [la0]) ?_))
  have e0 : lastR la = 0 := by simp [lastR, la0]
  rw [e0]
  have hlen : lenV S4 2 q.sv = some (.int .i64 0) := by
    have := h4.lg.length
    simpa [la0] using this
  refine setI_mk (n := 1) rfl (Join3.mid (fun a b c S' => a = .nilSlice ∧ b = .nilPtr ∧ c = 1 ∧ S' = S4) ⟨rfl, ifS_mk (a := .ptr q.o 1) rfl (ifS_mk (ld h4.lg.obj rfl) ⟨0, hlen, Join1.mid (fun b S' => b = false ∧ S' = S4) (ifC_ff rfl ⟨rfl, rfl⟩) ?_⟩)⟩ ?_)
  · rintro b S7 ⟨rfl, rfl⟩
    exact ifC_ff rfl ⟨rfl, rfl, rfl, rfl⟩
  · rintro a b c S6 ⟨rfl, rfl, rfl, rfl⟩
    refine wal_Log_begin.spec hO hI h4 o4 (by omega) fa (by simp [la0]) (by omega) fun S9 G9 D9 B9 q9 eq9 h9 ok9 => ?_
    rw [eb] at h9 ok9 ⊢
    simp only at h9 ok9 ⊢
    refine ifC_ff rfl ⟨0, rfl, Loop1.ind (fun m z S' => z = 0 ∧ S' = S9) 0 ⟨rfl, rfl⟩ ?_⟩
    rintro m2 z2 S10 ⟨rfl, rfl⟩
    refine ifC_ff rfl (Join0.mid (fun _ => False) ?_ (fun _ h => h.elim))
    rw [← eq9]
    refine wal_Log_Sync.spec hO h9 ok9 lb1 (by omega) hsb fun S15 D15 B15 h15 ok15 _ => ?_
    have hk15 := hk S15 G9 D15 B15 q9 eq9 h15 (ok15.mono (by omega))
    exact ifC_ndec (fun _ => hk15) (fun _ => ⟨true, rfl, ifC_tt rfl hk15⟩)

end Go.Th.L
end

section
/- wal: a log opened on a disk without one. -/
set_option linter.unusedSimpArgs false
set_option linter.unusedVariables false
set_option maxHeartbeats 1000000
namespace Go.Th.L
open Go Go.Th Go.Th.Pure
variable {P : Program} {N : Nat → Nat}

def newL : LogR := ⟨[], 0, false, 0⟩
theorem LD.new {S0 S S1 : St} {D B : List Nat} {d : Nat} {r : DiskR} (h : Fd S0 S D B d r) (g : Grow S S1) (hn : S1.next = S.next + 1) (m : S1.get S.next = some (.cells [.ptr d 0, .nilSlice, .int .i64 0, .bool false, .int .i64 0] true)) : LD S0 S1 [S.next] D B d ⟨S.next, .nilSlice, []⟩ newL r := by
  have hl := h.g.le
  refine ⟨⟨m, by simpa [ptrE] using Acc.nil _ _ _, rfl, fun i h1 => by simp at h1, by simp, by simp, by simp [V.block], by simp, by simp only [List.mem_singleton]; omega, by simp, by simp [V.block], by simp [V.block]⟩, h.dh.grow g, h.g.trans g, by simp only [List.mem_singleton]; omega, h.fD, fun i hi => ?_⟩
  simp only [List.mem_singleton] at hi
  subst hi
  exact ⟨fun hD => by have := h.dh.ltD _ hD; omega, fun hB => by have := h.dh.ltB _ hB; omega⟩

theorem wal_Open.fresh (hO : WalF P N) {S0 S : St} (hI : ItoaW P (N Fn.strconv_Itoa) S0) {D B : List Nat} {d : Nat} {r : DiskR} (h : Fd S0 S D B d r) {M : Nat} (hok : OkR M r) (hM : M + 2000 ≤ 1000000) (hn : namesR r = []) (hd : downR r = false) {la lb lc : LogR} {ra rb rc : DiskR}
    (ea : logSyncR { newL with names := true } r = (0, la, ra)) (la0 : la.segs = []) (fa : 0 ≤ la.file ∧ la.file ≤ 8000000) (eb : beginR la ra 1 = (0, lb, rb)) (lb1 : lb.segs.length ≤ 1000) (hsb : SegsOk lb.segs) (ec : logSyncR lb rb = (0, lc, rc)) (lc1 : lc.segs.length ≤ 1000) (hsc : SegsOk lc.segs) {K : V → V → Int → St → Prop}
    (hk : ∀ S' G' D' B' q', LD S0 S' G' D' B' d q' { lc with synced := lastR lc } rc → OkR (M + 2000) rc → K (.ptr q'.o 0) .nilSlice 0 S') :
    CallA P (N Fn.wal_Open) [.ptr d 0] S (retT [.one .any, .one .any, .one (.int .i64)] K) := by
  refine wal_Open.run hO.open_ ⟨false, rfl, ifC_ff rfl (DH.down hO.d h.dh (ifC_ff hd ⟨rfl, newS_mk h.wf fun S2 g2 m2 n2 => newS_mk g2.wf fun S3 g3 m3 n3 => ?_⟩))⟩
  have L3 := (LD.new h g2 n2 m2).grow g3
  refine DH.names hO.d L3.dh L3.wf hok fun v S4 b4 => ?_
  have L4 := L3.grow b4.grow
  have hv : lenV S4 2 v = some (.int .i64 0) := by
    have e := b4.acc.at_
    rw [hn] at e
    exact SlAt.len e
  refine ⟨0, hv, Loop4.ind (fun m a b c z S' => a = .nilSlice ∧ b = .nilSlice ∧ c = false ∧ z = 0 ∧ S' = S4) 0 ⟨rfl, rfl, rfl, rfl, rfl⟩ ?_⟩
  rintro m a b c z S5 ⟨rfl, rfl, rfl, rfl, rfl⟩
  refine ifC_ff rfl (ifS_mk (ld (b4.grow.get m3) rfl) (wal_Log_settle.fresh hO hI L4 hok rfl hM ea la0 fa eb lb1 hsb fun S6 G6 D6 B6 q6 eq6 h6 ok6 => ?_))
  rw [ec] at h6 ok6 ⊢
  simp only at h6 ok6 ⊢
  have eq : q6.o = S.next := eq6
  rw [← eq]
  refine ifC_ff rfl (wal_Log_Last.spec hO.last h6.lg (by omega) hsc ⟨rfl, st_mk h6.wf h6.lg.obj rfl (by simp [logC, V.cells]) (by simp [V.cells, V.one]) fun S7 u7 m7 n7 => ?_⟩)
  refine hk S7 G6 D6 B6 q6 (h6.log (h6.lg.setObj (l' := { lc with synced := lastR lc }) u7 (by rw [m7]; rfl) rfl) u7 fun j hj => ?_) ok6
  simp only [List.mem_singleton] at hj
  subst hj; exact h6.lg.oG

end Go.Th.L
end

section
/- wal: a name laid by; what is asked of strings and numbers. -/
set_option linter.unusedSimpArgs false
set_option linter.unusedVariables false
set_option maxHeartbeats 1000000
namespace Go.Th.L
open Go Go.Th Go.Th.Pure
variable {P : Program} {N : Nat → Nat}

def PrefixW (P : Program) (f : FuncId) : Prop := ∀ {s t : Nm} {S : St} {K : Bool → St → Prop}, K (t.isPrefixOf s) S → CallA P f [.str s, .str t] S (retT [.one .bool] K)
def AtoiW (P : Program) (f : FuncId) : Prop := ∀ {n : Int} {S : St} {K : Int → V → St → Prop}, 1000000 ≤ n → n < 2000000 → K (n - 1000000) .nilIface S → CallA P f [.str ((Lib.decDigits n.toNat).drop 1)] S (retT [.one (.int .i64), .one .any] K)

end Go.Th.L
end

section
/- wal: a segment laid behind; a log opened on a disk with one file; Cut of too much; no log. -/
set_option linter.unusedSimpArgs false
set_option linter.unusedVariables false
set_option maxHeartbeats 1000000
namespace Go.Th.L
open Go Go.Th Go.Th.Pure
variable {P : Program} {N : Nat → Nat}

theorem LD.push {S0 S : St} {G D B : List Nat} {d : Nat} {q : LP} {l : LogR} {r : DiskR} (h : LD S0 S G D B d q l r) (hl : l.segs.length ≤ 1000000) (s : SegR) {K : St → Prop}
    (hk : ∀ S' G' q', q'.o = q.o → LD S0 S' G' D B d q' { l with segs := l.segs ++ [s] } r → Upd (q.o :: q.sv.block) S S' → (∀ i ∈ G', i ∈ G ∨ S.next ≤ i) → K S') :
    newS S (.cells (segC s) true) fun S1 => V.cells (V.ptr S.next 0) = [V.ptr S.next 0] ∧ newS S1 (.cells [V.ptr S.next 0] true) fun S2 => ifP (appV S2 1 8 q.sv (V.slice S1.next 0 1 1 1 true)) fun x S3 => nilV (V.ptr q.o 0) = some (V.ptr q.o 0) ∧ ifS (storeV S3 1 (V.ptr q.o 1) x) K := by
  refine newS_mk h.wf fun S1 g1 m1 n1 => ⟨rfl, newS_mk g1.wf fun S2 g2 m2 n2 => ?_⟩
  have g12 := g1.trans g2
  have L2 := h.grow g12
  have m1s := g2.get m1
  have hsrc : srcV 1 S2 (.slice S1.next 0 1 1 1 true) = some (1, [.ptr S.next 0]) := by
    simp only [srcV, if_true]
    rw [St.loads_of m2 (by simp)]; rfl
  have hgl : q.gs.length = l.segs.length := h.lg.len
  obtain ⟨v3, S3, e3, a3, u3, t3⟩ := L2.lg.sl.app g2.wf (by omega) hsrc rfl (by simp [V.one]) (bytes := 8) (by omega) (by omega)
  have eS : S.next ∉ G := fun hi => by have := h.lg.lt _ hi; omega
  have eD : S.next ∉ D := fun hi => by have := h.dh.ltD _ hi; omega
  have eB : S.next ∉ B := fun hi => by have := h.dh.ltB _ hi; omega
  have hv3 : ∀ i ∈ v3.block, i < S3.next := fun i hi => by
    obtain ⟨_, vs, hg⟩ := a3.own i hi
    exact u3.wf.lt hg
  have l2 := g12.le
  have l3 := u3.le
  have o3 := u3.get L2.lg.obj L2.lg.n2
  refine ifP_mk e3 ⟨rfl, st_mk u3.wf o3 (by rw [a3.at_.cells1]; rfl) (by rw [a3.at_.cells1]; simp [logC]) (by rw [a3.at_.cells1]; simp [a3.at_.one1]) fun S4 u4 m4 n4 => ?_⟩
  rw [a3.at_.cells1] at m4
  have u24 : Upd (q.o :: q.sv.block) S2 S4 := (u3.mono fun i hi => .inl (List.mem_cons_of_mem _ hi)).after u4 fun i hi => .inr (by simp only [List.mem_singleton] at hi; simp [hi])
  have qS : q.o ≠ S.next := fun e => eS (e ▸ h.lg.oG)
  have svS : S.next ∉ q.sv.block := fun hi => eS (h.lg.sG _ hi)
  have m4s := u4.get (u3.get m1s svS) (by simp only [List.mem_singleton]; exact fun e => qS e.symm)
  have gLt : ∀ i ∈ G, i < S2.next := L2.lg.lt
  have vS : ∀ i ∈ v3.block, i ≠ S.next := fun i hi e => by
    rcases t3 i hi with h' | h'
    · exact svS (e ▸ h')
    · omega
  have k4 := L2.lg.add (S' := S4) (X := q.o :: q.sv.block) (Gn := S.next :: v3.block.filter fun i => decide (S2.next ≤ i)) (g := S.next) (v := v3) (s := s) (l' := { l with segs := l.segs ++ [s] }) u24 (fun i hi => by simpa using hi) (fun i hi => by
      rcases List.mem_cons.mp hi with rfl | hi
      · exact ⟨eS, by omega⟩
      · simp only [List.mem_filter, decide_eq_true_eq] at hi
        exact ⟨fun hG => by have := gLt i hG; omega, by have := hv3 i hi.1; omega⟩)
    (by rw [m4]; rfl) rfl (by
      have := a3.upd u4 fun i hi => by
        simp only [List.mem_singleton]
        rintro rfl
        rcases t3 _ hi with h' | h'
        · exact L2.lg.n2 h'
        · have := L2.lg.lt _ L2.lg.oG; omega
      simpa [ptrE] using this) m4s (by simp) (fun i hi => by
      rcases t3 i hi with h' | h'
      · exact .inl h'
      · exact .inr ⟨by simp [hi, h'], vS i hi⟩)
  have l0 := h.g.le
  have lD := L2.dh.ltD
  have lB := L2.dh.ltB
  refine hk S4 _ { q with sv := v3, gs := q.gs ++ [S.next] } rfl ⟨k4, L2.dh.upd u24 (fun i hi hD => ?_) (fun i hi hB => ?_), L2.g.after u24 fun i hi => .inl ?_, fun i hi => ?_, L2.fD, fun i hi => ?_⟩ ((g12.mono (by simp)).trans u24) (fun i hi => ?_)
  · rcases List.mem_cons.mp hi with rfl | hi
    · exact (L2.ap _ L2.lg.oG).1 hD
    · exact (L2.ap _ (L2.lg.sG _ hi)).1 hD
  · rcases List.mem_cons.mp hi with rfl | hi
    · exact (L2.ap _ L2.lg.oG).2 hB
    · exact (L2.ap _ (L2.lg.sG _ hi)).2 hB
  · rcases List.mem_cons.mp hi with rfl | hi
    · exact L2.fG _ L2.lg.oG
    · exact L2.fG _ (L2.lg.sG _ hi)
  · rcases List.mem_append.mp hi with hi | hi
    · exact L2.fG i hi
    · rcases List.mem_cons.mp hi with rfl | hi
      · exact l0
      · simp only [List.mem_filter, decide_eq_true_eq] at hi
        omega
  · rcases List.mem_append.mp hi with hi | hi
    · exact L2.ap i hi
    · rcases List.mem_cons.mp hi with rfl | hi
      · exact ⟨eD, eB⟩
      · simp only [List.mem_filter, decide_eq_true_eq] at hi
        exact ⟨fun hD => by have := lD i hD; omega, fun hB => by have := lB i hB; omega⟩
  · rcases List.mem_append.mp hi with hi | hi
    · exact .inl hi
    · rcases List.mem_cons.mp hi with rfl | hi
      · exact .inr (Nat.le_refl _)
      · simp only [List.mem_filter, decide_eq_true_eq] at hi
        exact .inr (by omega)

theorem recE_ones (l : List (Int × List UInt8)) : (recE l).flatten.all V.one = true := by
  induction l with
  | nil => rfl
  | cons a l ih => simp [recE, V.one]

theorem wal_Open.one (hO : WalF P N) (hP : PrefixW P (N Fn.strings_HasPrefix)) (hA : AtoiW P (N Fn.strconv_Atoi)) {S0 S : St} {D B : List Nat} {d : Nat} {r : DiskR} (h : Fd S0 S D B d r) {M : Nat} (hok : OkR M r) (hM : M + 2000 ≤ 1000000) {k : Int} (hk0 : 0 ≤ k ∧ k ≤ 900000) (hn : namesR r = [nameB k]) (hd : downR r = false)
    {b : List UInt8} (hr : readR r (nameB k) = (b, 0)) (hb : beginsB b = (1, true)) (hbl : 16 ≤ b.length ∧ b.length ≤ 4194304) {rs : List (Int × List UInt8)} (hrs : recsB b.length (b.drop 16) 1 = (rs, true)) (hrl : rs.length ≤ 1000) {lc : LogR} {rc : DiskR}
    (ec : logSyncR ⟨[⟨nameB k, 1, 1 + rs.length, b.length, true⟩], 0, true, k + 1⟩ r = (0, lc, rc)) (lc1 : lc.segs.length ≤ 1000) (hsc : SegsOk lc.segs) {K : V → V → Int → St → Prop}
    (hk : ∀ (S1 S' : St) G' D' B' q' v, S0.next ≤ S1.next → LD S0 S' G' D' B' d q' { lc with synced := lastR lc } rc → OkR (M + 2000) rc → SlE S' 2 v (recE rs) → K (.ptr q'.o 0) v 0 S') :
    CallA P (N Fn.wal_Open) [.ptr d 0] S (retT [.one .any, .one .any, .one (.int .i64)] K) := by
  refine wal_Open.run hO.open_ ⟨false, rfl, ifC_ff rfl (DH.down hO.d h.dh (ifC_ff hd ⟨rfl, newS_mk h.wf fun S2 g2 m2 n2 => newS_mk g2.wf fun S3 g3 m3 n3 => ?_⟩))⟩
  have L3 := (LD.new h g2 n2 m2).grow g3
  refine DH.names hO.d L3.dh L3.wf hok fun v S4 b4 => ?_
  have L4 := L3.grow b4.grow
  have sl4 := b4.sl
  rw [hn] at sl4
  have hv : lenV S4 2 v = some (.int .i64 1) := sl4.len
  have m4 := b4.grow.get m3
  have l4 := b4.grow.le
  refine ⟨1, hv, Loop4.ind (fun m a b' c z S' => (m = 1 ∧ a = .nilSlice ∧ b' = .nilSlice ∧ c = false ∧ z = 0 ∧ S4 = S') ∨ (m = 0 ∧ c = true ∧ z = 1 ∧ S'.get S2.next = some (.cells [V.nilSlice] true) ∧ SlE S' 2 a (recE rs) ∧ (∀ i ∈ a.block, S4.next ≤ i ∧ i < S'.next) ∧ ∃ G q, q.o = S.next ∧ (∀ i ∈ a.block, i ∉ G) ∧ LD S0 S' G D B d q ⟨[⟨nameB k, 1, 1 + rs.length, b.length, true⟩], 0, false, k + 1⟩ r)) 1 (.inl ⟨rfl, rfl, rfl, rfl, rfl, rfl⟩) ?_⟩
  rintro m a b' c z S5 (⟨rfl, rfl, rfl, rfl, rfl, rfl⟩ | ⟨rfl, rfl, rfl, m5, sl5, bl5, G, q, eq5, ap5, h5⟩)
  · have h0 : loadV S4 (eltV 1 v 0 0) = some (.str (nameB k)) := by
      rw [sl4.get (j := 0) (by simp [strE]) (by omega)]; rfl
    refine ifC_tt rfl (ifS_mk (sl4.idx (j := 0) (by simp [strE])) ⟨nameB k, h0, hP (ifC_ff rfl ?_)⟩)
    have hsl : sliceStrV (.str (nameB k)) (some (.int .i64 4)) none = some (.str ((Lib.decDigits (1000001 + k).toNat).drop 1)) := by
      have hl : 4 ≤ (nameB k).length := by simp [nameB]
      have := bnds_l (len := (nameB k).length) (cap := (nameB k).length) (l := 4) (k := .i64) hl
      simp only [sliceStrV]
      rw [show ((4 : Int)) = ((4 : Nat) : Int) from rfl, this]
      simp [nameB, List.take_of_length_le]
    refine Join0.mid (fun S' => Upd [S.next] S4 S' ∧ S'.get S2.next = some (.cells [V.nilSlice] true) ∧ LD S0 S' [S.next] D B d ⟨S.next, .nilSlice, []⟩ { newL with file := k + 1 } r) ⟨_, hsl, hA (by omega) (by omega) ⟨true, rfl, ifC_tt rfl ⟨rfl, _, ld L4.lg.obj rfl, rfl, ?_⟩⟩⟩ ?_
    · have eg : goMax 0 (1000001 + k - 1000000) = k + 1 := by simp only [goMax]; split <;> omega
      show ifS (storeV S4 1 (V.ptr S.next 4) (V.int .i64 (goMax 0 (1000001 + k - 1000000)))) _
      rw [eg]
      refine st_mk L4.wf L4.lg.obj rfl (by simp [logC, V.cells]) (by simp [V.cells, V.one]) fun S9 u9 m9 n9 => ⟨u9, u9.get m4 (by simp only [List.mem_singleton]; omega), ?_⟩
      refine L4.log (L4.lg.setObj (l' := { newL with file := k + 1 }) u9 (by rw [m9]; rfl) rfl) u9 fun j hj => hj
    rintro S7 ⟨u7, m7, L7⟩
    refine DH.read hO.d L7.dh L7.wf hok hr fun x S10 bx => ifC_ff rfl (wal_begins.spec hO.b bx.at_ (by omega) ?_)
    rw [hb]
    have L10 := L7.grow bx.grow
    have m10 := bx.grow.get m7
    refine Join1.mid (fun b1 S' => b1 = false ∧ S' = S10) (ifC_ff rfl ⟨rfl, ifS_mk (ld L10.lg.obj rfl) ⟨0, rfl, ifC_ff rfl ⟨rfl, rfl⟩⟩⟩) ?_
    rintro b1 S12 ⟨rfl, rfl⟩
    refine ifC_ff rfl (wal_records.spec hO.b L10.wf bx.at_ hbl.2 hbl.1 (seq := 1) (by omega) fun va S15 ba => ?_)
    rw [hrs] at ba ⊢
    have L15 := L10.grow ba.grow
    refine Built.app (Built.nil (S0 := S15) (Upd.refl L15.wf []) 2) (es := []) (ds := recE rs) (SlAt.src ba.acc.at_) ba.each (recE_ones rs) (by rw [recE_len]; simp; omega) (by rw [recE_len]; simp; omega) fun v6 S16 b16 u16 t16 => ?_
    rw [List.nil_append] at b16
    have L16 := L15.grow b16.grow
    have lva : lenV S16 2 va = some (.int .i64 rs.length) := by
      have := (ba.sl.grow b16.grow).len
      rwa [recE_len] at this
    have lx : lenV S16 2 x = some (.int .i64 b.length) := SlAt.len ((SlAt.grow bx.at_ ba.grow).grow b16.grow)
    refine ⟨rfl, ifS_mk (ld L16.lg.obj rfl) ⟨_, lva, setI_mk (n := 1 + rs.length) (by rw [IntKind.wrap_i64]; omega) ⟨_, lx, ?_⟩⟩⟩
    have l7 := u7.le
    have l10 := bx.grow.le
    have l15 := ba.grow.le
    have l16 := b16.grow.le
    refine LD.push L16 (by simp [newL]) ⟨nameB k, 1, 1 + rs.length, b.length, true⟩ fun S20 G' q' eq' L20 u20 hG' => setI_mk (n := 1) rfl ⟨0, by omega, .inr ⟨rfl, rfl, rfl, ?_, ?_, ?_, G', q', eq', ?_, L20⟩⟩
    · refine u20.get (b16.grow.get (ba.grow.get m10)) ?_
      simp only [V.block, List.mem_cons, List.not_mem_nil, or_false]
      omega
    · refine b16.sl.upd u20 fun i hi => ?_
      have := b16.from i hi
      simp only [V.block, List.mem_cons, List.not_mem_nil, or_false]
      omega
    · intro i hi
      have := b16.from i hi
      have := b16.lt i hi
      have := u20.le
      omega
    · intro i hi hG
      have := b16.from i hi
      have := b16.lt i hi
      rcases hG' i hG with h' | h'
      · simp only [List.mem_singleton] at h'
        omega
      · omega
  · refine ifC_ff rfl (ifS_mk (ld m5 rfl) ?_)
    rw [← eq5]
    refine wal_Log_settle.well hO h5 hok (by simp) (by simp only [List.length_singleton]; omega) (by simp only [SegsOk, List.mem_singleton]; rintro s rfl; simp only; omega) fun S6 D6 B6 h6 ok6 mv6 => ?_
    rw [ec] at h6 ok6 ⊢
    simp only [List.length_singleton] at h6 ok6 ⊢
    have ld4 := L4.dh.ltD
    have sl6 : SlE S6 2 a (recE rs) := sl5.upd mv6.1 fun i hi hi' => by
      have := bl5 i hi
      rcases List.mem_append.mp hi' with h' | h'
      · exact ap5 i hi h'
      · have := ld4 i h'; omega
    refine ifC_ff rfl (wal_Log_Last.spec hO.last h6.lg (by omega) hsc ⟨rfl, st_mk h6.wf h6.lg.obj rfl (by simp [logC, V.cells]) (by simp [V.cells, V.one]) fun S7 u7 m7 n7 => ?_⟩)
    have hq : ∀ j ∈ [q.o], j ∈ G := fun j hj => by
      simp only [List.mem_singleton] at hj
      subst hj; exact h6.lg.oG
    refine hk S4 S7 G D6 B6 q a L4.g.le (h6.log (h6.lg.setObj (l' := { lc with synced := lastR lc }) u7 (by rw [m7]; rfl) rfl) u7 hq) (ok6.mono (by omega)) (sl6.upd u7 fun i hi hi' => ap5 i hi (hq i hi'))

theorem wal_Log_Cut.more (hO : WalF P N) {S : St} {G : List Nat} {d : Nat} {q : LP} {l : LogR} (h : LogIn S G d q l) (hl : l.segs.length ≤ 1000000) (hb : SegsOk l.segs) {n : Int} (hn : lastR l < n) {K : Int → St → Prop} (hk : K 180 S) : CallA P (N Fn.wal_Log_Cut) [.ptr q.o 0, .int .i64 n] S (retT [.one (.int .i64)] K) :=
  wal_Log_Cut.run hO.cut (Join0.mid (fun _ => False) ⟨false, rfl, ifC_ff rfl (ifC_dec (fun _ => hk) fun _ => wal_Log_Last.spec hO.last h hl hb (ifC_tt (by rw [decide_eq_true_eq]; exact hn) hk))⟩ (fun _ h => h.elim))
theorem wal_Log_Synced.nil (hF : wal_Log_Synced.Ok P N) {S : St} {K : Int → St → Prop} (hk : K 0 S) : CallA P (N Fn.wal_Log_Synced) [.nilPtr] S (retT [.one (.int .i64)] K) :=
  wal_Log_Synced.run hF ⟨true, rfl, ifC_tt rfl hk⟩
theorem wal_Log_Synced.spec (hF : wal_Log_Synced.Ok P N) {S : St} {G : List Nat} {d : Nat} {q : LP} {l : LogR} (h : LogIn S G d q l) {K : Int → St → Prop} (hk : K l.synced S) : CallA P (N Fn.wal_Log_Synced) [.ptr q.o 0] S (retT [.one (.int .i64)] K) :=
  wal_Log_Synced.run hF ⟨false, rfl, ifC_ff rfl ⟨rfl, ifS_mk (a := .ptr q.o 2) rfl ⟨_, ld h.obj rfl, hk⟩⟩⟩
theorem wal_Log_First.nil (hF : wal_Log_First.Ok P N) {S : St} {K : Int → St → Prop} (hk : K 0 S) : CallA P (N Fn.wal_Log_First) [.nilPtr] S (retT [.one (.int .i64)] K) :=
  wal_Log_First.run hF (Join0.mid (fun _ => False) ⟨true, rfl, ifC_tt rfl hk⟩ (fun _ h => h.elim))

end Go.Th.L
end
