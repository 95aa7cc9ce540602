/- What the row of one statement stands on: a store, abstract code, functions of the program and their laws (ThHdisk14). -/
import Derived.Test.YtcdbfhamhcaclaaThBHdiskR

section
/- Bytes that are read: what lies behind them is known; they are written over. -/
set_option linter.unusedSimpArgs false
set_option linter.unusedVariables false
set_option maxHeartbeats 1000000
namespace Go.Th.L
open Go Go.Th Go.Th.Pure
variable {P : Program} {N : Nat → Nat}

def BytesX (S S' : St) (x : V) (bs : List UInt8) : Prop := (x = .nilSlice ∧ bs = []) ∨ ∃ i c ys, x = .slice i 0 bs.length c 1 true ∧ S.next ≤ i ∧ S'.get i = some (.cells (bytesV ys) true) ∧ ys.length = c ∧ bs.length ≤ c ∧ ys.take bs.length = bs ∧ bs.length ≤ 4194304 ∧ c ≤ 9223372036854775807
theorem BytesX.at_ {S S' : St} {x : V} {bs : List UInt8} (h : BytesX S S' x bs) : BytesAt S' x bs := by
  rcases h with ⟨rfl, rfl⟩ | ⟨i, c, ys, rfl, _, hg, hl, hn, ht, hc, _⟩
  · exact ⟨by simp, by simp [bytesV], .inl ⟨rfl, rfl⟩⟩
  · refine ⟨by omega, by rw [bytesV_length, Nat.mul_one], .inr ⟨_, _, _, _, rfl, hn, ?_⟩⟩
    rw [St.loads_of hg (by rw [bytesV_length]; omega), List.drop_zero, Nat.mul_one]
    have e : (bytesV ys).take bs.length = bytesV (ys.take bs.length) := by simp [bytesV, List.map_take]
    rw [e, ht]
theorem BytesX.from {S S' : St} {x : V} {bs : List UInt8} (h : BytesX S S' x bs) : ∀ i ∈ x.block, S.next ≤ i := by
  rcases h with ⟨rfl, rfl⟩ | ⟨i, c, ys, rfl, hi, _⟩
  · simp [V.block]
  · intro j hj
    simp only [V.block, List.mem_singleton] at hj
    subst hj; exact hi
theorem BytesX.grow {S S' S2 : St} {x : V} {bs : List UInt8} (h : BytesX S S' x bs) (u : Grow S' S2) : BytesX S S2 x bs := by
  rcases h with h | ⟨i, c, ys, e, hi, hg, h'⟩
  · exact .inl h
  · exact .inr ⟨i, c, ys, e, hi, u.get hg, h'⟩

def CloneXS (P : Program) (f : FuncId) : Prop := ∀ {S : St} {v : V} {bs : List UInt8} {K : V → St → Prop}, S.Wf → BytesAt S v bs → bs.length ≤ 4194304 → (∀ x S', Grow S S' → BytesX S S' x bs → K x S') → CallA P f [v] S (retT [.one .any] K)

theorem disk_Disk_Read.specX (hO : DiskF2 P N) (hC : CloneXS P (N Fn.slices_Clone_Lbyte)) {S : St} (hw : S.Wf) {o : Bool} {q : DP} {r : DiskR} (h : DiskRd S o q r) {M : Nat} (hok : OkR M r) {n : Nm} {K : V → Int → St → Prop} (hk : ∀ v S', Grow S S' → BytesX S S' v (readR r n).1 → K v (readR r n).2 S') :
    CallA P (N Fn.disk_Disk_Read) [.ptr q.d 0, .str n] S (retT [.one .any, .one (.int .i64)] K) := by
  refine disk_Disk_Read.run hO.read (disk_Disk_find.spec hO.f h (fun hd => ifC_ndec (fun _ => ?_) (fun h' => by omega)) (fun hd hn => ifC_ndec (fun _ => ?_) (fun h' => by omega)) (fun hd k hkn => ifC_ndec (fun h' => absurd rfl h') (fun _ => ?_)))
  · have e : readR r n = ([], 174) := by simp [readR, hd]
    rw [e] at hk; exact hk _ S (Upd.refl hw _) (.inl ⟨rfl, rfl⟩)
  · have e : readR r n = ([], 172) := by simp [readR, hd, hn]
    rw [e] at hk; exact hk _ S (Upd.refl hw _) (.inl ⟨rfl, rfl⟩)
  · have e : readR r n = ((r.fl k).b, 0) := by simp [readR, hd, hkn]
    rw [e] at hk
    have hlv := h.lvN _ ((lkK_some hok.stNow.sorted.nod).1 hkn)
    obtain ⟨f1, f2⟩ := h.fl k hlv
    exact ⟨rfl, ifS_mk (a := .ptr (q.fb k) 0) rfl (ifS_mk (ld f1 rfl) (hC hw f2 (hok.fl k).2 fun x S' g b => hk x S' g b))⟩

def zsB (l : List UInt8) : List Int := l.map fun b => ((b.toNat : Nat) : Int)
theorem bytes_zsB (l : List UInt8) : bytesV l = intsV .u8 (zsB l) := by simp [bytesV, intsV, zsB]

theorem keep_SpoilBytes.spec (hF : keep_SpoilBytes.Ok P N) {S0 S : St} (hw : S.Wf) {x : V} {bs : List UInt8} (h : BytesX S0 S x bs) {K : St → Prop} (hk : ∀ S', Upd x.block S S' → K S') : CallA P (N Fn.keep_SpoilBytes) [x] S (retT [] K) := by
  rcases h with ⟨rfl, rfl⟩ | ⟨i, c, ys, rfl, _, hg, hl, hn, ht, hb, hc⟩
  · refine keep_SpoilBytes.run hF ⟨0, rfl, ifS_mk (a := .nilSlice) rfl (Loop1.ind (fun m z S' => S' = S ∧ z = 0) 0 ⟨rfl, rfl⟩ ?_)⟩
    rintro m z S' ⟨rfl, rfl⟩
    exact ⟨0, rfl, ifC_ff rfl (hk _ (Upd.refl hw _))⟩
  · have hz : (zsB ys).length = c := by simp [zsB, hl]
    rw [bytes_zsB] at hg
    have hidx : ∀ j : Nat, j < c → idxAddrV 1 (.slice i 0 c c 1 true) (.int .i64 ((j : Nat) : Int)) = some (.ptr i j) := fun j hj => by
      simp [idxAddrV]; omega
    refine keep_SpoilBytes.run hF ⟨(c : Nat), rfl, ifS_mk (slice_ext (Nat.le_refl _)) ?_⟩
    refine Loop1.ind (fun n x S' => ∃ (j : Nat) (zs : List Int), x = j ∧ j + n = c ∧ zs.length = c ∧ S'.get i = some (.cells (intsV .u8 zs) true) ∧ Upd [i] S S') c ⟨0, zsB ys, rfl, by omega, hz, hg, Upd.refl hw _⟩ ?_
    rintro n _ S2 ⟨j, zs, rfl, hj, hy, hg2, u2⟩
    refine ⟨(c : Nat), rfl, ifC_dec (fun hlt => ?_) (fun hge => ?_)⟩
    · have hjl : j < c := by omega
      refine ifS_mk (hidx j hjl) ⟨zs[j], ld hg2 (by simp [intsV, hy, hjl]), setI_mk rfl (ifS_mk (hidx j hjl) (st_mk u2.wf hg2 (by simp [V.cells]) (by simp [V.cells, intsV_length, hy]; omega) (by simp [V.cells, V.one]) fun S3 u3 m3 n3 => setI_mk (n := ((j + 1 : Nat) : Int)) (by rw [IntKind.wrap_i64]; omega) ⟨n - 1, by omega, j + 1, zs.set j (IntKind.u8.wrap (zs[j] + 99)), rfl, by omega, by simpa using hy, ?_, u2.trans u3⟩))⟩
      simp only [V.cells] at m3
      rw [over_int .u8 zs j _ (by omega)] at m3
      exact m3
    · exact hk S2 u2

end Go.Th.L
end
