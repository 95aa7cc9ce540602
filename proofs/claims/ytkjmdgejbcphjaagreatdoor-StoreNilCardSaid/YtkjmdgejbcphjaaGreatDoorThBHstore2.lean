/- What the row of one statement stands on: a store, abstract code, functions of the program and their laws (ThHkeep, ThHdisk13, ThHdiskR, ThHstoreR, ThHdisk14, ThHwal2, ThHwal3, ThHref17a, ThHwal4, ThHwal5, ThHwal6, ThHwal7, ThHwal8, ThHwal9, ThHwal10, ThHwal11, ThHwal12, ThHwal13, ThHwal14, ThHwal15, ThHwal16, ThHwal17, ThHvec0, ThHcodec, ThHcodec2, ThHcodec3, ThHcodec4, ThHcodec5, ThHstore1, ThHstore2). -/
import Derived.Test.YtkjmdgejbcphjaaGreatDoorThBQ10
import Derived.Test.YtkjmdgejbcphjaaGreatDoorThBGkeep
import Derived.Test.YtkjmdgejbcphjaaGreatDoorThBHintsC
import Derived.Test.YtkjmdgejbcphjaaGreatDoorThBGref16
import Derived.Test.YtkjmdgejbcphjaaGreatDoorThBQ12
import Derived.Lib.ItoaNum
import Derived.Test.YtkjmdgejbcphjaaGreatDoorThBHmapI

section
/- keep: lists of numbers and rows lent, given back, compared. -/
set_option linter.unusedSimpArgs false
set_option linter.unusedVariables false
namespace Go.Th.L
open Go Go.Th
variable {P : Program} {N : Nat → Nat}

theorem wrap_succ {j : Nat} (h : j < 4611686018427387905) : IntKind.i64.wrap ((j : Int) + 1) = ((j + 1 : Nat) : Int) := wrap_nat h

end Go.Th.L
end

section
/- A new disk; no disk; the examples. -/
set_option linter.unusedSimpArgs false
set_option linter.unusedVariables false
set_option maxHeartbeats 2000000
namespace Go.Th.L
open Go Go.Th Go.Th.Pure
variable {P : Program} {N : Nat → Nat}

def DH (S : St) (D B : List Nat) (d : Nat) (r : DiskR) : Prop := ∃ q : DP, q.d = d ∧ DiskIn S D B q r
def Foot (D B : List Nat) (S : St) (D' B' : List Nat) (S' : St) : Prop := (∀ i ∈ D', i ∈ D ∨ S.next ≤ i) ∧ (∀ i ∈ B', i ∈ B ∨ S.next ≤ i) ∧ Upd D S S'
theorem Mv.elim {d : Nat} {D B : List Nat} {S : St} {r' : DiskR} {S' : St} (h : Mv d D B S r' S') : ∃ D' B', DH S' D' B' d r' ∧ Foot D B S D' B' S' := by
  obtain ⟨⟨D', B', q', e, h1, h2, h3⟩, u⟩ := h
  exact ⟨D', B', ⟨q', e, h1⟩, h2, h3, u⟩
theorem DH.upd {X : List Nat} {S S' : St} {D B : List Nat} {d : Nat} {r : DiskR} (h : DH S D B d r) (u : Upd X S S') (h1 : ∀ i ∈ X, i ∉ D) (h2 : ∀ i ∈ X, i ∉ B) : DH S' D B d r := by
  obtain ⟨q, e, h⟩ := h
  exact ⟨q, e, h.upd u h1 h2⟩
theorem DH.grow {S S' : St} {D B : List Nat} {d : Nat} {r : DiskR} (h : DH S D B d r) (u : Grow S S') : DH S' D B d r := h.upd u (by simp) (by simp)
theorem DH.ltD {S : St} {D B : List Nat} {d : Nat} {r : DiskR} (h : DH S D B d r) : ∀ i ∈ D, i < S.next := by
  obtain ⟨q, e, h⟩ := h
  exact h.ltD
theorem DH.ltB {S : St} {D B : List Nat} {d : Nat} {r : DiskR} (h : DH S D B d r) : ∀ i ∈ B, i < S.next := by
  obtain ⟨q, e, h⟩ := h
  exact h.ltB

structure DiskF3 (P : Program) (N : Nat → Nat) : Prop where
  f2 : DiskF2 P N
  new : disk_New.Ok P N
  crash : CrashF P N
  clone : CloneF P N
  syncDir : disk_Disk_SyncDir.Ok P N
  bytes : keep_Bytes.Ok P N
structure DiskFv (P : Program) (N : Nat → Nat) : Prop where
  fw : DiskFw P N
  new : disk_New.Ok P N
  crash : CrashF P N
  syncDir : disk_Disk_SyncDir.Ok P N
theorem DiskFv.f {P : Program} {N : Nat → Nat} (h : DiskFv P N) : DiskF P N := h.fw.f
theorem DiskF3.v {P : Program} {N : Nat → Nat} (h : DiskF3 P N) : DiskFv P N := ⟨h.f2.toDiskFw, h.new, h.crash, h.syncDir⟩
instance {P : Program} {N : Nat → Nat} : Coe (DiskF3 P N) (DiskFv P N) := ⟨DiskF3.v⟩
theorem disk_New.spec (hF : disk_New.Ok P N) {S : St} (hw : S.Wf) {room : Int} {K : V → Int → St → Prop} (h1 : ¬ (1 ≤ room ∧ room ≤ 4194304) → K .nilPtr 1 S)
    (h2 : 1 ≤ room ∧ room ≤ 4194304 → ∀ S' D d, Grow S S' → DH S' D [] d (newR room) → (∀ i ∈ D, S.next ≤ i) → K (.ptr d 0) 0 S') : CallA P (N Fn.disk_New) [.int .i64 room] S (retT [.one .any, .one (.int .i64)] K) := by
  refine disk_New.run hF (Join0.mid (fun S' => S' = S ∧ 1 ≤ room ∧ room ≤ 4194304) (ifC_dec (fun h => h1 (by omega)) (fun h => ifC_dec (fun h' => h1 (by omega)) (fun h' => ⟨rfl, by omega, by omega⟩))) ?_)
  rintro S1 ⟨rfl, hr⟩
  refine newS_mk hw fun S2 g2 m2 n2 => newS_mk g2.wf fun S3 g3 m3 n3 => ⟨rfl, rfl, newS_mk g3.wf fun S4 g4 m4 n4 => h2 hr S4 [S1.next, S2.next, S3.next] S3.next ((g2.trans g3).trans g4) ⟨⟨S3.next, S1.next, S2.next, .nilSlice, fun _ => 0, fun _ => .nilSlice, fun _ => False⟩, rfl, ?_⟩ ?_⟩
  · refine ⟨m4, NamesAt.new (S := S1) (g4.get (g3.get m2)), NamesAt.new (S := S1) (g4.get m3), Acc.nil _ _ _, fun k hk => hk.elim, fun k _ hk => hk.elim, by simp [newR], by simp [newR], by simp [newR], fun k hk => hk.elim, by simp, by simp, by simp, by simp [V.block], fun k hk => hk.elim, fun k hk => hk.elim, ?_, by simp, by simp, by simp only; omega, by simp only; omega, by simp only; omega, by simp [V.block], fun k hk => hk.elim⟩
    intro i hi
    simp only [List.mem_cons, List.not_mem_nil, or_false] at hi
    omega
  · intro i hi
    simp only [List.mem_cons, List.not_mem_nil, or_false] at hi
    omega

section
variable (hO : DiskF3 P N) {S : St} {n t : Nm} {x : V} {m : Int}
include hO
end

section
variable (hO : DiskFv P N) {S : St} (hw : S.Wf) {D B : List Nat} {d : Nat} {r r' : DiskR} (h : DH S D B d r) {M : Nat} (hok : OkR M r) (hM : M ≤ 1000000) {n t : Nm} {v : Int} {K : Int → St → Prop}
include hO hw h hok hM
theorem DH.create (hnl : n.length < 4611686018427387904) (e : createR r n = (v, r')) (hk : ∀ S' D' B', DH S' D' B' d r' → Foot D B S D' B' S' → K v S') : CallA P (N Fn.disk_Disk_Create) [.ptr d 0, .str n] S (retT [.one (.int .i64)] K) := by
  obtain ⟨q, rfl, h⟩ := h
  refine disk_Disk_Create.spec hO.fw hw h hok hM hnl fun S' m => ?_
  rw [e] at m ⊢
  obtain ⟨D', B', h', f⟩ := m.elim
  exact hk S' D' B' h' f
theorem DH.append {x : V} {bs : List UInt8} (hx : BytesAt S x bs) (hxl : bs.length ≤ 1000000000) (e : appendR r n bs = (v, r')) (hk : ∀ S' D' B', DH S' D' B' d r' → Foot D B S D' B' S' → K v S') : CallA P (N Fn.disk_Disk_Append) [.ptr d 0, .str n, x] S (retT [.one (.int .i64)] K) := by
  obtain ⟨q, rfl, h⟩ := h
  refine disk_Disk_Append.spec hO.fw hw h hok hM hx hxl fun S' m => ?_
  rw [e] at m ⊢
  obtain ⟨D', B', h', f⟩ := m.elim
  exact hk S' D' B' h' f
theorem DH.sync (e : syncR r n = (v, r')) (hk : ∀ S' D' B', DH S' D' B' d r' → Foot D B S D' B' S' → K v S') : CallA P (N Fn.disk_Disk_Sync) [.ptr d 0, .str n] S (retT [.one (.int .i64)] K) := by
  obtain ⟨q, rfl, h⟩ := h
  refine disk_Disk_Sync.spec hO.fw hw h hok hM fun S' m => ?_
  rw [e] at m ⊢
  obtain ⟨D', B', h', f⟩ := m.elim
  exact hk S' D' B' h' f
theorem DH.remove (e : removeR r n = (v, r')) (hk : ∀ S' D' B', DH S' D' B' d r' → Foot D B S D' B' S' → K v S') : CallA P (N Fn.disk_Disk_Remove) [.ptr d 0, .str n] S (retT [.one (.int .i64)] K) := by
  obtain ⟨q, rfl, h⟩ := h
  refine disk_Disk_Remove.spec hO.fw hw h hok hM fun S' m => ?_
  rw [e] at m ⊢
  obtain ⟨D', B', h', f⟩ := m.elim
  exact hk S' D' B' h' f
theorem DH.syncDir (e : syncDirR r = (v, r')) (hk : ∀ S' D' B', DH S' D' B' d r' → Foot D B S D' B' S' → K v S') : CallA P (N Fn.disk_Disk_SyncDir) [.ptr d 0] S (retT [.one (.int .i64)] K) := by
  obtain ⟨q, rfl, h⟩ := h
  refine disk_Disk_SyncDir.spec hO.fw hO.syncDir hO.crash.maps hw h hok hM fun S' m => ?_
  rw [e] at m ⊢
  obtain ⟨D', B', h', f⟩ := m.elim
  exact hk S' D' B' h' f
theorem DH.crash {x : V} {cs : List Int} (hx : IntsAt S x cs) (hxD : cs ≠ [] → ∀ i ∈ x.block, i ∉ D) (hxl : cs ≠ [] → ∀ i ∈ x.block, i < S.next) (hcs : ∀ c ∈ cs, -9223372036854775808 ≤ c ∧ c ≤ 9223372036854775807) (e : crashR cs r = r') (hk : ∀ S' D' B', DH S' D' B' d r' → Foot D B S D' B' S' → K 0 S') :
    CallA P (N Fn.disk_Disk_Crash) [.ptr d 0, x] S (retT [.one (.int .i64)] K) := by
  obtain ⟨q, rfl, h⟩ := h
  refine disk_Disk_Crash.spec hO.crash hw h hok hM hx hxD hxl hcs fun S' m => ?_
  rw [e] at m
  obtain ⟨D', B', h', f⟩ := m.elim
  exact hk S' D' B' h' f
end
section
variable (hO : DiskF3 P N) {S : St} (hw : S.Wf) {D B : List Nat} {d : Nat} {r r' : DiskR} (h : DH S D B d r) {M : Nat} (hok : OkR M r) (hM : M ≤ 1000000) {n t : Nm} {v : Int} {K : Int → St → Prop}
include hO hw h hok hM
end
section
variable (hO : DiskFv P N) {S : St} (hw : S.Wf) {D B : List Nat} {d : Nat} {r r' : DiskR} (h : DH S D B d r)
include hO h
theorem DH.read {M : Nat} (hw : S.Wf) (hok : OkR M r) {n : Nm} {b : List UInt8} {v : Int} {K : V → Int → St → Prop} (e : readR r n = (b, v)) (hk : ∀ x S', BuiltB S S' x b → K x v S') : CallA P (N Fn.disk_Disk_Read) [.ptr d 0, .str n] S (retT [.one .any, .one (.int .i64)] K) := by
  obtain ⟨q, rfl, h⟩ := h
  refine disk_Disk_Read.spec hO.fw hw h.rd hok fun x S' b => ?_
  rw [e] at b ⊢
  exact hk x S' b
theorem DH.down {K : Bool → St → Prop} (hk : K (downR r) S) : CallA P (N Fn.disk_Disk_Down) [.ptr d 0] S (retT [.one .bool] K) := by
  obtain ⟨q, rfl, h⟩ := h
  exact disk_Disk_Down.spec hO.f.down h.rd hk
theorem DH.names {M : Nat} (hw : S.Wf) (hok : OkR M r) {K : V → St → Prop} (hk : ∀ v S', Built S S' 1 v (strE (namesR r)) → K v S') : CallA P (N Fn.disk_Disk_Names) [.ptr d 0] S (retT [.one .any] K) := by
  obtain ⟨q, rfl, h⟩ := h
  exact disk_Disk_Names.spec hO.f hO.crash.n hw h.rd hok.stNow hk
end
section
variable (hO : DiskF3 P N) {S : St} (hw : S.Wf) {D B : List Nat} {d : Nat} {r r' : DiskR} (h : DH S D B d r)
include hO h
end

structure Fd (S0 S : St) (D B : List Nat) (d : Nat) (r : DiskR) : Prop where
  dh : DH S D B d r
  g : Grow S0 S
  fD : ∀ i ∈ D, S0.next ≤ i
  fB : ∀ i ∈ B, S0.next ≤ i
theorem Fd.grow {S0 S S' : St} {D B : List Nat} {d : Nat} {r : DiskR} (h : Fd S0 S D B d r) (u : Grow S S') : Fd S0 S' D B d r := ⟨h.dh.grow u, h.g.trans u, h.fD, h.fB⟩
theorem Fd.wf {S0 S : St} {D B : List Nat} {d : Nat} {r : DiskR} (h : Fd S0 S D B d r) : S.Wf := h.g.wf

theorem sl_of {S : St} {i n : Nat} {cs : List V} {own : Bool} (h : S.get i = some (.cells cs own)) (hn : cs.length = n) (hm : n ≤ 1000000) : SlAt S 1 (.slice i 0 n n 1 true) n cs :=
  ⟨by omega, by omega, .inr ⟨_, _, _, _, rfl, Nat.le_refl _, by rw [St.loads_of h (by omega)]; simp [← hn]⟩⟩

end Go.Th.L
end

section
/- Readings of the disk rows' arguments. -/
set_option linter.unusedVariables false
set_option linter.unusedSimpArgs false
namespace Go.Th.L
open Go Go.Th Go.Th.Pure

abbrev i64S : Sh := Sh.slice 1 8 (Sh.int IntKind.i64)
theorem rdd_ints {S : St} {cs : List V} (h : Has S i64S cs) : ∃ (v : V) (l : List Int), cs = [v] ∧ IntsAt S v l ∧ ∀ x ∈ l, -9223372036854775808 ≤ x ∧ x ≤ 9223372036854775807 := by
  simp only [Has] at h
  obtain ⟨v, n, es, rfl, hs, hr, he⟩ := h
  obtain ⟨l, hl, rfl, hx⟩ := has_i64s (S := S) hs.2.1 (fun m hm => by simpa only [Has] using he m hm)
  exact ⟨v, l, rfl, hs.ints, hx⟩
theorem rdd_int {S : St} {cs : List V} (h : Has S (Sh.int .i64) cs) : ∃ n : Int, cs = [.int .i64 n] ∧ -9223372036854775808 ≤ n ∧ n ≤ 9223372036854775807 := by
  simp only [Has] at h
  obtain ⟨n, h1, h2⟩ := h
  exact ⟨n, h1, lit_i64 h2⟩

end Go.Th.L
end

section
/- Readings of the store rows' arguments. -/
set_option linter.unusedVariables false
set_option linter.unusedSimpArgs false
namespace Go.Th.L
open Go Go.Th Go.Th.Pure

abbrev rowFs : Fs := Fs.cons 1 (Sh.int IntKind.i64) (Fs.cons 1 i64S Fs.nil)
abbrev op19Fs : Fs := Fs.cons 1 (Sh.int IntKind.i64) (Fs.cons 1 (Sh.int IntKind.i64) (Fs.cons 1 (Sh.int IntKind.i64) (Fs.cons 2 (Sh.agg rowFs) (Fs.cons 1 i64S Fs.nil))))
theorem rds_op {S : St} {cs : List V} (h : HasF S op19Fs cs) : ∃ (k id n rid : Int) (w ch : V) (v is : List Int), cs = [.int .i64 k, .int .i64 id, .int .i64 n, .int .i64 rid, w, ch] ∧ IntsAt S w v ∧ IntsAt S ch is := by
  simp only [HasF] at h
  obtain ⟨h1, h2, h3, h4, h5, h6⟩ := h
  obtain ⟨k, e1, _⟩ := rdd_int h1
  obtain ⟨id, e2, _⟩ := rdd_int h2
  obtain ⟨n, e3, _⟩ := rdd_int h3
  simp only [Has, HasF] at h4
  obtain ⟨h41, h42, h43⟩ := h4
  obtain ⟨rid, e4, _⟩ := rdd_int (S := S) (by simpa only [Has] using h41)
  obtain ⟨w, v, e5, hv, _⟩ := rdd_ints (S := S) (by simpa only [Has] using h42)
  obtain ⟨ch, is, e6, hc, _⟩ := rdd_ints h5
  refine ⟨k, id, n, rid, w, ch, v, is, ?_, hv, hc⟩
  have a0 := (List.take_append_drop 1 cs).symm
  have a1 := (List.take_append_drop 1 (cs.drop 1)).symm
  have a2 := (List.take_append_drop 1 ((cs.drop 1).drop 1)).symm
  have a3 := (List.take_append_drop 2 (((cs.drop 1).drop 1).drop 1)).symm
  have b3 := (List.take_append_drop 1 ((((cs.drop 1).drop 1).drop 1).take 2)).symm
  have c3 := (List.take_append_drop 1 (((((cs.drop 1).drop 1).drop 1).take 2).drop 1)).symm
  have a4 := (List.take_append_drop 1 ((((cs.drop 1).drop 1).drop 1).drop 2)).symm
  rw [e5, h43] at c3
  rw [e4, c3] at b3
  rw [e6, h6] at a4
  rw [b3, a4] at a3
  rw [e3, a3] at a2
  rw [e2, a2] at a1
  rw [e1, a1] at a0
  exact a0

end Go.Th.L
end

section
/- Bytes that are read: what lies behind them is known; they are written over. -/
set_option linter.unusedSimpArgs false
set_option linter.unusedVariables false
set_option maxHeartbeats 1000000
namespace Go.Th.L
open Go Go.Th Go.Th.Pure
variable {P : Program} {N : Nat → Nat}

end Go.Th.L
end

section
/- wal: numbers and checks laid and read. -/
set_option linter.unusedSimpArgs false
set_option linter.unusedVariables false
set_option maxHeartbeats 1000000
namespace Go.Th.L
open Go Go.Th Go.Th.Pure
variable {P : Program} {N : Nat → Nat}

theorem shr_nn (x : Int) (k : Nat) (kk : IntKind) (h : k ≤ IntKind.bits kk) : Int.fdiv x (2 ^ (min (Int.toNat ((k : Nat) : Int)) (IntKind.bits kk))) = x / 2 ^ k := by
  rw [Int.toNat_natCast, Nat.min_eq_left h]
  exact Int.fdiv_eq_ediv_of_nonneg _ (Int.pow_nonneg (by omega))

theorem le4 (x : Int) : le 4 x = [byteZ x, byteZ (x / 256), byteZ (x / 65536), byteZ (x / 16777216)] := by
  simp only [le]
  rw [Int.ediv_ediv_of_nonneg (by omega), Int.ediv_ediv_of_nonneg (by omega)]
  rfl
theorem byteZ_mod (x : Int) (k : Int) (hk : k = 4294967296) : le 4 (x % k) = le 4 x := by
  subst hk
  exact le_congr (by rw [show (256 : Int) ^ 4 = 4294967296 from rfl]; exact Int.emod_emod_of_dvd _ (Int.dvd_refl _))

theorem wal_put32.spec (hF : wal_put32.Ok P N) {S0 S : St} {v : V} {bs : List UInt8} (hb : BuiltB S0 S v bs) (hl : bs.length ≤ 1000000) {x : Int} {K : V → St → Prop} (hk : ∀ v' S', BuiltB S0 S' v' (bs ++ le 4 x) → Upd v.block S S' → K v' S') :
    CallA P (N Fn.wal_put32) [v, .int .u32 x] S (retT [.one .any] K) := by
  refine wal_put32.run hF (setI_mk (wrap_byte x) ⟨by omega, setI_mk (n := x / 256) (shr_nn x 8 .u32 (by decide)) (setI_mk (wrap_byte _) ⟨by omega, setI_mk (n := x / 65536) (shr_nn x 16 .u32 (by decide)) (setI_mk (wrap_byte _) ⟨by omega, setI_mk (n := x / 16777216) (shr_nn x 24 .u32 (by decide)) (setI_mk (wrap_byte _) (newS_mk hb.grow.wf fun S1 g1 m1 n1 => ?_))⟩)⟩)⟩)
  have b1 := Built.next hb g1
  have hs : BytesAt S1 (.slice S.next 0 4 4 1 true) (le 4 x) := by
    have e : [V.int .u8 ((byteZ x).toNat : Int), .int .u8 ((byteZ (x / 256)).toNat : Int), .int .u8 ((byteZ (x / 65536)).toNat : Int), .int .u8 ((byteZ (x / 16777216)).toNat : Int)] = bytesV (le 4 x) := by rw [le4]; rfl
    rw [e] at m1
    exact ⟨by rw [le_length]; omega, by rw [bytesV_length, Nat.mul_one], .inr ⟨_, _, _, _, by rw [le_length], by rw [le_length]; exact Nat.le_refl _, by rw [St.loads_of m1 (by rw [bytesV_length, le_length]; omega), List.drop_zero, List.take_of_length_le (by rw [bytesV_length]; omega)]⟩⟩
  refine BuiltB.app b1 (SlAt.src hs) (by rw [le_length]; omega) fun v' S' b u t => hk v' S' b ((g1.mono (by simp)).after u fun i hi => .inr hi)

theorem wal_put64.spec (hF : wal_put64.Ok P N) (h32 : wal_put32.Ok P N) {S0 S : St} {v : V} {bs : List UInt8} (hb : BuiltB S0 S v bs) (hl : bs.length ≤ 900000) {x : Int} {K : V → St → Prop} (hk : ∀ v' S', BuiltB S0 S' v' (bs ++ (le 4 x ++ le 4 (x / 4294967296))) → K v' S') :
    CallA P (N Fn.wal_put64) [v, .int .u64 x] S (retT [.one .any] K) := by
  refine wal_put64.run hF (setI_mk (n := x % 4294967296) (by rw [IntKind.wrap_u32]) (wal_put32.spec h32 hb (by omega) fun v1 S1 b1 u1 => ⟨by omega, setI_mk (n := x / 4294967296) (shr_nn x 32 .u64 (by decide)) (setI_mk (n := x / 4294967296 % 4294967296) (by rw [IntKind.wrap_u32]) (wal_put32.spec h32 b1 (by rw [List.length_append, le_length]; omega) fun v2 S2 b2 u2 => hk v2 S2 ?_))⟩))
  rw [byteZ_mod _ _ rfl, byteZ_mod _ _ rfl, List.append_assoc] at b2
  exact b2

theorem wal_sealed.spec (hF : wal_sealed.Ok P N) (h32 : wal_put32.Ok P N) (hS : codec_Sum.Ok P N) {S0 S : St} {v : V} {bs : List UInt8} (hb : BuiltB S0 S v bs) (hl : bs.length ≤ 1000000) {K : V → St → Prop} (hk : ∀ v' S', BuiltB S0 S' v' (sealB bs) → K v' S') :
    CallA P (N Fn.wal_sealed) [v] S (retT [.one .any] K) :=
  wal_sealed.run hF (codec_Sum.spec hS hb.at_ (by omega) (wal_put32.spec h32 hb (by omega) fun v' S' b _ => hk v' S' b))

structure WalB (P : Program) (N : Nat → Nat) : Prop where
  sum : codec_Sum.Ok P N
  p32 : wal_put32.Ok P N
  p64 : wal_put64.Ok P N
  sealed : wal_sealed.Ok P N
  head : wal_head.Ok P N
  laid : wal_laid.Ok P N
  g32 : wal_get32.Ok P N
  g64 : wal_get64.Ok P N
  whole : wal_whole.Ok P N
  begins : wal_begins.Ok P N
  records : wal_records.Ok P N

theorem wal_head.spec (hO : WalB P N) {S : St} (hw : S.Wf) {x : Int} (hx : 0 ≤ x ∧ x < 18446744073709551616) {K : V → St → Prop} (hk : ∀ v' S', BuiltB S S' v' (headB x) → K v' S') : CallA P (N Fn.wal_head) [.int .i64 x] S (retT [.one .any] K) := by
  refine wal_head.run hO.head (wal_put32.spec hO.p32 (bs := []) (Built.nil (Upd.refl hw []) 1) (by simp) fun v1 S1 b1 _ => setI_mk (n := x) (by rw [IntKind.wrap_u64]; omega) (wal_put64.spec hO.p64 hO.p32 b1 (by simp [le_length]) fun v2 S2 b2 => wal_sealed.spec hO.sealed hO.p32 hO.sum b2 (by simp [le_length]) fun v3 S3 b3 => hk v3 S3 ?_))
  simpa [headB] using b3

theorem same_two {S1 S2 S3 : St} {R : List Nat} (h2 : Grow S1 S2) (h3 : Grow S1 S3) (hR : ∀ i ∈ R, i < S1.next) : Same R S2 S3 := fun i hi => by
  rw [h2.keep i (hR i hi) (by simp), h3.keep i (hR i hi) (by simp)]
theorem wal_laid.spec (hO : WalB P N) {S : St} (hw : S.Wf) {x : Int} (hx : 0 ≤ x ∧ x < 18446744073709551616) {s : List UInt8} (hs : s.length ≤ 65536) {K : V → St → Prop} (hk : ∀ v' S', BuiltB S S' v' (laidB x s) → K v' S') : CallA P (N Fn.wal_laid) [.agg [.int .i64 x, .str s]] S (retT [.one .any] K) := by
  refine wal_laid.run hO.laid (newS_mk hw fun S1 g1 m1 n1 => ⟨_, ld m1 rfl, setI_mk (n := (s.length : Nat)) (by rw [IntKind.wrap_u32]; omega) ⟨_, ld m1 rfl, setI_mk (n := x) (by rw [IntKind.wrap_u64]; omega) (wal_put32.spec hO.p32 (bs := []) (Built.nil (Upd.refl g1.wf []) 1) (by simp) fun v1 S2 b1 u1 => ⟨same_two (Upd.refl g1.wf []) b1.grow (by simp; omega), wal_put64.spec hO.p64 hO.p32 b1 (by simp [le_length]) fun v2 S3 b2 => ⟨same_two b1.grow b2.grow (by simp; omega), _, ld (b2.grow.get m1) rfl, BuiltB.app b2 (ds := s) rfl (by simp [le_length]; omega) fun v3 S4 b3 u3 t3 => wal_sealed.spec hO.sealed hO.p32 hO.sum b3 (by simp [le_length]; omega) fun v4 S5 b4 => hk v4 S5 ?_⟩⟩)⟩⟩)
  have e : laidB x s = sealB ([] ++ le 4 ((s.length : Nat) : Int) ++ (le 4 x ++ le 4 (x / 4294967296)) ++ s) := by simp [laidB]
  rw [e]
  exact ⟨g1.trans b4.grow, b4.acc.below g1.le, b4.each⟩

end Go.Th.L
end

section
/- wal: numbers read. -/
set_option linter.unusedSimpArgs false
set_option linter.unusedVariables false
set_option maxHeartbeats 1000000
namespace Go.Th.L
open Go Go.Th Go.Th.Pure
variable {P : Program} {N : Nat → Nat}

theorem or_u32 {a b : Nat} (ha : a < 4294967296) (hb : b < 4294967296) : intBits .or .u32 (a : Int) (b : Int) = ((a ||| b : Nat) : Int) := by
  have hor : a ||| b < 2 ^ 32 := Nat.or_lt_two_pow (by omega) (by omega)
  simp only [intBits, BitVec.toNat_or, BitVec.toNat_ofInt]
  have hbits : IntKind.bits .u32 = 32 := rfl
  rw [hbits]
  have e1 : (((a : Int) % ((2 ^ 32 : Nat) : Int)).toNat) = a := by omega
  have e2 : (((b : Int) % ((2 ^ 32 : Nat) : Int)).toNat) = b := by omega
  rw [e1, e2, IntKind.wrap_u32]
  omega
theorem or_u64 {a b : Nat} (ha : a < 18446744073709551616) (hb : b < 18446744073709551616) : intBits .or .u64 (a : Int) (b : Int) = ((a ||| b : Nat) : Int) := by
  have hor : a ||| b < 2 ^ 64 := Nat.or_lt_two_pow (by omega) (by omega)
  simp only [intBits, BitVec.toNat_or, BitVec.toNat_ofInt]
  have hbits : IntKind.bits .u64 = 64 := rfl
  rw [hbits]
  have e1 : (((a : Int) % ((2 ^ 64 : Nat) : Int)).toNat) = a := by omega
  have e2 : (((b : Int) % ((2 ^ 64 : Nat) : Int)).toNat) = b := by omega
  rw [e1, e2, IntKind.wrap_u64]
  omega
theorem or_add {a x k : Nat} (ha : a < 2 ^ k) : a ||| 2 ^ k * x = a + 2 ^ k * x := by
  have := Nat.two_pow_add_eq_or_of_lt ha x
  rw [Nat.or_comm, ← this, Nat.add_comm]

theorem shlu {x k : Nat} (hx : x < 256) (hk : k ≤ 24) : IntKind.u32.wrap (((x : Nat) : Int) * 2 ^ (min (Int.toNat ((k : Nat) : Int)) (IntKind.bits .u32))) = ((2 ^ k * x : Nat) : Int) := by
  have hb : IntKind.bits .u32 = 32 := rfl
  have e : min (Int.toNat ((k : Nat) : Int)) (IntKind.bits .u32) = k := by omega
  rw [e]
  have h2 : ((x : Nat) : Int) * 2 ^ k = ((2 ^ k * x : Nat) : Int) := by
    rw [Int.natCast_mul, Int.mul_comm]; simp
  have hp : 2 ^ k ≤ 2 ^ 24 := Nat.pow_le_pow_right (by omega) hk
  have h3 : 2 ^ k * x ≤ 2 ^ 24 * 255 := Nat.mul_le_mul hp (by omega)
  rw [h2, IntKind.wrap_u32]; omega

def n4 (l : List UInt8) (i : Nat) : Nat := num ((l.drop i).take 4)
theorem n4_eq {l : List UInt8} {i : Nat} (h : i + 4 ≤ l.length) : n4 l i = l[i].toNat + 256 * l[i + 1].toNat + 65536 * l[i + 2].toNat + 16777216 * l[i + 3].toNat := by
  have e : (l.drop i).take 4 = [l[i], l[i + 1], l[i + 2], l[i + 3]] := by
    apply List.ext_getElem?
    intro j
    rw [List.getElem?_take]
    match j with
    | 0 => rw [if_pos (by omega), List.getElem?_drop, List.getElem?_eq_getElem (by omega)]; rfl
    | 1 => rw [if_pos (by omega), List.getElem?_drop, List.getElem?_eq_getElem (by omega)]; rfl
    | 2 => rw [if_pos (by omega), List.getElem?_drop, List.getElem?_eq_getElem (by omega)]; rfl
    | 3 => rw [if_pos (by omega), List.getElem?_drop, List.getElem?_eq_getElem (by omega)]; rfl
    | j + 4 => rw [if_neg (by omega)]; rfl
  rw [n4, e]
  simp only [num]
  omega

theorem wal_get32.spec (hF : wal_get32.Ok P N) {S : St} {v : V} {l : List UInt8} (h : BytesAt S v l) (hl : l.length ≤ 4611686018427387904) {i : Int} (hi : -100 ≤ i ∧ i ≤ 4611686018427387904) {K : Int → Int → St → Prop}
    (h1 : ¬ (0 ≤ i ∧ i + 4 ≤ l.length) → K 0 161 S) (h2 : ∀ j : Nat, i = j → j + 4 ≤ l.length → K (n4 l j : Nat) 0 S) : CallA P (N Fn.wal_get32) [v, .int .i64 i] S (retT [.one (.int .u32), .one (.int .i64)] K) := by
  refine wal_get32.run hF (Join0.mid (fun S' => S' = S ∧ 0 ≤ i ∧ i + 4 ≤ l.length) (ifC_dec (fun hn => h1 (by omega)) fun hn => setI_mk (n := i + 4) (by rw [IntKind.wrap_i64]; omega) ⟨_, SlAt.len h, ifC_dec (fun hm => h1 (by omega)) fun hm => ⟨rfl, by omega, by omega⟩⟩) ?_)
  rintro S1 ⟨rfl, h0, hle⟩
  obtain ⟨j, rfl⟩ := Int.eq_ofNat_of_zero_le h0
  have hj : j + 4 ≤ l.length := by omega
  have hb := h2 j rfl hj
  rw [n4_eq hj] at hb
  have b0 : l[j].toNat < 256 := l[j].toNat_lt
  have b1 : l[j + 1].toNat < 256 := l[j + 1].toNat_lt
  have b2 : l[j + 2].toNat < 256 := l[j + 2].toNat_lt
  have b3 : l[j + 3].toNat < 256 := l[j + 3].toNat_lt
  have i1 : IntKind.i64.wrap (((j : Nat) : Int) + 1) = ((j + 1 : Nat) : Int) := by rw [IntKind.wrap_i64]; omega
  have i2 : IntKind.i64.wrap (((j : Nat) : Int) + 2) = ((j + 2 : Nat) : Int) := by rw [IntKind.wrap_i64]; omega
  have i3 : IntKind.i64.wrap (((j : Nat) : Int) + 3) = ((j + 3 : Nat) : Int) := by rw [IntKind.wrap_i64]; omega
  have wb : ∀ x : Nat, x < 256 → IntKind.u32.wrap ((x : Nat) : Int) = ((x : Nat) : Int) := fun x hx => by rw [IntKind.wrap_u32]; omega
  have s8 := shlu (k := 8) b1 (by omega)
  have s16 := shlu (k := 16) b2 (by omega)
  have s24 := shlu (k := 24) b3 (by omega)
  have o1 : intBits .or .u32 ((l[j].toNat : Nat) : Int) ((2 ^ 8 * l[j + 1].toNat : Nat) : Int) = ((l[j].toNat + 2 ^ 8 * l[j + 1].toNat : Nat) : Int) := by
    rw [or_u32 (by omega) (by omega), or_add (by omega)]
  have o2 : intBits .or .u32 ((l[j].toNat + 2 ^ 8 * l[j + 1].toNat : Nat) : Int) ((2 ^ 16 * l[j + 2].toNat : Nat) : Int) = ((l[j].toNat + 2 ^ 8 * l[j + 1].toNat + 2 ^ 16 * l[j + 2].toNat : Nat) : Int) := by
    rw [or_u32 (by omega) (by omega), or_add (by omega)]
  have o3 : intBits .or .u32 ((l[j].toNat + 2 ^ 8 * l[j + 1].toNat + 2 ^ 16 * l[j + 2].toNat : Nat) : Int) ((2 ^ 24 * l[j + 3].toNat : Nat) : Int) = ((l[j].toNat + 256 * l[j + 1].toNat + 65536 * l[j + 2].toNat + 16777216 * l[j + 3].toNat : Nat) : Int) := by
    rw [or_u32 (by omega) (by omega), or_add (by omega)]
  refine ifS_mk (SlAt.idx h (by omega)) ⟨_, BytesAt.get h (by omega), setI_mk (wb _ b0) (setI_mk i1 (ifS_mk (SlAt.idx h (by omega)) ⟨_, BytesAt.get h (by omega), setI_mk (wb _ b1) ⟨by omega, setI_mk s8 (setI_mk o1 (setI_mk i2 (ifS_mk (SlAt.idx h (by omega)) ⟨_, BytesAt.get h (by omega), setI_mk (wb _ b2) ⟨by omega, setI_mk s16 (setI_mk o2 (setI_mk i3 (ifS_mk (SlAt.idx h (by omega)) ⟨_, BytesAt.get h (by omega), setI_mk (wb _ b3) ⟨by omega, setI_mk s24 (setI_mk o3 hb)⟩⟩)))⟩⟩)))⟩⟩))⟩

theorem wal_get64.spec (hF : wal_get64.Ok P N) (h32 : wal_get32.Ok P N) {S : St} {v : V} {l : List UInt8} (h : BytesAt S v l) (hl : l.length ≤ 4611686018427387904) {i : Nat} (hi : i + 8 ≤ l.length) {K : Int → Int → St → Prop}
    (h2 : K ((n4 l i + 4294967296 * n4 l (i + 4) : Nat) : Int) 0 S) : CallA P (N Fn.wal_get64) [v, .int .i64 (i : Nat)] S (retT [.one (.int .u64), .one (.int .i64)] K) := by
  have lt4 : ∀ j, j + 4 ≤ l.length → n4 l j < 4294967296 := fun j hj => by
    have := num_lt ((l.drop j).take 4)
    have e : ((l.drop j).take 4).length = 4 := by rw [List.length_take, List.length_drop]; omega
    rw [e] at this
    exact this
  refine wal_get64.run hF (wal_get32.spec h32 h hl (by omega) (fun hn => absurd (by omega) hn) fun j hj hjl => ?_)
  have hji : j = i := by omega
  subst hji
  have l1 := lt4 j (by omega)
  have l2 := lt4 (j + 4) (by omega)
  refine ifC_ff rfl (setI_mk (n := ((j + 4 : Nat) : Int)) (by rw [IntKind.wrap_i64]; omega) (wal_get32.spec h32 h hl (by omega) (fun hn => absurd (by omega) hn) fun k hk hkl => ?_))
  have hkj : k = j + 4 := by omega
  subst hkj
  refine setI_mk (n := ((n4 l j : Nat) : Int)) (by rw [IntKind.wrap_u64]; omega) (setI_mk (n := ((n4 l (j + 4) : Nat) : Int)) (by rw [IntKind.wrap_u64]; omega) ⟨by omega, setI_mk (n := ((2 ^ 32 * n4 l (j + 4) : Nat) : Int)) ?_ (setI_mk (n := ((n4 l j + 2 ^ 32 * n4 l (j + 4) : Nat) : Int)) ?_ h2)⟩)
  · have e : min (Int.toNat (32 : Int)) (IntKind.bits .u64) = 32 := rfl
    rw [e, IntKind.wrap_u64]; omega
  · rw [or_u64 (by omega) (by omega), or_add (by omega)]

theorem wal_whole.spec (hF : wal_whole.Ok P N) (h32 : wal_get32.Ok P N) (hS : codec_Sum.Ok P N) {S : St} {v : V} {l : List UInt8} (h : BytesAt S v l) (hl : l.length < 4611686018427387904) (h4 : 4 ≤ l.length) {K : Bool → St → Prop}
    (hk : K (decide (((n4 l (l.length - 4) : Nat) : Int) = sumI (l.take (l.length - 4)))) S) : CallA P (N Fn.wal_whole) [v] S (retT [.one .bool] K) := by
  obtain ⟨v', e1, a1, _⟩ := bytes_first h (m := l.length - 4) (by omega)
  have i1 : IntKind.i64.wrap (((l.length : Nat) : Int) - 4) = ((l.length - 4 : Nat) : Int) := by rw [IntKind.wrap_i64]; omega
  refine wal_whole.run hF ⟨_, SlAt.len h, setI_mk i1 (wal_get32.spec h32 h (by omega) (by omega) (fun hn => absurd (by omega) hn) fun j hj hjl => ifC_tt rfl ⟨_, SlAt.len h, setI_mk i1 (ifS_mk e1 (codec_Sum.spec hS a1 (by rw [List.length_take]; omega) ?_))⟩)⟩
  have hjj : j = l.length - 4 := by omega
  subst hjj
  exact hk

end Go.Th.L
end

section
/- The document's disk: its small functions. -/
set_option linter.unusedSimpArgs false
set_option linter.unusedVariables false
set_option maxHeartbeats 1000000
namespace Go.Th.L
open Go Go.Th Go.Th.Pure
variable {P : Program} {N : Nat → Nat}

def nmE (l : List (Nm × Nat)) : List (List V) := l.map fun p => [.str p.1, .int .i64 (p.2 : Nat)]
abbrev NsAt (S : St) (v : V) (l : List (Nm × Nat)) : Prop := SlE S 2 v (nmE l)
section
variable {S : St} {v : V} {l : List (Nm × Nat)} (h : NsAt S v l) {j : Nat} (hj : j < l.length)
include h
include hj
end

end Go.Th.L
end

section
/- wal: heads and records read. -/
set_option linter.unusedSimpArgs false
set_option linter.unusedVariables false
set_option maxHeartbeats 1000000
namespace Go.Th.L
open Go Go.Th Go.Th.Pure
variable {P : Program} {N : Nat → Nat}

def wholeB (l : List UInt8) : Bool := decide (((n4 l (l.length - 4) : Nat) : Int) = sumI (l.take (l.length - 4)))
def n8 (l : List UInt8) (i : Nat) : Nat := n4 l i + 4294967296 * n4 l (i + 4)
def beginsB (l : List UInt8) : Int × Bool := if l.length < 16 ∨ wholeB (l.take 16) = false then (0, false) else (IntKind.i64.wrap ((n8 l 4 : Nat) : Int), decide (n4 l 0 = 1818326888))

theorem wal_begins.spec (hO : WalB P N) {S : St} {v : V} {l : List UInt8} (h : BytesAt S v l) (hl : l.length ≤ 4611686018427387000) {K : Int → Bool → St → Prop} (hk : K (beginsB l).1 (beginsB l).2 S) : CallA P (N Fn.wal_begins) [v] S (retT [.one (.int .i64), .one .bool] K) := by
  refine wal_begins.run hO.begins (Join0.mid (fun S' => S' = S ∧ 16 ≤ l.length ∧ wholeB (l.take 16) = true) ⟨_, SlAt.len h, ifC_dec (fun hs => ?_) (fun hs => ?_)⟩ ?_)
  · have e : beginsB l = (0, false) := by rw [beginsB, if_pos (.inl (by omega))]
    rw [e] at hk; exact hk
  · obtain ⟨v', e1, a1, _⟩ := bytes_first h (m := 16) (by omega)
    have lt : (l.take 16).length = 16 := by rw [List.length_take]; omega
    refine ifS_mk e1 (wal_whole.spec hO.whole hO.g32 hO.sum a1 (by omega) (by omega) ?_)
    show ifC (!wholeB (l.take 16)) _ _
    cases hw : wholeB (l.take 16) with
    | true => exact ifC_ff rfl ⟨rfl, by omega, rfl⟩
    | false =>
      have e : beginsB l = (0, false) := by rw [beginsB, if_pos (.inr hw)]
      rw [e] at hk
      exact ifC_tt rfl hk
  · rintro S1 ⟨rfl, h16, hwt⟩
    have e : beginsB l = (IntKind.i64.wrap ((n8 l 4 : Nat) : Int), decide (n4 l 0 = 1818326888)) := by
      rw [beginsB, if_neg]
      rintro (h1 | h1)
      · omega
      · rw [hwt] at h1; cases h1
    rw [e] at hk
    refine wal_get32.spec hO.g32 h (by omega) (by omega) (fun hn => absurd (by omega) hn) fun j hj hjl => ?_
    have hj0 : j = 0 := by omega
    subst hj0
    refine wal_get64.spec hO.g64 hO.g32 (i := 4) h (by omega) (by omega) (setI_mk rfl ?_)
    have e2 : decide (((n4 l 0 : Nat) : Int) = 1818326888) = decide (n4 l 0 = 1818326888) := by
      rcases Nat.decEq (n4 l 0) 1818326888 with h' | h'
      · rw [decide_eq_false h', decide_eq_false (by omega)]
      · rw [decide_eq_true h', decide_eq_true (by omega)]
    rw [e2]; exact hk

def recE (l : List (Int × List UInt8)) : List (List V) := l.map fun p => [.int .i64 p.1, .str p.2]
theorem recE_len (l : List (Int × List UInt8)) : (recE l).length = l.length := by simp [recE]
def aheadB (l : List UInt8) (seq : Int) : Bool := decide (n4 l 0 ≤ 65536) && decide (n4 l 0 + 16 ≤ l.length) && decide (((n8 l 4 : Nat) : Int) = seq) && wholeB (l.take (n4 l 0 + 16))
def recsB : Nat → List UInt8 → Int → List (Int × List UInt8) × Bool
  | 0, l, _ => ([], decide (l.length = 0))
  | f + 1, l, seq => if 16 ≤ l.length then (if aheadB l seq then let r := recsB f (l.drop (n4 l 0 + 16)) (seq + 1); ((seq, (l.drop 12).take (n4 l 0)) :: r.1, r.2) else ([], false)) else ([], decide (l.length = 0))

theorem bytes_from {S : St} {v : V} {b : List UInt8} (hv : BytesAt S v b) {m : Nat} (hm : m ≤ b.length) : ∃ v', sliceSlV 1 v (some (.int .i64 (m : Nat))) none none = some v' ∧ BytesAt S v' (b.drop m) := by
  obtain ⟨v', e, a, _⟩ := SlAt.sub hv (lo := some (.int .i64 (m : Nat))) (hi := none) (l := m) (h := b.length) (c := 0) (fun cap hc => bnds_l (l := m) (by omega)) hm (Nat.le_refl _)
  refine ⟨v', e, ?_⟩
  have e2 : ((bytesV b).drop (m * 1)).take ((b.length - m) * 1) = bytesV (b.drop m) := by
    rw [Nat.mul_one, Nat.mul_one, List.take_of_length_le (by rw [List.length_drop, bytesV_length]; omega)]
    simp [bytesV, List.map_drop]
  rw [e2] at a
  have : b.length - m = (b.drop m).length := by rw [List.length_drop]
  rw [this] at a
  exact a
theorem bytes_mid {S : St} {v : V} {b : List UInt8} (hv : BytesAt S v b) {x y : Nat} {k1 k2 : IntKind} (hxy : x ≤ y) (hy : y ≤ b.length) : ∃ v', sliceSlV 1 v (some (.int k1 (x : Nat))) (some (.int k2 (y : Nat))) none = some v' ∧ BytesAt S v' ((b.drop x).take (y - x)) := by
  obtain ⟨v', e, a, _⟩ := SlAt.sub hv (lo := some (.int k1 (x : Nat))) (hi := some (.int k2 (y : Nat))) (l := x) (h := y) (c := 0) (fun cap hc => bnds_lh hxy (by omega)) hxy hy
  refine ⟨v', e, ?_⟩
  have e2 : ((bytesV b).drop (x * 1)).take ((y - x) * 1) = bytesV ((b.drop x).take (y - x)) := by
    rw [Nat.mul_one, Nat.mul_one]
    simp [bytesV, List.map_drop, List.map_take]
  rw [e2] at a
  exact SlAt.bytes a

theorem wal_records.spec (hO : WalB P N) {S : St} (hw : S.Wf) {v : V} {l : List UInt8} (h : BytesAt S v l) (hl : l.length ≤ 4194304) (h16 : 16 ≤ l.length) {seq : Int} (hs : 0 ≤ seq ∧ seq ≤ 1000000000) {K : V → Bool → St → Prop}
    (hk : ∀ v' S', Built S S' 2 v' (recE (recsB l.length (l.drop 16) seq).1) → K v' (recsB l.length (l.drop 16) seq).2 S') : CallA P (N Fn.wal_records) [v, .int .i64 seq] S (retT [.one .any, .one .bool] K) := by
  obtain ⟨v0, e0, a0⟩ := bytes_from h (m := 16) h16
  refine wal_records.run hO.records (ifS_mk e0 (Loop3.ind (fun m x y z S' => ∃ (rest : List UInt8) (f : Nat) (done : List (Int × List UInt8)), m = rest.length ∧ BytesAt S x rest ∧ Built S S' 2 z (recE done) ∧ rest.length ≤ f ∧ y = seq + done.length ∧ 16 * done.length + rest.length ≤ l.length ∧
    recsB l.length (l.drop 16) seq = (done ++ (recsB f rest y).1, (recsB f rest y).2)) (l.drop 16).length ⟨l.drop 16, l.length, [], rfl, a0, Built.nil (Upd.refl hw []) 2, by rw [List.length_drop]; omega, by simp, by simp [List.length_drop], by simp⟩ ?_))
  rintro m x y z S1 ⟨rest, f, done, rfl, hx, hb, hf, rfl, hd, hr⟩
  have x1 : BytesAt S1 x rest := SlAt.grow hx hb.grow
  have lr : rest.length ≤ 4194304 := by omega
  refine ⟨_, SlAt.len x1, ifC_dec (fun hge => ?_) (fun hlt => ?_)⟩
  · have hge' : 16 ≤ rest.length := by omega
    obtain ⟨f', rfl⟩ : ∃ f', f = f' + 1 := ⟨f - 1, by omega⟩
    have bad : aheadB rest (seq + done.length) = false → K z false S1 := fun hbad => by
      have e : recsB (f' + 1) rest (seq + done.length) = ([], false) := by rw [recsB, if_pos hge', hbad]; rfl
      rw [e] at hr
      rw [hr] at hk
      simp only [List.append_nil] at hk
      exact hk _ _ hb
    refine wal_get32.spec hO.g32 x1 (by omega) (by omega) (fun hn => absurd (by omega) hn) fun j hj hjl => ?_
    have hj0 : j = 0 := by omega
    subst hj0
    refine wal_get64.spec hO.g64 hO.g32 (i := 4) x1 (by omega) (by omega) ?_
    generalize hn : n4 rest 0 = n
    have wn : ∀ k : Nat, k ≤ 65536 → IntKind.i64.wrap ((k : Nat) : Int) = ((k : Nat) : Int) := fun k hk => by rw [IntKind.wrap_i64]; omega
    have wn16 : n ≤ 65536 → IntKind.i64.wrap (((n : Nat) : Int) + 16) = ((n + 16 : Nat) : Int) := fun hk => by rw [IntKind.wrap_i64]; omega
    refine Join1.mid (fun z' S' => z' = z ∧ S' = S1 ∧ aheadB rest (seq + done.length) = true ∧ n ≤ 65536 ∧ n + 16 ≤ rest.length) (ifC_dec (fun h1 => bad (by simp only [aheadB, hn]; rw [decide_eq_false (show ¬ n ≤ 65536 by omega)]; simp)) fun h1 => ?_) ?_
    · have h1' : n ≤ 65536 := by omega
      refine setI_mk (wn n h1') (setI_mk (wn16 h1') ⟨_, SlAt.len x1, ifC_dec (fun h2 => bad (by simp only [aheadB, hn]; rw [decide_eq_false (show ¬ n + 16 ≤ rest.length by omega)]; simp)) fun h2 => setI_mk (n := seq + done.length) (by rw [IntKind.wrap_u64]; omega) ?_⟩)
      have h2' : n + 16 ≤ rest.length := by omega
      refine ifC_ndec (fun h3 => bad ?_) fun h3 => ?_
      · have h3' : ¬ ((n8 rest 4 : Nat) : Int) = seq + done.length := h3
        simp only [aheadB, hn]
        rw [decide_eq_false h3']; simp
      · obtain ⟨v2, e2, a2, _⟩ := bytes_first x1 (m := n + 16) h2'
        have lt : (rest.take (n + 16)).length = n + 16 := by rw [List.length_take]; omega
        refine setI_mk (wn n h1') (setI_mk (wn16 h1') (ifS_mk e2 (wal_whole.spec hO.whole hO.g32 hO.sum a2 (by omega) (by omega) ?_)))
        show ifC (!wholeB (rest.take (n + 16))) _ _
        have h3' : ((n8 rest 4 : Nat) : Int) = seq + done.length := h3
        cases hwt : wholeB (rest.take (n + 16)) with
        | false => exact ifC_tt rfl (bad (by simp only [aheadB, hn, hwt, Bool.and_false]))
        | true =>
          refine ifC_ff rfl ⟨rfl, rfl, ?_, h1', h2'⟩
          simp only [aheadB, hn, hwt, Bool.and_true]
          rw [decide_eq_true h1', decide_eq_true h2', decide_eq_true h3']; rfl
    · rintro z' S4 ⟨rfl, rfl, hah, h1, h2⟩
      obtain ⟨v3, e3, a3⟩ := bytes_mid x1 (x := 12) (y := 12 + n) (k1 := .i64) (k2 := .u32) (by omega) (by omega)
      rw [Nat.add_sub_cancel_left] at a3
      obtain ⟨v5, e5, a5⟩ := bytes_from hx (m := n + 16) h2
      have hdl : (recE done).length ≤ 262144 := by rw [recE_len]; omega
      refine setI_mk (n := ((12 + n : Nat) : Int)) (by rw [IntKind.wrap_u32]; omega) (ifS_mk e3 ⟨_, bytes_str a3, hb.push (e := [.int .i64 (seq + done.length), .str ((rest.drop 12).take n)]) rfl rfl (by omega) (by omega) fun v7 S7 b7 u7 t7 => setI_mk (wn n h1) (setI_mk (wn16 h1) (ifS_mk e5 (setI_mk (n := seq + done.length + 1) (by rw [IntKind.wrap_i64]; omega) ?_)))⟩)
      refine ⟨(rest.drop (n + 16)).length, by rw [List.length_drop]; omega, rest.drop (n + 16), f', done ++ [(seq + done.length, (rest.drop 12).take n)], rfl, a5, by simpa [recE] using b7, by rw [List.length_drop]; omega, by rw [List.length_append]; simp; omega, by rw [List.length_append, List.length_drop]; simp; omega, ?_⟩
      rw [hr]
      have e : recsB (f' + 1) rest (seq + done.length) = ((seq + done.length, (rest.drop 12).take n) :: (recsB f' (rest.drop (n + 16)) (seq + done.length + 1)).1, (recsB f' (rest.drop (n + 16)) (seq + done.length + 1)).2) := by
        rw [recsB, if_pos hge', if_pos hah, hn]
      rw [e]
      simp
  · refine ⟨_, SlAt.len x1, ?_⟩
    have hlt' : ¬ 16 ≤ rest.length := by omega
    have e : recsB f rest (seq + done.length) = ([], decide (rest.length = 0)) := by
      cases f with
      | zero => rfl
      | succ f => rw [recsB, if_neg hlt']
    rw [e] at hr
    rw [hr] at hk
    simp only [List.append_nil] at hk
    have e2 : decide (((rest.length : Nat) : Int) = 0) = decide (rest.length = 0) := by
      rcases Nat.decEq rest.length 0 with h' | h'
      · rw [decide_eq_false h', decide_eq_false (by omega)]
      · rw [decide_eq_true h', decide_eq_true (by omega)]
    rw [e2]; exact hk _ _ hb

end Go.Th.L
end

section
/- wal: the log in the store; its last number; no log. -/
set_option linter.unusedSimpArgs false
set_option linter.unusedVariables false
set_option maxHeartbeats 1000000
namespace Go.Th.L
open Go Go.Th Go.Th.Pure
variable {P : Program} {N : Nat → Nat}

structure SegR where
  name : Nm
  first : Int
  next : Int
  size : Int
  dirty : Bool
def segC (s : SegR) : List V := [.str s.name, .int .i64 s.first, .int .i64 s.next, .int .i64 s.size, .bool s.dirty]
structure LogR where
  segs : List SegR
  synced : Int
  names : Bool
  file : Int
structure LP where
  o : Nat
  sv : V
  gs : List Nat
def ptrE (gs : List Nat) : List (List V) := gs.map fun g => [V.ptr g 0]
def logC (d : Nat) (q : LP) (l : LogR) : List V := [.ptr d 0, q.sv, .int .i64 l.synced, .bool l.names, .int .i64 l.file]
structure LogIn (S : St) (G : List Nat) (d : Nat) (q : LP) (l : LogR) : Prop where
  obj : S.get q.o = some (.cells (logC d q l) true)
  sl : Acc S 0 1 q.sv q.gs.length (ptrE q.gs).flatten
  len : q.gs.length = l.segs.length
  seg : ∀ i (h1 : i < q.gs.length) (h2 : i < l.segs.length), S.get q.gs[i] = some (.cells (segC l.segs[i]) true)
  nod : q.gs.Nodup
  oG : q.o ∈ G
  sG : ∀ i ∈ q.sv.block, i ∈ G
  gG : ∀ i ∈ q.gs, i ∈ G
  lt : ∀ i ∈ G, i < S.next
  n1 : q.o ∉ q.gs
  n2 : q.o ∉ q.sv.block
  n3 : ∀ i ∈ q.sv.block, i ∉ q.gs
section
variable {S S' : St} {G : List Nat} {d : Nat} {q : LP} {l : LogR}
theorem LogIn.upd {X : List Nat} (h : LogIn S G d q l) (u : Upd X S S') (hX : ∀ i ∈ X, i ∉ G) : LogIn S' G d q l := by
  have nG : ∀ i ∈ G, i ∉ X := fun i hi hx => hX i hx hi
  exact { h with obj := u.get h.obj (nG _ h.oG), sl := h.sl.upd u fun i hi => nG i (h.sG i hi), seg := fun i h1 h2 => u.get (h.seg i h1 h2) (nG _ (h.gG _ (List.getElem_mem h1))), lt := fun i hi => Nat.lt_of_lt_of_le (h.lt i hi) u.le }
theorem LogIn.grow (h : LogIn S G d q l) (u : Grow S S') : LogIn S' G d q l := h.upd u (by simp)
theorem ptrE_len (gs : List Nat) : (ptrE gs).length = gs.length := by simp [ptrE]
theorem LogIn.sle (h : LogIn S G d q l) : SlE S 1 q.sv (ptrE q.gs) := ⟨by rw [ptrE_len]; exact h.sl.at_, fun e he => by
  obtain ⟨_, _, rfl⟩ := List.mem_map.1 he; rfl⟩
theorem LogIn.length (h : LogIn S G d q l) : lenV S 2 q.sv = some (.int .i64 l.segs.length) := by
  rw [h.sle.len, ptrE_len, h.len]
theorem LogIn.ix (h : LogIn S G d q l) {i : Nat} (hi : i < l.segs.length) : idxAddrV 1 q.sv (.int .i64 (i : Int)) = some (eltV 1 q.sv i 0) := h.sle.idx (by rw [ptrE_len, h.len]; exact hi)
theorem LogIn.ptr (h : LogIn S G d q l) {i : Nat} (hi : i < l.segs.length) : loadV S (eltV 1 q.sv i 0) = some (.ptr (q.gs[i]'(by rw [h.len]; exact hi)) 0) := by
  rw [h.sle.get (by rw [ptrE_len, h.len]; exact hi) (by omega)]
  simp [ptrE]
theorem LogIn.at (h : LogIn S G d q l) {i : Nat} (hi : i < l.segs.length) : S.get (q.gs[i]'(by rw [h.len]; exact hi)) = some (.cells (segC l.segs[i]) true) := h.seg i _ hi
end

def lastR (l : LogR) : Int := match l.segs.getLast? with
  | none => 0
  | some s => s.next - 1
theorem lastR_at {l : LogR} (h : 0 < l.segs.length) : lastR l = (l.segs[l.segs.length - 1]).next - 1 := by
  unfold lastR
  rw [List.getLast?_eq_getElem?, List.getElem?_eq_getElem (by omega)]

theorem wal_Log_Last.spec (hF : wal_Log_Last.Ok P N) {S : St} {G : List Nat} {d : Nat} {q : LP} {l : LogR} (h : LogIn S G d q l) (hl : l.segs.length ≤ 1000000) (hb : ∀ s ∈ l.segs, 0 ≤ s.next ∧ s.next ≤ 4611686018427387904) {K : Int → St → Prop} (hk : K (lastR l) S) :
    CallA P (N Fn.wal_Log_Last) [.ptr q.o 0] S (retT [.one (.int .i64)] K) := by
  refine wal_Log_Last.run hF (Join0.mid (fun S' => S' = S ∧ 0 < l.segs.length) ⟨false, rfl, ifC_ff rfl ⟨rfl, ifS_mk (a := .ptr q.o 1) rfl (ifS_mk (ld h.obj rfl) ⟨_, h.length, ifC_dec (fun h0 => ?_) (fun h0 => ⟨rfl, by omega⟩)⟩)⟩⟩ ?_)
  · have : l.segs = [] := List.length_eq_zero_iff.mp (by omega)
    have e : lastR l = 0 := by simp [lastR, this]
    rw [e] at hk; exact hk
  · rintro S1 ⟨rfl, hpos⟩
    rw [lastR_at hpos] at hk
    have hn := hb _ (List.getElem_mem (show l.segs.length - 1 < l.segs.length by omega))
    refine ⟨rfl, ifS_mk (a := .ptr q.o 1) rfl (ifS_mk (ld h.obj rfl) ⟨rfl, ifS_mk (a := .ptr q.o 1) rfl (ifS_mk (ld h.obj rfl) ⟨_, h.length, setI_mk (n := ((l.segs.length - 1 : Nat) : Int)) (by rw [IntKind.wrap_i64]; omega) (ifS_mk (h.ix (by omega)) (ifS_mk (h.ptr (by omega)) ⟨rfl, ifS_mk rfl ⟨_, ld (h.at (by omega)) rfl, setI_mk ?_ hk⟩⟩))⟩)⟩)⟩
    rw [IntKind.wrap_i64]; omega

end Go.Th.L
end

section
/- wal: a log on its disk; Sync. -/
set_option linter.unusedSimpArgs false
set_option linter.unusedVariables false
set_option maxHeartbeats 1000000
namespace Go.Th.L
open Go Go.Th Go.Th.Pure
variable {P : Program} {N : Nat → Nat}

structure LD (S0 S : St) (G D B : List Nat) (d : Nat) (q : LP) (l : LogR) (r : DiskR) : Prop where
  lg : LogIn S G d q l
  dh : DH S D B d r
  g : Grow S0 S
  fG : ∀ i ∈ G, S0.next ≤ i
  fD : ∀ i ∈ D, S0.next ≤ i
  ap : ∀ i ∈ G, i ∉ D ∧ i ∉ B
section
variable {S0 S S' : St} {G D B D1 B1 : List Nat} {d : Nat} {q : LP} {l l' : LogR} {r r1 : DiskR}
theorem LD.wf (h : LD S0 S G D B d q l r) : S.Wf := h.g.wf
theorem LD.grow (h : LD S0 S G D B d q l r) (u : Grow S S') : LD S0 S' G D B d q l r := ⟨h.lg.grow u, h.dh.grow u, h.g.trans u, h.fG, h.fD, h.ap⟩
theorem LD.disk (h : LD S0 S G D B d q l r) (k : DH S' D1 B1 d r1) (f : Foot D B S D1 B1 S') : LD S0 S' G D1 B1 d q l r1 := by
  have hl := h.g.le
  refine ⟨h.lg.upd f.2.2 fun i hi hG => (h.ap i hG).1 hi, k, h.g.after f.2.2 fun i hi => .inl (h.fD i hi), h.fG, fun i hi => ?_, fun i hi => ⟨fun hD => ?_, fun hB => ?_⟩⟩
  · rcases f.1 i hi with h' | h'
    · exact h.fD i h'
    · omega
  · rcases f.1 i hD with h' | h'
    · exact (h.ap i hi).1 h'
    · have := h.lg.lt i hi; omega
  · rcases f.2.1 i hB with h' | h'
    · exact (h.ap i hi).2 h'
    · have := h.lg.lt i hi; omega
theorem LD.log {X : List Nat} (h : LD S0 S G D B d q l r) (k : LogIn S' G d q l') (u : Upd X S S') (hX : ∀ i ∈ X, i ∈ G) : LD S0 S' G D B d q l' r :=
  ⟨k, h.dh.upd u (fun i hi => (h.ap i (hX i hi)).1) (fun i hi => (h.ap i (hX i hi)).2), h.g.after u fun i hi => .inl (h.fG i (hX i hi)), h.fG, h.fD, h.ap⟩

theorem LogIn.setSeg (h : LogIn S G d q l) {i : Nat} (hi : i < l.segs.length) {s : SegR} (u : Upd [q.gs[i]'(by rw [h.len]; exact hi)] S S') (g : S'.get (q.gs[i]'(by rw [h.len]; exact hi)) = some (.cells (segC s) true)) : LogIn S' G d q { l with segs := l.segs.set i s } := by
  have hgi : i < q.gs.length := by rw [h.len]; exact hi
  have hm : q.gs[i] ∈ q.gs := List.getElem_mem hgi
  refine { h with obj := u.get h.obj fun hx => ?_, sl := h.sl.upd u fun j hj hx => ?_, len := by simpa using h.len, seg := fun j h1 h2 => ?_, lt := fun j hj => Nat.lt_of_lt_of_le (h.lt j hj) u.le }
  · simp only [List.mem_singleton] at hx
    exact h.n1 (hx ▸ hm)
  · simp only [List.mem_singleton] at hx
    subst hx
    exact h.n3 _ hj hm
  · simp only [List.length_set] at h2
    by_cases e : i = j
    · subst e
      simp only [List.getElem_set_self]
      exact g
    · rw [List.getElem_set_ne e]
      refine u.get (h.seg j h1 h2) fun hx => ?_
      simp only [List.mem_singleton] at hx
      have := (List.getElem_inj h.nod).1 hx
      omega
theorem LogIn.setObj (h : LogIn S G d q l) (u : Upd [q.o] S S') (g : S'.get q.o = some (.cells (logC d q l') true)) (e : l'.segs = l.segs) : LogIn S' G d q l' := by
  refine { h with obj := g, sl := h.sl.upd u fun j hj hx => ?_, len := by rw [e]; exact h.len, seg := fun j h1 h2 => ?_, lt := fun j hj => Nat.lt_of_lt_of_le (h.lt j hj) u.le }
  · simp only [List.mem_singleton] at hx
    subst hx
    exact h.n2 hj
  · simp only [e] at h2 ⊢
    refine u.get (h.seg j h1 h2) fun hx => ?_
    simp only [List.mem_singleton] at hx
    exact h.n1 (hx ▸ List.getElem_mem h1)
end

def Mvd (G D B : List Nat) (S : St) (D' B' : List Nat) (S' : St) : Prop := Upd (G ++ D) S S' ∧ (∀ i ∈ D', i ∈ D ∨ S.next ≤ i) ∧ ∀ i ∈ B', i ∈ B ∨ S.next ≤ i
section
variable {S S1 S2 : St} {G D B D1 D2 B1 B2 X : List Nat}
theorem Mvd.refl (hw : S.Wf) (G D B : List Nat) : Mvd G D B S D B S := ⟨Upd.refl hw _, fun i hi => .inl hi, fun i hi => .inl hi⟩
theorem Mvd.disk (m : Mvd G D B S D1 B1 S1) (f : Foot D1 B1 S1 D2 B2 S2) : Mvd G D B S D2 B2 S2 := by
  have hl := m.1.le
  refine ⟨m.1.after f.2.2 fun i hi => ?_, fun i hi => ?_, fun i hi => ?_⟩
  · rcases m.2.1 i hi with h | h
    · exact .inr (List.mem_append_right _ h)
    · exact .inl h
  · rcases f.1 i hi with h | h
    · exact m.2.1 i h
    · exact .inr (by omega)
  · rcases f.2.1 i hi with h | h
    · exact m.2.2 i h
    · exact .inr (by omega)
theorem Mvd.log (m : Mvd G D B S D1 B1 S1) (u : Upd X S1 S2) (hX : ∀ i ∈ X, i ∈ G) : Mvd G D B S D1 B1 S2 := ⟨m.1.after u fun i hi => .inr (List.mem_append_left _ (hX i hi)), m.2⟩
theorem Mvd.grow (m : Mvd G D B S D1 B1 S1) (u : Grow S1 S2) : Mvd G D B S D1 B1 S2 := ⟨m.1.after u (by simp), m.2⟩
def Mvg (G D B : List Nat) (S : St) (G' D' B' : List Nat) (S' : St) : Prop := Mvd G D B S D' B' S' ∧ ∀ i ∈ G', i ∈ G ∨ S.next ≤ i
theorem Mvd.g (m : Mvd G D B S D1 B1 S1) : Mvg G D B S G D1 B1 S1 := ⟨m, fun i hi => .inl hi⟩
theorem Mvg.trans {G1 G2 : List Nat} (m : Mvg G D B S G1 D1 B1 S1) (k : Mvg G1 D1 B1 S1 G2 D2 B2 S2) : Mvg G D B S G2 D2 B2 S2 := by
  have hl := m.1.1.le
  refine ⟨⟨m.1.1.after k.1.1 fun i hi => ?_, fun i hi => ?_, fun i hi => ?_⟩, fun i hi => ?_⟩
  · rcases List.mem_append.mp hi with h | h
    · rcases m.2 i h with h | h
      · exact .inr (List.mem_append_left _ h)
      · exact .inl h
    · rcases m.1.2.1 i h with h | h
      · exact .inr (List.mem_append_right _ h)
      · exact .inl h
  · rcases k.1.2.1 i hi with h | h
    · exact m.1.2.1 i h
    · exact .inr (by omega)
  · rcases k.1.2.2 i hi with h | h
    · exact m.1.2.2 i h
    · exact .inr (by omega)
  · rcases k.2 i hi with h | h
    · exact m.2 i h
    · exact .inr (by omega)
theorem Mvd.trans (m : Mvd G D B S D1 B1 S1) (k : Mvd G D1 B1 S1 D2 B2 S2) : Mvd G D B S D2 B2 S2 := (m.g.trans k.g).1
def Opn (D B : List Nat) (S : St) (G' D' B' : List Nat) (S' : St) : Prop := Upd D S S' ∧ (∀ i ∈ D', i ∈ D ∨ S.next ≤ i) ∧ (∀ i ∈ B', i ∈ B ∨ S.next ≤ i) ∧ ∀ i ∈ G', S.next ≤ i
theorem Mvg.opn {G2 : List Nat} (m : Mvg G D1 B1 S1 G2 D2 B2 S2) (u : Upd D S S1) (hD : ∀ i ∈ D1, i ∈ D ∨ S.next ≤ i) (hB : ∀ i ∈ B1, i ∈ B ∨ S.next ≤ i) (hG : ∀ i ∈ G, S.next ≤ i) : Opn D B S G2 D2 B2 S2 := by
  have hl := u.le
  refine ⟨u.after m.1.1 fun i hi => ?_, fun i hi => ?_, fun i hi => ?_, fun i hi => ?_⟩
  · rcases List.mem_append.mp hi with h | h
    · exact .inl (hG i h)
    · rcases hD i h with h | h
      · exact .inr h
      · exact .inl h
  · rcases m.1.2.1 i hi with h | h
    · exact hD i h
    · exact .inr (by omega)
  · rcases m.1.2.2 i hi with h | h
    · exact hB i h
    · exact .inr (by omega)
  · rcases m.2 i hi with h | h
    · exact hG i h
    · omega
end

end Go.Th.L
end

section
/- wal: Sync. -/
set_option linter.unusedSimpArgs false
set_option linter.unusedVariables false
set_option maxHeartbeats 1000000
namespace Go.Th.L
open Go Go.Th Go.Th.Pure
variable {P : Program} {N : Nat → Nat}

def syncSegs : List SegR → DiskR → Int × List SegR × DiskR
  | [], r => (0, [], r)
  | s :: t, r => if s.dirty = true then (if (syncR r s.name).1 = 0 then ((syncSegs t (syncR r s.name).2).1, { s with dirty := false } :: (syncSegs t (syncR r s.name).2).2.1, (syncSegs t (syncR r s.name).2).2.2) else ((syncR r s.name).1, s :: t, (syncR r s.name).2))
    else ((syncSegs t r).1, s :: (syncSegs t r).2.1, (syncSegs t r).2.2)
def logSyncR (l : LogR) (r : DiskR) : Int × LogR × DiskR :=
  let a := syncSegs l.segs r
  let l1 := { l with segs := a.2.1 }
  if a.1 = 0 then (if l.names then (if (syncDirR a.2.2).1 = 0 then (0, { l1 with names := false, synced := lastR l1 }, (syncDirR a.2.2).2) else ((syncDirR a.2.2).1, l1, (syncDirR a.2.2).2)) else (0, { l1 with synced := lastR l1 }, a.2.2)) else (a.1, l1, a.2.2)

theorem prw {α β : Type} (p : α × β) : p = (p.1, p.2) := rfl
structure WalF (P : Program) (N : Nat → Nat) : Prop where
  b : WalB P N
  d : DiskFv P N
  last : wal_Log_Last.Ok P N
  sync : wal_Log_Sync.Ok P N
  begin_ : wal_Log_begin.Ok P N
  lay : wal_Log_lay.Ok P N
  append : wal_Log_Append.Ok P N
  settle : wal_Log_settle.Ok P N
  open_ : wal_Open.Ok P N
  cut : wal_Log_Cut.Ok P N

def SegsOk (l : List SegR) : Prop := ∀ s ∈ l, 0 ≤ s.next ∧ s.next ≤ 4611686018427387904

theorem wal_Log_Sync.spec (hO : WalF P N) {S0 S : St} {G D B : List Nat} {d : Nat} {q : LP} {l : LogR} {r : DiskR} (h : LD S0 S G D B d q l r) {M : Nat} (hok : OkR M r) (hl : l.segs.length ≤ 1000) (hM : M + l.segs.length + 1 ≤ 1000000) (hs : SegsOk l.segs) {K : Int → St → Prop}
    (hk : ∀ S' D' B', LD S0 S' G D' B' d q (logSyncR l r).2.1 (logSyncR l r).2.2 → OkR (M + l.segs.length + 1) (logSyncR l r).2.2 → Mvd G D B S D' B' S' → K (logSyncR l r).1 S') : CallA P (N Fn.wal_Log_Sync) [.ptr q.o 0] S (retT [.one (.int .i64)] K) := by
  refine wal_Log_Sync.run hO.sync ⟨false, rfl, ifC_ff rfl ⟨rfl, ifS_mk (a := .ptr q.o 1) rfl (ifS_mk (ld h.lg.obj rfl) ⟨_, h.lg.length, ?_⟩)⟩⟩
  refine Loop1.ind (fun m z S' => ∃ (i : Nat) (D1 B1 : List Nat) (done todo : List SegR) (r1 : DiskR), z = i ∧ i + m = l.segs.length ∧ done.length = i ∧ todo.length = m ∧ LD S0 S' G D1 B1 d q { l with segs := done ++ todo } r1 ∧ OkR (M + i) r1 ∧ SegsOk (done ++ todo) ∧ Mvd G D B S D1 B1 S' ∧
    syncSegs l.segs r = ((syncSegs todo r1).1, done ++ (syncSegs todo r1).2.1, (syncSegs todo r1).2.2)) l.segs.length ⟨0, D, B, [], l.segs, r, rfl, by omega, rfl, rfl, h, hok, hs, Mvd.refl h.wf G D B, by simp⟩ ?_
  rintro m z S1 ⟨i, D1, B1, done, todo, r1, rfl, hi, hdl, htl, h1, ok1, so1, mv1, he⟩
  refine ifC_dec (fun hlt => ?_) (fun hge => ?_)
  · cases todo with
    | nil => simp at htl; omega
    | cons s t =>
      have hin : i < (done ++ s :: t).length := by rw [List.length_append, List.length_cons]; omega
      have hget : (done ++ s :: t)[i] = s := by
        rw [List.getElem_append_right (by omega)]
        simp [hdl]
      have hat := h1.lg.at (i := i) hin
      simp only [hget] at hat
      have nxt : ∀ {S' : St} {D' B' : List Nat} {s' : SegR} {r' : DiskR}, LD S0 S' G D' B' d q { l with segs := (done ++ [s']) ++ t } r' → OkR (M + (i + 1)) r' → s'.next = s.next → Mvd G D B S D' B' S' → (syncSegs (s :: t) r1 = ((syncSegs t r').1, s' :: (syncSegs t r').2.1, (syncSegs t r').2.2)) →
          ∃ m', m' < m ∧ ∃ (i' : Nat) (D1 B1 : List Nat) (done todo : List SegR) (r1 : DiskR), ((i + 1 : Nat) : Int) = i' ∧ i' + m' = l.segs.length ∧ done.length = i' ∧ todo.length = m' ∧ LD S0 S' G D1 B1 d q { l with segs := done ++ todo } r1 ∧ OkR (M + i') r1 ∧ SegsOk (done ++ todo) ∧ Mvd G D B S D1 B1 S' ∧
            syncSegs l.segs r = ((syncSegs todo r1).1, done ++ (syncSegs todo r1).2.1, (syncSegs todo r1).2.2) := by
        intro S' D' B' s' r' a1 a2 a3 am a4
        simp only [List.length_cons] at htl
        refine ⟨m - 1, by omega, i + 1, D', B', done ++ [s'], t, r', rfl, by omega, by simp [hdl], by omega, a1, a2, fun y hy => ?_, am, ?_⟩
        · simp only [List.append_assoc, List.singleton_append, List.mem_append, List.mem_cons] at hy
          rcases hy with hy | rfl | hy
          · exact so1 y (by simp [hy])
          · rw [a3]; exact so1 s (by simp)
          · exact so1 y (by simp [hy])
        · rw [he, a4]; simp
      have wi : IntKind.i64.wrap ((i : Int) + 1) = ((i + 1 : Nat) : Int) := by rw [IntKind.wrap_i64]; omega
      refine ifS_mk (h1.lg.ix hin) (ifS_mk (h1.lg.ptr hin) ⟨rfl, ifS_mk rfl ⟨_, ld hat rfl, ?_⟩⟩)
      cases hd : s.dirty with
      | false =>
        refine ifC_tt rfl (setI_mk wi (nxt (s' := s) (r' := r1) (by simpa using h1) (ok1.mono (by omega)) rfl mv1 ?_))
        rw [syncSegs, if_neg (by rw [hd]; simp)]
      | true =>
        refine ifC_ff rfl ⟨rfl, ifS_mk (a := .ptr q.o 0) rfl (ifS_mk (ld h1.lg.obj rfl) ⟨rfl, ifS_mk rfl ⟨_, ld hat rfl, DH.sync hO.d h1.wf h1.dh ok1 (by omega) (prw _) fun S2 D2 B2 h2 f2 => ?_⟩⟩)⟩
        have L2 := h1.disk h2 f2
        have mv2 := mv1.disk f2
        have ok2 := syncR_ok ok1 s.name
        refine ifC_ndec (fun hne => ?_) (fun hz => ?_)
        · have e1 : syncSegs (s :: t) r1 = ((syncR r1 s.name).1, s :: t, (syncR r1 s.name).2) := by rw [syncSegs, if_pos hd, if_neg hne]
          rw [e1] at he
          have e2 : logSyncR l r = ((syncR r1 s.name).1, { l with segs := done ++ s :: t }, (syncR r1 s.name).2) := by
            simp only [logSyncR, he]
            rw [if_neg hne]
          rw [e2] at hk
          exact hk S2 D2 B2 L2 (ok2.mono (by omega)) mv2
        · have hat2 := L2.lg.at (i := i) hin
          simp only [hget] at hat2
          refine ⟨rfl, ifS_mk rfl (st_mk L2.wf hat2 rfl (by simp [segC, V.cells]) (by simp [V.cells, V.one]) fun S3 u3 m3 n3 => setI_mk wi (nxt (D' := D2) (B' := B2) (s' := { s with dirty := false }) (r' := (syncR r1 s.name).2) ?_ (ok2.mono (by omega)) rfl (mv2.log u3 fun j hj => ?_) ?_))⟩
          · have k3 := L2.lg.setSeg (i := i) hin (s := { s with dirty := false }) u3 (by rw [m3]; simp [segC, over, V.cells])
            have e3 : (done ++ s :: t).set i { s with dirty := false } = (done ++ [{ s with dirty := false }]) ++ t := by
              rw [List.set_append_right _ _ (by omega)]
              simp [hdl]
            simp only [e3] at k3
            refine L2.log k3 u3 fun j hj => ?_
            simp only [List.mem_singleton] at hj
            subst hj
            exact L2.lg.gG _ (List.getElem_mem _)
          · simp only [List.mem_singleton] at hj
            subst hj
            exact L2.lg.gG _ (List.getElem_mem _)
          · rw [syncSegs, if_pos hd, if_pos hz]
  · have hm0 : m = 0 := by omega
    subst hm0
    have ht : todo = [] := List.length_eq_zero_iff.mp htl
    subst ht
    simp only [syncSegs, List.append_nil] at he
    simp only [List.append_nil] at h1 so1
    have hdn : done.length ≤ 1000 := by omega
    have fin : ∀ {S' : St} {D' B' : List Nat} {l' : LogR} {r' : DiskR}, Mvd G D B S D' B' S' → LD S0 S' G D' B' d q l' r' → OkR (M + l.segs.length + 1) r' → l'.segs = done → logSyncR l r = (0, { l' with synced := lastR l' }, r') →
        CallA P (N Fn.wal_Log_Last) [.ptr q.o 0] S' (retT [(.one (.int .i64))] fun (x56 : Int) (S7 : St) => nilV (V.ptr q.o 0) = some (V.ptr q.o 0) ∧ ifS (fieldAddrV 2 (V.ptr q.o 0)) fun x58 => ifS (storeV S7 1 x58 (V.int .i64 x56)) fun S8 => K 0 S8) := by
      intro S' D' B' l' r' a0 a1 a2 a3 a4
      refine wal_Log_Last.spec hO.last a1.lg (by rw [a3]; omega) (by rw [a3]; exact so1) ⟨rfl, ifS_mk (a := .ptr q.o 2) rfl (st_mk a1.wf a1.lg.obj rfl (by simp [logC, V.cells]) (by simp [V.cells, V.one]) fun S8 u8 m8 n8 => ?_)⟩
      rw [a4] at hk
      refine hk S8 D' B' (a1.log (a1.lg.setObj (l' := { l' with synced := lastR l' }) u8 (by rw [m8]; rfl) rfl) u8 fun j hj => ?_) a2 (a0.log u8 fun j hj => ?_)
      · simp only [List.mem_singleton] at hj
        subst hj; exact a1.lg.oG
      · simp only [List.mem_singleton] at hj
        subst hj; exact a1.lg.oG
    refine Join0.mid (fun S' => ∃ (D' B' : List Nat) (l' : LogR) (r' : DiskR), Mvd G D B S D' B' S' ∧ LD S0 S' G D' B' d q l' r' ∧ OkR (M + l.segs.length + 1) r' ∧ l'.segs = done ∧ logSyncR l r = (0, { l' with synced := lastR l' }, r')) ⟨rfl, ifS_mk (a := .ptr q.o 3) rfl ⟨_, ld h1.lg.obj rfl, ?_⟩⟩ ?_
    · show ifC l.names _ _
      cases hn : l.names with
      | false =>
        refine ifC_ff rfl ⟨D1, B1, { l with segs := done }, r1, mv1, h1, ok1.mono (by omega), rfl, ?_⟩
        simp only [logSyncR, he, if_true, hn, Bool.false_eq_true, if_false]
      | true =>
        refine ifC_tt rfl ⟨rfl, ifS_mk (a := .ptr q.o 0) rfl (ifS_mk (ld h1.lg.obj rfl) (DH.syncDir hO.d h1.wf h1.dh ok1 (by omega) (prw _) fun S5 D5 B5 h5 f5 => ?_))⟩
        have L5 := h1.disk h5 f5
        have mv5 := mv1.disk f5
        have ok5 := syncDirR_ok ok1
        refine ifC_ndec (fun hne => ?_) (fun hz => ?_)
        · have e2 : logSyncR l r = ((syncDirR r1).1, { l with segs := done }, (syncDirR r1).2) := by
            simp only [logSyncR, he, if_true, hn]
            rw [if_neg hne]
          rw [e2] at hk
          exact hk S5 D5 B5 L5 (ok5.mono (by omega)) mv5
        · refine ⟨rfl, ifS_mk (a := .ptr q.o 3) rfl (st_mk L5.wf L5.lg.obj rfl (by simp [logC, V.cells]) (by simp [V.cells, V.one]) fun S6 u6 m6 n6 => ⟨D5, B5, { l with segs := done, names := false }, (syncDirR r1).2, mv5.log u6 (fun j hj => ?_), L5.log (L5.lg.setObj (l' := { l with segs := done, names := false }) u6 (by rw [m6]; rfl) rfl) u6 fun j hj => ?_, ok5.mono (by omega), rfl, ?_⟩)⟩
          · simp only [List.mem_singleton] at hj
            subst hj; exact L5.lg.oG
          · simp only [List.mem_singleton] at hj
            subst hj; exact L5.lg.oG
          · simp only [logSyncR, he, if_true, hn, hz]
            rfl
    · rintro S4 ⟨D', B', l', r', a0, a1, a2, a3, a4⟩
      exact fin a0 a1 a2 a3 a4

end Go.Th.L
end

section
/- wal: a record laid into the last segment. -/
set_option linter.unusedSimpArgs false
set_option linter.unusedVariables false
set_option maxHeartbeats 1000000
namespace Go.Th.L
open Go Go.Th Go.Th.Pure
variable {P : Program} {N : Nat → Nat}

def moreR (s : SegR) (n : Nat) : SegR := { s with size := s.size + n, next := s.next + 1, dirty := true }
def layR (l : LogR) (r : DiskR) (seq : Int) (t : Nm) : Int × LogR × DiskR :=
  match l.segs[l.segs.length - 1]? with
  | none => (0, l, r)
  | some s => if (appendR r s.name (laidB seq t)).1 = 0 then (0, { l with segs := l.segs.set (l.segs.length - 1) (moreR s (laidB seq t).length) }, (appendR r s.name (laidB seq t)).2) else ((appendR r s.name (laidB seq t)).1, l, (appendR r s.name (laidB seq t)).2)
theorem laidB_len (x : Int) (s : Nm) : (laidB x s).length = s.length + 16 := by simp [laidB, sealB, le_length]; omega

theorem wal_Log_lay.spec (hO : WalF P N) {S0 S : St} {G D B : List Nat} {d : Nat} {q : LP} {l : LogR} {r : DiskR} (h : LD S0 S G D B d q l r) {M : Nat} (hok : OkR M r) (hM : M ≤ 1000000) (hl : 0 < l.segs.length ∧ l.segs.length ≤ 1000000) (hs : SegsOk l.segs) (hz : ∀ s ∈ l.segs, 0 ≤ s.size ∧ s.size ≤ 1099511627776)
    {seq : Int} (hq : 0 ≤ seq ∧ seq < 18446744073709551616) {t : Nm} (ht : t.length ≤ 65536) {K : Int → St → Prop}
    (hk : ∀ S' D' B', LD S0 S' G D' B' d q (layR l r seq t).2.1 (layR l r seq t).2.2 → Mvd G D B S D' B' S' → K (layR l r seq t).1 S') : CallA P (N Fn.wal_Log_lay) [.ptr q.o 0, .agg [.int .i64 seq, .str t]] S (retT [.one (.int .i64)] K) := by
  have hi : l.segs.length - 1 < l.segs.length := by omega
  have hgs : l.segs[l.segs.length - 1]? = some l.segs[l.segs.length - 1] := List.getElem?_eq_getElem hi
  generalize hn : l.segs.length - 1 = n at hi hgs
  have hmem := List.getElem_mem hi
  refine wal_Log_lay.run hO.lay (newS_mk h.wf fun S1 g1 m1 n1 => ?_)
  have h1 := h.grow g1
  have i1 : IntKind.i64.wrap (((l.segs.length : Nat) : Int) - 1) = ((n : Nat) : Int) := by rw [IntKind.wrap_i64]; omega
  refine ⟨rfl, ifS_mk (a := .ptr q.o 1) rfl (ifS_mk (ld h1.lg.obj rfl) ⟨rfl, ifS_mk (a := .ptr q.o 1) rfl (ifS_mk (ld h1.lg.obj rfl) ⟨_, h1.lg.length, setI_mk i1 (ifS_mk (h1.lg.ix hi) (ifS_mk (h1.lg.ptr hi) ⟨_, _, ldN m1 (by simp) rfl, ?_⟩))⟩)⟩)⟩
  refine wal_laid.spec hO.b h1.wf hq ht fun v2 S2 b2 => ?_
  have h2 := h1.grow b2.grow
  have hat2 := h2.lg.at hi
  refine ⟨rfl, ifS_mk (a := .ptr q.o 0) rfl (ifS_mk (ld h2.lg.obj rfl) ⟨rfl, ifS_mk rfl ⟨_, ld hat2 rfl, ?_⟩⟩)⟩
  have e0 : layR l r seq t = if (appendR r l.segs[n].name (laidB seq t)).1 = 0 then (0, { l with segs := l.segs.set n (moreR l.segs[n] (laidB seq t).length) }, (appendR r l.segs[n].name (laidB seq t)).2) else ((appendR r l.segs[n].name (laidB seq t)).1, l, (appendR r l.segs[n].name (laidB seq t)).2) := by
    simp only [layR, hn, hgs]
  refine DH.append hO.d h2.wf h2.dh hok hM b2.at_ (by rw [laidB_len]; omega) (prw _) fun S3 D3 B3 h3 f3 => ?_
  have L3 := h2.disk h3 f3
  have hv2 : ∀ i ∈ v2.block, i ∉ D := fun i hi hD => by have := b2.from i hi; have := h1.dh.ltD i hD; omega
  have U3 : Mvd G D B S D3 B3 S3 := (((Mvd.refl h.wf G D B).grow g1).grow b2.grow).disk f3
  refine ifC_ndec (fun hne => ?_) (fun hz0 => ?_)
  · rw [if_neg hne] at e0
    rw [e0] at hk
    exact hk S3 D3 B3 L3 U3
  · rw [if_pos hz0] at e0
    rw [e0] at hk
    have hat3 := L3.lg.at hi
    have hsz := hz _ hmem
    have hnx := hs _ hmem
    have ll := laidB_len seq t
    have hbv : BytesAt S3 v2 (laidB seq t) := SlAt.upd b2.at_ f3.2.2 hv2
    refine ⟨rfl, ifS_mk rfl ⟨_, ld hat3 rfl, _, SlAt.len hbv, setI_mk (n := l.segs[n].size + (laidB seq t).length) (by rw [IntKind.wrap_i64]; omega) ⟨rfl, ifS_mk rfl (st_mk L3.wf hat3 rfl (by simp [segC, V.cells]) (by simp [V.cells, V.one]) fun S4 u4 m4 n4 => ?_)⟩⟩⟩
    simp only [segC, over, V.cells] at m4
    refine ⟨rfl, ifS_mk rfl ⟨_, ld m4 rfl, setI_mk (n := l.segs[n].next + 1) (by rw [IntKind.wrap_i64]; omega) ⟨rfl, ifS_mk rfl (st_mk u4.wf m4 rfl (by simp [V.cells]) (by simp [V.cells, V.one]) fun S5 u5 m5 n5 => ⟨rfl, ifS_mk rfl ?_⟩)⟩⟩⟩
    simp only [over, V.cells] at m5
    refine st_mk u5.wf m5 rfl (by simp [V.cells]) (by simp [V.cells, V.one]) fun S6 u6 m6 n6 => ?_
    simp only [over, V.cells] at m6
    have u36 := (u4.trans u5).trans u6
    have hin : ∀ j ∈ [q.gs[n]'(by rw [h.lg.len]; exact hi)], j ∈ G := fun j hj => by
      simp only [List.mem_singleton] at hj
      subst hj
      exact L3.lg.gG _ (List.getElem_mem _)
    exact hk S6 D3 B3 (L3.log (L3.lg.setSeg hi (s := moreR l.segs[n] (laidB seq t).length) u36 (by rw [m6]; rfl)) u36 hin) (U3.log u36 hin)

end Go.Th.L
end

section
/- wal: one more segment. -/
set_option linter.unusedSimpArgs false
set_option linter.unusedVariables false
set_option maxHeartbeats 1000000
namespace Go.Th.L
open Go Go.Th Go.Th.Pure
variable {P : Program} {N : Nat → Nat}

theorem LogIn.add {S S' : St} {X G Gn : List Nat} {d g : Nat} {q : LP} {l l' : LogR} {v : V} {s : SegR} (h : LogIn S G d q l) (u : Upd X S S') (hX : ∀ i ∈ X, i = q.o ∨ i ∈ q.sv.block) (hGn : ∀ i ∈ Gn, i ∉ G ∧ i < S'.next)
    (obj : S'.get q.o = some (.cells (logC d { q with sv := v, gs := q.gs ++ [g] } l') true)) (e : l'.segs = l.segs ++ [s]) (sl : Acc S' 0 1 v (q.gs.length + 1) (ptrE (q.gs ++ [g])).flatten) (hg : S'.get g = some (.cells (segC s) true)) (gG : g ∈ Gn) (vG : ∀ i ∈ v.block, i ∈ q.sv.block ∨ (i ∈ Gn ∧ i ≠ g)) :
    LogIn S' (G ++ Gn) d { q with sv := v, gs := q.gs ++ [g] } l' := by
  have gn := (hGn g gG).1
  have og := h.lt _ h.oG
  have gl : ∀ i ∈ q.gs, i < S.next := fun i hi => h.lt i (h.gG i hi)
  have keep : ∀ i ∈ q.gs, i ∉ X := fun i hi hx => by
    rcases hX i hx with h1 | h1
    · subst h1; exact h.n1 hi
    · exact h.n3 i h1 hi
  refine ⟨obj, by simpa using sl, by rw [e]; simp [h.len], fun i h1 h2 => ?_, ?_, List.mem_append_left _ h.oG, fun i hi => ?_, fun i hi => ?_, fun i hi => ?_, fun hi => ?_, fun hi => ?_, fun i hi hg' => ?_⟩
  · simp only [e] at h2 ⊢
    simp only [List.length_append, List.length_singleton] at h1 h2
    by_cases hi : i < q.gs.length
    · have hi2 : i < l.segs.length := by rw [← h.len]; exact hi
      have e3 : (q.gs ++ [g])[i]'(by simp; omega) = q.gs[i] := List.getElem_append_left hi
      have e4 : (l.segs ++ [s])[i]'(by simp; omega) = l.segs[i] := List.getElem_append_left hi2
      rw [e3, e4]
      exact u.get (h.seg i hi hi2) (keep _ (List.getElem_mem hi))
    · have e1 : i = q.gs.length := by omega
      have e2 : i = l.segs.length := by rw [← h.len]; exact e1
      have e3 : (q.gs ++ [g])[i]'(by simp; omega) = g := by
        rw [List.getElem_append_right (by omega)]; simp
      have e4 : (l.segs ++ [s])[i]'(by simp; omega) = s := by
        rw [List.getElem_append_right (by omega)]; simp
      rw [e3, e4]
      exact hg
  · rw [List.nodup_append]
    refine ⟨h.nod, by simp, fun a ha b hb => ?_⟩
    simp only [List.mem_singleton] at hb
    subst hb
    rintro rfl
    exact gn (h.gG _ ha)
  · rcases vG i hi with h' | h'
    · exact List.mem_append_left _ (h.sG i h')
    · exact List.mem_append_right _ h'.1
  · rcases List.mem_append.mp hi with hi | hi
    · exact List.mem_append_left _ (h.gG i hi)
    · simp only [List.mem_singleton] at hi
      subst hi; exact List.mem_append_right _ gG
  · rcases List.mem_append.mp hi with hi | hi
    · exact Nat.lt_of_lt_of_le (h.lt i hi) u.le
    · exact (hGn i hi).2
  · rcases List.mem_append.mp hi with hi | hi
    · exact h.n1 hi
    · simp only [List.mem_singleton] at hi
      exact gn (hi ▸ h.oG)
  · rcases vG _ hi with h' | h'
    · exact h.n2 h'
    · exact (hGn _ h'.1).1 h.oG
  · rcases List.mem_append.mp hg' with h2 | h2
    · rcases vG i hi with h' | h'
      · exact h.n3 i h' h2
      · exact (hGn _ h'.1).1 (h.gG _ h2)
    · simp only [List.mem_singleton] at h2
      rcases vG i hi with h' | h'
      · exact gn (h2 ▸ h.sG i h')
      · exact h'.2 h2

end Go.Th.L
end

section
/- wal: a new segment. -/
set_option linter.unusedSimpArgs false
set_option linter.unusedVariables false
set_option maxHeartbeats 1000000
namespace Go.Th.L
open Go Go.Th Go.Th.Pure
variable {P : Program} {N : Nat → Nat}

def ItoaW (P : Program) (f : FuncId) (S0 : St) : Prop := ∀ {n : Int} {S : St} {K : List UInt8 → St → Prop}, Grow S0 S → 1000000 ≤ n → n < 10000000 → ((Lib.decDigits n.toNat).length = 7 → K (Lib.decDigits n.toNat) S) → CallA P f [.int .i64 n] S (retT [.one .str] K)
def nameB (file : Int) : Nm := [108, 111, 103, 46] ++ (Lib.decDigits (1000001 + file).toNat).drop 1
def beginR (l : LogR) (r : DiskR) (first : Int) : Int × LogR × DiskR :=
  let c := createR r (nameB l.file)
  let a := appendR c.2 (nameB l.file) (headB first)
  if c.1 = 0 ∨ c.1 = 171 then (if a.1 = 0 then (0, { l with names := true, file := l.file + 1, segs := l.segs ++ [⟨nameB l.file, first, first, 16, true⟩] }, a.2) else (a.1, { l with names := true }, (removeR a.2 (nameB l.file)).2)) else (c.1, l, c.2)
theorem headB_len (x : Int) : (headB x).length = 16 := by simp [headB, sealB, le_length]

theorem wal_Log_begin.spec (hO : WalF P N) {S0 S : St} (hI : ItoaW P (N Fn.strconv_Itoa) S0) {G D B : List Nat} {d : Nat} {q : LP} {l : LogR} {r : DiskR} (h : LD S0 S G D B d q l r) {M : Nat} (hok : OkR M r) (hM : M + 3 ≤ 1000000) (hf : 0 ≤ l.file ∧ l.file ≤ 8000000) (hl : l.segs.length ≤ 1000000)
    {first : Int} (hq : 0 ≤ first ∧ first < 4611686018427387904) {K : Int → St → Prop}
    (hk : ∀ S' G' D' B' q', q'.o = q.o → LD S0 S' G' D' B' d q' (beginR l r first).2.1 (beginR l r first).2.2 → OkR (M + 3) (beginR l r first).2.2 → Mvg G D B S G' D' B' S' → K (beginR l r first).1 S') : CallA P (N Fn.wal_Log_begin) [.ptr q.o 0, .int .i64 first] S (retT [.one (.int .i64)] K) := by
  refine wal_Log_begin.run hO.begin_ ⟨rfl, ifS_mk (a := .ptr q.o 4) rfl ⟨_, ld h.lg.obj rfl, setI_mk (n := 1000001 + l.file) (by rw [IntKind.wrap_i64]; omega) (hI h.g (by omega) (by omega) fun h7 => ?_)⟩⟩
  have hsl : sliceStrV (.str (Lib.decDigits (1000001 + l.file).toNat)) (some (.int .i64 1)) none = some (.str ((Lib.decDigits (1000001 + l.file).toNat).drop 1)) := by
    have := bnds_l (len := (Lib.decDigits (1000001 + l.file).toNat).length) (cap := (Lib.decDigits (1000001 + l.file).toNat).length) (l := 1) (k := .i64) (by omega)
    simp only [sliceStrV]
    rw [show ((1 : Int)) = ((1 : Nat) : Int) from rfl, this]
    simp
  have hnl : (nameB l.file).length = 10 := by
    simp only [nameB, List.length_append, List.length_drop, h7]; rfl
  refine ⟨_, hsl, by simp only [List.length_drop, h7]; decide, newS_mk h.wf fun S2 g2 m2 n2 => ?_⟩
  have h2 := h.grow g2
  have m2' : S2.get S.next = some (.cells (segC ⟨nameB l.file, first, first, 16, true⟩) true) := m2
  have hSn : S.next < S2.next := by omega
  have eD : ∀ {i : Nat}, i = S.next → i ∉ D ∧ i ∉ G := fun e => ⟨fun hi => by have := h.dh.ltD _ hi; omega, fun hi => by have := h.lg.lt _ hi; omega⟩
  refine Join0.mid (fun S' => ((createR r (nameB l.file)).1 = 0 ∨ (createR r (nameB l.file)).1 = 171) ∧ ∃ D1 B1, LD S0 S' G D1 B1 d q l (createR r (nameB l.file)).2 ∧ (∀ i ∈ D1, i ∈ D ∨ S2.next ≤ i) ∧ (∀ i ∈ B1, i ∈ B ∨ S2.next ≤ i) ∧ S2.next ≤ S'.next ∧ S'.get S.next = some (.cells (segC ⟨nameB l.file, first, first, 16, true⟩) true) ∧ Mvd G D B S D1 B1 S') ⟨rfl, ifS_mk (a := .ptr q.o 0) rfl (ifS_mk (ld h2.lg.obj rfl) ⟨rfl, _, ld m2 rfl, ?_⟩)⟩ ?_
  · refine DH.create hO.d h2.wf h2.dh hok (by omega) (by rw [show (([108, 111, 103, 46] : List UInt8) ++ (Lib.decDigits (1000001 + l.file).toNat).drop 1) = nameB l.file from rfl, hnl]; decide) (prw _) fun S4 D4 B4 h4 f4 => ?_
    have L4 := h2.disk h4 f4
    have ok4 := createR_ok hok (nameB l.file)
    have m4 := f4.2.2.get m2' (eD rfl).1
    have v4 := ((Mvd.refl h.wf G D B).grow g2).disk f4
    have keep : ((createR r (nameB l.file)).1 = 0 ∨ (createR r (nameB l.file)).1 = 171) → ((createR r (nameB l.file)).1 = 0 ∨ (createR r (nameB l.file)).1 = 171) ∧ ∃ D1 B1, LD S0 S4 G D1 B1 d q l (createR r (nameB l.file)).2 ∧ (∀ i ∈ D1, i ∈ D ∨ S2.next ≤ i) ∧ (∀ i ∈ B1, i ∈ B ∨ S2.next ≤ i) ∧ S2.next ≤ S4.next ∧ S4.get S.next = some (.cells (segC ⟨nameB l.file, first, first, 16, true⟩) true) ∧ Mvd G D B S D1 B1 S4 := fun hc => ⟨hc, D4, B4, L4, f4.1, f4.2.1, f4.2.2.le, m4, v4⟩
    refine ifC_ndec (fun hne => ifC_ndec (fun hne2 => ?_) (fun he => keep (.inr he))) (fun he => keep (.inl he))
    have e0 : beginR l r first = ((createR r (nameB l.file)).1, l, (createR r (nameB l.file)).2) := by
      have : ¬ ((createR r (nameB l.file)).1 = 0 ∨ (createR r (nameB l.file)).1 = 171) := by
        rintro (h' | h')
        · exact hne h'
        · exact hne2 h'
      simp only [beginR, if_neg this]
    rw [e0] at hk
    exact hk S4 G D4 B4 q rfl L4 (ok4.mono (by omega)) v4.g
  · rintro S3 ⟨hc, D1, B1, L3, hD1, hB1, l23, m3, v3⟩
    have ok3 := createR_ok hok (nameB l.file)
    have sD1 : S.next ∉ D1 := fun hi => by
      rcases hD1 _ hi with h' | h'
      · exact (eD rfl).1 h'
      · omega
    have e0 : beginR l r first = if (appendR (createR r (nameB l.file)).2 (nameB l.file) (headB first)).1 = 0 then (0, { l with names := true, file := l.file + 1, segs := l.segs ++ [⟨nameB l.file, first, first, 16, true⟩] }, (appendR (createR r (nameB l.file)).2 (nameB l.file) (headB first)).2) else ((appendR (createR r (nameB l.file)).2 (nameB l.file) (headB first)).1, { l with names := true }, (removeR (appendR (createR r (nameB l.file)).2 (nameB l.file) (headB first)).2 (nameB l.file)).2) := by
      simp only [beginR, if_pos hc]
    generalize (createR r (nameB l.file)).2 = r3 at L3 ok3 e0
    refine ⟨rfl, ifS_mk (a := .ptr q.o 3) rfl (st_mk L3.wf L3.lg.obj rfl (by simp [logC, V.cells]) (by simp [V.cells, V.one]) fun S5 u5 m5 n5 => ?_)⟩
    have L5 := L3.log (L3.lg.setObj (l' := { l with names := true }) u5 (by rw [m5]; rfl) rfl) u5 fun j hj => by
      simp only [List.mem_singleton] at hj
      subst hj; exact L3.lg.oG
    have m5s := u5.get m3 (by simp only [List.mem_singleton]; rintro e; exact (eD e.symm).2 h.lg.oG)
    have l5 := u5.le
    have v5 := v3.log u5 fun j hj => by
      simp only [List.mem_singleton] at hj
      subst hj; exact L3.lg.oG
    refine ⟨rfl, ifS_mk (a := .ptr q.o 0) rfl (ifS_mk (ld L5.lg.obj rfl) ⟨rfl, _, ld m5s rfl, wal_head.spec hO.b L5.wf (by omega) fun v6 S6 b6 => ⟨same_upd b6.grow (fun i hi => ?_), ?_⟩⟩)⟩
    · simp only [V.block, List.mem_cons, List.append_nil, List.mem_singleton, List.not_mem_nil, or_false] at hi
      rcases hi with rfl | rfl
      · exact ⟨by omega, by simp⟩
      · exact ⟨L5.lg.lt _ L5.lg.oG, by simp⟩
    have L6 := L5.grow b6.grow
    have m6s := b6.grow.get m5s
    have l6 := b6.grow.le
    refine DH.append hO.d L6.wf L6.dh ok3 (by omega) b6.at_ (by rw [headB_len]; omega) (prw _) fun S7 D7 B7 h7 f7 => ?_
    have L7 := L6.disk h7 f7
    have ok7 := appendR_ok ok3 (nameB l.file) (headB first)
    have m7s := f7.2.2.get m6s sD1
    have l7 := f7.2.2.le
    have v7 := (v5.grow b6.grow).disk f7
    refine ifC_ndec (fun hne => ?_) (fun hz => ?_)
    · rw [if_neg hne] at e0
      rw [e0] at hk
      refine ⟨rfl, ifS_mk (a := .ptr q.o 0) rfl (ifS_mk (ld L7.lg.obj rfl) ⟨rfl, _, ld m7s rfl, DH.remove hO.d L7.wf L7.dh ok7 (by omega) (prw _) fun S8 D8 B8 h8 f8 => hk S8 G D8 B8 q rfl (L7.disk h8 f8) (removeR_ok ok7 _) (v7.disk f8).g⟩)⟩
    · rw [if_pos hz] at e0
      rw [e0] at hk
      refine ⟨rfl, ifS_mk (a := .ptr q.o 4) rfl ⟨_, ld L7.lg.obj rfl, setI_mk (n := l.file + 1) (by rw [IntKind.wrap_i64]; simp only; omega) ⟨rfl, ifS_mk (a := .ptr q.o 4) rfl (st_mk L7.wf L7.lg.obj rfl (by simp [logC, V.cells]) (by simp [V.cells, V.one]) fun S9 u9 m9 n9 => ?_)⟩⟩⟩
      have L9 := L7.log (L7.lg.setObj (l' := { l with names := true, file := l.file + 1 }) u9 (by rw [m9]; rfl) rfl) u9 fun j hj => by
        simp only [List.mem_singleton] at hj
        subst hj; exact L7.lg.oG
      have m9s := u9.get m7s (by simp only [List.mem_singleton]; rintro e; exact (eD e.symm).2 h.lg.oG)
      refine ⟨rfl, ifS_mk (a := .ptr q.o 1) rfl (ifS_mk (ld L9.lg.obj rfl) ⟨rfl, newS_mk L9.wf fun S10 g10 m10 n10 => ?_⟩)⟩
      have L10 := L9.grow g10
      have m10s := g10.get m9s
      have hsrc : srcV 1 S10 (.slice S9.next 0 1 1 1 true) = some (1, [.ptr S.next 0]) := by
        simp only [srcV, if_true]
        rw [St.loads_of m10 (by simp)]; rfl
      have hgl : q.gs.length = l.segs.length := h.lg.len
      obtain ⟨v11, S11, e11, a11, u11, t11⟩ := L10.lg.sl.app g10.wf (by omega) hsrc rfl (by simp [V.one]) (bytes := 8) (by omega) (by omega)
      have sD7 : S.next ∉ D7 := fun hi => by
        rcases f7.1 _ hi with h' | h'
        · exact sD1 h'
        · omega
      have sB7 : S.next ∉ B7 := fun hi => by
        rcases f7.2.1 _ hi with h' | h'
        · rcases hB1 _ h' with h' | h'
          · have := h.dh.ltB _ h'; omega
          · omega
        · omega
      have hv11 : ∀ i ∈ v11.block, i < S11.next := fun i hi => by
        obtain ⟨_, vs, hg⟩ := a11.own i hi
        exact u11.wf.lt hg
      have l9 := u9.le
      have l10 := g10.le
      have l11 := u11.le
      have sS7 : S.next < S7.next := by omega
      have o11 := u11.get L10.lg.obj L10.lg.n2
      refine ifP_mk e11 ⟨rfl, ifS_mk (a := .ptr q.o 1) rfl (st_mk u11.wf o11 (by rw [a11.at_.cells1]; rfl) (by rw [a11.at_.cells1]; simp [logC]) (by rw [a11.at_.cells1]; simp [a11.at_.one1]) fun S12 u12 m12 n12 => ?_)⟩
      rw [a11.at_.cells1] at m12
      have u1012 : Upd (q.o :: q.sv.block) S10 S12 := (u11.mono fun i hi => .inl (List.mem_cons_of_mem _ hi)).after u12 fun i hi => .inr (by simp only [List.mem_singleton] at hi; simp [hi])
      have qS : q.o ≠ S.next := fun e => (eD e).2 h.lg.oG
      have svS : S.next ∉ q.sv.block := fun hi => (eD rfl).2 (h.lg.sG _ hi)
      have m12s := u12.get (u11.get m10s svS) (by simp only [List.mem_singleton]; exact fun e => qS e.symm)
      have gLt : ∀ i ∈ G, i < S10.next := L10.lg.lt
      have vS : ∀ i ∈ v11.block, i ≠ S.next := fun i hi e => by
        rcases t11 i hi with h' | h'
        · exact svS (e ▸ h')
        · omega
      have k12 := L10.lg.add (S' := S12) (X := q.o :: q.sv.block) (Gn := S.next :: v11.block.filter fun i => decide (S10.next ≤ i)) (g := S.next) (v := v11) (s := ⟨nameB l.file, first, first, 16, true⟩) (l' := { l with names := true, file := l.file + 1, segs := l.segs ++ [⟨nameB l.file, first, first, 16, true⟩] }) u1012 (fun i hi => by simpa using hi) (fun i hi => by
          rcases List.mem_cons.mp hi with rfl | hi
          · exact ⟨(eD rfl).2, by omega⟩
          · simp only [List.mem_filter, decide_eq_true_eq] at hi
            exact ⟨fun hG => by have := gLt i hG; omega, by have := hv11 i hi.1; omega⟩)
        (by rw [m12]; rfl) rfl (by
          have := a11.upd u12 fun i hi => by
            simp only [List.mem_singleton]
            rintro rfl
            rcases t11 _ hi with h' | h'
            · exact L10.lg.n2 h'
            · have := L10.lg.lt _ L10.lg.oG; omega
          simpa [ptrE] using this) m12s (by simp) (fun i hi => by
          rcases t11 i hi with h' | h'
          · exact .inl h'
          · exact .inr ⟨by simp [hi, h'], vS i hi⟩)
      have l0 := h.g.le
      have lD7 := L7.dh.ltD
      have lB7 := L7.dh.ltB
      refine hk S12 _ D7 B7 { q with sv := v11, gs := q.gs ++ [S.next] } rfl ⟨k12, L10.dh.upd u1012 (fun i hi hD => ?_) (fun i hi hB => ?_), L10.g.after u1012 fun i hi => .inl ?_, fun i hi => ?_, L10.fD, fun i hi => ?_⟩ (ok7.mono (by omega)) ⟨((v7.log u9 fun j hj => by
          simp only [List.mem_singleton] at hj
          subst hj; exact L7.lg.oG).grow g10).log u1012 fun i hi => ?_, fun i hi => ?_⟩
      · rcases List.mem_cons.mp hi with rfl | hi
        · exact (L10.ap _ L10.lg.oG).1 hD
        · exact (L10.ap _ (L10.lg.sG _ hi)).1 hD
      · rcases List.mem_cons.mp hi with rfl | hi
        · exact (L10.ap _ L10.lg.oG).2 hB
        · exact (L10.ap _ (L10.lg.sG _ hi)).2 hB
      · rcases List.mem_cons.mp hi with rfl | hi
        · exact L10.fG _ L10.lg.oG
        · exact L10.fG _ (L10.lg.sG _ hi)
      · rcases List.mem_append.mp hi with hi | hi
        · exact L10.fG i hi
        · rcases List.mem_cons.mp hi with rfl | hi
          · exact l0
          · simp only [List.mem_filter, decide_eq_true_eq] at hi
            omega
      · rcases List.mem_append.mp hi with hi | hi
        · exact L10.ap i hi
        · rcases List.mem_cons.mp hi with rfl | hi
          · exact ⟨sD7, sB7⟩
          · simp only [List.mem_filter, decide_eq_true_eq] at hi
            exact ⟨fun hD => by have := lD7 i hD; omega, fun hB => by have := lB7 i hB; omega⟩
      · rcases List.mem_cons.mp hi with rfl | hi
        · exact L10.lg.oG
        · exact L10.lg.sG _ hi
      · rcases List.mem_append.mp hi with hi | hi
        · exact .inl hi
        · rcases List.mem_cons.mp hi with rfl | hi
          · exact .inr (Nat.le_refl _)
          · simp only [List.mem_filter, decide_eq_true_eq] at hi
            exact .inr (by omega)

end Go.Th.L
end

section
/- wal: Append. -/
set_option linter.unusedSimpArgs false
set_option linter.unusedVariables false
set_option maxHeartbeats 1000000
namespace Go.Th.L
open Go Go.Th Go.Th.Pure
variable {P : Program} {N : Nat → Nat}

theorem wal_Log_Append.spec (hO : WalF P N) {S0 S : St} {G D B : List Nat} {d : Nat} {q : LP} {l : LogR} {r : DiskR} (h : LD S0 S G D B d q l r) {M : Nat} (hok : OkR M r) (hM : M ≤ 1000000) (hl : 0 < l.segs.length ∧ l.segs.length ≤ 1000) (hs : SegsOk l.segs) (hz : ∀ s ∈ l.segs, 0 ≤ s.size ∧ s.size ≤ 16384)
    (hq : 0 ≤ lastR l ∧ lastR l < 4611686018427387904) {t : Nm} (ht : t.length ≤ 65536) {K : Int → Int → St → Prop}
    (hk : ∀ S' D' B', LD S0 S' G D' B' d q (layR l r (lastR l + 1) t).2.1 (layR l r (lastR l + 1) t).2.2 → Mvd G D B S D' B' S' → K (if (layR l r (lastR l + 1) t).1 = 0 then lastR l + 1 else 0) (layR l r (lastR l + 1) t).1 S') : CallA P (N Fn.wal_Log_Append) [.ptr q.o 0, .str t] S (retT [.one (.int .i64), .one (.int .i64)] K) := by
  have hi : l.segs.length - 1 < l.segs.length := by omega
  have hmem := List.getElem_mem hi
  have i1 : IntKind.i64.wrap (((l.segs.length : Nat) : Int) - 1) = ((l.segs.length - 1 : Nat) : Int) := by rw [IntKind.wrap_i64]; omega
  refine wal_Log_Append.run hO.append ⟨false, rfl, ifC_ff rfl (ifC_ff (by rw [decide_eq_false_iff_not]; omega) (wal_Log_Last.spec hO.last h.lg (by omega) hs (setI_mk (n := lastR l + 1) (by rw [IntKind.wrap_i64]; omega) (newS_mk h.wf fun S2 g2 m2 n2 => st_mk g2.wf m2 rfl (by simp [V.cells]) (by simp [V.cells, V.one]) fun S3 u3 m3 n3 => ?_))))⟩
  simp only [V.cells, over] at m3
  have g3 : Grow S S3 := g2.after u3 fun i hi => .inl (by simp only [List.mem_singleton] at hi; omega)
  have h3 := h.grow g3
  refine Join0.mid (fun S' => S' = S3) ⟨rfl, ifS_mk (a := .ptr q.o 1) rfl (ifS_mk (ld h3.lg.obj rfl) ⟨rfl, ifS_mk (a := .ptr q.o 1) rfl (ifS_mk (ld h3.lg.obj rfl) ⟨_, h3.lg.length, setI_mk i1 (ifS_mk (h3.lg.ix hi) (ifS_mk (h3.lg.ptr hi) ⟨rfl, ifS_mk rfl ⟨_, ld (h3.lg.at hi) rfl, ifC_ff (by rw [decide_eq_false_iff_not]; have := hz _ hmem; omega) rfl⟩⟩))⟩)⟩)⟩ ?_
  rintro S4 rfl
  refine ⟨_, _, ldN m3 (by simp) rfl, wal_Log_lay.spec hO h3 hok hM ⟨hl.1, by omega⟩ hs (fun s hs' => by have := hz s hs'; omega) (by omega) ht fun S6 D6 B6 h6 u6 => ?_⟩
  have hS : S.next ∉ G ++ D := fun hi => by
    rcases List.mem_append.mp hi with hi | hi
    · have := h.lg.lt _ hi; omega
    · have := h.dh.ltD _ hi; omega
  have m6 := u6.1.get m3 hS
  have hk6 := hk S6 D6 B6 h6 (((Mvd.refl h.wf G D B).grow g3).trans u6)
  refine ifC_ndec (fun hne => ?_) (fun hz0 => ⟨_, ld m6 rfl, ?_⟩)
  · rw [if_neg hne] at hk6; exact hk6
  · rw [if_pos hz0, hz0] at hk6; exact hk6

end Go.Th.L
end

section
/- wal: settle, where nothing is stale and the last segment is well. -/
set_option linter.unusedSimpArgs false
set_option linter.unusedVariables false
set_option maxHeartbeats 1000000
namespace Go.Th.L
open Go Go.Th Go.Th.Pure
variable {P : Program} {N : Nat → Nat}

theorem wal_Log_settle.well (hO : WalF P N) {S0 S : St} {G D B : List Nat} {d : Nat} {q : LP} {l : LogR} {r : DiskR} (h : LD S0 S G D B d q l r) {M : Nat} (hok : OkR M r) (hl : l.segs.length ≤ 1000) (hM : M + l.segs.length + 1 ≤ 1000000) (hs : SegsOk l.segs) {x : V} {K : Int → St → Prop}
    (hk : ∀ S' D' B', LD S0 S' G D' B' d q (logSyncR { l with names := true } r).2.1 (logSyncR { l with names := true } r).2.2 → OkR (M + l.segs.length + 1) (logSyncR { l with names := true } r).2.2 → Mvd G D B S D' B' S' → K (logSyncR { l with names := true } r).1 S') :
    CallA P (N Fn.wal_Log_settle) [.ptr q.o 0, .nilSlice, x, .bool true] S (retT [.one (.int .i64)] K) := by
  refine wal_Log_settle.run hO.settle ⟨rfl, ifS_mk (a := .ptr q.o 3) rfl (st_mk h.wf h.lg.obj rfl (by simp [logC, V.cells]) (by simp [V.cells, V.one]) fun S1 u1 m1 n1 => ⟨0, rfl, ?_⟩)⟩
  have L1 := h.log (h.lg.setObj (l' := { l with names := true }) u1 (by rw [m1]; rfl) rfl) u1 fun j hj => by
    simp only [List.mem_singleton] at hj
    subst hj; exact h.lg.oG
  refine Loop1.ind (fun m z S' => z = 0 ∧ S' = S1) 0 ⟨rfl, rfl⟩ ?_
  rintro m z S2 ⟨rfl, rfl⟩
  refine ifC_ff rfl (wal_Log_Sync.spec hO L1 hok hl hM hs fun S4 D4 B4 h4 ok4 mv4 => ?_)
  have hk4 := hk S4 D4 B4 h4 ok4 (((Mvd.refl h.wf G D B).log u1 fun j hj => by
    simp only [List.mem_singleton] at hj
    subst hj; exact h.lg.oG).trans mv4)
  refine ifC_ndec (fun hne => hk4) (fun hz => ifC_tt rfl ?_)
  rw [hz] at hk4
  exact hk4

end Go.Th.L
end

section
/- wal: settle on a disk without a log. -/
set_option linter.unusedSimpArgs false
set_option linter.unusedVariables false
set_option maxHeartbeats 1000000
namespace Go.Th.L
open Go Go.Th Go.Th.Pure
variable {P : Program} {N : Nat → Nat}

theorem wal_Log_settle.fresh (hO : WalF P N) {S0 S : St} (hI : ItoaW P (N Fn.strconv_Itoa) S0) {G D B : List Nat} {d : Nat} {q : LP} {l la lb : LogR} {r ra rb : DiskR} (h : LD S0 S G D B d q l r) {M : Nat} (hok : OkR M r) (hl : l.segs = []) (hM : M + 2000 ≤ 1000000)
    (ea : logSyncR { l with names := true } r = (0, la, ra)) (la0 : la.segs = []) (fa : 0 ≤ la.file ∧ la.file ≤ 8000000) (eb : beginR la ra 1 = (0, lb, rb)) (lb1 : lb.segs.length ≤ 1000) (hsb : SegsOk lb.segs) {K : Int → St → Prop}
    (hk : ∀ S' G' D' B' q', q'.o = q.o → LD S0 S' G' D' B' d q' (logSyncR lb rb).2.1 (logSyncR lb rb).2.2 → OkR (M + 2000) (logSyncR lb rb).2.2 → Mvg G D B S G' D' B' S' → K (logSyncR lb rb).1 S') :
    CallA P (N Fn.wal_Log_settle) [.ptr q.o 0, .nilSlice, .nilSlice, .bool false] S (retT [.one (.int .i64)] K) := by
  refine wal_Log_settle.run hO.settle ⟨rfl, ifS_mk (a := .ptr q.o 3) rfl (st_mk h.wf h.lg.obj rfl (by simp [logC, V.cells]) (by simp [V.cells, V.one]) fun S1 u1 m1 n1 => ⟨0, rfl, ?_⟩)⟩
  have L1 := h.log (h.lg.setObj (l' := { l with names := true }) u1 (by rw [m1]; rfl) rfl) u1 fun j hj => by
    simp only [List.mem_singleton] at hj
    subst hj; exact h.lg.oG
  have l0 : ({ l with names := true } : LogR).segs.length = 0 := by simp [hl]
  refine Loop1.ind (fun m z S' => z = 0 ∧ S' = S1) 0 ⟨rfl, rfl⟩ ?_
  rintro m z S2 ⟨rfl, rfl⟩
  refine ifC_ff rfl (wal_Log_Sync.spec hO L1 hok (by omega) (by omega) (by simp [SegsOk, hl]) fun S4 D4 B4 h4 ok4 mv4 => ?_)
  rw [ea] at h4 ok4 ⊢
  have o4 : OkR (M + 1) ra := ok4.mono (by omega)
  refine ifC_ff rfl (ifC_ff rfl (wal_Log_Last.spec hO.last h4.lg (by simp [la0]) (by simp [la0]) ?_))
  have e0 : lastR la = 0 := by simp [lastR, la0]
  rw [e0]
  have hlen : lenV S4 2 q.sv = some (.int .i64 0) := by
    have := h4.lg.length
    simpa [la0] using this
  refine setI_mk (n := 1) rfl (Join3.mid (fun a b c S' => a = .nilSlice ∧ b = .nilPtr ∧ c = 1 ∧ S' = S4) ⟨rfl, ifS_mk (a := .ptr q.o 1) rfl (ifS_mk (ld h4.lg.obj rfl) ⟨0, hlen, Join1.mid (fun b S' => b = false ∧ S' = S4) (ifC_ff rfl ⟨rfl, rfl⟩) ?_⟩)⟩ ?_)
  · rintro b S7 ⟨rfl, rfl⟩
    exact ifC_ff rfl ⟨rfl, rfl, rfl, rfl⟩
  · rintro a b c S6 ⟨rfl, rfl, rfl, rfl⟩
    refine wal_Log_begin.spec hO hI h4 o4 (by omega) fa (by simp [la0]) (by omega) fun S9 G9 D9 B9 q9 eq9 h9 ok9 mv9 => ?_
    rw [eb] at h9 ok9 ⊢
    simp only at h9 ok9 ⊢
    refine ifC_ff rfl ⟨0, rfl, Loop1.ind (fun m z S' => z = 0 ∧ S' = S9) 0 ⟨rfl, rfl⟩ ?_⟩
    rintro m2 z2 S10 ⟨rfl, rfl⟩
    refine ifC_ff rfl (Join0.mid (fun _ => False) ?_ (fun _ h => h.elim))
    rw [← eq9]
    refine wal_Log_Sync.spec hO h9 ok9 lb1 (by omega) hsb fun S15 D15 B15 h15 ok15 mv15 => ?_
    have hk15 := hk S15 G9 D15 B15 q9 eq9 h15 (ok15.mono (by omega)) (((((Mvd.refl h.wf G D B).log u1 fun j hj => by
      simp only [List.mem_singleton] at hj
      subst hj; exact h.lg.oG).trans mv4).g.trans mv9).trans mv15.g)
    exact ifC_ndec (fun _ => hk15) (fun _ => ⟨true, rfl, ifC_tt rfl hk15⟩)

end Go.Th.L
end

section
/- wal: a log opened on a disk without one. -/
set_option linter.unusedSimpArgs false
set_option linter.unusedVariables false
set_option maxHeartbeats 1000000
namespace Go.Th.L
open Go Go.Th Go.Th.Pure
variable {P : Program} {N : Nat → Nat}

def newL : LogR := ⟨[], 0, false, 0⟩
theorem LD.new {S0 S S1 : St} {D B : List Nat} {d : Nat} {r : DiskR} (h : Fd S0 S D B d r) (g : Grow S S1) (hn : S1.next = S.next + 1) (m : S1.get S.next = some (.cells [.ptr d 0, .nilSlice, .int .i64 0, .bool false, .int .i64 0] true)) : LD S0 S1 [S.next] D B d ⟨S.next, .nilSlice, []⟩ newL r := by
  have hl := h.g.le
  refine ⟨⟨m, by simpa [ptrE] using Acc.nil _ _ _, rfl, fun i h1 => by simp at h1, by simp, by simp, by simp [V.block], by simp, by simp only [List.mem_singleton]; omega, by simp, by simp [V.block], by simp [V.block]⟩, h.dh.grow g, h.g.trans g, by simp only [List.mem_singleton]; omega, h.fD, fun i hi => ?_⟩
  simp only [List.mem_singleton] at hi
  subst hi
  exact ⟨fun hD => by have := h.dh.ltD _ hD; omega, fun hB => by have := h.dh.ltB _ hB; omega⟩

theorem wal_Open.fresh (hO : WalF P N) {S0 S : St} (hI : ItoaW P (N Fn.strconv_Itoa) S0) {D B : List Nat} {d : Nat} {r : DiskR} (h : Fd S0 S D B d r) {M : Nat} (hok : OkR M r) (hM : M + 2000 ≤ 1000000) (hn : namesR r = []) (hd : downR r = false) {la lb lc : LogR} {ra rb rc : DiskR}
    (ea : logSyncR { newL with names := true } r = (0, la, ra)) (la0 : la.segs = []) (fa : 0 ≤ la.file ∧ la.file ≤ 8000000) (eb : beginR la ra 1 = (0, lb, rb)) (lb1 : lb.segs.length ≤ 1000) (hsb : SegsOk lb.segs) (ec : logSyncR lb rb = (0, lc, rc)) (lc1 : lc.segs.length ≤ 1000) (hsc : SegsOk lc.segs) {K : V → V → Int → St → Prop}
    (hk : ∀ S' G' D' B' q', LD S0 S' G' D' B' d q' { lc with synced := lastR lc } rc → OkR (M + 2000) rc → Opn D B S G' D' B' S' → K (.ptr q'.o 0) .nilSlice 0 S') :
    CallA P (N Fn.wal_Open) [.ptr d 0] S (retT [.one .any, .one .any, .one (.int .i64)] K) := by
  refine wal_Open.run hO.open_ ⟨false, rfl, ifC_ff rfl (DH.down hO.d h.dh (ifC_ff hd ⟨rfl, newS_mk h.wf fun S2 g2 m2 n2 => newS_mk g2.wf fun S3 g3 m3 n3 => ?_⟩))⟩
  have L3 := (LD.new h g2 n2 m2).grow g3
  refine DH.names hO.d L3.dh L3.wf hok fun v S4 b4 => ?_
  have L4 := L3.grow b4.grow
  have hv : lenV S4 2 v = some (.int .i64 0) := by
    have e := b4.acc.at_
    rw [hn] at e
    exact SlAt.len e
  refine ⟨0, hv, Loop4.ind (fun m a b c z S' => a = .nilSlice ∧ b = .nilSlice ∧ c = false ∧ z = 0 ∧ S' = S4) 0 ⟨rfl, rfl, rfl, rfl, rfl⟩ ?_⟩
  rintro m a b c z S5 ⟨rfl, rfl, rfl, rfl, rfl⟩
  refine ifC_ff rfl (ifS_mk (ld (b4.grow.get m3) rfl) (wal_Log_settle.fresh hO hI L4 hok rfl hM ea la0 fa eb lb1 hsb fun S6 G6 D6 B6 q6 eq6 h6 ok6 mv6 => ?_))
  rw [ec] at h6 ok6 ⊢
  simp only at h6 ok6 ⊢
  have eq : q6.o = S.next := eq6
  rw [← eq]
  refine ifC_ff rfl (wal_Log_Last.spec hO.last h6.lg (by omega) hsc ⟨rfl, st_mk h6.wf h6.lg.obj rfl (by simp [logC, V.cells]) (by simp [V.cells, V.one]) fun S7 u7 m7 n7 => ?_⟩)
  have hq : ∀ j ∈ [q6.o], j ∈ G6 := fun j hj => by
    simp only [List.mem_singleton] at hj
    subst hj; exact h6.lg.oG
  exact hk S7 G6 D6 B6 q6 (h6.log (h6.lg.setObj (l' := { lc with synced := lastR lc }) u7 (by rw [m7]; rfl) rfl) u7 hq) ok6 (Mvg.opn (mv6.trans ((Mvd.refl h6.wf G6 D6 B6).log u7 hq).g) ((((Upd.refl h.wf D).after g2 (by simp)).after g3 (by simp)).after b4.grow (by simp)) (fun i hi => .inl hi) (fun i hi => .inl hi) fun i hi => by
    simp only [List.mem_singleton] at hi
    omega)

end Go.Th.L
end

section
/- wal: a name laid by; what is asked of strings and numbers. -/
set_option linter.unusedSimpArgs false
set_option linter.unusedVariables false
set_option maxHeartbeats 1000000
namespace Go.Th.L
open Go Go.Th Go.Th.Pure
variable {P : Program} {N : Nat → Nat}

def PrefixW (P : Program) (f : FuncId) : Prop := ∀ {s t : Nm} {S : St} {K : Bool → St → Prop}, K (t.isPrefixOf s) S → CallA P f [.str s, .str t] S (retT [.one .bool] K)
def AtoiW (P : Program) (f : FuncId) : Prop := ∀ {n : Int} {S : St} {K : Int → V → St → Prop}, 1000000 ≤ n → n < 2000000 → K (n - 1000000) .nilIface S → CallA P f [.str ((Lib.decDigits n.toNat).drop 1)] S (retT [.one (.int .i64), .one .any] K)

end Go.Th.L
end

section
/- wal: a segment laid behind; a log opened on a disk with one file; Cut of too much; no log. -/
set_option linter.unusedSimpArgs false
set_option linter.unusedVariables false
set_option maxHeartbeats 1000000
namespace Go.Th.L
open Go Go.Th Go.Th.Pure
variable {P : Program} {N : Nat → Nat}

theorem LD.push {S0 S : St} {G D B : List Nat} {d : Nat} {q : LP} {l : LogR} {r : DiskR} (h : LD S0 S G D B d q l r) (hl : l.segs.length ≤ 1000000) (s : SegR) {K : St → Prop}
    (hk : ∀ S' G' q', q'.o = q.o → LD S0 S' G' D B d q' { l with segs := l.segs ++ [s] } r → Upd (q.o :: q.sv.block) S S' → (∀ i ∈ G', i ∈ G ∨ S.next ≤ i) → K S') :
    newS S (.cells (segC s) true) fun S1 => V.cells (V.ptr S.next 0) = [V.ptr S.next 0] ∧ newS S1 (.cells [V.ptr S.next 0] true) fun S2 => ifP (appV S2 1 8 q.sv (V.slice S1.next 0 1 1 1 true)) fun x S3 => nilV (V.ptr q.o 0) = some (V.ptr q.o 0) ∧ ifS (storeV S3 1 (V.ptr q.o 1) x) K := by
  refine newS_mk h.wf fun S1 g1 m1 n1 => ⟨rfl, newS_mk g1.wf fun S2 g2 m2 n2 => ?_⟩
  have g12 := g1.trans g2
  have L2 := h.grow g12
  have m1s := g2.get m1
  have hsrc : srcV 1 S2 (.slice S1.next 0 1 1 1 true) = some (1, [.ptr S.next 0]) := by
    simp only [srcV, if_true]
    rw [St.loads_of m2 (by simp)]; rfl
  have hgl : q.gs.length = l.segs.length := h.lg.len
  obtain ⟨v3, S3, e3, a3, u3, t3⟩ := L2.lg.sl.app g2.wf (by omega) hsrc rfl (by simp [V.one]) (bytes := 8) (by omega) (by omega)
  have eS : S.next ∉ G := fun hi => by have := h.lg.lt _ hi; omega
  have eD : S.next ∉ D := fun hi => by have := h.dh.ltD _ hi; omega
  have eB : S.next ∉ B := fun hi => by have := h.dh.ltB _ hi; omega
  have hv3 : ∀ i ∈ v3.block, i < S3.next := fun i hi => by
    obtain ⟨_, vs, hg⟩ := a3.own i hi
    exact u3.wf.lt hg
  have l2 := g12.le
  have l3 := u3.le
  have o3 := u3.get L2.lg.obj L2.lg.n2
  refine ifP_mk e3 ⟨rfl, st_mk u3.wf o3 (by rw [a3.at_.cells1]; rfl) (by rw [a3.at_.cells1]; simp [logC]) (by rw [a3.at_.cells1]; simp [a3.at_.one1]) fun S4 u4 m4 n4 => ?_⟩
  rw [a3.at_.cells1] at m4
  have u24 : Upd (q.o :: q.sv.block) S2 S4 := (u3.mono fun i hi => .inl (List.mem_cons_of_mem _ hi)).after u4 fun i hi => .inr (by simp only [List.mem_singleton] at hi; simp [hi])
  have qS : q.o ≠ S.next := fun e => eS (e ▸ h.lg.oG)
  have svS : S.next ∉ q.sv.block := fun hi => eS (h.lg.sG _ hi)
  have m4s := u4.get (u3.get m1s svS) (by simp only [List.mem_singleton]; exact fun e => qS e.symm)
  have gLt : ∀ i ∈ G, i < S2.next := L2.lg.lt
  have vS : ∀ i ∈ v3.block, i ≠ S.next := fun i hi e => by
    rcases t3 i hi with h' | h'
    · exact svS (e ▸ h')
    · omega
  have k4 := L2.lg.add (S' := S4) (X := q.o :: q.sv.block) (Gn := S.next :: v3.block.filter fun i => decide (S2.next ≤ i)) (g := S.next) (v := v3) (s := s) (l' := { l with segs := l.segs ++ [s] }) u24 (fun i hi => by simpa using hi) (fun i hi => by
      rcases List.mem_cons.mp hi with rfl | hi
      · exact ⟨eS, by omega⟩
      · simp only [List.mem_filter, decide_eq_true_eq] at hi
        exact ⟨fun hG => by have := gLt i hG; omega, by have := hv3 i hi.1; omega⟩)
    (by rw [m4]; rfl) rfl (by
      have := a3.upd u4 fun i hi => by
        simp only [List.mem_singleton]
        rintro rfl
        rcases t3 _ hi with h' | h'
        · exact L2.lg.n2 h'
        · have := L2.lg.lt _ L2.lg.oG; omega
      simpa [ptrE] using this) m4s (by simp) (fun i hi => by
      rcases t3 i hi with h' | h'
      · exact .inl h'
      · exact .inr ⟨by simp [hi, h'], vS i hi⟩)
  have l0 := h.g.le
  have lD := L2.dh.ltD
  have lB := L2.dh.ltB
  refine hk S4 _ { q with sv := v3, gs := q.gs ++ [S.next] } rfl ⟨k4, L2.dh.upd u24 (fun i hi hD => ?_) (fun i hi hB => ?_), L2.g.after u24 fun i hi => .inl ?_, fun i hi => ?_, L2.fD, fun i hi => ?_⟩ ((g12.mono (by simp)).trans u24) (fun i hi => ?_)
  · rcases List.mem_cons.mp hi with rfl | hi
    · exact (L2.ap _ L2.lg.oG).1 hD
    · exact (L2.ap _ (L2.lg.sG _ hi)).1 hD
  · rcases List.mem_cons.mp hi with rfl | hi
    · exact (L2.ap _ L2.lg.oG).2 hB
    · exact (L2.ap _ (L2.lg.sG _ hi)).2 hB
  · rcases List.mem_cons.mp hi with rfl | hi
    · exact L2.fG _ L2.lg.oG
    · exact L2.fG _ (L2.lg.sG _ hi)
  · rcases List.mem_append.mp hi with hi | hi
    · exact L2.fG i hi
    · rcases List.mem_cons.mp hi with rfl | hi
      · exact l0
      · simp only [List.mem_filter, decide_eq_true_eq] at hi
        omega
  · rcases List.mem_append.mp hi with hi | hi
    · exact L2.ap i hi
    · rcases List.mem_cons.mp hi with rfl | hi
      · exact ⟨eD, eB⟩
      · simp only [List.mem_filter, decide_eq_true_eq] at hi
        exact ⟨fun hD => by have := lD i hD; omega, fun hB => by have := lB i hB; omega⟩
  · rcases List.mem_append.mp hi with hi | hi
    · exact .inl hi
    · rcases List.mem_cons.mp hi with rfl | hi
      · exact .inr (Nat.le_refl _)
      · simp only [List.mem_filter, decide_eq_true_eq] at hi
        exact .inr (by omega)

theorem recE_ones (l : List (Int × List UInt8)) : (recE l).flatten.all V.one = true := by
  induction l with
  | nil => rfl
  | cons a l ih => simp [recE, V.one]

theorem wal_Open.one (hO : WalF P N) (hP : PrefixW P (N Fn.strings_HasPrefix)) (hA : AtoiW P (N Fn.strconv_Atoi)) {S0 S : St} {D B : List Nat} {d : Nat} {r : DiskR} (h : Fd S0 S D B d r) {M : Nat} (hok : OkR M r) (hM : M + 2000 ≤ 1000000) {k : Int} (hk0 : 0 ≤ k ∧ k ≤ 900000) (hn : namesR r = [nameB k]) (hd : downR r = false)
    {b : List UInt8} (hr : readR r (nameB k) = (b, 0)) (hb : beginsB b = (1, true)) (hbl : 16 ≤ b.length ∧ b.length ≤ 4194304) {rs : List (Int × List UInt8)} (hrs : recsB b.length (b.drop 16) 1 = (rs, true)) (hrl : rs.length ≤ 1000) {lc : LogR} {rc : DiskR}
    (ec : logSyncR ⟨[⟨nameB k, 1, 1 + rs.length, b.length, true⟩], 0, true, k + 1⟩ r = (0, lc, rc)) (lc1 : lc.segs.length ≤ 1000) (hsc : SegsOk lc.segs) {K : V → V → Int → St → Prop}
    (hk : ∀ (S1 S' : St) G' D' B' q' v, S0.next ≤ S1.next → LD S0 S' G' D' B' d q' { lc with synced := lastR lc } rc → OkR (M + 2000) rc → SlE S' 2 v (recE rs) → Opn D B S G' D' B' S' → (∀ i ∈ v.block, S.next ≤ i ∧ i < S'.next ∧ i ∉ G' ∧ i ∉ D') → K (.ptr q'.o 0) v 0 S') :
    CallA P (N Fn.wal_Open) [.ptr d 0] S (retT [.one .any, .one .any, .one (.int .i64)] K) := by
  refine wal_Open.run hO.open_ ⟨false, rfl, ifC_ff rfl (DH.down hO.d h.dh (ifC_ff hd ⟨rfl, newS_mk h.wf fun S2 g2 m2 n2 => newS_mk g2.wf fun S3 g3 m3 n3 => ?_⟩))⟩
  have L3 := (LD.new h g2 n2 m2).grow g3
  refine DH.names hO.d L3.dh L3.wf hok fun v S4 b4 => ?_
  have L4 := L3.grow b4.grow
  have sl4 := b4.sl
  rw [hn] at sl4
  have hv : lenV S4 2 v = some (.int .i64 1) := sl4.len
  have m4 := b4.grow.get m3
  have l4 := b4.grow.le
  refine ⟨1, hv, Loop4.ind (fun m a b' c z S' => (m = 1 ∧ a = .nilSlice ∧ b' = .nilSlice ∧ c = false ∧ z = 0 ∧ S4 = S') ∨ (m = 0 ∧ c = true ∧ z = 1 ∧ S'.get S2.next = some (.cells [V.nilSlice] true) ∧ SlE S' 2 a (recE rs) ∧ (∀ i ∈ a.block, S4.next ≤ i ∧ i < S'.next) ∧ ∃ G q, q.o = S.next ∧ (∀ i ∈ a.block, i ∉ G) ∧ LD S0 S' G D B d q ⟨[⟨nameB k, 1, 1 + rs.length, b.length, true⟩], 0, false, k + 1⟩ r ∧ Upd [S.next] S4 S' ∧ ∀ i ∈ G, S.next ≤ i)) 1 (.inl ⟨rfl, rfl, rfl, rfl, rfl, rfl⟩) ?_⟩
  rintro m a b' c z S5 (⟨rfl, rfl, rfl, rfl, rfl, rfl⟩ | ⟨rfl, rfl, rfl, m5, sl5, bl5, G, q, eq5, ap5, h5, u5, g5⟩)
  · have h0 : loadV S4 (eltV 1 v 0 0) = some (.str (nameB k)) := by
      rw [sl4.get (j := 0) (by simp [strE]) (by omega)]; rfl
    refine ifC_tt rfl (ifS_mk (sl4.idx (j := 0) (by simp [strE])) ⟨nameB k, h0, hP (ifC_ff rfl ?_)⟩)
    have hsl : sliceStrV (.str (nameB k)) (some (.int .i64 4)) none = some (.str ((Lib.decDigits (1000001 + k).toNat).drop 1)) := by
      have hl : 4 ≤ (nameB k).length := by simp [nameB]
      have := bnds_l (len := (nameB k).length) (cap := (nameB k).length) (l := 4) (k := .i64) hl
      simp only [sliceStrV]
      rw [show ((4 : Int)) = ((4 : Nat) : Int) from rfl, this]
      simp [nameB, List.take_of_length_le]
    refine Join0.mid (fun S' => Upd [S.next] S4 S' ∧ S'.get S2.next = some (.cells [V.nilSlice] true) ∧ LD S0 S' [S.next] D B d ⟨S.next, .nilSlice, []⟩ { newL with file := k + 1 } r) ⟨_, hsl, hA (by omega) (by omega) ⟨true, rfl, ifC_tt rfl ⟨rfl, _, ld L4.lg.obj rfl, rfl, ?_⟩⟩⟩ ?_
    · have eg : goMax 0 (1000001 + k - 1000000) = k + 1 := by simp only [goMax]; split <;> omega
      show ifS (storeV S4 1 (V.ptr S.next 4) (V.int .i64 (goMax 0 (1000001 + k - 1000000)))) _
      rw [eg]
      refine st_mk L4.wf L4.lg.obj rfl (by simp [logC, V.cells]) (by simp [V.cells, V.one]) fun S9 u9 m9 n9 => ⟨u9, u9.get m4 (by simp only [List.mem_singleton]; omega), ?_⟩
      refine L4.log (L4.lg.setObj (l' := { newL with file := k + 1 }) u9 (by rw [m9]; rfl) rfl) u9 fun j hj => hj
    rintro S7 ⟨u7, m7, L7⟩
    refine DH.read hO.d L7.dh L7.wf hok hr fun x S10 bx => ifC_ff rfl (wal_begins.spec hO.b bx.at_ (by omega) ?_)
    rw [hb]
    have L10 := L7.grow bx.grow
    have m10 := bx.grow.get m7
    refine Join1.mid (fun b1 S' => b1 = false ∧ S' = S10) (ifC_ff rfl ⟨rfl, ifS_mk (ld L10.lg.obj rfl) ⟨0, rfl, ifC_ff rfl ⟨rfl, rfl⟩⟩⟩) ?_
    rintro b1 S12 ⟨rfl, rfl⟩
    refine ifC_ff rfl (wal_records.spec hO.b L10.wf bx.at_ hbl.2 hbl.1 (seq := 1) (by omega) fun va S15 ba => ?_)
    rw [hrs] at ba ⊢
    have L15 := L10.grow ba.grow
    refine Built.app (Built.nil (S0 := S15) (Upd.refl L15.wf []) 2) (es := []) (ds := recE rs) (SlAt.src ba.acc.at_) ba.each (recE_ones rs) (by rw [recE_len]; simp; omega) (by rw [recE_len]; simp; omega) fun v6 S16 b16 u16 t16 => ?_
    rw [List.nil_append] at b16
    have L16 := L15.grow b16.grow
    have lva : lenV S16 2 va = some (.int .i64 rs.length) := by
      have := (ba.sl.grow b16.grow).len
      rwa [recE_len] at this
    have lx : lenV S16 2 x = some (.int .i64 b.length) := SlAt.len ((SlAt.grow bx.at_ ba.grow).grow b16.grow)
    refine ⟨rfl, ifS_mk (ld L16.lg.obj rfl) ⟨_, lva, setI_mk (n := 1 + rs.length) (by rw [IntKind.wrap_i64]; omega) ⟨_, lx, ?_⟩⟩⟩
    have l7 := u7.le
    have l10 := bx.grow.le
    have l15 := ba.grow.le
    have l16 := b16.grow.le
    refine LD.push L16 (by simp [newL]) ⟨nameB k, 1, 1 + rs.length, b.length, true⟩ fun S20 G' q' eq' L20 u20 hG' => setI_mk (n := 1) rfl ⟨0, by omega, .inr ⟨rfl, rfl, rfl, ?_, ?_, ?_, G', q', eq', ?_, L20, ?_, ?_⟩⟩
    · refine u20.get (b16.grow.get (ba.grow.get m10)) ?_
      simp only [V.block, List.mem_cons, List.not_mem_nil, or_false]
      omega
    · refine b16.sl.upd u20 fun i hi => ?_
      have := b16.from i hi
      simp only [V.block, List.mem_cons, List.not_mem_nil, or_false]
      omega
    · intro i hi
      have := b16.from i hi
      have := b16.lt i hi
      have := u20.le
      omega
    · intro i hi hG
      have := b16.from i hi
      have := b16.lt i hi
      rcases hG' i hG with h' | h'
      · simp only [List.mem_singleton] at h'
        omega
      · omega
    · exact (((u7.after bx.grow (by simp)).after ba.grow (by simp)).after b16.grow (by simp)).after u20 fun i hi => by
        simp only [V.block, List.mem_cons, List.not_mem_nil, or_false] at hi
        exact .inr (by simp [hi])
    · intro i hi
      rcases hG' i hi with h' | h'
      · simp only [List.mem_singleton] at h'
        omega
      · omega
  · refine ifC_ff rfl (ifS_mk (ld m5 rfl) ?_)
    rw [← eq5]
    refine wal_Log_settle.well hO h5 hok (by simp) (by simp only [List.length_singleton]; omega) (by simp only [SegsOk, List.mem_singleton]; rintro s rfl; simp only; omega) fun S6 D6 B6 h6 ok6 mv6 => ?_
    rw [ec] at h6 ok6 ⊢
    simp only [List.length_singleton] at h6 ok6 ⊢
    have ld4 := L4.dh.ltD
    have sl6 : SlE S6 2 a (recE rs) := sl5.upd mv6.1 fun i hi hi' => by
      have := bl5 i hi
      rcases List.mem_append.mp hi' with h' | h'
      · exact ap5 i hi h'
      · have := ld4 i h'; omega
    refine ifC_ff rfl (wal_Log_Last.spec hO.last h6.lg (by omega) hsc ⟨rfl, st_mk h6.wf h6.lg.obj rfl (by simp [logC, V.cells]) (by simp [V.cells, V.one]) fun S7 u7 m7 n7 => ?_⟩)
    have hq : ∀ j ∈ [q.o], j ∈ G := fun j hj => by
      simp only [List.mem_singleton] at hj
      subst hj; exact h6.lg.oG
    have u4 : Upd D S S5 := ((((Upd.refl h.wf D).after g2 (by simp)).after g3 (by simp)).after b4.grow (by simp)).after u5 fun i hi => by
      simp only [List.mem_singleton] at hi
      exact .inl (by omega)
    have l4 := b4.grow.le
    refine hk S4 S7 G D6 B6 q a L4.g.le (h6.log (h6.lg.setObj (l' := { lc with synced := lastR lc }) u7 (by rw [m7]; rfl) rfl) u7 hq) (ok6.mono (by omega)) (sl6.upd u7 fun i hi hi' => ap5 i hi (hq i hi')) (Mvg.opn (mv6.log u7 hq).g u4 (fun i hi => .inl hi) (fun i hi => .inl hi) g5) fun i hi => ?_
    have b1 := bl5 i hi
    have l6 := mv6.1.le
    have l7 := u7.le
    refine ⟨by omega, by omega, ap5 i hi, fun hD => ?_⟩
    rcases mv6.2.1 i hD with h' | h'
    · have := ld4 i h'; omega
    · omega

end Go.Th.L
end

section
/- wal: the document's examples; no disk, no log. -/
set_option linter.unusedSimpArgs false
set_option linter.unusedVariables false
set_option maxHeartbeats 1000000
set_option maxRecDepth 10000
namespace Go.Th.L
open Go Go.Th Go.Th.Pure
variable {P : Program} {N : Nat → Nat}

theorem layR_ok {M : Nat} {l : LogR} {r : DiskR} (h : OkR M r) (seq : Int) (t : Nm) : OkR (M + 1) (layR l r seq t).2.2 := by
  unfold layR
  split
  · exact h.mono (by omega)
  · split <;> exact appendR_ok h _ _
theorem prw3 {α β : Type} {p : Int × α × β} (h : p.1 = 0) : p = (0, p.2.1, p.2.2) := by rw [← h]
theorem St.grow0 {S : St} (hw : S.Wf) : Grow St.empty S := ⟨St.Wf.empty, hw, Nat.zero_le _, fun i hi => absurd hi (Nat.not_lt_zero _)⟩
theorem Fd.of {S : St} (hw : S.Wf) {D B : List Nat} {d : Nat} {r : DiskR} (h : DH S D B d r) : Fd St.empty S D B d r := ⟨h, St.grow0 hw, fun _ _ => Nat.zero_le _, fun _ _ => Nat.zero_le _⟩

def w0 : DiskR := newR 4194304
def wa : Int × LogR × DiskR := logSyncR { newL with names := true } w0
def wb : Int × LogR × DiskR := beginR wa.2.1 wa.2.2 1
def wc : Int × LogR × DiskR := logSyncR wb.2.1 wb.2.2
def l1 : LogR := { wc.2.1 with synced := lastR wc.2.1 }
def wd : Int × LogR × DiskR := layR l1 wc.2.2 (lastR l1 + 1) [97]
def we : Int × LogR × DiskR := layR wd.2.1 wd.2.2 (lastR wd.2.1 + 1) [98]
def wf : Int × LogR × DiskR := logSyncR we.2.1 we.2.2
def wg : Int × LogR × DiskR := layR wf.2.1 wf.2.2 (lastR wf.2.1 + 1) [99]
def wh : DiskR := crashR [] wg.2.2
def wt : List UInt8 := (readR wh (nameB 0)).1
def wi : Int × LogR × DiskR := logSyncR ⟨[⟨nameB 0, 1, 1 + (2 : Nat), wt.length, true⟩], 0, true, 0 + 1⟩ wh
def l2 : LogR := { wi.2.1 with synced := lastR wi.2.1 }

theorem wa_0 : wa.1 = 0 := by decide +kernel
theorem wb_0 : wb.1 = 0 := by decide +kernel
theorem wc_0 : wc.1 = 0 := by decide +kernel
def okB (l : LogR) : Bool := l.segs.all fun s => decide (0 ≤ s.next) && decide (s.next ≤ 4611686018427387904) && decide (0 ≤ s.size) && decide (s.size ≤ 16384)
theorem okB.segs {l : LogR} (h : okB l = true) : SegsOk l.segs := fun s hs => by
  have := List.all_eq_true.mp h s hs
  simp only [Bool.and_eq_true, decide_eq_true_eq] at this
  exact ⟨this.1.1.1, this.1.1.2⟩
theorem okB.size {l : LogR} (h : okB l = true) : ∀ s ∈ l.segs, 0 ≤ s.size ∧ s.size ≤ 16384 := fun s hs => by
  have := List.all_eq_true.mp h s hs
  simp only [Bool.and_eq_true, decide_eq_true_eq] at this
  exact ⟨this.1.2, this.2⟩
theorem wb_o : okB wb.2.1 = true ∧ wb.2.1.segs.length = 1 := by decide +kernel
theorem l1_o : okB l1 = true ∧ l1.segs.length = 1 ∧ lastR l1 = 0 := by decide +kernel
theorem wa_e : wa.2.1.segs = [] ∧ 0 ≤ wa.2.1.file ∧ wa.2.1.file ≤ 8000000 := ⟨rfl, by decide +kernel, by decide +kernel⟩
theorem ea : logSyncR { newL with names := true } w0 = (0, wa.2.1, wa.2.2) := prw3 wa_0
theorem eb : beginR wa.2.1 wa.2.2 1 = (0, wb.2.1, wb.2.2) := prw3 wb_0
theorem ec : logSyncR wb.2.1 wb.2.2 = (0, wc.2.1, wc.2.2) := prw3 wc_0
theorem wc_o : okB wc.2.1 = true ∧ wc.2.1.segs.length = 1 := by decide +kernel
end Go.Th.L
end

section
/- vec, flat, the document: vectors and rows checked. -/
set_option linter.unusedSimpArgs false
set_option linter.unusedVariables false
namespace Go.Th.L
open Go Go.Th Go.Th.Pure
variable {P : Program} {N : Nat → Nat}

def vec_dim.Spec (P : Program) (N : Nat → Nat) : Prop := ∀ (n : Int) (S : St) (K : Bool → St → Prop), K (decide (1 ≤ n ∧ n ≤ 64)) S → CallA P (N Fn.vec_dim) [.int .i64 n] S (retT [.one .bool] K)
theorem vec_dim.spec (hF : vec_dim.Ok P N) : vec_dim.Spec P N := by
  intro n S K h
  refine vec_dim.run hF (ifC_dec (fun h1 => ?_) (fun h1 => ?_))
  · simpa [h1] using h
  · simpa [h1] using h

def ChecksV (P : Program) (f : Nat) : Prop := ∀ (v : V) (l : List Int) (d : Int) (S : St) (K : Int → St → Prop), IntsAt S v l → K (checkV l d) S → CallA P f [v, .int .i64 d] S (retT [.one (.int .i64)] K)

theorem allC_step {l : List Int} {j : Nat} (hj : j < l.length) (h : ∀ i (h : i < j) (h2 : i < l.length), inC l[i] = true) (hx : inC l[j] = true) : ∀ i (h : i < j + 1) (h2 : i < l.length), inC l[i] = true := by
  intro i h1 h2
  rcases Nat.lt_or_ge i j with hi | hi
  · exact h i hi h2
  · have : i = j := by omega
    subst this; exact hx
theorem allC_all {l : List Int} {j : Nat} (hj : l.length ≤ j) (h : ∀ i (h : i < j) (h2 : i < l.length), inC l[i] = true) : l.all inC = true := by
  rw [List.all_eq_true]
  intro x hx
  obtain ⟨i, hi, rfl⟩ := List.getElem_of_mem hx
  exact h i (by omega) hi
theorem allC_not {l : List Int} {j : Nat} (hj : j < l.length) (h : ¬ (inC l[j] = true)) : ¬ (l.all inC = true) := by
  rw [List.all_eq_true]
  exact fun h' => h (h' _ (List.getElem_mem hj))

theorem vec_Check.spec (hF : vec_Check.Ok P N) (hd : vec_dim.Spec P N) : ChecksV P (N Fn.vec_Check) := by
  intro v l d S K hv h
  have hle := hv.le
  refine vec_Check.run hF (Join0.mid (fun S' => S' = S ∧ 1 ≤ d ∧ d ≤ 64 ∧ (l.length : Int) = d) ?_ ?_)
  · refine hd d S _ ?_
    by_cases h1 : 1 ≤ d ∧ d ≤ 64
    · rw [decide_eq_true h1]
      refine ifC_ff rfl ⟨_, hv.len, ifC_ndec (fun h2 => ?_) (fun h2 => ⟨rfl, h1.1, h1.2, h2⟩)⟩
      rwa [checkV, if_pos (.inr (.inr h2))] at h
    · rw [decide_eq_false h1]
      refine ifC_tt rfl ?_
      rwa [checkV, if_pos (by omega)] at h
  rintro S' ⟨rfl, h1, h2, h3⟩
  rw [checkV, if_neg (by omega)] at h
  refine ⟨_, hv.len, ?_⟩
  refine Loop1.ind (fun n x S'' => S'' = S' ∧ ∃ j : Nat, x = j ∧ j + n = l.length ∧ ∀ i (h : i < j) (h2 : i < l.length), inC l[i] = true) l.length ⟨rfl, 0, rfl, by omega, fun i h => by omega⟩ ?_
  rintro n _ S'' ⟨rfl, j, rfl, hj, ha⟩
  refine ifC_dec (fun hlt => ?_) (fun hge => ?_)
  · have hjl : j < l.length := by omega
    refine ifS_mk (hv.idx hjl) ⟨_, IntsAt.get hv hjl, ifC_dec (fun h4 => ?_) (fun h4 => ifC_dec (fun h5 => ?_) (fun h5 => ?_))⟩
    · rwa [if_neg (allC_not hjl (by simp [inC]; omega))] at h
    · rwa [if_neg (allC_not hjl (by simp [inC]; omega))] at h
    · exact setI_mk (wrap_succ (by omega)) ⟨n - 1, by omega, rfl, j + 1, rfl, by omega, allC_step hjl ha (by simp [inC]; omega)⟩
  · rwa [if_pos (allC_all (by omega) ha)] at h

end Go.Th.L
end

section
/- codec: numbers laid and read; changes, rows. -/
set_option linter.unusedSimpArgs false
set_option linter.unusedVariables false
namespace Go.Th.L
open Go Go.Th Go.Th.Pure
variable {P : Program} {N : Nat → Nat}

def LaysB (P : Program) (f : Nat) (ok : Int → Prop) : Prop := ∀ (b : V) (v : Int) (n : Nat) (bs : List UInt8) (S0 S : St) (K : V → St → Prop), BuiltB S0 S b bs → bs.length + n ≤ 1099511627776 → ok v →
  (∀ b' S', BuiltB S0 S' b' (bs ++ le n v) → Upd b.block S S' → (∀ i ∈ b'.block, i ∈ b.block ∨ S.next ≤ i) → K b' S') → CallA P f [b, .int .i64 v, .int .i64 n] S (retT [.one .any] K)

theorem shr8 (a : Int) : Int.fdiv a (2 ^ (min (Int.toNat (8 : Int)) (IntKind.bits .i64))) = a / 256 := by
  show a.fdiv 256 = _
  exact Int.fdiv_eq_ediv_of_nonneg _ (by omega)

theorem codec_lay.spec (hF : codec_lay.Ok P N) : LaysB P (N Fn.codec_lay) (fun _ => True) := by
  intro b v n bs S0 S K hb hl _ h
  refine codec_lay.run hF ?_
  refine Loop3.ind (fun k x y z S' => ∃ (j : Nat) (b' : V), j + k = n ∧ x = b' ∧ y = v / 256 ^ j ∧ z = j ∧ BuiltB S0 S' b' (bs ++ le j v) ∧ Upd b.block S S' ∧ ∀ i ∈ b'.block, i ∈ b.block ∨ S.next ≤ i) n
    ⟨0, b, by omega, rfl, by simp, rfl, by simpa [le] using hb, Upd.refl hb.grow.wf _, fun i hi => .inl hi⟩ ?_
  rintro k _ _ _ S' ⟨j, b', hj, rfl, rfl, rfl, hb', hu, ht⟩
  refine ifC_dec (fun hlt => ?_) (fun hge => ?_)
  · refine setI_mk (wrap_byte _) (hb'.push (byteZ (v / 256 ^ j)) (by simp only [List.length_append, le_length]; omega) fun b2 S2 hb2 u2 t2 => ⟨by omega, setI_mk (shr8 _) (setI_mk (wrap_succ (by omega)) ?_)⟩)
    refine ⟨k - 1, by omega, j + 1, b2, by omega, rfl, ?_, rfl, ?_, hu.after u2 (fun i hi => by rcases ht i hi with h | h; exact .inr h; exact .inl h), fun i hi => ?_⟩
    · rw [Int.ediv_ediv_of_nonneg (by have : (0:Int) < 256 ^ j := Int.pow_pos (by omega); omega), Int.pow_succ]
    · rw [le_succ, ← List.append_assoc]; exact hb2
    · rcases t2 i hi with h | h
      · exact ht i h
      · have := hu.le; exact .inr (by omega)
  · have : j = n := by omega
    subst this
    exact h _ _ hb' hu ht

end Go.Th.L
end

section
/- codec: numbers and coordinates read. -/
set_option linter.unusedSimpArgs false
set_option linter.unusedVariables false
namespace Go.Th.L
open Go Go.Th Go.Th.Pure
variable {P : Program} {N : Nat → Nat}

def codec_reading_cut.Spec (P : Program) (N : Nat → Nat) : Prop := ∀ (i n : Nat) (s : List UInt8) (bad : Bool) (S : St) (K : V → St → Prop), S.Wf → RdAt S i s bad → n ≤ 1099511627776 →
  (∀ v S', Upd [i] S S' → RdAt S' i (rd s bad n).1 (rd s bad n).2.1 → BytesAt S' v (rd s bad n).2.2 → K v S') → CallA P (N Fn.codec_reading_cut) [.ptr i 0, .int .i64 n] S (retT [.one .any] K)

theorem bytes_zero (n : Nat) : reps n [V.int .u8 0] = bytesV (List.replicate n 0) := by
  induction n with
  | zero => rfl
  | succ n ih =>
    simp only [reps, bytesV, List.replicate_succ, List.flatten_cons, List.map_cons, List.singleton_append] at ih ⊢
    rw [ih]; rfl

theorem codec_reading_cut.spec (hF : codec_reading_cut.Ok P N) : codec_reading_cut.Spec P N := by
  intro i n s bad S K hw hg hn h
  refine codec_reading_cut.run hF (ifP_mk (mk_slice (by omega) (by omega)) ?_)
  rw [bytes_zero]
  have g1 : Grow S (S.new (.cells (bytesV (List.replicate n 0)) true)) := (Upd.refl hw []).new _
  have a1 := Acc.fresh hw (B := S.next) (Nat.le_refl _) (n := n) (k := 1) (by omega) (cs := bytesV (List.replicate n 0)) (by simp [bytesV_length]) (bytesV_ones _) true
  generalize S.new (.cells (bytesV (List.replicate n 0)) true) = S1 at g1 a1
  have m1 : RdAt S1 i s bad := g1.get hg
  have hi : i < S.next := hw.lt hg
  refine Join0.mid (fun S' => Upd [i] S1 S' ∧ RdAt S' i s (decide (bad = true ∨ s.length < n))) ?_ ?_
  · refine ⟨rfl, ifS_mk rfl ⟨_, ld m1 rfl, ifC_tt_ff ?_ ?_⟩⟩
    · rintro rfl
      exact ⟨rfl, ifS_mk rfl (st_mk g1.wf m1 rfl (by simp [V.cells]) rfl fun S2 u2 m2 n2 => ⟨u2, by simpa [over, V.cells] using m2⟩)⟩
    · rintro rfl
      refine ⟨rfl, ifS_mk rfl ⟨_, ld m1 rfl, rfl, ifS_mk rfl (st_mk g1.wf m1 rfl (by simp [V.cells]) rfl fun S2 u2 m2 n2 => ⟨u2, ?_⟩)⟩⟩
      have : (decide (((s.length : Nat) : Int) < n)) = decide (false = true ∨ s.length < n) := by
        congr 1; simp
      rw [this] at m2
      simpa [over, V.cells] using m2
  rintro S2 ⟨u2, m2⟩
  have a2 := a1.upd u2 (by simp only [V.block, List.mem_singleton]; rintro j rfl; omega)
  have hu : Upd [i] S S2 := (g1.mono (by simp)).trans u2
  refine ⟨rfl, ifS_mk rfl ⟨_, ld m2 rfl, ifC_dec (fun hb => ?_) (fun hb => ?_)⟩⟩
  · have hr : rd s bad n = (s, true, List.replicate n 0) := by simp only [rd, if_pos hb]
    rw [hr] at h
    rw [decide_eq_true hb] at m2
    exact h _ _ hu m2 a2.at_.bytes
  · have hr : rd s bad n = (s.drop n, false, s.take n) := by simp only [rd, if_neg hb]
    rw [hr] at h
    rw [decide_eq_false hb] at m2
    have hlen : n ≤ s.length := by
      have := not_or.mp hb
      omega
    obtain ⟨S3, e3, a3, u3⟩ := a2.copy u2.wf (y := .str s) (m := s.length) (ds := bytesV s) rfl (by simp [bytesV_length]) (bytesV_ones _) (by omega)
    have hni : i ∉ (V.slice S.next 0 n n 1 true).block := by simp only [V.block, List.mem_singleton]; omega
    have m3 : RdAt S3 i s false := u3.get m2 hni
    refine ⟨rfl, ifS_mk rfl ⟨_, ld m2 rfl, ifP_mk e3 ⟨rfl, ifS_mk rfl ⟨_, ld m3 rfl, _, sliceStr_from hlen, rfl, ifS_mk rfl (st_mk u3.wf m3 rfl (by simp [V.cells]) rfl fun S4 u4 m4 n4 => ?_)⟩⟩⟩⟩
    have hcs : over (bytesV (List.replicate n 0)) 0 ((bytesV s).take (min s.length n * 1)) = bytesV (s.take n) := by
      have hdl : ((bytesV s).take n).length = n := by rw [List.length_take, bytesV_length]; omega
      rw [Nat.min_eq_right hlen, Nat.mul_one, over_at (by rw [hdl]; simp [bytesV_length]), hdl, List.take_zero, Nat.zero_add, List.drop_of_length_le (by simp [bytesV_length]), List.nil_append, List.append_nil, bytesV_take]
    rw [hcs] at a3
    have a4 := a3.upd u4 (by simp only [V.block, List.mem_singleton]; rintro j rfl; omega)
    refine h _ S4 ((hu.after u3 (fun j hj => by simp only [V.block, List.mem_singleton] at hj; exact .inl (by omega))).trans u4) (by simpa [over, V.cells] using m4) a4.at_.bytes

def codec_reading_number.Spec (P : Program) (N : Nat → Nat) : Prop := ∀ (i n : Nat) (s : List UInt8) (bad : Bool) (S : St) (K : Int → St → Prop), S.Wf → RdAt S i s bad → n ≤ 7 →
  (∀ S', Upd [i] S S' → RdAt S' i (rd s bad n).1 (rd s bad n).2.1 → K (num (rd s bad n).2.2 : Nat) S') → CallA P (N Fn.codec_reading_number) [.ptr i 0, .int .i64 n] S (retT [.one (.int .i64)] K)

theorem codec_reading_number.spec (hF : codec_reading_number.Ok P N) (hC : codec_reading_cut.Spec P N) : codec_reading_number.Spec P N := by
  intro i n s bad S K hw hg hn h
  refine codec_reading_number.run hF (hC i n s bad S _ hw hg (by omega) ?_)
  intro v S1 u1 g1 hv
  have h := h S1 u1 g1
  have hrl := rd_length s bad n
  generalize (rd s bad n).2.2 = bs at hrl hv h
  subst hrl
  refine ⟨_, hv.len, ?_⟩
  refine Loop2.ind (fun k x y S' => S' = S1 ∧ ∃ j : Nat, y = j ∧ j + k = bs.length ∧ x = (num (bs.take j) : Nat)) bs.length ⟨rfl, 0, rfl, by omega, by simp [num]⟩ ?_
  rintro k _ _ S' ⟨rfl, j, rfl, hj, rfl⟩
  refine ifC_dec (fun hlt => ?_) (fun hge => ?_)
  · have hjl : j < bs.length := by omega
    have hb := byte_lt bs[j]
    refine ifS_mk (hv.idx hjl) ⟨_, BytesAt.get hv hjl, setI_mk (i64_nat (by omega)) (setI_mk (n := ((8 * j : Nat) : Int)) (by rw [IntKind.wrap_i64]; omega) ⟨by omega, setI_mk (shl_byte hb (by omega)) (setI_mk (or_byte (num_take_lt bs j) hb (by omega)) (setI_mk (wrap_succ (by omega)) ?_))⟩)⟩
    exact ⟨k - 1, by omega, rfl, j + 1, rfl, by omega, by rw [num_take_succ hjl]⟩
  · have : j = bs.length := by omega
    rw [this, List.take_length]
    exact h

def rdC : Nat → List UInt8 → Bool → List UInt8 × Bool × List Int
  | 0, s, bad => (s, bad, [])
  | n + 1, s, bad => ((rdC n (rd s bad 4).1 (rd s bad 4).2.1).1, (rdC n (rd s bad 4).1 (rd s bad 4).2.1).2.1, sgn32 (num (rd s bad 4).2.2) :: (rdC n (rd s bad 4).1 (rd s bad 4).2.1).2.2)

def codec_reading_coords_1.Spec (P : Program) (N : Nat → Nat) : Prop := ∀ (b i : Nat) (s : List UInt8) (bad : Bool) (S : St) (K : Int → St → Prop), S.Wf → S.get b = some (.cells [.ptr i 0] true) → RdAt S i s bad →
  (∀ S', Upd [i] S S' → RdAt S' i (rd s bad 4).1 (rd s bad 4).2.1 → K (sgn32 (num (rd s bad 4).2.2)) S') → CallA P (N Fn.codec_reading_coords_1) [.ptr b 0] S (retT [.one (.int .i64)] K)

theorem num4_lt (s : List UInt8) (bad : Bool) : num (rd s bad 4).2.2 < 4294967296 := by
  have := num_lt (rd s bad 4).2.2
  rwa [rd_length] at this

theorem codec_reading_coords_1.spec (hF : codec_reading_coords_1.Ok P N) (hN : codec_reading_number.Spec P N) : codec_reading_coords_1.Spec P N := by
  intro b i s bad S K hw hb hg h
  refine codec_reading_coords_1.run hF (ifS_mk (ld hb rfl) (hN i 4 s bad S _ hw hg (by omega) fun S' u' g' => ?_))
  have := num4_lt s bad
  refine setI_mk (n := sgn32 (num (rd s bad 4).2.2)) ?_ (setI_mk (n := sgn32 (num (rd s bad 4).2.2)) ?_ (h S' u' g'))
  · rw [IntKind.wrap_i32]; unfold sgn32; split <;> omega
  · refine i64_int ?_ ?_ <;> unfold sgn32 <;> split <;> omega

def codec_reading_coords.Spec (P : Program) (N : Nat → Nat) : Prop := ∀ (i n : Nat) (s : List UInt8) (bad : Bool) (S : St) (K : V → St → Prop), S.Wf → RdAt S i s bad → n ≤ 1099511627 →
  (∀ v S', Upd [i] S S' → RdAt S' i (rdC n s bad).1 (rdC n s bad).2.1 → IntsAt S' v (rdC n s bad).2.2 → (∀ j ∈ v.block, S.next ≤ j ∧ j < S'.next) → K v S') → CallA P (N Fn.codec_reading_coords) [.ptr i 0, .int .i64 n] S (retT [.one .any] K)

theorem codec_reading_coords.spec (hF : codec_reading_coords.Ok P N) (h1 : codec_reading_coords_1.Spec P N) (hE : canEnter P (N Fn.codec_reading_coords_1) = true) : codec_reading_coords.Spec P N := by
  intro i n s bad S K hw hg hn h
  have hi := hw.lt hg
  refine codec_reading_coords.run hF (newS_mk hw fun S1 g1 m1 n1 => ?_)
  have hg1 : RdAt S1 i s bad := g1.get hg
  refine Loop2.ind (fun k x y S' => ∃ (j : Nat) (l : List Int) (s' : List UInt8) (bad' : Bool), y = j ∧ j + k = n ∧ l.length = j ∧ Acc S' S1.next 1 x (intE l).length (intE l).flatten ∧ Upd [i] S1 S' ∧ RdAt S' i s' bad' ∧
      (rdC n s bad) = ((rdC k s' bad').1, (rdC k s' bad').2.1, l ++ (rdC k s' bad').2.2)) n
    ⟨0, [], s, bad, rfl, by omega, rfl, Acc.nil _ _ _, Upd.refl g1.wf _, hg1, rfl⟩ ?_
  rintro k x _ S2 ⟨j, l, s', bad', rfl, hj, hl, a2, u2, g2, he⟩
  refine ifC_dec (fun hlt => ifS_mk (callee_mk hE) ?_) (fun hge => ?_)
  · obtain ⟨k, rfl⟩ : ∃ q, k = q + 1 := ⟨k - 1, by omega⟩
    have m2 : S2.get S.next = some (.cells [.ptr i 0] true) := u2.get m1 (by simp; omega)
    refine h1 S.next i s' bad' S2 _ u2.wf m2 g2 fun S3 u3 g3 => ?_
    have hnx : ∀ b ∈ x.block, b ∉ [i] := fun b hb hm => by
      have := (a2.own b hb).1
      simp at hm; subst hm; omega
    have a3 := a2.upd u3 hnx
    have hs0 : Built S3 S3 1 .nilSlice [] := Built.nil (Upd.refl u3.wf _) 1
    refine newS_mk u3.wf fun S4 g4 m4 n4 => ?_
    have hs : srcV 1 S4 (.slice S3.next 0 1 1 1 true) = some (1, [V.int .i64 (sgn32 (num (rd s' bad' 4).2.2))]) := by
      simp only [srcV, if_true]
      rw [St.loads_of m4 (by simp)]
      rfl
    have hlt' : j < n := by omega
    have hle3 : S1.next ≤ S4.next := by have := u2.le; have := u3.le; have := g4.le; omega
    obtain ⟨x', S5, e5, a5, u5, t5⟩ := (a3.grow g4).app g4.wf hle3 hs rfl rfl (bytes := 8) (by simp only [intE_len]; omega) (by simp only [intE_len]; omega)
    have hu45 : Upd [i] S1 S5 := ((u2.trans u3).trans (g4.mono (by simp))).after u5 (fun b hb => .inl (a2.own b hb).1)
    refine ifP_mk e5 (setI_mk (wrap_succ (by omega)) ⟨k, by omega, j + 1, l ++ [sgn32 (num (rd s' bad' 4).2.2)], (rd s' bad' 4).1, (rd s' bad' 4).2.1, rfl, by omega, by simp [hl], ?_, hu45, ?_, ?_⟩)
    · have e1 : (intE (l ++ [sgn32 (num (rd s' bad' 4).2.2)])).flatten = (intE l).flatten ++ [V.int .i64 (sgn32 (num (rd s' bad' 4).2.2))] := by simp [intE]
      have e2 : (intE (l ++ [sgn32 (num (rd s' bad' 4).2.2)])).length = (intE l).length + 1 := by simp [intE]
      rw [e1, e2]; exact a5
    · have : RdAt S4 i (rd s' bad' 4).1 (rd s' bad' 4).2.1 := g4.get g3
      exact u5.get this (fun hm => by have := (a2.own i hm).1; omega)
    · rw [he]; simp [rdC]
  · have hk0 : k = 0 := by omega
    subst hk0
    have hjn : j = n := by omega
    rw [he] at h
    simp only [rdC, List.append_nil] at h
    rw [intE_flat, intE_len] at a2
    exact h x S2 ((g1.mono (by simp)).trans u2) g2 a2.at_.ints fun b hb => by
      obtain ⟨q1, vs, hgb⟩ := a2.own b hb
      exact ⟨by have := g1.le; omega, u2.wf.lt hgb⟩

end Go.Th.L
end

section
/- codec: changes put and got. -/
set_option linter.unusedSimpArgs false
set_option linter.unusedVariables false
namespace Go.Th.L
open Go Go.Th Go.Th.Pure
variable {P : Program} {N : Nat → Nat}

def codec_may.Spec (P : Program) (N : Nat → Nat) : Prop := ∀ (k i : Int) (w : V) (v : List Int) (S : St) (K : Int → St → Prop), IntsAt S w v → K (mayC (k, i, v)) S → CallA P (N Fn.codec_may) [.agg [.int .i64 k, .int .i64 i, w]] S (retT [.one (.int .i64)] K)

theorem codec_may.spec (hF : codec_may.Ok P N) (hC : ChecksV P (N Fn.vec_Check)) : codec_may.Spec P N := by
  intro k i w v S K hv h
  refine CallA.gc1 rfl (mayC (k, i, v)) h fun K' hw h => ?_
  have hv := IntsAt.ro hv
  generalize S.ro = R at hv hw
  unfold mayC at h
  simp only at h
  refine codec_may.run hF (newS_mk hw fun S1 g1 m1 n1 => Join1.mid (fun b S' => S' = S1 ∧ b = decide (k ≠ 1 ∧ k ≠ 2)) ?_ ?_)
  · refine ⟨_, ld m1 rfl, ifC_ndec (fun h1 => ⟨_, ld m1 rfl, rfl, ?_⟩) (fun h1 => ⟨rfl, by simp [h1]⟩)⟩
    simp [h1]
  rintro _ S2 ⟨rfl, rfl⟩
  refine ifC_dec (fun h1 => ?_) (fun h1 => ?_)
  · rw [if_pos h1] at h; exact h _
  rw [if_neg h1] at h
  refine Join1.mid (fun b S' => S' = S2 ∧ b = decide (idOk i = false)) ?_ ?_
  · refine ⟨_, ld m1 rfl, ifC_dec (fun h2 => ⟨rfl, by simp [idOk]; omega⟩) (fun h2 => ⟨_, ld m1 rfl, rfl, ?_⟩)⟩
    have : (decide ((1000000000 : Int) < i)) = decide (idOk i = false) := by
      congr 1; simp [idOk]; omega
    exact this
  rintro _ S3 ⟨rfl, rfl⟩
  refine ifC_dec (fun h2 => ?_) (fun h2 => ⟨_, ld m1 rfl, ifC_dec (fun h3 => ?_) (fun h3 => ?_)⟩)
  · rw [if_pos h2] at h; exact h _
  · rw [if_neg h2, if_pos h3] at h
    refine ifS_mk (ld m1 rfl) (ifS_mk (ld m1 rfl) ⟨_, (hv.grow g1).len, hC _ _ _ _ _ (hv.grow g1) (h _)⟩)
  · rw [if_neg h2, if_neg h3] at h
    refine ifS_mk (ld m1 rfl) ⟨_, (hv.grow g1).len, ifC_dec (fun h4 => ?_) (fun h4 => ?_)⟩
    · rw [if_pos (by omega)] at h; exact h _
    · rw [if_neg (by omega)] at h; exact h _

def PutsC (P : Program) (f : Nat) : Prop := ∀ (k i : Int) (w : V) (v : List Int) (S : St) (K : List UInt8 → Int → St → Prop), IntsAt S w v → v.length ≤ 1099511627 → K (putC (k, i, v)).1 (putC (k, i, v)).2 S →
  CallA P f [.agg [.int .i64 k, .int .i64 i, w]] S (retT [.one .str, .one (.int .i64)] K)

theorem vecT_snoc (l : List Int) (x : Int) : vecT (l ++ [x]) = vecT l ++ le 4 x := by simp [vecT]

theorem codec_PutChange.spec (hF : codec_PutChange.Ok P N) (hM : codec_may.Spec P N) (hL : LaysB P (N Fn.codec_lay) (fun _ => True)) : PutsC P (N Fn.codec_PutChange) := by
  intro k i w v S K hv hlv h
  refine CallA.gc2 rfl rfl _ _ h fun K' hw h => ?_
  have hv := IntsAt.ro hv
  generalize S.ro = R at hv hw
  refine codec_PutChange.run hF (newS_mk hw fun S1 g1 m1 n1 => ⟨_, _, _, ldN m1 (by simp) rfl, hM k i w v S1 _ (hv.grow g1) (ifC_ndec (fun h1 => ?_) (fun h1 => ?_))⟩)
  · simp only [putC, if_pos h1] at h; exact h _
  simp only [putC, if_neg (show ¬ (mayC (k, i, v) ≠ 0) by omega)] at h
  refine ⟨_, ld m1 rfl, _, ld m1 rfl, ?_⟩
  refine hL _ _ 1 [] S1 S1 _ (Built.nil (Upd.refl g1.wf _) 1) (by simp) trivial fun b2 S2 hb2 u2 t2 => ?_
  have g2 := hb2.grow
  have hR : ∀ q ∈ [R.next], q < S1.next := by simp; omega
  refine ⟨Same.of_grow g2 hR, hL _ _ 4 _ S1 S2 _ hb2 (by simp [le_length]) trivial fun b3 S3 hb3 u3 t3 => ?_⟩
  have g3 := hb3.grow
  have m3 := g3.get m1
  have hs23 : Same [R.next] S2 S3 := fun q hq => by
    rw [g3.keep q (hR q hq) (by simp), g2.keep q (hR q hq) (by simp)]
  have hw3 := (hv.grow g1).grow g3
  refine ⟨hs23, Join1.mid (fun b S' => BuiltB S1 S' b (le 1 k ++ (le 4 i ++ (if k = 1 then le 1 v.length else [])))) ?_ ?_⟩
  · refine ⟨_, ld m3 rfl, ifC_dec (fun h2 => ?_) (fun h2 => ?_)⟩
    · refine ifS_mk (ld m3 rfl) ⟨_, hw3.len, hL _ _ 1 _ S1 S3 _ hb3 (by simp [le_length]) trivial fun b4 S4 hb4 u4 t4 => ?_⟩
      rw [if_pos h2]
      simpa using hb4
    · rw [if_neg h2]
      simpa using hb3
  intro b4 S4 hb4
  have g4 := hb4.grow
  have m4 := g4.get m1
  have hw4 := (hv.grow g1).grow g4
  have hle := hv.le
  refine ifS_mk (ld m4 rfl) ⟨_, hw4.len, ?_⟩
  refine Loop2.ind (fun n b x S' => ∃ j : Nat, x = j ∧ j + n = v.length ∧ BuiltB S1 S' b ((le 1 k ++ (le 4 i ++ (if k = 1 then le 1 v.length else []))) ++ vecT (v.take j))) v.length ⟨0, rfl, by omega, by simpa [vecT] using hb4⟩ ?_
  rintro n b _ S5 ⟨j, rfl, hj, hb5⟩
  have hw5 := (hv.grow g1).grow hb5.grow
  refine ifC_dec (fun hlt => ?_) (fun hge => ⟨_, bytes_str hb5.at_, ?_⟩)
  · have hjl : j < v.length := by omega
    refine ifS_mk (hw5.idx hjl) ⟨_, IntsAt.get hw5 hjl, hL _ _ 4 _ S1 S5 _ hb5 ?_ trivial fun b6 S6 hb6 u6 t6 => setI_mk (wrap_succ (by omega)) ⟨n - 1, by omega, j + 1, rfl, by omega, ?_⟩⟩
    · have := vecT_length (v.take j)
      have h4 : (v.take j).length ≤ v.length := by rw [List.length_take]; omega
      simp only [List.length_append, le_length]
      split <;> simp only [le_length, List.length_nil] <;> omega
    · have : v.take (j + 1) = v.take j ++ [v[j]] := by rw [List.take_add_one, List.getElem?_eq_getElem hjl]; rfl
      rw [this, vecT_snoc, ← List.append_assoc]; exact hb6
  · have hjn : v.take j = v := List.take_of_length_le (by omega)
    rw [hjn]
    have he : (le 1 k ++ (le 4 i ++ (if k = 1 then le 1 v.length else []))) ++ vecT v = textC (k, i, v) := by
      unfold textC
      by_cases h2 : k = 1
      · simp [h2]
      · have hm := h1
        unfold mayC at hm
        have hk := mayC_kind (c := (k, i, v)) h1
        simp only at hk
        have hi := mayC_id (c := (k, i, v)) h1
        simp only at hi hm
        rw [if_neg (by omega), if_neg (by simp [idOk_iff.mpr hi]), if_neg h2] at hm
        have : v = [] := by
          split at hm
          · omega
          · exact List.length_eq_zero_iff.mp (by omega)
        subst this
        simp [h2, vecT]
    rw [he]; exact h _

end Go.Th.L
end

section
/- codec: rows put. -/
set_option linter.unusedSimpArgs false
set_option linter.unusedVariables false
namespace Go.Th.L
open Go Go.Th Go.Th.Pure
variable {P : Program} {N : Nat → Nat}

end Go.Th.L
end

section
/- codec: changes and rows got. -/
set_option linter.unusedSimpArgs false
set_option linter.unusedVariables false
namespace Go.Th.L
open Go Go.Th Go.Th.Pure
variable {P : Program} {N : Nat → Nat}

theorem rd_ok {s : List UInt8} {n : Nat} (h : n ≤ s.length) : rd s false n = (s.drop n, false, s.take n) := by rw [rd, if_neg (by rintro (h' | h'); cases h'; omega)]
theorem rd_short {s : List UInt8} {n : Nat} (h : s.length < n) : rd s false n = (s, true, List.replicate n 0) := by rw [rd, if_pos (.inr h)]
theorem rd_bad (s : List UInt8) (n : Nat) : rd s true n = (s, true, List.replicate n 0) := by rw [rd, if_pos (.inl rfl)]

theorem rdC_bad : ∀ (n : Nat) (s : List UInt8), (rdC n s true).2.1 = true
  | 0, _ => rfl
  | n + 1, s => by simp only [rdC, rd_bad]; exact rdC_bad n s
theorem rdC_ok : ∀ (n : Nat) (s : List UInt8), 4 * n ≤ s.length → rdC n s false = (s.drop (4 * n), false, coordsOf n s)
  | 0, s, _ => rfl
  | n + 1, s, h => by
    simp only [rdC, rd_ok (show 4 ≤ s.length by omega), rdC_ok n (s.drop 4) (by rw [List.length_drop]; omega), coordsOf, List.drop_drop]
    congr 2
    omega
theorem rdC_short : ∀ (n : Nat) (s : List UInt8), s.length < 4 * n → (rdC n s false).2.1 = true
  | 0, s, h => by omega
  | n + 1, s, h => by
    by_cases h4 : 4 ≤ s.length
    · simp only [rdC, rd_ok h4]
      exact rdC_short n _ (by rw [List.length_drop]; omega)
    · simp only [rdC, rd_short (show s.length < 4 by omega)]
      exact rdC_bad n s
theorem nil_ints (S : St) : IntsAt S .nilSlice [] := ⟨by simp, rfl, .inl ⟨rfl, rfl⟩⟩

def GetsCf (P : Program) (f : Nat) : Prop := ∀ (s : List UInt8) (S : St) (K : Int → Int → V → Int → St → Prop), S.Wf → s.length ≤ 1048576 →
  (∀ w S', Grow S S' → IntsAt S' w (getC s).1.2.2 → (∀ j ∈ w.block, S.next ≤ j ∧ j < S'.next) → K (getC s).1.1 (getC s).1.2.1 w (getC s).2 S') → CallA P f [.str s] S (retT [.agg [.int .i64, .int .i64, .any], .one (.int .i64)] K)

theorem codec_GetChange.specF (hF : codec_GetChange.Ok P N) (hN : codec_reading_number.Spec P N) (hC : codec_reading_coords.Spec P N) (hM : codec_may.Spec P N) : GetsCf P (N Fn.codec_GetChange) := by
  intro s S K hw hs h
  refine codec_GetChange.run hF (newS_mk hw fun S1 g1 m1 n1 => newS_mk g1.wf fun S2 g2 m2 n2 => ?_)
  refine hN _ 1 s false S2 _ g2.wf m2 (by omega) fun S3 u3 r3 => ?_
  refine hN _ 4 _ _ S3 _ u3.wf r3 (by omega) fun S4 u4 r4 => ?_
  refine newS_mk u4.wf fun S5 g5 m5 n5 => st_mk g5.wf m5 rfl (by simp [V.cells]) rfl fun S6 u6 m6 n6 => ?_
  simp only [V.cells, over] at m6
  -- what was there before
  have hS2 : S1.next < S2.next := by omega
  have hS4 : S2.next ≤ S4.next := by have := u3.le; have := u4.le; omega
  have m16 : S6.get S.next = some (.cells [V.int .i64 0, V.int .i64 0, V.nilSlice] true) :=
    u6.get (g5.get (u4.get (u3.get (g2.get m1) (by simp; omega)) (by simp; omega))) (by simp; omega)
  have r6 : RdAt S6 S1.next (rd (rd s false 1).1 (rd s false 1).2.1 4).1 (rd (rd s false 1).1 (rd s false 1).2.1 4).2.1 := u6.get (g5.get r4) (by simp; omega)
  have g6 : Grow S S6 := ((((g1.trans g2).after u3 (by simp; omega)).after u4 (by simp; omega)).trans g5).after u6 (by simp; have := g1.le; omega)
  generalize hk : ((num (rd s false 1).2.2 : Nat) : Int) = k at m6
  generalize hi : ((num (rd (rd s false 1).1 (rd s false 1).2.1 4).2.2 : Nat) : Int) = i at m6
  generalize hs2 : (rd (rd s false 1).1 (rd s false 1).2.1 4).1 = s2 at r6
  generalize hb2 : (rd (rd s false 1).1 (rd s false 1).2.1 4).2.1 = b2 at r6
  -- what is read behind
  have hread : ∃ (s3 : List UInt8) (b3 : Bool) (v : List Int), (if k = 1 then rdC (num (rd s2 b2 1).2.2) (rd s2 b2 1).1 (rd s2 b2 1).2.1 else (s2, b2, [])) = (s3, b3, v) := ⟨_, _, _, rfl⟩
  obtain ⟨s3, b3, v, hr⟩ := hread
  -- that it is what the law says
  have hend : (b3 = true ∨ s3 ≠ [] ∨ mayC (k, i, v) ≠ 0) ∧ getC s = ((0, 0, []), 161) ∨ (b3 = false ∧ s3 = [] ∧ mayC (k, i, v) = 0) ∧ getC s = ((k, i, v), 0) := by
    by_cases h5 : 5 ≤ s.length
    · rw [rd_ok (show 1 ≤ s.length by omega)] at hk hi hs2 hb2
      simp only at hk hi hs2 hb2
      rw [rd_ok (show 4 ≤ (s.drop 1).length by rw [List.length_drop]; omega)] at hi hs2 hb2
      simp only [List.drop_drop] at hi hs2 hb2
      subst hs2 hb2
      by_cases hk1 : k = 1
      · rw [if_pos hk1] at hr
        have hkn : num (s.take 1) = 1 := by omega
        by_cases h6 : 6 ≤ s.length
        · rw [rd_ok (show 1 ≤ (s.drop (1 + 4)).length by rw [List.length_drop]; omega)] at hr
          simp only [List.drop_drop] at hr
          by_cases hq : 4 * num ((s.drop 5).take 1) ≤ (s.drop 6).length
          · rw [rdC_ok _ _ hq] at hr
            simp only [List.drop_drop, Prod.mk.injEq] at hr
            obtain ⟨rfl, rfl, rfl⟩ := hr
            by_cases hl : s.length = 6 + 4 * num ((s.drop 5).take 1)
            · have hg := getC_ok (s := s) (k := 1) h5 hkn.symm (by rw [if_pos rfl]; exact hl)
              simp only [if_true] at hg
              have e3 : s.drop (1 + 4 + 1 + 4 * num ((s.drop (1 + 4)).take 1)) = [] := List.drop_of_length_le (by simp only [Nat.reduceAdd]; omega)
              by_cases hm : mayC (k, i, coordsOf (num ((s.drop 5).take 1)) (s.drop 6)) = 0
              · right
                refine ⟨⟨rfl, e3, hm⟩, ?_⟩
                rw [hg, ← hk, ← hi] at *
                rw [hkn] at hm ⊢
                rw [if_neg (by simpa using hm)]
              · left
                refine ⟨.inr (.inr hm), ?_⟩
                rw [hg, if_pos]
                rw [← hk, ← hi, hkn] at hm
                exact hm
            · left
              refine ⟨.inr (.inl fun e => ?_), getC_bad fun hh => ?_⟩
              · have := congrArg List.length e
                rw [List.length_drop] at this hq
                simp only [Nat.reduceAdd, List.length_nil] at this
                omega
              · have := hh.2; rw [if_pos hkn] at this; exact hl this
          · left
            have hq' : (s.drop 6).length < 4 * num ((s.drop 5).take 1) := by omega
            have := rdC_short _ _ hq'
            simp only [Nat.reduceAdd] at hr
            rw [hr] at this
            refine ⟨.inl this, getC_bad fun hh => ?_⟩
            have h2 := hh.2; rw [if_pos hkn] at h2
            rw [List.length_drop] at hq'
            omega
        · left
          have hl5 : s.length = 5 := by omega
          rw [rd_short (show (s.drop (1 + 4)).length < 1 by rw [List.length_drop]; omega)] at hr
          simp only at hr
          have := rdC_bad (num (List.replicate 1 (0 : UInt8))) (s.drop (1 + 4))
          rw [hr] at this
          refine ⟨.inl this, getC_bad fun hh => ?_⟩
          have h2 := hh.2; rw [if_pos hkn] at h2
          omega
      · rw [if_neg hk1] at hr
        simp only [Prod.mk.injEq] at hr
        obtain ⟨rfl, rfl, rfl⟩ := hr
        have hkn : num (s.take 1) ≠ 1 := by omega
        by_cases hl : s.length = 5
        · have hg := getC_ok (s := s) (k := num (s.take 1)) h5 rfl (by rw [if_neg hkn]; exact hl)
          simp only [if_neg hkn] at hg
          have e3 : s.drop (1 + 4) = [] := List.drop_of_length_le (by omega)
          rw [hk, hi] at hg
          by_cases hm : mayC (k, i, []) = 0
          · right
            refine ⟨⟨rfl, e3, hm⟩, ?_⟩
            rw [hg, if_neg (by simpa using hm)]
          · left
            refine ⟨.inr (.inr hm), ?_⟩
            rw [hg, if_pos hm]
        · left
          refine ⟨.inr (.inl fun e => ?_), getC_bad fun hh => ?_⟩
          · have := congrArg List.length e
            rw [List.length_drop] at this
            simp only [List.length_nil] at this
            omega
          · have := hh.2; rw [if_neg hkn] at this; exact hl this
    · left
      have hbad : b2 = true := by
        by_cases h1 : 1 ≤ s.length
        · rw [rd_ok h1] at hb2
          simp only at hb2
          rw [rd_short (by rw [List.length_drop]; omega)] at hb2
          exact hb2.symm
        · rw [rd_short (by omega)] at hb2
          simp only [rd_bad] at hb2
          exact hb2.symm
      subst hbad
      refine ⟨.inl ?_, getC_bad fun hh => h5 hh.1⟩
      by_cases hk1 : k = 1
      · rw [if_pos hk1] at hr
        simp only [rd_bad] at hr
        have := rdC_bad (num (List.replicate 1 (0 : UInt8))) s2
        rw [hr] at this; exact this
      · rw [if_neg hk1] at hr
        simp only [Prod.mk.injEq] at hr
        exact hr.2.1.symm
  refine Join0.mid (fun S' => ∃ w, Grow S S' ∧ S'.get S.next = some (.cells [V.int .i64 0, V.int .i64 0, V.nilSlice] true) ∧ S'.get S4.next = some (.cells [V.int .i64 k, V.int .i64 i, w] true) ∧ RdAt S' S1.next s3 b3 ∧ IntsAt S' w v ∧ ∀ q ∈ w.block, S4.next < q ∧ q < S'.next) ?_ ?_
  · refine ⟨_, ld m6 rfl, ifC_dec (fun h1 => ?_) (fun h1 => ?_)⟩
    · rw [if_pos h1] at hr
      refine hN _ 1 _ _ S6 _ u6.wf r6 (by omega) fun S7 u7 r7 => ?_
      have hn1 : num (rd s2 b2 1).2.2 < 256 := by
        have := num_lt (rd s2 b2 1).2.2
        rwa [rd_length] at this
      refine hC _ _ _ _ S7 _ u7.wf r7 (by omega) fun w S8 u8 r8 hw8 hwb => ?_
      rw [hr] at r8 hw8
      have hn67 := u7.le
      have m8 : S8.get S4.next = some (.cells [V.int .i64 k, V.int .i64 i, V.nilSlice] true) := u8.get (u7.get m6 (by simp; omega)) (by simp; omega)
      refine st_mk u8.wf m8 (by simp only [hw8.cells1]; rfl) (by simp only [hw8.cells1]; simp) (by simp only [hw8.cells1, List.all_cons, List.all_nil, hw8.one1]; rfl) fun S9 u9 m9 n9 => ?_
      rw [hw8.cells1] at m9
      simp only [over] at m9
      have h6 := u6.wf.lt m6
      refine ⟨w, ((g6.after u7 (by simp; omega)).after u8 (by simp; omega)).after u9 (by simp; have := g1.le; omega), u9.get (u8.get (u7.get m16 (by simp; omega)) (by simp; omega)) (by simp; omega), m9, u9.get r8 (by simp; omega), hw8.upd u9 fun q hq hm => ?_, fun q hq => ?_⟩
      · have := (hwb q hq).1
        simp at hm; omega
      · have := hwb q hq
        have := u9.le
        exact ⟨by omega, by omega⟩
    · rw [if_neg h1] at hr
      simp only [Prod.mk.injEq] at hr
      obtain ⟨rfl, rfl, rfl⟩ := hr
      exact ⟨_, g6, m16, m6, r6, nil_ints _, by simp [V.block]⟩
  rintro S7 ⟨w, g7, z7, m7, r7, hw7, hwb⟩
  have hend' := hend
  refine Join1.mid (fun b S' => Grow S S' ∧ S'.get S.next = some (.cells [V.int .i64 0, V.int .i64 0, V.nilSlice] true) ∧ S'.get S4.next = some (.cells [V.int .i64 k, V.int .i64 i, w] true) ∧ IntsAt S' w v ∧ (∀ q ∈ w.block, q < S'.next) ∧
    (b = true ∧ getC s = ((0, 0, []), 161) ∨ b = false ∧ getC s = ((k, i, v), 0))) ?_ ?_
  · refine ⟨rfl, _, ld r7 rfl, ifC_tt_ff (fun hb => ?_) (fun hb => ⟨rfl, _, ld r7 rfl, ifC_ndec (fun h3 => ?_) (fun h3 => ?_)⟩)⟩
    · subst hb
      refine ⟨g7, z7, m7, hw7, fun q hq => (hwb q hq).2, .inl ⟨rfl, ?_⟩⟩
      rcases hend with ⟨_, he⟩ | ⟨⟨h1, _⟩, _⟩
      · exact he
      · cases h1
    · refine ⟨g7, z7, m7, hw7, fun q hq => (hwb q hq).2, .inl ⟨rfl, ?_⟩⟩
      rcases hend with ⟨_, he⟩ | ⟨⟨_, h1, _⟩, _⟩
      · exact he
      · exact absurd h1 h3
    · refine ⟨_, _, _, ldN m7 (by simp) rfl, hM k i w v S7 _ hw7 ⟨g7, z7, m7, hw7, fun q hq => (hwb q hq).2, ?_⟩⟩
      by_cases hm : mayC (k, i, v) = 0
      · right
        refine ⟨by simp [hm], ?_⟩
        rcases hend with ⟨h1 | h1 | h1, _⟩ | ⟨_, he⟩
        · rw [hb] at h1; cases h1
        · exact absurd h3 h1
        · exact absurd hm h1
        · exact he
      · left
        refine ⟨by simp [hm], ?_⟩
        rcases hend with ⟨_, he⟩ | ⟨⟨_, _, h1⟩, _⟩
        · exact he
        · exact absurd h1 hm
  rintro b S8 ⟨g8, z8, m8, hw8, hb8, ⟨rfl, he⟩ | ⟨rfl, he⟩⟩
  · refine ifC_tt rfl (st_mk g8.wf z8 rfl (by simp [V.cells]) rfl fun S9 u9 m9 n9 => ?_)
    simp only [V.cells, over] at m9
    rw [he] at h
    exact ⟨_, _, _, ldC m9 (by simp) rfl, h _ _ (g8.after u9 (by simp)) (nil_ints _) (by simp [V.block])⟩
  · refine ifC_ff rfl ⟨_, _, _, ldN m8 (by simp) rfl, st_mk g8.wf z8 rfl (by simp [V.cells]) (by simp only [V.cells, List.all_cons, List.all_nil, hw8.one1]; rfl) fun S9 u9 m9 n9 => ?_⟩
    simp only [V.cells, over] at m9
    rw [he] at h
    have l1 := g1.le
    have l9 := u9.le
    have l2 := u3.le
    have l3 := u4.le
    refine ⟨_, _, _, ldC m9 (by simp) rfl, h _ _ (g8.after u9 (by simp)) (hw8.upd u9 fun q hq hm => ?_) fun q hq => ?_⟩
    · have := hwb q hq
      simp at hm; omega
    · have := hwb q hq
      have := hb8 q hq
      exact ⟨by omega, by omega⟩

end Go.Th.L
end

section
/- store: numbers laid and taken off; what is thrown and caught. -/
set_option linter.unusedSimpArgs false
set_option linter.unusedVariables false
set_option maxHeartbeats 1000000
namespace Go.Th.L
open Go Go.Th Go.Th.Pure
variable {P : Program} {N : Nat → Nat}

theorem idxA8 {i j : Nat} (h : j < 8) : idxAddrArrV 8 1 (.ptr i 0) (.int .i64 (j : Int)) = some (.ptr i j) := by
  simp only [idxAddrArrV]
  rw [if_pos ⟨by omega, by omega⟩]; simp
theorem lay_over {j : Nat} (hj : j < 8) (x : Int) : over (bytesV (le j x ++ List.replicate (8 - j) 0)) j [V.int .u8 ((byteZ (x / 256 ^ j)).toNat : Int)] = bytesV (le (j + 1) x ++ List.replicate (8 - (j + 1)) 0) := by
  have e : 8 - j = (8 - (j + 1)) + 1 := by omega
  rw [over_at (by rw [bytesV_length, List.length_append, le_length, List.length_replicate, List.length_singleton]; omega), bytesV_append, bytesV_append, List.take_left' (by rw [bytesV_length, le_length]), List.length_singleton, le_succ, bytesV_append, e, List.replicate_succ]
  rw [List.drop_append, List.drop_of_length_le (by rw [bytesV_length, le_length]; omega), bytesV_length, le_length, show j + 1 - j = 1 from by omega]
  rfl

theorem store_lay.spec (hF : store_lay.Ok P N) {S : St} (hw : S.Wf) {x : Int} {K : List UInt8 → St → Prop} (hk : ∀ S', Grow S S' → K (le 8 x) S') : CallA P (N Fn.store_lay) [.int .i64 x] S (retT [.one .str] K) := by
  refine store_lay.run hF (newS_mk hw fun S1 g1 m1 n1 => ?_)
  refine Loop1.ind (fun m z S' => ∃ j : Nat, z = j ∧ j + m = 8 ∧ Grow S S' ∧ S'.get S.next = some (.cells (bytesV (le j x ++ List.replicate (8 - j) 0)) true)) 8 ⟨0, rfl, rfl, g1, by simpa [bytesV, le, List.replicate] using m1⟩ ?_
  rintro m z S2 ⟨j, rfl, hj, g2, m2⟩
  have hlen : (bytesV (le j x ++ List.replicate (8 - j) 0)).length = 8 := by rw [bytesV_length, List.length_append, le_length, List.length_replicate]; omega
  refine ifC_dec (fun hlt => ?_) (fun hge => ?_)
  · have hp : (2 : Int) ^ (8 * j) = 256 ^ j := by rw [Int.pow_mul]; rfl
    refine setI_mk (n := ((8 * j : Nat) : Int)) (by rw [IntKind.wrap_i64]; omega) ⟨by omega, setI_mk (n := x / 256 ^ j) (by rw [shr_nn x (8 * j) .i64 (by show 8 * j ≤ 64; omega), hp]) (setI_mk (wrap_byte _) (ifS_mk (idxA8 (by omega)) (st_mk g2.wf m2 rfl (by simp only [V.cells, List.length_singleton]; omega) rfl fun S3 u3 m3 n3 => setI_mk (n := ((j + 1 : Nat) : Int)) (by rw [IntKind.wrap_i64]; omega) ⟨m - 1, by omega, j + 1, rfl, by omega, g2.after u3 fun i hi => .inl (by simp only [List.mem_singleton] at hi; omega), ?_⟩)))⟩
    rw [m3]
    simp only [V.cells]
    rw [lay_over (by omega)]
  · have e8 : j = 8 := by omega
    subst e8
    have hs : sliceArrV S2 8 1 (V.ptr S.next 0) none none none = some (.slice S.next 0 8 8 1 true) := by
      have hc : S2.cells S.next = some (bytesV (le 8 x ++ List.replicate (8 - 8) 0)) := by simp only [St.cells, m2]
      simp only [sliceArrV, hc, hlen]
      rfl
    refine ifS_mk hs ⟨le 8 x, bytes_str ?_, hk S2 g2⟩
    have e : bytesV (le 8 x ++ List.replicate (8 - 8) 0) = bytesV (le 8 x) := by simp
    rw [e] at m2
    exact SlAt.bytes (sl_of m2 (by rw [bytesV_length, le_length]) (by omega))

theorem pow_le7 {j : Nat} (hj : j < 8) : 256 ^ j ≤ 72057594037927936 := by
  have h1 : 256 ^ j ≤ 256 ^ 7 := Nat.pow_le_pow_right (by omega) (by omega)
  have h2 : (256 ^ 7 : Nat) = 72057594037927936 := by decide
  omega
theorem shl_byte8 {x j : Nat} (hx : 256 ^ j * x < 9223372036854775808) (hj : j < 8) : IntKind.i64.wrap ((x : Int) * 2 ^ (min (Int.toNat ((8 * j : Nat) : Int)) (IntKind.bits .i64))) = ((256 ^ j * x : Nat) : Int) := by
  have h1 : min (Int.toNat ((8 * j : Nat) : Int)) (IntKind.bits .i64) = 8 * j := by
    have : IntKind.bits .i64 = 64 := rfl
    omega
  rw [h1]
  have h2 : (x : Int) * 2 ^ (8 * j) = ((256 ^ j * x : Nat) : Int) := by
    rw [Int.natCast_mul, Int.mul_comm, Int.pow_mul]; simp
  rw [h2]
  exact i64_nat (by omega)
theorem or_byte8 {a x j : Nat} (ha : a < 256 ^ j) (hx : 256 ^ j * x < 9223372036854775808) (hj : j < 8) : intBits .or .i64 a ((256 ^ j * x : Nat) : Int) = ((a + 256 ^ j * x : Nat) : Int) := by
  have h1 := pow_le7 hj
  rw [or_i64 (by omega) (by omega)]
  have e : 256 ^ j = 2 ^ (8 * j) := by rw [Nat.pow_mul]
  rw [e] at ha ⊢
  have := Nat.two_pow_add_eq_or_of_lt ha x
  rw [Nat.or_comm, ← this, Nat.add_comm]

def thrown (N : Nat → Nat) (e : Int) : V := .iface (N Fn.ty_store_failed) (.agg [.int .i64 e])
theorem store_must.ok (hF : store_must.Ok P N) {S : St} {KP : V → St → Prop} {K : St → Prop} (hk : K S) : CallA P (N Fn.store_must) [.int .i64 0] S (retK [] KP K) := store_must.run hF (ifC_ff rfl hk)
theorem store_must.throws (hF : store_must.Ok P N) {S : St} {e : Int} (he : e ≠ 0) {KP : V → St → Prop} {K : St → Prop} (hk : KP (thrown N e) S) : CallA P (N Fn.store_must) [.int .i64 e] S (retK [] KP K) := store_must.run hF (ifC_tt (by simp [he]) hk)

theorem store_take.spec (hF : store_take.Ok P N) {S : St} {s : List UInt8} (h8 : 8 ≤ s.length) (hn : num (s.take 8) < 4611686018427387904) {KP : V → St → Prop} {K : Int → List UInt8 → St → Prop} (hk : K (num (s.take 8) : Nat) (s.drop 8) S) :
    CallA P (N Fn.store_take) [.str s] S (retK [.one (.int .i64), .one .str] KP K) := by
  refine store_take.run hF (Join0.mid (fun S' => S' = S) (ifC_ff (by rw [decide_eq_false_iff_not]; omega) rfl) ?_)
  rintro S1 rfl
  refine Loop2.ind (fun k x y S' => S' = S1 ∧ ∃ j : Nat, y = j ∧ j + k = 8 ∧ x = (num (s.take j) : Nat)) 8 ⟨rfl, 0, rfl, by omega, by simp [num]⟩ ?_
  rintro k _ _ S' ⟨rfl, j, rfl, hj, rfl⟩
  refine ifC_dec (fun hlt => ?_) (fun hge => ?_)
  · have hjl : j < s.length := by omega
    have hb := byte_lt s[j]
    have hx : 256 ^ j * s[j].toNat < 9223372036854775808 := by
      have h1 := num_take_succ hjl
      have h2 : num (s.take 8) = num ((s.take 8).take (j + 1)) + 256 ^ ((s.take 8).take (j + 1)).length * num ((s.take 8).drop (j + 1)) := by
        rw [← num_append, List.take_append_drop]
      rw [List.take_take, Nat.min_eq_left (by omega)] at h2
      have : num (s.take (j + 1)) ≤ num (s.take 8) := by rw [h2]; exact Nat.le_add_right _ _
      omega
    refine ⟨_, idx_str hjl, setI_mk (i64_nat (by omega)) (setI_mk (n := ((8 * j : Nat) : Int)) (by rw [IntKind.wrap_i64]; omega) ⟨by omega, setI_mk (shl_byte8 hx (by omega)) (setI_mk (or_byte8 (num_take_lt s j) hx (by omega)) (setI_mk (wrap_succ (by omega)) ?_))⟩)⟩
    exact ⟨k - 1, by omega, rfl, j + 1, rfl, by omega, by rw [num_take_succ hjl]⟩
  · have : j = 8 := by omega
    subst this
    refine ⟨s.drop 8, ?_, hk⟩
    have := bnds_l (len := s.length) (cap := s.length) (l := 8) (k := .i64) h8
    simp only [sliceStrV]
    rw [show ((8 : Int)) = ((8 : Nat) : Int) from rfl, this]
    simp

theorem store_take.laid (hF : store_take.Ok P N) {S : St} {n : Int} (hn : 0 ≤ n ∧ n < 4611686018427387904) {t : List UInt8} {KP : V → St → Prop} {K : Int → List UInt8 → St → Prop} (hk : K n t S) :
    CallA P (N Fn.store_take) [.str (le 8 n ++ t)] S (retK [.one (.int .i64), .one .str] KP K) := by
  have e1 : (le 8 n ++ t).take 8 = le 8 n := List.take_left' (le_length _ _)
  have e2 : (le 8 n ++ t).drop 8 = t := List.drop_left' (le_length _ _)
  have e3 : ((num (le 8 n) : Nat) : Int) = n := by rw [num_le]; omega
  refine store_take.spec hF (by rw [List.length_append, le_length]; omega) (by rw [e1]; omega) ?_
  rw [e1, e2, e3]; exact hk

theorem store_caught.none (hF : store_caught.Ok P N) {p : V} {S : St} {K : St → Prop} (hk : K S) : CallD P (N Fn.store_caught) [p] none S fun _ S' => K S' :=
  CallD.mono (store_caught.run hF (K := K) ⟨true, rfl, ifC_ff rfl hk⟩) fun b S' h => h.2
theorem store_caught.some (hF : store_caught.Ok P N) {i : Nat} {e : Int} {z : Int} {S : St} (hw : S.Wf) (hi : S.get i = some (.cells [.int .i64 z] true)) {K : Bool → St → Prop} (hk : ∀ S', Upd [i] S S' → S'.get i = some (.cells [.int .i64 e] true) → S'.next = S.next → K true S') : CallD P (N Fn.store_caught) [.ptr i 0] (some (thrown N e)) S K :=
  CallD.mono (store_caught.run hF (K := fun S' => K true S') ⟨false, rfl, ifC_tt rfl ⟨e, by simp [assertV, thrown], rfl, st_mk hw hi rfl (by simp [V.cells]) (by simp [V.cells, V.one]) fun S' u m n => hk S' u (by rw [m]; rfl) n⟩⟩) fun b S' h => by
    obtain ⟨rfl, h⟩ := h
    exact h

theorem store_Open_1.spec (hF : store_Open_1.Ok P N) {i o : Nat} {e : Int} {v : V} {pv : Option V} {S : St} (hw : S.Wf) (hi : S.get i = some (.cells [.int .i64 e] true)) (ho : S.get o = some (.cells [v] true)) {K : Bool → St → Prop} (h0 : e = 0 → K false S)
    (h1 : e ≠ 0 → ∀ S', Upd [o] S S' → S'.get o = some (.cells [.nilPtr] true) → S'.next = S.next → K false S') : CallD P (N Fn.store_Open_1) [.ptr i 0, .ptr o 0] pv S K :=
  CallD.mono (hF.runD (K := fun S' => K false S') (fun q => q (.ptr i 0) (.ptr o 0) S fun S' => K false S') ⟨e, ld hi rfl, ifC_ndec (fun hne => st_mk hw ho rfl (by simp [V.cells]) (by simp [V.cells, V.one]) fun S' u m n => h1 hne S' u (by rw [m]; rfl) n) fun hz => h0 hz⟩ rfl) fun b S' h => by
    obtain ⟨rfl, h⟩ := h
    exact h

end Go.Th.L
end

section
/- store: a store in the store. -/
set_option linter.unusedSimpArgs false
set_option linter.unusedVariables false
set_option maxHeartbeats 1000000
namespace Go.Th.L
open Go Go.Th Go.Th.Pure
variable {P : Program} {N : Nat → Nat}

structure SM where
  dim : Int
  first : Int
  safe : Int
  rs : List (Int × List Int × V)
  cs : List (Int × Int × List Int × V)
def SM.seq (s : SM) : Int := s.first + s.cs.length
structure SX where
  H : List Nat
  VB : List Nat
  G : List Nat
  D : List Nat
  B : List Nat
  d : Nat
  q : LP
  o : Nat
  m : Nat
  cv : V
def entR (t : Int × List Int × V) : Int × V := (t.1, t.2.2)
def cgE (cs : List (Int × Int × List Int × V)) : List (List V) := cs.map fun c => [.int .i64 c.1, .int .i64 c.2.1, c.2.2.2]
def stC (d ql m : Nat) (cv : V) (s : SM) : List V := [.int .i64 s.dim, .ptr d 0, .ptr ql 0, .map m, .int .i64 s.first, .int .i64 s.safe, cv]
structure StAt (S : St) (H VB : List Nat) (d ql o m : Nat) (cv : V) (s : SM) : Prop where
  obj : S.get o = some (.cells (stC d ql m cv s) true)
  mp : MapAt S m (s.rs.map entR)
  nod : (s.rs.map (·.1)).Nodup
  row : ∀ t ∈ s.rs, IntsAt S t.2.2 t.2.1 ∧ ∀ i ∈ t.2.2.block, i ∈ VB
  ch : Acc S 0 3 cv s.cs.length (cgE s.cs).flatten
  chg : ∀ c ∈ s.cs, IntsAt S c.2.2.2 c.2.2.1 ∧ ∀ i ∈ c.2.2.2.block, i ∈ VB
  oH : o ∈ H
  mH : m ∈ H
  cH : ∀ i ∈ cv.block, i ∈ H
  om : o ≠ m
  oc : o ∉ cv.block
  mc : m ∉ cv.block
  hv : ∀ i ∈ H, i ∉ VB
  lt : ∀ i ∈ H, i < S.next
  ltV : ∀ i ∈ VB, i < S.next
section
variable {S S' : St} {H VB : List Nat} {d ql o m : Nat} {cv : V} {s : SM}
theorem StAt.upd {X : List Nat} (h : StAt S H VB d ql o m cv s) (u : Upd X S S') (hH : ∀ i ∈ X, i ∉ H) (hV : ∀ i ∈ X, i ∉ VB) : StAt S' H VB d ql o m cv s :=
  { h with
    obj := u.get h.obj fun hx => hH _ hx h.oH
    mp := h.mp.upd u fun hx => hH _ hx h.mH
    row := fun t ht => ⟨SlAt.upd (h.row t ht).1 u fun i hi hx => hV i hx ((h.row t ht).2 i hi), (h.row t ht).2⟩
    ch := h.ch.upd u fun i hi hx => hH i hx (h.cH i hi)
    chg := fun t ht => ⟨SlAt.upd (h.chg t ht).1 u fun i hi hx => hV i hx ((h.chg t ht).2 i hi), (h.chg t ht).2⟩
    lt := fun i hi => Nat.lt_of_lt_of_le (h.lt i hi) u.le
    ltV := fun i hi => Nat.lt_of_lt_of_le (h.ltV i hi) u.le }
theorem StAt.grow (h : StAt S H VB d ql o m cv s) (u : Grow S S') : StAt S' H VB d ql o m cv s := h.upd u (by simp) (by simp)
theorem cgE_len (cs : List (Int × Int × List Int × V)) : (cgE cs).length = cs.length := by simp [cgE]
theorem StAt.sle (h : StAt S H VB d ql o m cv s) : SlE S 3 cv (cgE s.cs) := ⟨by rw [cgE_len]; exact h.ch.at_, fun e he => by
  simp only [cgE, List.mem_map] at he; obtain ⟨c, _, rfl⟩ := he; rfl⟩
theorem StAt.clen (h : StAt S H VB d ql o m cv s) : lenV S 2 cv = some (.int .i64 s.cs.length) := by
  have := h.sle.len
  rwa [cgE_len] at this
theorem StAt.mlen (h : StAt S H VB d ql o m cv s) : lenV S 3 (.map m) = some (.int .i64 s.rs.length) := by
  rw [len_map h.mp]; simp
theorem StAt.more (h : StAt S H VB d ql o m cv s) {Vn : List Nat} (hn : ∀ i ∈ Vn, i ∉ H ∧ i < S.next) : StAt S H (VB ++ Vn) d ql o m cv s :=
  { h with
    row := fun t ht => ⟨(h.row t ht).1, fun i hi => List.mem_append_left _ ((h.row t ht).2 i hi)⟩
    chg := fun t ht => ⟨(h.chg t ht).1, fun i hi => List.mem_append_left _ ((h.chg t ht).2 i hi)⟩
    hv := fun i hi hx => by
      rcases List.mem_append.mp hx with h' | h'
      · exact h.hv i hi h'
      · exact (hn i h').1 hi
    ltV := fun i hi => by
      rcases List.mem_append.mp hi with h' | h'
      · exact h.ltV i h'
      · exact (hn i h').2 }
end

structure SD (S0 S : St) (x : SX) (l : LogR) (r : DiskR) (s : SM) : Prop where
  ld : LD S0 S x.G x.D x.B x.d x.q l r
  st : StAt S x.H x.VB x.d x.q.o x.o x.m x.cv s
  fH : ∀ i ∈ x.H, S0.next ≤ i ∧ i ∉ x.G ∧ i ∉ x.D ∧ i ∉ x.B
  fV : ∀ i ∈ x.VB, S0.next ≤ i ∧ i ∉ x.G ∧ i ∉ x.D
section
variable {S0 S S' : St} {x : SX} {l l' : LogR} {r r' : DiskR} {s s' : SM}
theorem SD.wf (h : SD S0 S x l r s) : S.Wf := h.ld.wf
theorem SD.grow (h : SD S0 S x l r s) (u : Grow S S') : SD S0 S' x l r s := ⟨h.ld.grow u, h.st.grow u, h.fH, h.fV⟩
theorem SD.log (h : SD S0 S x l r s) {G' D' B' : List Nat} {q' : LP} (eq : q'.o = x.q.o) (k : LD S0 S' G' D' B' x.d q' l' r') (mv : Mvg x.G x.D x.B S G' D' B' S') : SD S0 S' { x with G := G', D := D', B := B', q := q' } l' r' s := by
  refine ⟨k, ?_, fun i hi => ?_, fun i hi => ?_⟩
  · show StAt S' x.H x.VB x.d q'.o x.o x.m x.cv s
    rw [eq]
    refine h.st.upd mv.1.1 (fun i hi hH => ?_) (fun i hi hV => ?_)
    · rcases List.mem_append.mp hi with h' | h'
      · exact (h.fH i hH).2.1 h'
      · exact (h.fH i hH).2.2.1 h'
    · rcases List.mem_append.mp hi with h' | h'
      · exact (h.fV i hV).2.1 h'
      · exact (h.fV i hV).2.2 h'
  · have hlt := h.st.lt i hi
    have f := h.fH i hi
    refine ⟨f.1, fun hx => ?_, fun hx => ?_, fun hx => ?_⟩
    · rcases mv.2 i hx with h' | h'
      · exact f.2.1 h'
      · omega
    · rcases mv.1.2.1 i hx with h' | h'
      · exact f.2.2.1 h'
      · omega
    · rcases mv.1.2.2 i hx with h' | h'
      · exact f.2.2.2 h'
      · omega
  · have hlt := h.st.ltV i hi
    have f := h.fV i hi
    refine ⟨f.1, fun hx => ?_, fun hx => ?_⟩
    · rcases mv.2 i hx with h' | h'
      · exact f.2.1 h'
      · omega
    · rcases mv.1.2.1 i hx with h' | h'
      · exact f.2.2 h'
      · omega
theorem SD.own {X H' VB' : List Nat} {cv' : V} (h : SD S0 S x l r s) (u : Upd X S S') (hX : ∀ i ∈ X, i ∈ x.H) (k : StAt S' H' VB' x.d x.q.o x.o x.m cv' s') (hH : ∀ i ∈ H', i ∈ x.H ∨ S.next ≤ i) (hV : ∀ i ∈ VB', i ∈ x.VB ∨ S.next ≤ i) : SD S0 S' { x with H := H', VB := VB', cv := cv' } l r s' := by
  have hG : ∀ i ∈ X, i ∉ x.G := fun i hi => (h.fH i (hX i hi)).2.1
  have hD : ∀ i ∈ X, i ∉ x.D := fun i hi => (h.fH i (hX i hi)).2.2.1
  have hB : ∀ i ∈ X, i ∉ x.B := fun i hi => (h.fH i (hX i hi)).2.2.2
  have l0 := h.ld.g.le
  refine ⟨⟨h.ld.lg.upd u hG, h.ld.dh.upd u hD hB, h.ld.g.after u fun i hi => .inl (h.fH i (hX i hi)).1, h.ld.fG, h.ld.fD, h.ld.ap⟩, k, fun i hi => ?_, fun i hi => ?_⟩
  · rcases hH i hi with h' | h'
    · exact h.fH i h'
    · exact ⟨by omega, fun hx => by have := h.ld.lg.lt i hx; omega, fun hx => by have := h.ld.dh.ltD i hx; omega, fun hx => by have := h.ld.dh.ltB i hx; omega⟩
  · rcases hV i hi with h' | h'
    · exact h.fV i h'
    · exact ⟨by omega, fun hx => by have := h.ld.lg.lt i hx; omega, fun hx => by have := h.ld.dh.ltD i hx; omega⟩
end

end Go.Th.L
end
