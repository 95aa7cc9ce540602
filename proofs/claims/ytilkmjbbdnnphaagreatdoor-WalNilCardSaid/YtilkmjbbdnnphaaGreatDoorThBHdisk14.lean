/- What the row of one statement stands on: a store, abstract code, functions of the program and their laws (ThHdisk13, ThHdisk14). -/
import Derived.Test.YtilkmjbbdnnphaaGreatDoorThBHdisk12
import Derived.Test.YtilkmjbbdnnphaaGreatDoorThBGref17
import Derived.Test.YtilkmjbbdnnphaaGreatDoorThBHkeep

section
/- A new disk; no disk; the examples. -/
set_option linter.unusedSimpArgs false
set_option linter.unusedVariables false
set_option maxHeartbeats 2000000
namespace Go.Th.L
open Go Go.Th Go.Th.Pure
variable {P : Program} {N : Nat → Nat}

def DH (S : St) (D B : List Nat) (d : Nat) (r : DiskR) : Prop := ∃ q : DP, q.d = d ∧ DiskIn S D B q r
def Foot (D B : List Nat) (S : St) (D' B' : List Nat) (S' : St) : Prop := (∀ i ∈ D', i ∈ D ∨ S.next ≤ i) ∧ (∀ i ∈ B', i ∈ B ∨ S.next ≤ i) ∧ Upd D S S'
theorem Foot.refl {S : St} (hw : S.Wf) (D B : List Nat) : Foot D B S D B S := ⟨fun i hi => .inl hi, fun i hi => .inl hi, Upd.refl hw D⟩
theorem Foot.trans {D B D1 B1 D2 B2 : List Nat} {S S1 S2 : St} (h : Foot D B S D1 B1 S1) (k : Foot D1 B1 S1 D2 B2 S2) : Foot D B S D2 B2 S2 := by
  have hl := h.2.2.le
  refine ⟨fun i hi => ?_, fun i hi => ?_, h.2.2.after k.2.2 fun i hi => ?_⟩
  · rcases k.1 i hi with h' | h'
    · exact h.1 i h'
    · exact .inr (by omega)
  · rcases k.2.1 i hi with h' | h'
    · exact h.2.1 i h'
    · exact .inr (by omega)
  · rcases h.1 i hi with h' | h'
    · exact .inr h'
    · exact .inl h'
theorem Foot.of {D B Dn Bn X : List Nat} {S S' : St} (u : Upd X S S') (hX : ∀ i ∈ X, i ∈ D ∨ S.next ≤ i) (hD : ∀ i ∈ Dn, S.next ≤ i) (hB : ∀ i ∈ Bn, S.next ≤ i) : Foot D B S (D ++ Dn) (B ++ Bn) S' := by
  refine ⟨fun i hi => ?_, fun i hi => ?_, u.mono hX⟩
  · rcases List.mem_append.mp hi with h' | h'
    · exact .inl h'
    · exact .inr (hD i h')
  · rcases List.mem_append.mp hi with h' | h'
    · exact .inl h'
    · exact .inr (hB i h')
theorem Foot.grow {D B : List Nat} {S S' : St} (u : Grow S S') : Foot D B S D B S' := ⟨fun i hi => .inl hi, fun i hi => .inl hi, u.mono (by simp)⟩
theorem Mv.elim {d : Nat} {D B : List Nat} {S : St} {r' : DiskR} {S' : St} (h : Mv d D B S r' S') : ∃ D' B', DH S' D' B' d r' ∧ Foot D B S D' B' S' := by
  obtain ⟨⟨D', B', q', e, h1, h2, h3⟩, u⟩ := h
  exact ⟨D', B', ⟨q', e, h1⟩, h2, h3, u⟩
theorem DH.upd {X : List Nat} {S S' : St} {D B : List Nat} {d : Nat} {r : DiskR} (h : DH S D B d r) (u : Upd X S S') (h1 : ∀ i ∈ X, i ∉ D) (h2 : ∀ i ∈ X, i ∉ B) : DH S' D B d r := by
  obtain ⟨q, e, h⟩ := h
  exact ⟨q, e, h.upd u h1 h2⟩
theorem DH.grow {S S' : St} {D B : List Nat} {d : Nat} {r : DiskR} (h : DH S D B d r) (u : Grow S S') : DH S' D B d r := h.upd u (by simp) (by simp)
theorem DH.ltD {S : St} {D B : List Nat} {d : Nat} {r : DiskR} (h : DH S D B d r) : ∀ i ∈ D, i < S.next := by
  obtain ⟨q, e, h⟩ := h
  exact h.ltD
theorem DH.ltB {S : St} {D B : List Nat} {d : Nat} {r : DiskR} (h : DH S D B d r) : ∀ i ∈ B, i < S.next := by
  obtain ⟨q, e, h⟩ := h
  exact h.ltB

structure DiskF3 (P : Program) (N : Nat → Nat) : Prop where
  f2 : DiskF2 P N
  new : disk_New.Ok P N
  crash : CrashF P N
  clone : CloneF P N
  syncDir : disk_Disk_SyncDir.Ok P N
  bytes : keep_Bytes.Ok P N
structure DiskFv (P : Program) (N : Nat → Nat) : Prop where
  fw : DiskFw P N
  new : disk_New.Ok P N
  crash : CrashF P N
  syncDir : disk_Disk_SyncDir.Ok P N
theorem DiskFv.f {P : Program} {N : Nat → Nat} (h : DiskFv P N) : DiskF P N := h.fw.f
theorem DiskF3.v {P : Program} {N : Nat → Nat} (h : DiskF3 P N) : DiskFv P N := ⟨h.f2.toDiskFw, h.new, h.crash, h.syncDir⟩
instance {P : Program} {N : Nat → Nat} : Coe (DiskF3 P N) (DiskFv P N) := ⟨DiskF3.v⟩
theorem DiskF3.f {P : Program} {N : Nat → Nat} (h : DiskF3 P N) : DiskF P N := h.f2.f

theorem disk_New.spec (hF : disk_New.Ok P N) {S : St} (hw : S.Wf) {room : Int} {K : V → Int → St → Prop} (h1 : ¬ (1 ≤ room ∧ room ≤ 4194304) → K .nilPtr 1 S)
    (h2 : 1 ≤ room ∧ room ≤ 4194304 → ∀ S' D d, Grow S S' → DH S' D [] d (newR room) → (∀ i ∈ D, S.next ≤ i) → K (.ptr d 0) 0 S') : CallA P (N Fn.disk_New) [.int .i64 room] S (retT [.one .any, .one (.int .i64)] K) := by
  refine disk_New.run hF (Join0.mid (fun S' => S' = S ∧ 1 ≤ room ∧ room ≤ 4194304) (ifC_dec (fun h => h1 (by omega)) (fun h => ifC_dec (fun h' => h1 (by omega)) (fun h' => ⟨rfl, by omega, by omega⟩))) ?_)
  rintro S1 ⟨rfl, hr⟩
  refine newS_mk hw fun S2 g2 m2 n2 => newS_mk g2.wf fun S3 g3 m3 n3 => ⟨rfl, rfl, newS_mk g3.wf fun S4 g4 m4 n4 => h2 hr S4 [S1.next, S2.next, S3.next] S3.next ((g2.trans g3).trans g4) ⟨⟨S3.next, S1.next, S2.next, .nilSlice, fun _ => 0, fun _ => .nilSlice, fun _ => False⟩, rfl, ?_⟩ ?_⟩
  · refine ⟨m4, NamesAt.new (S := S1) (g4.get (g3.get m2)), NamesAt.new (S := S1) (g4.get m3), Acc.nil _ _ _, fun k hk => hk.elim, fun k _ hk => hk.elim, by simp [newR], by simp [newR], by simp [newR], fun k hk => hk.elim, by simp, by simp, by simp, by simp [V.block], fun k hk => hk.elim, fun k hk => hk.elim, ?_, by simp, by simp, by simp only; omega, by simp only; omega, by simp only; omega, by simp [V.block], fun k hk => hk.elim⟩
    intro i hi
    simp only [List.mem_cons, List.not_mem_nil, or_false] at hi
    omega
  · intro i hi
    simp only [List.mem_cons, List.not_mem_nil, or_false] at hi
    omega

section
variable (hO : DiskF3 P N) {S : St} {n t : Nm} {x : V} {m : Int}
include hO
end

section
variable (hO : DiskFv P N) {S : St} (hw : S.Wf) {D B : List Nat} {d : Nat} {r r' : DiskR} (h : DH S D B d r) {M : Nat} (hok : OkR M r) (hM : M ≤ 1000000) {n t : Nm} {v : Int} {K : Int → St → Prop}
include hO hw h hok hM
theorem DH.create (hnl : n.length < 4611686018427387904) (e : createR r n = (v, r')) (hk : ∀ S' D' B', DH S' D' B' d r' → Foot D B S D' B' S' → K v S') : CallA P (N Fn.disk_Disk_Create) [.ptr d 0, .str n] S (retT [.one (.int .i64)] K) := by
  obtain ⟨q, rfl, h⟩ := h
  refine disk_Disk_Create.spec hO.fw hw h hok hM hnl fun S' m => ?_
  rw [e] at m ⊢
  obtain ⟨D', B', h', f⟩ := m.elim
  exact hk S' D' B' h' f
theorem DH.append {x : V} {bs : List UInt8} (hx : BytesAt S x bs) (hxl : bs.length ≤ 1000000000) (e : appendR r n bs = (v, r')) (hk : ∀ S' D' B', DH S' D' B' d r' → Foot D B S D' B' S' → K v S') : CallA P (N Fn.disk_Disk_Append) [.ptr d 0, .str n, x] S (retT [.one (.int .i64)] K) := by
  obtain ⟨q, rfl, h⟩ := h
  refine disk_Disk_Append.spec hO.fw hw h hok hM hx hxl fun S' m => ?_
  rw [e] at m ⊢
  obtain ⟨D', B', h', f⟩ := m.elim
  exact hk S' D' B' h' f
theorem DH.sync (e : syncR r n = (v, r')) (hk : ∀ S' D' B', DH S' D' B' d r' → Foot D B S D' B' S' → K v S') : CallA P (N Fn.disk_Disk_Sync) [.ptr d 0, .str n] S (retT [.one (.int .i64)] K) := by
  obtain ⟨q, rfl, h⟩ := h
  refine disk_Disk_Sync.spec hO.fw hw h hok hM fun S' m => ?_
  rw [e] at m ⊢
  obtain ⟨D', B', h', f⟩ := m.elim
  exact hk S' D' B' h' f
theorem DH.remove (e : removeR r n = (v, r')) (hk : ∀ S' D' B', DH S' D' B' d r' → Foot D B S D' B' S' → K v S') : CallA P (N Fn.disk_Disk_Remove) [.ptr d 0, .str n] S (retT [.one (.int .i64)] K) := by
  obtain ⟨q, rfl, h⟩ := h
  refine disk_Disk_Remove.spec hO.fw hw h hok hM fun S' m => ?_
  rw [e] at m ⊢
  obtain ⟨D', B', h', f⟩ := m.elim
  exact hk S' D' B' h' f
theorem DH.syncDir (e : syncDirR r = (v, r')) (hk : ∀ S' D' B', DH S' D' B' d r' → Foot D B S D' B' S' → K v S') : CallA P (N Fn.disk_Disk_SyncDir) [.ptr d 0] S (retT [.one (.int .i64)] K) := by
  obtain ⟨q, rfl, h⟩ := h
  refine disk_Disk_SyncDir.spec hO.fw hO.syncDir hO.crash.maps hw h hok hM fun S' m => ?_
  rw [e] at m ⊢
  obtain ⟨D', B', h', f⟩ := m.elim
  exact hk S' D' B' h' f
theorem DH.crash {x : V} {cs : List Int} (hx : IntsAt S x cs) (hxD : cs ≠ [] → ∀ i ∈ x.block, i ∉ D) (hxl : cs ≠ [] → ∀ i ∈ x.block, i < S.next) (hcs : ∀ c ∈ cs, -9223372036854775808 ≤ c ∧ c ≤ 9223372036854775807) (e : crashR cs r = r') (hk : ∀ S' D' B', DH S' D' B' d r' → Foot D B S D' B' S' → K 0 S') :
    CallA P (N Fn.disk_Disk_Crash) [.ptr d 0, x] S (retT [.one (.int .i64)] K) := by
  obtain ⟨q, rfl, h⟩ := h
  refine disk_Disk_Crash.spec hO.crash hw h hok hM hx hxD hxl hcs fun S' m => ?_
  rw [e] at m
  obtain ⟨D', B', h', f⟩ := m.elim
  exact hk S' D' B' h' f
end
section
variable (hO : DiskF3 P N) {S : St} (hw : S.Wf) {D B : List Nat} {d : Nat} {r r' : DiskR} (h : DH S D B d r) {M : Nat} (hok : OkR M r) (hM : M ≤ 1000000) {n t : Nm} {v : Int} {K : Int → St → Prop}
include hO hw h hok hM
theorem DH.rename (htl : t.length < 4611686018427387904) (e : renameR r n t = (v, r')) (hk : ∀ S' D' B', DH S' D' B' d r' → Foot D B S D' B' S' → K v S') : CallA P (N Fn.disk_Disk_Rename) [.ptr d 0, .str n, .str t] S (retT [.one (.int .i64)] K) := by
  obtain ⟨q, rfl, h⟩ := h
  refine disk_Disk_Rename.spec hO.f2 hw h hok hM htl fun S' m => ?_
  rw [e] at m ⊢
  obtain ⟨D', B', h', f⟩ := m.elim
  exact hk S' D' B' h' f
theorem DH.clone {K : V → St → Prop} (hk : ∀ S' D' B' d', Grow S S' → DH S' D' B' d' r → (∀ i ∈ D', S.next ≤ i) → (∀ i ∈ B', S.next ≤ i) → d' = S.next → K (.ptr d' 0) S') : CallA P (N Fn.disk_Disk_Clone) [.ptr d 0] S (retT [.one .any] K) := by
  obtain ⟨q, rfl, h⟩ := h
  exact disk_Disk_Clone.spec hO.clone hw h hok hM fun S' D' B' q' g h' h1 h2 e => hk S' D' B' q'.d g ⟨q', rfl, h'⟩ h1 h2 e
end
section
variable (hO : DiskFv P N) {S : St} (hw : S.Wf) {D B : List Nat} {d : Nat} {r r' : DiskR} (h : DH S D B d r)
include hO h
theorem DH.read {M : Nat} (hw : S.Wf) (hok : OkR M r) {n : Nm} {b : List UInt8} {v : Int} {K : V → Int → St → Prop} (e : readR r n = (b, v)) (hk : ∀ x S', BuiltB S S' x b → K x v S') : CallA P (N Fn.disk_Disk_Read) [.ptr d 0, .str n] S (retT [.one .any, .one (.int .i64)] K) := by
  obtain ⟨q, rfl, h⟩ := h
  refine disk_Disk_Read.spec hO.fw hw h.rd hok fun x S' b => ?_
  rw [e] at b ⊢
  exact hk x S' b
theorem DH.down {K : Bool → St → Prop} (hk : K (downR r) S) : CallA P (N Fn.disk_Disk_Down) [.ptr d 0] S (retT [.one .bool] K) := by
  obtain ⟨q, rfl, h⟩ := h
  exact disk_Disk_Down.spec hO.f.down h.rd hk
theorem DH.used {M : Nat} (hok : OkR M r) {K : Int → St → Prop} (hk : K (usedR r : Nat) S) : CallA P (N Fn.disk_Disk_Used) [.ptr d 0] S (retT [.one (.int .i64)] K) := by
  obtain ⟨q, rfl, h⟩ := h
  exact disk_Disk_Used.spec hO.fw.used hO.f h hok hk
theorem DH.names {M : Nat} (hw : S.Wf) (hok : OkR M r) {K : V → St → Prop} (hk : ∀ v S', Built S S' 1 v (strE (namesR r)) → K v S') : CallA P (N Fn.disk_Disk_Names) [.ptr d 0] S (retT [.one .any] K) := by
  obtain ⟨q, rfl, h⟩ := h
  exact disk_Disk_Names.spec hO.f hO.crash.n hw h.rd hok.stNow hk
end
section
variable (hO : DiskF3 P N) {S : St} (hw : S.Wf) {D B : List Nat} {d : Nat} {r r' : DiskR} (h : DH S D B d r)
include hO h
theorem DH.stop {n v : Int} {K : Int → St → Prop} (hw : S.Wf) (e : stopR r n = (v, r')) (hk : ∀ S' D' B', DH S' D' B' d r' → Foot D B S D' B' S' → K v S') : CallA P (N Fn.disk_Disk_Stop) [.ptr d 0, .int .i64 n] S (retT [.one (.int .i64)] K) := by
  obtain ⟨q, rfl, h⟩ := h
  refine disk_Disk_Stop.spec hO.f2 hw h fun S' m => ?_
  rw [e] at m ⊢
  obtain ⟨D', B', h', f⟩ := m.elim
  exact hk S' D' B' h' f
theorem DH.steps {K : Int → St → Prop} (hk : K r.steps S) : CallA P (N Fn.disk_Disk_Steps) [.ptr d 0] S (retT [.one (.int .i64)] K) := by
  obtain ⟨q, rfl, h⟩ := h
  exact disk_Disk_Steps.spec hO.f2.steps h.rd hk
end

structure Fd (S0 S : St) (D B : List Nat) (d : Nat) (r : DiskR) : Prop where
  dh : DH S D B d r
  g : Grow S0 S
  fD : ∀ i ∈ D, S0.next ≤ i
  fB : ∀ i ∈ B, S0.next ≤ i
theorem Fd.grow {S0 S S' : St} {D B : List Nat} {d : Nat} {r : DiskR} (h : Fd S0 S D B d r) (u : Grow S S') : Fd S0 S' D B d r := ⟨h.dh.grow u, h.g.trans u, h.fD, h.fB⟩
theorem Fd.step {S0 S S' : St} {D B D' B' : List Nat} {d : Nat} {r r' : DiskR} (h : Fd S0 S D B d r) (h' : DH S' D' B' d r') (f : Foot D B S D' B' S') : Fd S0 S' D' B' d r' := by
  have hl := h.g.le
  refine ⟨h', h.g.after f.2.2 fun i hi => .inl (h.fD i hi), fun i hi => ?_, fun i hi => ?_⟩
  · rcases f.1 i hi with h1 | h1
    · exact h.fD i h1
    · omega
  · rcases f.2.1 i hi with h1 | h1
    · exact h.fB i h1
    · omega
theorem Fd.wf {S0 S : St} {D B : List Nat} {d : Nat} {r : DiskR} (h : Fd S0 S D B d r) : S.Wf := h.g.wf

theorem sl_of {S : St} {i n : Nat} {cs : List V} {own : Bool} (h : S.get i = some (.cells cs own)) (hn : cs.length = n) (hm : n ≤ 1000000) : SlAt S 1 (.slice i 0 n n 1 true) n cs :=
  ⟨by omega, by omega, .inr ⟨_, _, _, _, rfl, Nat.le_refl _, by rw [St.loads_of h (by omega)]; simp [← hn]⟩⟩

end Go.Th.L
end

section
/- Bytes that are read: what lies behind them is known; they are written over. -/
set_option linter.unusedSimpArgs false
set_option linter.unusedVariables false
set_option maxHeartbeats 1000000
namespace Go.Th.L
open Go Go.Th Go.Th.Pure
variable {P : Program} {N : Nat → Nat}

def BytesX (S S' : St) (x : V) (bs : List UInt8) : Prop := (x = .nilSlice ∧ bs = []) ∨ ∃ i c ys, x = .slice i 0 bs.length c 1 true ∧ S.next ≤ i ∧ S'.get i = some (.cells (bytesV ys) true) ∧ ys.length = c ∧ bs.length ≤ c ∧ ys.take bs.length = bs ∧ bs.length ≤ 4194304 ∧ c ≤ 9223372036854775807
theorem BytesX.at_ {S S' : St} {x : V} {bs : List UInt8} (h : BytesX S S' x bs) : BytesAt S' x bs := by
  rcases h with ⟨rfl, rfl⟩ | ⟨i, c, ys, rfl, _, hg, hl, hn, ht, hc, _⟩
  · exact ⟨by simp, by simp [bytesV], .inl ⟨rfl, rfl⟩⟩
  · refine ⟨by omega, by rw [bytesV_length, Nat.mul_one], .inr ⟨_, _, _, _, rfl, hn, ?_⟩⟩
    rw [St.loads_of hg (by rw [bytesV_length]; omega), List.drop_zero, Nat.mul_one]
    have e : (bytesV ys).take bs.length = bytesV (ys.take bs.length) := by simp [bytesV, List.map_take]
    rw [e, ht]
theorem BytesX.from {S S' : St} {x : V} {bs : List UInt8} (h : BytesX S S' x bs) : ∀ i ∈ x.block, S.next ≤ i := by
  rcases h with ⟨rfl, rfl⟩ | ⟨i, c, ys, rfl, hi, _⟩
  · simp [V.block]
  · intro j hj
    simp only [V.block, List.mem_singleton] at hj
    subst hj; exact hi
theorem BytesX.grow {S S' S2 : St} {x : V} {bs : List UInt8} (h : BytesX S S' x bs) (u : Grow S' S2) : BytesX S S2 x bs := by
  rcases h with h | ⟨i, c, ys, e, hi, hg, h'⟩
  · exact .inl h
  · exact .inr ⟨i, c, ys, e, hi, u.get hg, h'⟩

end Go.Th.L
end
