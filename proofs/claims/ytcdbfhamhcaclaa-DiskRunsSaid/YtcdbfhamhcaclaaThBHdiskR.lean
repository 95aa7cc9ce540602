/- What the row of one statement stands on: a store, abstract code, functions of the program and their laws (ThHdisk13, ThHdiskR). -/
import Derived.Test.YtcdbfhamhcaclaaThBHdisk12
import Derived.Test.YtcdbfhamhcaclaaThBGslicesStr
import Derived.Test.YtcdbfhamhcaclaaThBHkeep
import Derived.Test.YtcdbfhamhcaclaaThBQ11

section
/- A new disk; no disk; the examples. -/
set_option linter.unusedSimpArgs false
set_option linter.unusedVariables false
set_option maxHeartbeats 2000000
namespace Go.Th.L
open Go Go.Th Go.Th.Pure
variable {P : Program} {N : Nat → Nat}

def DH (S : St) (D B : List Nat) (d : Nat) (r : DiskR) : Prop := ∃ q : DP, q.d = d ∧ DiskIn S D B q r
def Foot (D B : List Nat) (S : St) (D' B' : List Nat) (S' : St) : Prop := (∀ i ∈ D', i ∈ D ∨ S.next ≤ i) ∧ (∀ i ∈ B', i ∈ B ∨ S.next ≤ i) ∧ Upd D S S'
theorem Foot.refl {S : St} (hw : S.Wf) (D B : List Nat) : Foot D B S D B S := ⟨fun i hi => .inl hi, fun i hi => .inl hi, Upd.refl hw D⟩
theorem Foot.trans {D B D1 B1 D2 B2 : List Nat} {S S1 S2 : St} (h : Foot D B S D1 B1 S1) (k : Foot D1 B1 S1 D2 B2 S2) : Foot D B S D2 B2 S2 := by
  have hl := h.2.2.le
  refine ⟨fun i hi => ?_, fun i hi => ?_, h.2.2.after k.2.2 fun i hi => ?_⟩
  · rcases k.1 i hi with h' | h'
    · exact h.1 i h'
    · exact .inr (by omega)
  · rcases k.2.1 i hi with h' | h'
    · exact h.2.1 i h'
    · exact .inr (by omega)
  · rcases h.1 i hi with h' | h'
    · exact .inr h'
    · exact .inl h'
theorem Foot.of {D B Dn Bn X : List Nat} {S S' : St} (u : Upd X S S') (hX : ∀ i ∈ X, i ∈ D ∨ S.next ≤ i) (hD : ∀ i ∈ Dn, S.next ≤ i) (hB : ∀ i ∈ Bn, S.next ≤ i) : Foot D B S (D ++ Dn) (B ++ Bn) S' := by
  refine ⟨fun i hi => ?_, fun i hi => ?_, u.mono hX⟩
  · rcases List.mem_append.mp hi with h' | h'
    · exact .inl h'
    · exact .inr (hD i h')
  · rcases List.mem_append.mp hi with h' | h'
    · exact .inl h'
    · exact .inr (hB i h')
theorem Foot.grow {D B : List Nat} {S S' : St} (u : Grow S S') : Foot D B S D B S' := ⟨fun i hi => .inl hi, fun i hi => .inl hi, u.mono (by simp)⟩
theorem Mv.elim {d : Nat} {D B : List Nat} {S : St} {r' : DiskR} {S' : St} (h : Mv d D B S r' S') : ∃ D' B', DH S' D' B' d r' ∧ Foot D B S D' B' S' := by
  obtain ⟨⟨D', B', q', e, h1, h2, h3⟩, u⟩ := h
  exact ⟨D', B', ⟨q', e, h1⟩, h2, h3, u⟩
theorem DH.upd {X : List Nat} {S S' : St} {D B : List Nat} {d : Nat} {r : DiskR} (h : DH S D B d r) (u : Upd X S S') (h1 : ∀ i ∈ X, i ∉ D) (h2 : ∀ i ∈ X, i ∉ B) : DH S' D B d r := by
  obtain ⟨q, e, h⟩ := h
  exact ⟨q, e, h.upd u h1 h2⟩
theorem DH.grow {S S' : St} {D B : List Nat} {d : Nat} {r : DiskR} (h : DH S D B d r) (u : Grow S S') : DH S' D B d r := h.upd u (by simp) (by simp)
theorem DH.ltD {S : St} {D B : List Nat} {d : Nat} {r : DiskR} (h : DH S D B d r) : ∀ i ∈ D, i < S.next := by
  obtain ⟨q, e, h⟩ := h
  exact h.ltD
theorem DH.ltB {S : St} {D B : List Nat} {d : Nat} {r : DiskR} (h : DH S D B d r) : ∀ i ∈ B, i < S.next := by
  obtain ⟨q, e, h⟩ := h
  exact h.ltB

structure DiskF3 (P : Program) (N : Nat → Nat) : Prop where
  f2 : DiskF2 P N
  new : disk_New.Ok P N
  crash : CrashF P N
  clone : CloneF P N
  syncDir : disk_Disk_SyncDir.Ok P N
  bytes : keep_Bytes.Ok P N
theorem DiskF3.f {P : Program} {N : Nat → Nat} (h : DiskF3 P N) : DiskF P N := h.f2.f

theorem disk_New.spec (hF : disk_New.Ok P N) {S : St} (hw : S.Wf) {room : Int} {K : V → Int → St → Prop} (h1 : ¬ (1 ≤ room ∧ room ≤ 4194304) → K .nilPtr 1 S)
    (h2 : 1 ≤ room ∧ room ≤ 4194304 → ∀ S' D d, Grow S S' → DH S' D [] d (newR room) → (∀ i ∈ D, S.next ≤ i) → K (.ptr d 0) 0 S') : CallA P (N Fn.disk_New) [.int .i64 room] S (retT [.one .any, .one (.int .i64)] K) := by
  refine disk_New.run hF (Join0.mid (fun S' => S' = S ∧ 1 ≤ room ∧ room ≤ 4194304) (ifC_dec (fun h => h1 (by omega)) (fun h => ifC_dec (fun h' => h1 (by omega)) (fun h' => ⟨rfl, by omega, by omega⟩))) ?_)
  rintro S1 ⟨rfl, hr⟩
  refine newS_mk hw fun S2 g2 m2 n2 => newS_mk g2.wf fun S3 g3 m3 n3 => ⟨rfl, rfl, newS_mk g3.wf fun S4 g4 m4 n4 => h2 hr S4 [S1.next, S2.next, S3.next] S3.next ((g2.trans g3).trans g4) ⟨⟨S3.next, S1.next, S2.next, .nilSlice, fun _ => 0, fun _ => .nilSlice, fun _ => False⟩, rfl, ?_⟩ ?_⟩
  · refine ⟨m4, NamesAt.new (S := S1) (g4.get (g3.get m2)), NamesAt.new (S := S1) (g4.get m3), Acc.nil _ _ _, fun k hk => hk.elim, fun k _ hk => hk.elim, by simp [newR], by simp [newR], by simp [newR], fun k hk => hk.elim, by simp, by simp, by simp, by simp [V.block], fun k hk => hk.elim, fun k hk => hk.elim, ?_, by simp, by simp, by simp only; omega, by simp only; omega, by simp only; omega, by simp [V.block], fun k hk => hk.elim⟩
    intro i hi
    simp only [List.mem_cons, List.not_mem_nil, or_false] at hi
    omega
  · intro i hi
    simp only [List.mem_cons, List.not_mem_nil, or_false] at hi
    omega

section
variable (hO : DiskF3 P N) {S : St} {n t : Nm} {x : V} {m : Int}
include hO
end

section
variable (hO : DiskF3 P N) {S : St} (hw : S.Wf) {D B : List Nat} {d : Nat} {r r' : DiskR} (h : DH S D B d r) {M : Nat} (hok : OkR M r) (hM : M ≤ 1000000) {n t : Nm} {v : Int} {K : Int → St → Prop}
include hO hw h hok hM
theorem DH.create (hnl : n.length < 4611686018427387904) (e : createR r n = (v, r')) (hk : ∀ S' D' B', DH S' D' B' d r' → Foot D B S D' B' S' → K v S') : CallA P (N Fn.disk_Disk_Create) [.ptr d 0, .str n] S (retT [.one (.int .i64)] K) := by
  obtain ⟨q, rfl, h⟩ := h
  refine disk_Disk_Create.spec hO.f2 hw h hok hM hnl fun S' m => ?_
  rw [e] at m ⊢
  obtain ⟨D', B', h', f⟩ := m.elim
  exact hk S' D' B' h' f
theorem DH.append {x : V} {bs : List UInt8} (hx : BytesAt S x bs) (hxl : bs.length ≤ 1000000000) (e : appendR r n bs = (v, r')) (hk : ∀ S' D' B', DH S' D' B' d r' → Foot D B S D' B' S' → K v S') : CallA P (N Fn.disk_Disk_Append) [.ptr d 0, .str n, x] S (retT [.one (.int .i64)] K) := by
  obtain ⟨q, rfl, h⟩ := h
  refine disk_Disk_Append.spec hO.f2 hw h hok hM hx hxl fun S' m => ?_
  rw [e] at m ⊢
  obtain ⟨D', B', h', f⟩ := m.elim
  exact hk S' D' B' h' f
theorem DH.sync (e : syncR r n = (v, r')) (hk : ∀ S' D' B', DH S' D' B' d r' → Foot D B S D' B' S' → K v S') : CallA P (N Fn.disk_Disk_Sync) [.ptr d 0, .str n] S (retT [.one (.int .i64)] K) := by
  obtain ⟨q, rfl, h⟩ := h
  refine disk_Disk_Sync.spec hO.f2 hw h hok hM fun S' m => ?_
  rw [e] at m ⊢
  obtain ⟨D', B', h', f⟩ := m.elim
  exact hk S' D' B' h' f
theorem DH.rename (htl : t.length < 4611686018427387904) (e : renameR r n t = (v, r')) (hk : ∀ S' D' B', DH S' D' B' d r' → Foot D B S D' B' S' → K v S') : CallA P (N Fn.disk_Disk_Rename) [.ptr d 0, .str n, .str t] S (retT [.one (.int .i64)] K) := by
  obtain ⟨q, rfl, h⟩ := h
  refine disk_Disk_Rename.spec hO.f2 hw h hok hM htl fun S' m => ?_
  rw [e] at m ⊢
  obtain ⟨D', B', h', f⟩ := m.elim
  exact hk S' D' B' h' f
theorem DH.remove (e : removeR r n = (v, r')) (hk : ∀ S' D' B', DH S' D' B' d r' → Foot D B S D' B' S' → K v S') : CallA P (N Fn.disk_Disk_Remove) [.ptr d 0, .str n] S (retT [.one (.int .i64)] K) := by
  obtain ⟨q, rfl, h⟩ := h
  refine disk_Disk_Remove.spec hO.f2 hw h hok hM fun S' m => ?_
  rw [e] at m ⊢
  obtain ⟨D', B', h', f⟩ := m.elim
  exact hk S' D' B' h' f
theorem DH.syncDir (e : syncDirR r = (v, r')) (hk : ∀ S' D' B', DH S' D' B' d r' → Foot D B S D' B' S' → K v S') : CallA P (N Fn.disk_Disk_SyncDir) [.ptr d 0] S (retT [.one (.int .i64)] K) := by
  obtain ⟨q, rfl, h⟩ := h
  refine disk_Disk_SyncDir.spec hO.f2 hO.syncDir hO.crash.maps hw h hok hM fun S' m => ?_
  rw [e] at m ⊢
  obtain ⟨D', B', h', f⟩ := m.elim
  exact hk S' D' B' h' f
theorem DH.crash {x : V} {cs : List Int} (hx : IntsAt S x cs) (hxD : cs ≠ [] → ∀ i ∈ x.block, i ∉ D) (hxl : cs ≠ [] → ∀ i ∈ x.block, i < S.next) (hcs : ∀ c ∈ cs, -9223372036854775808 ≤ c ∧ c ≤ 9223372036854775807) (e : crashR cs r = r') (hk : ∀ S' D' B', DH S' D' B' d r' → Foot D B S D' B' S' → K 0 S') :
    CallA P (N Fn.disk_Disk_Crash) [.ptr d 0, x] S (retT [.one (.int .i64)] K) := by
  obtain ⟨q, rfl, h⟩ := h
  refine disk_Disk_Crash.spec hO.crash hw h hok hM hx hxD hxl hcs fun S' m => ?_
  rw [e] at m
  obtain ⟨D', B', h', f⟩ := m.elim
  exact hk S' D' B' h' f
theorem DH.clone {K : V → St → Prop} (hk : ∀ S' D' B' d', Grow S S' → DH S' D' B' d' r → (∀ i ∈ D', S.next ≤ i) → (∀ i ∈ B', S.next ≤ i) → d' = S.next → K (.ptr d' 0) S') : CallA P (N Fn.disk_Disk_Clone) [.ptr d 0] S (retT [.one .any] K) := by
  obtain ⟨q, rfl, h⟩ := h
  exact disk_Disk_Clone.spec hO.clone hw h hok hM fun S' D' B' q' g h' h1 h2 e => hk S' D' B' q'.d g ⟨q', rfl, h'⟩ h1 h2 e
end
section
variable (hO : DiskF3 P N) {S : St} (hw : S.Wf) {D B : List Nat} {d : Nat} {r r' : DiskR} (h : DH S D B d r)
include hO h
theorem DH.stop {n v : Int} {K : Int → St → Prop} (hw : S.Wf) (e : stopR r n = (v, r')) (hk : ∀ S' D' B', DH S' D' B' d r' → Foot D B S D' B' S' → K v S') : CallA P (N Fn.disk_Disk_Stop) [.ptr d 0, .int .i64 n] S (retT [.one (.int .i64)] K) := by
  obtain ⟨q, rfl, h⟩ := h
  refine disk_Disk_Stop.spec hO.f2 hw h fun S' m => ?_
  rw [e] at m ⊢
  obtain ⟨D', B', h', f⟩ := m.elim
  exact hk S' D' B' h' f
theorem DH.read {M : Nat} (hw : S.Wf) (hok : OkR M r) {n : Nm} {b : List UInt8} {v : Int} {K : V → Int → St → Prop} (e : readR r n = (b, v)) (hk : ∀ x S', BuiltB S S' x b → K x v S') : CallA P (N Fn.disk_Disk_Read) [.ptr d 0, .str n] S (retT [.one .any, .one (.int .i64)] K) := by
  obtain ⟨q, rfl, h⟩ := h
  refine disk_Disk_Read.spec hO.f2 hw h.rd hok fun x S' b => ?_
  rw [e] at b ⊢
  exact hk x S' b
theorem DH.steps {K : Int → St → Prop} (hk : K r.steps S) : CallA P (N Fn.disk_Disk_Steps) [.ptr d 0] S (retT [.one (.int .i64)] K) := by
  obtain ⟨q, rfl, h⟩ := h
  exact disk_Disk_Steps.spec hO.f2.steps h.rd hk
theorem DH.down {K : Bool → St → Prop} (hk : K (downR r) S) : CallA P (N Fn.disk_Disk_Down) [.ptr d 0] S (retT [.one .bool] K) := by
  obtain ⟨q, rfl, h⟩ := h
  exact disk_Disk_Down.spec hO.f.down h.rd hk
theorem DH.used {M : Nat} (hok : OkR M r) {K : Int → St → Prop} (hk : K (usedR r : Nat) S) : CallA P (N Fn.disk_Disk_Used) [.ptr d 0] S (retT [.one (.int .i64)] K) := by
  obtain ⟨q, rfl, h⟩ := h
  exact disk_Disk_Used.spec hO.f2.used hO.f h hok hk
theorem DH.names {M : Nat} (hw : S.Wf) (hok : OkR M r) {K : V → St → Prop} (hk : ∀ v S', Built S S' 1 v (strE (namesR r)) → K v S') : CallA P (N Fn.disk_Disk_Names) [.ptr d 0] S (retT [.one .any] K) := by
  obtain ⟨q, rfl, h⟩ := h
  exact disk_Disk_Names.spec hO.f hO.crash.n hw h.rd hok.stNow hk
end

structure Fd (S0 S : St) (D B : List Nat) (d : Nat) (r : DiskR) : Prop where
  dh : DH S D B d r
  g : Grow S0 S
  fD : ∀ i ∈ D, S0.next ≤ i
  fB : ∀ i ∈ B, S0.next ≤ i
theorem Fd.grow {S0 S S' : St} {D B : List Nat} {d : Nat} {r : DiskR} (h : Fd S0 S D B d r) (u : Grow S S') : Fd S0 S' D B d r := ⟨h.dh.grow u, h.g.trans u, h.fD, h.fB⟩
theorem Fd.step {S0 S S' : St} {D B D' B' : List Nat} {d : Nat} {r r' : DiskR} (h : Fd S0 S D B d r) (h' : DH S' D' B' d r') (f : Foot D B S D' B' S') : Fd S0 S' D' B' d r' := by
  have hl := h.g.le
  refine ⟨h', h.g.after f.2.2 fun i hi => .inl (h.fD i hi), fun i hi => ?_, fun i hi => ?_⟩
  · rcases f.1 i hi with h1 | h1
    · exact h.fD i h1
    · omega
  · rcases f.2.1 i hi with h1 | h1
    · exact h.fB i h1
    · omega
theorem Fd.wf {S0 S : St} {D B : List Nat} {d : Nat} {r : DiskR} (h : Fd S0 S D B d r) : S.Wf := h.g.wf

def aw1 : DiskR := ⟨4, [⟨[], 0⟩], [([97], 0)], [], [⟨1, [], [97], 0⟩], 1, -1⟩
def aw2 : DiskR := ⟨4, [⟨[1, 2, 3], 0⟩], [([97], 0)], [], [⟨1, [], [97], 0⟩], 2, -1⟩
def aw3 : DiskR := ⟨4, [⟨[1, 2, 3], 3⟩], [([97], 0)], [], [⟨1, [], [97], 0⟩], 3, -1⟩
def aw4 : DiskR := ⟨4, [⟨[1, 2, 3, 9], 3⟩], [([97], 0)], [], [⟨1, [], [97], 0⟩], 4, -1⟩
def aw5 : DiskR := ⟨4, [⟨[1, 2, 3, 9], 3⟩], [([97], 0)], [([97], 0)], [], 5, -1⟩
def aw6 : DiskR := ⟨4, [⟨[1, 2, 3, 0], 4⟩], [([97], 0)], [([97], 0)], [], 5, -1⟩
def aw7 : DiskR := ⟨4, [⟨[1, 2, 3, 9], 4⟩], [([97], 0)], [([97], 0)], [], 5, -1⟩
theorem aw_1 : createR (newR 4) [97] = (0, aw1) := rfl
theorem aw_2 : appendR aw1 [97] [1, 2, 3] = (0, aw2) := rfl
theorem aw_2' : appendR aw2 [97] [4, 5] = (173, aw2) := rfl
theorem aw_3 : syncR aw2 [97] = (0, aw3) := rfl
theorem aw_4 : appendR aw3 [97] [9] = (0, aw4) := rfl
theorem aw_5 : syncDirR aw4 = (0, aw5) := rfl
theorem aw_6 : crashR [0, -2] aw5 = aw6 := rfl
theorem aw_7 : crashR [0, 1] aw5 = aw7 := rfl
theorem aw_r6 : readR aw6 [97] = ([1, 2, 3, 0], 0) := rfl
theorem aw_r7 : readR aw7 [97] = ([1, 2, 3, 9], 0) := rfl

theorem sl_of {S : St} {i n : Nat} {cs : List V} {own : Bool} (h : S.get i = some (.cells cs own)) (hn : cs.length = n) (hm : n ≤ 1000000) : SlAt S 1 (.slice i 0 n n 1 true) n cs :=
  ⟨by omega, by omega, .inr ⟨_, _, _, _, rfl, Nat.le_refl _, by rw [St.loads_of h (by omega)]; simp [← hn]⟩⟩

theorem law17_awake.spec (hO : DiskF3 P N) (hA : law17_awake.Ok P N) {S : St} (hw : S.Wf) {K : Bool → St → Prop} (hk : ∀ S', Grow S S' → K true S') : CallA P (N Fn.law17_awake) [] S (retT [.one .bool] K) := by
  have o0 : OkR 0 (newR 4) := newR_ok (by omega)
  have o1 : OkR 1 aw1 := by have := createR_ok o0 [97]; rwa [aw_1] at this
  have o2 : OkR 2 aw2 := by have := appendR_ok o1 [97] [1, 2, 3]; rwa [aw_2] at this
  have o3 : OkR 3 aw3 := by have := syncR_ok o2 [97]; rwa [aw_3] at this
  have o4 : OkR 4 aw4 := by have := appendR_ok o3 [97] [9]; rwa [aw_4] at this
  have o5 : OkR 5 aw5 := by have := syncDirR_ok o4; rwa [aw_5] at this
  have o6 : OkR 5 aw6 := by have := crashR_ok o5 [0, -2]; rwa [aw_6] at this
  have o7 : OkR 5 aw7 := by have := crashR_ok o5 [0, 1]; rwa [aw_7] at this
  refine law17_awake.run hA (disk_New.spec hO.new hw (fun h => absurd (by omega) h) fun _ S1 D1 d g1 h1 n1 => Join0.mid (fun S' => S' = S1) ⟨false, rfl, ifC_ff rfl (ifC_ff rfl rfl)⟩ ?_)
  rintro S2 rfl
  have d2 : Fd S S2 D1 [] d (newR 4) := ⟨h1, g1, n1, by simp⟩
  refine DH.create hO d2.wf d2.dh o0 (by omega) (by decide) aw_1 fun S3 D3 B3 h3 f3 => ?_
  have d3 := d2.step h3 f3
  refine newS_mk d3.wf fun S4 g4 m4 n4 => ?_
  have d4 := d3.grow g4
  refine DH.append hO d4.wf d4.dh o1 (by omega) (bs := [1, 2, 3]) (sl_of m4 rfl (by omega)) (by decide) aw_2 fun S5 D5 B5 h5 f5 => ?_
  have d5 := d4.step h5 f5
  refine newS_mk d5.wf fun S6 g6 m6 n6 => ?_
  have d6 := d5.grow g6
  refine DH.append hO d6.wf d6.dh o2 (by omega) (bs := [4, 5]) (sl_of m6 rfl (by omega)) (by decide) aw_2' fun S7 D7 B7 h7 f7 => ?_
  have d7 := d6.step h7 f7
  refine DH.sync hO d7.wf d7.dh o2 (by omega) aw_3 fun S8 D8 B8 h8 f8 => ?_
  have d8 := d7.step h8 f8
  refine newS_mk d8.wf fun S9 g9 m9 n9 => ?_
  have d9 := d8.grow g9
  refine DH.append hO d9.wf d9.dh o3 (by omega) (bs := [9]) (sl_of m9 rfl (by omega)) (by decide) aw_4 fun S10 D10 B10 h10 f10 => ?_
  have d10 := d9.step h10 f10
  refine DH.syncDir hO d10.wf d10.dh o4 (by omega) aw_5 fun S11 D11 B11 h11 f11 => ?_
  have d11 := d10.step h11 f11
  refine DH.clone hO d11.wf d11.dh o5 (by omega) fun S12 Dx Bx x g12 hx fxD fxB ex => ⟨false, rfl, ifC_ff rfl ?_⟩
  have d12 := d11.grow g12
  have x12 : Fd S11 S12 Dx Bx x aw5 := ⟨hx, g12, fxD, fxB⟩
  have lx := hx.ltD
  have lxB := hx.ltB
  have ld := d12.dh.ltD
  have ld11 := d11.dh.ltD
  have ld11B := d11.dh.ltB
  refine newS_mk d12.wf fun S13 g13 m13 n13 => ?_
  have d13 := d12.grow g13
  have x13 := x12.grow g13
  refine DH.crash hO d13.wf d13.dh o5 (by omega) (cs := [0, -2]) (sl_of m13 rfl (by omega)) (fun _ i hi hD => ?_) (fun _ i hi => ?_) (by decide) aw_6 fun S14 D14 B14 h14 f14 => ?_
  · simp only [V.block, List.mem_singleton] at hi
    have := ld i hD; omega
  · simp only [V.block, List.mem_singleton] at hi
    omega
  have d14 := d13.step h14 f14
  have g1112 := g12.le
  have g1213 := g13.le
  have g1314 := f14.2.2.le
  have x14 : DH S14 Dx Bx x aw5 := x13.dh.upd f14.2.2 (fun i hi hi' => by have := ld11 i hi; have := fxD i hi'; omega) (fun i hi hi' => by have := ld11 i hi; have := fxB i hi'; omega)
  refine DH.read hO d14.dh d14.wf o6 aw_r6 fun l S15 bl => ?_
  have d15 := d14.grow bl.grow
  have x15 := x14.grow bl.grow
  have g1415 := bl.grow.le
  refine newS_mk d15.wf fun S16 g16 m16 n16 => ?_
  have d16 := d15.grow g16
  have x16 := x15.grow g16
  have g1516 := g16.le
  refine DH.crash hO d16.wf x16 o5 (by omega) (cs := [0, 1]) (sl_of m16 rfl (by omega)) (fun _ i hi hD => ?_) (fun _ i hi => ?_) (by decide) aw_7 fun S17 D17 B17 h17 f17 => ?_
  · simp only [V.block, List.mem_singleton] at hi
    have := lx i hD; omega
  · simp only [V.block, List.mem_singleton] at hi
    omega
  have g17 : Grow S S17 := d16.g.after f17.2.2 fun i hi => .inl (by have := fxD i hi; have := d11.g.le; omega)
  have d17 : DH S17 D14 B14 d aw6 := d16.dh.upd f17.2.2 (fun i hi hi' => by
    have := lx i hi; have := fxD i hi
    rcases f14.1 i hi' with h' | h'
    · have := ld11 i h'; omega
    · omega) (fun i hi hi' => by
    have := lx i hi; have := fxD i hi
    rcases f14.2.1 i hi' with h' | h'
    · have := ld11B i h'; omega
    · omega)
  refine DH.read hO h17 g17.wf o7 aw_r7 fun m S18 bm => ?_
  have l17 : BytesAt S17 l [1, 2, 3, 0] := SlAt.upd (bl.at_.grow g16) f17.2.2 fun i hi hi' => by
    have := lx i hi'
    have := bl.from i hi
    omega
  have d18 := d17.grow bm.grow
  have l18 : BytesAt S18 l [1, 2, 3, 0] := SlAt.grow l17 bm.grow
  refine Join1.mid (fun b S' => b = true ∧ S' = S18) (ifC_tt rfl (ifC_tt rfl (ifC_tt rfl (ifC_tt rfl (ifC_tt rfl (ifC_tt rfl (ifC_tt rfl (ifC_tt rfl (ifC_tt rfl ⟨rfl, rfl⟩))))))))) ?_
  rintro b S19 ⟨rfl, rfl⟩
  have g19 : Grow S S19 := g17.trans bm.grow
  refine ifC_tt rfl (newS_mk g19.wf fun S20 g20 m20 n20 => keep_Bytes.spec hO.bytes _ _ _ [1, 2, 3, 0] _ _ (SlAt.grow l18 g20) (sl_of m20 rfl (by omega)) (ifC_tt rfl (newS_mk g20.wf fun S22 g22 m22 n22 => keep_Bytes.spec hO.bytes _ _ _ [1, 2, 3, 9] _ _ (SlAt.grow (SlAt.grow bm.at_ g20) g22) (sl_of m22 rfl (by omega)) (ifC_tt rfl (DH.steps hO ((d18.grow g20).grow g22) (hk S22 ((g19.trans g20).trans g22)))))))

end Go.Th.L
end

section
/- Readings of the disk rows' arguments. -/
set_option linter.unusedVariables false
set_option linter.unusedSimpArgs false
namespace Go.Th.L
open Go Go.Th Go.Th.Pure

abbrev u8S : Sh := Sh.slice 1 1 (Sh.int IntKind.u8)
abbrev i64S : Sh := Sh.slice 1 8 (Sh.int IntKind.i64)
theorem rdd_bytes {S : St} {cs : List V} (h : Has S u8S cs) : ∃ v b, cs = [v] ∧ BytesAt S v b := by
  simp only [Has] at h
  obtain ⟨x, n, es, e, hsl, _, hes⟩ := h
  obtain ⟨bs, h1, rfl⟩ := has_u8s (S := S) hsl.2.1 (fun m hm => by simp only [Has]; exact hes m hm)
  exact ⟨x, bs, e, hsl.bytes⟩
theorem rdd_ints {S : St} {cs : List V} (h : Has S i64S cs) : ∃ (v : V) (l : List Int), cs = [v] ∧ IntsAt S v l ∧ ∀ x ∈ l, -9223372036854775808 ≤ x ∧ x ≤ 9223372036854775807 := by
  simp only [Has] at h
  obtain ⟨v, n, es, rfl, hs, hr, he⟩ := h
  obtain ⟨l, hl, rfl, hx⟩ := has_i64s (S := S) hs.2.1 (fun m hm => by simpa only [Has] using he m hm)
  exact ⟨v, l, rfl, hs.ints, hx⟩
theorem rdd_str {S : St} {cs : List V} (h : Has S Sh.str cs) : ∃ s : List UInt8, cs = [.str s] := by
  simp only [Has] at h
  first
    | exact h
    | exact ⟨_, h.choose_spec⟩
    | (obtain ⟨s, h, _⟩ := h; exact ⟨s, h⟩)
theorem rdd_int {S : St} {cs : List V} (h : Has S (Sh.int .i64) cs) : ∃ n : Int, cs = [.int .i64 n] ∧ -9223372036854775808 ≤ n ∧ n ≤ 9223372036854775807 := by
  simp only [Has] at h
  obtain ⟨n, h1, h2⟩ := h
  exact ⟨n, h1, lit_i64 h2⟩

end Go.Th.L
end
