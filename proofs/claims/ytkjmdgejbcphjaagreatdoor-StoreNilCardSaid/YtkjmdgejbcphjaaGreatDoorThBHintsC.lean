/- What the row of one statement stands on: a store, abstract code, functions of the program and their laws (ThHwal1, ThHdisk1, ThHdisk2, ThHdisk3, ThHdisk4, ThHdisk5, ThHdisk6, ThHdisk7, ThHdisk8, ThHdisk9, ThHdisk10, ThHdisk11, ThHdisk12, ThHintsC). -/
import Derived.Test.YtkjmdgejbcphjaaGreatDoorThBHmapI
import Derived.Test.YtkjmdgejbcphjaaGreatDoorThBGref16
import Derived.Test.YtkjmdgejbcphjaaGreatDoorThBQ10
import Derived.Test.YtkjmdgejbcphjaaGreatDoorThBPdisk3
import Derived.Test.YtkjmdgejbcphjaaGreatDoorThBR6

section
/- wal: numbers and checks laid. -/
set_option linter.unusedSimpArgs false
set_option linter.unusedVariables false
set_option maxHeartbeats 1000000
namespace Go.Th.L
open Go Go.Th Go.Th.Pure
variable {P : Program} {N : Nat → Nat}

theorem codec_Sum.spec (hF : codec_Sum.Ok P N) {S : St} {v : V} {l : List UInt8} (h : BytesAt S v l) (hl : l.length < 4611686018427387904) {K : Int → St → Prop} (hk : K (sumI l) S) : CallA P (N Fn.codec_Sum) [v] S (retT [.one (.int .u32)] K) := by
  refine codec_Sum.run hF ⟨_, SlAt.len h, Loop2.ind (fun m x z S' => ∃ i : Nat, z = i ∧ i + m = l.length ∧ S' = S ∧ x = (l.take i).foldl addS 4294967295) l.length ⟨0, rfl, by omega, rfl, rfl⟩ ?_⟩
  rintro m x z S1 ⟨i, rfl, hi, rfl, rfl⟩
  refine ifC_dec (fun hlt => ?_) (fun hge => ?_)
  · have hin : i < l.length := by omega
    refine ifS_mk (SlAt.idx h hin) ⟨_, BytesAt.get h hin, setI_mk rfl (setI_mk rfl ?_)⟩
    refine Loop2.ind (fun m2 y z2 S' => ∃ j : Nat, z2 = j ∧ j + m2 = 8 ∧ S' = S1 ∧ y = rnds j (intBits .xor .u32 ((l.take i).foldl addS 4294967295) (IntKind.u32.wrap ((l[i].toNat : Nat) : Int)))) 8 ⟨0, rfl, by omega, rfl, rfl⟩ ?_
    rintro m2 y z2 S2 ⟨j, rfl, hj, rfl, rfl⟩
    refine ifC_dec (fun hlt2 => ?_) (fun hge2 => ?_)
    · refine ⟨by omega, setI_mk rfl (setI_mk rfl (setI_mk rfl (setI_mk rfl (setI_mk rfl (setI_mk (n := ((j + 1 : Nat) : Int)) (by rw [IntKind.wrap_i64]; omega) ⟨m2 - 1, by omega, j + 1, rfl, by omega, rfl, ?_⟩)))))⟩
      rw [rnds_succ]; rfl
    · have : j = 8 := by omega
      subst this
      refine setI_mk (n := ((i + 1 : Nat) : Int)) (by rw [IntKind.wrap_i64]; omega) ⟨m - 1, by omega, i + 1, rfl, by omega, rfl, ?_⟩
      rw [List.take_add_one, List.getElem?_eq_getElem hin, Option.toList_some, List.foldl_append]
      rfl
  · have : i = l.length := by omega
    subst this
    rw [List.take_length]
    exact setI_mk rfl hk

end Go.Th.L
end

section
/- The disk in the store; what its small functions do. -/
set_option linter.unusedSimpArgs false
set_option linter.unusedVariables false
set_option maxHeartbeats 1000000
namespace Go.Th.L
open Go Go.Th Go.Th.Pure
variable {P : Program} {N : Nat → Nat}

structure DP where
  d : Nat
  bn : Nat
  bs : Nat
  cv : V
  fb : Nat → Nat
  bv : Nat → V
  lv : Nat → Prop

def entG (fb : Nat → Nat) (l : List (Nm × Nat)) : List (Nm × V) := l.map fun p => (p.1, .ptr (fb p.2) 0)
def chP (fb : Nat → Nat) (c : ChR) : V := if c.kind = 3 then .nilPtr else .ptr (fb c.file) 0
def chC (fb : Nat → Nat) (c : ChR) : List V := [.str c.fr, .str c.to, chP fb c]
def stopsR (r : DiskR) : Bool := decide (0 ≤ r.left)
def leftC (r : DiskR) : Int := if 0 ≤ r.left then r.left else 0
def objC (q : DP) (r : DiskR) : List V := [.int .i64 r.room, .map q.bn, .map q.bs, q.cv, .int .i64 r.steps, .bool (stopsR r), .int .i64 (leftC r)]

structure DiskIn (S : St) (D B : List Nat) (q : DP) (r : DiskR) : Prop where
  obj : S.get q.d = some (.cells (objC q r) true)
  now : NamesAt S q.bn (entG q.fb r.now)
  safe : NamesAt S q.bs (entG q.fb r.safe)
  chs : Acc S 0 3 q.cv r.chs.length (r.chs.map (chC q.fb)).flatten
  fl : ∀ k, q.lv k → S.get (q.fb k) = some (.cells [q.bv k, .int .i64 ((r.fl k).safe : Nat)] true) ∧ Acc S 0 1 (q.bv k) (r.fl k).b.length (bytesV (r.fl k).b)
  inj : ∀ k k', q.lv k → q.lv k' → q.fb k = q.fb k' → k = k'
  lvN : ∀ p ∈ r.now, q.lv p.2
  lvS : ∀ p ∈ r.safe, q.lv p.2
  lvC : ∀ c ∈ r.chs, c.kind ≠ 3 → q.lv c.file
  lvI : ∀ k, q.lv k → k < r.files.length
  dD : q.d ∈ D
  dN : q.bn ∈ D
  dS : q.bs ∈ D
  dC : ∀ i ∈ q.cv.block, i ∈ D
  dF : ∀ k, q.lv k → q.fb k ∈ D
  dB : ∀ k, q.lv k → ∀ i ∈ (q.bv k).block, i ∈ B
  ltD : ∀ i ∈ D, i < S.next
  ltB : ∀ i ∈ B, i < S.next
  apart : ∀ i ∈ D, i ∉ B
  ne1 : q.bn ≠ q.d
  ne2 : q.bs ≠ q.d
  ne3 : q.bn ≠ q.bs
  neC : ∀ i ∈ q.cv.block, i ≠ q.d ∧ i ≠ q.bn ∧ i ≠ q.bs ∧ ∀ k, q.lv k → i ≠ q.fb k
  neF : ∀ k, q.lv k → q.fb k ≠ q.d ∧ q.fb k ≠ q.bn ∧ q.fb k ≠ q.bs

section
variable {S S' : St} {D B : List Nat} {q : DP} {r : DiskR}

theorem DiskIn.upd {X : List Nat} (h : DiskIn S D B q r) (u : Upd X S S') (h1 : ∀ i ∈ X, i ∉ D) (h2 : ∀ i ∈ X, i ∉ B) : DiskIn S' D B q r := by
  have nd : ∀ i ∈ D, i ∉ X := fun i hi hx => h1 i hx hi
  have nb : ∀ i ∈ B, i ∉ X := fun i hi hx => h2 i hx hi
  refine { h with obj := u.get h.obj (nd _ h.dD), now := h.now.upd u (nd _ h.dN), safe := h.safe.upd u (nd _ h.dS), chs := h.chs.upd u (fun i hi => nd _ (h.dC i hi)), fl := fun k hk => ?_, ltD := fun i hi => Nat.lt_of_lt_of_le (h.ltD i hi) u.le, ltB := fun i hi => Nat.lt_of_lt_of_le (h.ltB i hi) u.le }
  obtain ⟨g1, g2⟩ := h.fl k hk
  exact ⟨u.get g1 (nd _ (h.dF k hk)), g2.upd u (fun i hi => nb _ (h.dB k hk i hi))⟩

theorem DiskIn.grow (h : DiskIn S D B q r) (u : Grow S S') : DiskIn S' D B q r := h.upd u (by simp) (by simp)

structure DiskRd (S : St) (o : Bool) (q : DP) (r : DiskR) : Prop where
  obj : S.get q.d = some (.cells (objC q r) o)
  now : NamesAt S q.bn (entG q.fb r.now) o
  fl : ∀ k, q.lv k → S.get (q.fb k) = some (.cells [q.bv k, .int .i64 ((r.fl k).safe : Nat)] o) ∧ BytesAt S (q.bv k) (r.fl k).b
  lvN : ∀ p ∈ r.now, q.lv p.2
theorem DiskIn.rd (h : DiskIn S D B q r) : DiskRd S true q r := ⟨h.obj, h.now, fun k hk => ⟨(h.fl k hk).1, (h.fl k hk).2.at_⟩, h.lvN⟩
theorem DiskRd.ro (h : DiskRd S true q r) : DiskRd S.ro false q r := ⟨by rw [St.get_ro, h.obj]; rfl, h.now.ro, fun k hk => by
    obtain ⟨g1, g2⟩ := h.fl k hk
    exact ⟨by rw [St.get_ro, g1]; rfl, SlAt.ro g2⟩, h.lvN⟩
theorem stops_down (r : DiskR) : (stopsR r && decide (leftC r = 0)) = downR r := by
  simp only [stopsR, leftC, downR]
  by_cases h0 : 0 ≤ r.left
  · simp [h0]
  · have : ¬ r.left = 0 := by omega
    simp [h0, this]

theorem lk_entG (fb : Nat → Nat) (l : List (Nm × Nat)) (n : Nm) : lkK (entG fb l) n = (lkK l n).map fun k => V.ptr (fb k) 0 := by
  induction l with
  | nil => rfl
  | cons p l ih =>
    simp only [entG, List.map_cons] at ih ⊢
    rw [lkK_cons, lkK_cons]
    split
    · rfl
    · exact ih
theorem drop_entG (fb : Nat → Nat) (l : List (Nm × Nat)) (n : Nm) : dropK (entG fb l) n = entG fb (dropK l n) := by
  simp only [entG, dropK, List.filter_map]; rfl
end

theorem disk_Disk_Down.spec (hF : disk_Disk_Down.Ok P N) {S : St} {o : Bool} {q : DP} {r : DiskR} (h : DiskRd S o q r) {K : Bool → St → Prop} (hk : K (downR r) S) : CallA P (N Fn.disk_Disk_Down) [.ptr q.d 0] S (retT [.one .bool] K) := by
  refine disk_Disk_Down.run hF ⟨false, rfl, ifC_tt rfl ⟨rfl, ifS_mk (a := .ptr q.d 5) rfl ⟨_, ld h.obj rfl, ?_⟩⟩⟩
  have hd := stops_down r
  cases hs : stopsR r with
  | false =>
    rw [hs] at hd
    refine ifC_ff rfl ?_
    rw [← hd] at hk; exact hk
  | true =>
    rw [hs] at hd
    refine ifC_tt rfl ⟨rfl, ifS_mk (a := .ptr q.d 6) rfl ⟨_, ld h.obj rfl, ?_⟩⟩
    rw [← hd] at hk; exact hk

theorem disk_Disk_ready.spec (hF : disk_Disk_ready.Ok P N) (hD : disk_Disk_Down.Ok P N) {S : St} {o : Bool} {q : DP} {r : DiskR} (h : DiskRd S o q r) {K : Int → St → Prop}
    (h1 : downR r = true → K 174 S) (h2 : downR r = false → K 0 S) : CallA P (N Fn.disk_Disk_ready) [.ptr q.d 0] S (retT [.one (.int .i64)] K) := by
  refine disk_Disk_ready.run hF ⟨false, rfl, ifC_ff rfl (disk_Disk_Down.spec hD h ?_)⟩
  cases hd : downR r with
  | true => exact ifC_tt rfl (h1 hd)
  | false => exact ifC_ff rfl (h2 hd)
structure DiskF (P : Program) (N : Nat → Nat) : Prop where
  down : disk_Disk_Down.Ok P N
  ready : disk_Disk_ready.Ok P N
  find : disk_Disk_find.Ok P N
  done : disk_Disk_done.Ok P N
  do_ : disk_names_do.Ok P N
  change : disk_Disk_change.Ok P N

theorem disk_Disk_find.spec (hO : DiskF P N) {S : St} {o : Bool} {q : DP} {r : DiskR} (h : DiskRd S o q r) {n : Nm} {K : V → Int → St → Prop}
    (h1 : downR r = true → K .nilPtr 174 S) (h2 : downR r = false → lkK r.now n = none → K .nilPtr 172 S) (h3 : downR r = false → ∀ k, lkK r.now n = some k → K (.ptr (q.fb k) 0) 0 S) :
    CallA P (N Fn.disk_Disk_find) [.ptr q.d 0, .str n] S (retT [.one .any, .one (.int .i64)] K) := by
  refine disk_Disk_find.run hO.find (disk_Disk_ready.spec hO.ready hO.down h (fun hd => ifC_ndec (fun _ => h1 hd) (fun h' => by omega)) (fun hd => ifC_ndec (fun h' => absurd rfl h') (fun _ => ?_)))
  refine ⟨rfl, ifS_mk (a := .ptr q.d 1) rfl (ifS_mk (ld h.obj rfl) ?_)⟩
  have hl := names_lookup h.now .nilPtr true n
  rw [lk_entG] at hl
  cases hk : lkK r.now n with
  | none =>
    rw [hk] at hl
    exact ⟨.nilPtr, false, hl, ifC_tt rfl (h2 hd hk)⟩
  | some k =>
    rw [hk] at hl
    exact ⟨.ptr (q.fb k) 0, true, hl, ifC_ff rfl (h3 hd k hk)⟩
theorem DiskIn.fields {S S' : St} {D B : List Nat} {q : DP} {r r' : DiskR} (h : DiskIn S D B q r) (u : Upd [q.d] S S') (g : S'.get q.d = some (.cells (objC q r') true)) (e1 : r'.files = r.files) (e2 : r'.now = r.now) (e3 : r'.safe = r.safe) (e4 : r'.chs = r.chs) : DiskIn S' D B q r' := by
  have efl : ∀ k, r'.fl k = r.fl k := fun k => by simp only [DiskR.fl, e1]
  refine { h with obj := g, now := ?_, safe := ?_, chs := ?_, fl := fun k hk => ?_, lvN := by rw [e2]; exact h.lvN, lvS := by rw [e3]; exact h.lvS, lvC := by rw [e4]; exact h.lvC, lvI := by rw [e1]; exact h.lvI, ltD := fun i hi => Nat.lt_of_lt_of_le (h.ltD i hi) u.le, ltB := fun i hi => Nat.lt_of_lt_of_le (h.ltB i hi) u.le }
  · rw [e2]; exact h.now.upd u (by simp only [List.mem_singleton]; exact h.ne1)
  · rw [e3]; exact h.safe.upd u (by simp only [List.mem_singleton]; exact h.ne2)
  · rw [e4]; exact h.chs.upd u (fun i hi => by simp only [List.mem_singleton]; exact (h.neC i hi).1)
  · obtain ⟨g1, g2⟩ := h.fl k hk
    rw [efl k]
    refine ⟨u.get g1 (by simp only [List.mem_singleton]; exact (h.neF k hk).1), g2.upd u (fun i hi hx => ?_)⟩
    simp only [List.mem_singleton] at hx
    subst hx
    exact h.apart _ h.dD (h.dB k hk _ hi)

theorem disk_Disk_done.spec (hO : DiskF P N) {S : St} (hw : S.Wf) {D B : List Nat} {q : DP} {r : DiskR} (h : DiskIn S D B q r) (hd : downR r = false) {M : Nat} (hM : M ≤ 1000000) (h3 : 0 ≤ r.steps ∧ r.steps ≤ M) (hl : r.left ≤ 9223372036854775807) {K : Int → St → Prop}
    (hk : ∀ S', DiskIn S' D B q (stepR r) → Upd [q.d] S S' → S'.next = S.next → K 0 S') : CallA P (N Fn.disk_Disk_done) [.ptr q.d 0] S (retT [.one (.int .i64)] K) := by
  refine disk_Disk_done.run hO.done ⟨rfl, ifS_mk (a := .ptr q.d 4) rfl ⟨_, ld h.obj rfl, setI_mk (n := r.steps + 1) (by rw [IntKind.wrap_i64]; omega) ⟨rfl, ifS_mk (a := .ptr q.d 4) rfl (st_mk hw h.obj rfl (by simp [objC, V.cells]) (by simp [V.cells, V.one]) fun S1 u1 m1 n1 => ?_)⟩⟩⟩
  simp only [objC, over, V.cells] at m1
  refine ⟨rfl, ifS_mk (a := .ptr q.d 5) rfl ⟨_, ld m1 rfl, ?_⟩⟩
  have hd' : r.left ≠ 0 := by simpa [downR] using hd
  by_cases h0 : 0 ≤ r.left
  · have hs : stopsR r = true := by simp [stopsR, h0]
    rw [hs]
    have hlc : leftC r = r.left := by simp [leftC, h0]
    refine ifC_tt rfl ⟨rfl, ifS_mk (a := .ptr q.d 6) rfl ⟨_, ld m1 rfl, setI_mk (n := r.left - 1) (by rw [hlc, IntKind.wrap_i64]; omega) ⟨rfl, ifS_mk (a := .ptr q.d 6) rfl (st_mk u1.wf m1 rfl (by simp [V.cells]) (by simp [V.cells, V.one]) fun S2 u2 m2 n2 => hk S2 ?_ (u1.trans u2) (by rw [n2, n1]))⟩⟩⟩
    simp only [over, V.cells] at m2
    refine h.fields (u1.trans u2) ?_ rfl rfl rfl rfl
    rw [m2]
    have es : (stepR r).left = r.left - 1 := by
      simp only [stepR]
      rw [if_pos (by omega)]
    have e1 : stopsR (stepR r) = true := by
      unfold stopsR
      rw [decide_eq_true_eq, es]; omega
    have e2 : leftC (stepR r) = r.left - 1 := by
      unfold leftC
      rw [es, if_pos (by omega)]
    simp only [objC, e1, e2, hs]
    rfl
  · have hs : stopsR r = false := by simp [stopsR, h0]
    rw [hs]
    refine ifC_ff rfl (hk S1 (h.fields u1 ?_ rfl rfl rfl rfl) u1 n1)
    rw [m1]
    have e0 : (stepR r).left = r.left := by
      simp only [stepR]
      rw [if_neg (by omega)]
    have e1 : stopsR (stepR r) = stopsR r := by simp only [stopsR, e0]
    have e2 : leftC (stepR r) = leftC r := by simp only [leftC, e0]
    simp only [objC, e1, e2]
    rfl

def doV (l : List (Nm × V)) (fr to : Nm) (f : V) : List (Nm × V) :=
  let l1 := if fr ≠ [] then dropK l fr else l
  if to ≠ [] then (to, f) :: dropK l1 to else l1

theorem apply_do {nf : Nat} {fb : Nat → Nat} {l : List (Nm × Nat)} {c : ChR} (hc : ChOk nf c) : (doV (entG fb l) c.fr c.to (chP fb c)).Perm (entG fb (applyR l c)) := by
  rcases hc with ⟨h1, h2, h3, _⟩ | ⟨h1, h2, h3, _⟩ | ⟨h1, h2, h3⟩
  · simp only [doV, h2, ne_eq, not_true_eq_false, if_false, applyR, h1]
    rw [if_pos h3, drop_entG]
    have := (withR_perm (c.to, c.file) (dropK l c.to)).map fun p : Nm × Nat => (p.1, V.ptr (fb p.2) 0)
    have e : chP fb c = .ptr (fb c.file) 0 := by simp [chP, h1]
    rw [e]
    exact this.symm
  · simp only [doV, applyR, h1]
    rw [if_pos h3, if_pos h2, drop_entG, drop_entG]
    have := (withR_perm (c.to, c.file) (dropK (dropK l c.fr) c.to)).map fun p : Nm × Nat => (p.1, V.ptr (fb p.2) 0)
    have e : chP fb c = .ptr (fb c.file) 0 := by simp [chP, h1]
    rw [e]
    exact this.symm
  · simp only [doV, applyR, h1, h3, ne_eq, not_true_eq_false, if_false]
    rw [if_pos h2, drop_entG]

theorem disk_names_do.spec (hF : disk_names_do.Ok P N) {S : St} (hw : S.Wf) {i : Nat} {l : List (Nm × V)} (h : NamesAt S i l) {fr to : Nm} {f : V} (hf : f.one = true) {K : St → Prop}
    (hk : ∀ S', NamesAt S' i (doV l fr to f) → Upd [i] S S' → K S') : CallA P (N Fn.disk_names_do) [.map i, .agg [.str fr, .str to, f]] S (retT [] K) := by
  refine disk_names_do.run hF (newS_mk hw fun S1 g1 m1 n1 => ?_)
  have hi := h.lt hw
  have h1 := h.upd g1 (by simp)
  have b1 : Upd [i] S S1 := g1.mono (by simp)
  refine Join0.mid (fun S2 => NamesAt S2 i (if fr ≠ [] then dropK l fr else l) ∧ Upd [i] S S2 ∧ S2.get S.next = some (.cells [.str fr, .str to, f] true)) ⟨fr, ld m1 rfl, ifC_ndec (fun hne => ?_) (fun he => ?_)⟩ ?_
  · refine ⟨fr, ld m1 rfl, names_del g1.wf h1 fr fun S2 h2 u2 n2 => ⟨?_, b1.after u2 (fun j hj => .inr hj), u2.get m1 (by simp; omega)⟩⟩
    rw [if_pos hne]; exact h2
  · refine ⟨?_, b1, m1⟩
    rw [if_neg (by simpa using he)]; exact h1
  · rintro S2 ⟨h2, u2, m2⟩
    refine ⟨to, ld m2 rfl, ifC_ndec (fun hne => ?_) (fun he => ?_)⟩
    · refine ⟨to, ld m2 rfl, ifS_mk (ld m2 rfl) (names_upd u2.wf h2 to f fun S3 h3 u3 n3 => hk S3 ?_ (u2.after u3 (fun j hj => .inr hj)))⟩
      simp only [doV]
      rw [if_pos hne]; exact h3
    · refine hk S2 ?_ u2
      simp only [doV]
      rw [if_neg (by simpa using he)]; exact h2

end Go.Th.L
end

section
/- The disk's calls that change names. -/
set_option linter.unusedSimpArgs false
set_option linter.unusedVariables false
set_option maxHeartbeats 1000000
namespace Go.Th.L
open Go Go.Th Go.Th.Pure
variable {P : Program} {N : Nat → Nat}

structure Mv (d : Nat) (D B : List Nat) (S : St) (r' : DiskR) (S' : St) : Prop where
  ex : ∃ D' B' q', q'.d = d ∧ DiskIn S' D' B' q' r' ∧ (∀ i ∈ D', i ∈ D ∨ S.next ≤ i) ∧ ∀ i ∈ B', i ∈ B ∨ S.next ≤ i
  upd : Upd D S S'

theorem Mv.stay {S : St} (hw : S.Wf) {D B : List Nat} {q : DP} {r : DiskR} (h : DiskIn S D B q r) : Mv q.d D B S r S := ⟨⟨D, B, q, rfl, h, fun i hi => .inl hi, fun i hi => .inl hi⟩, Upd.refl hw D⟩
theorem Mv.before {d : Nat} {D B D1 B1 : List Nat} {S S1 S' : St} {r' : DiskR} (u : Upd D S S1) (hD : ∀ i ∈ D1, i ∈ D ∨ S.next ≤ i) (hB : ∀ i ∈ B1, i ∈ B ∨ S.next ≤ i) (h : Mv d D1 B1 S1 r' S') : Mv d D B S r' S' := by
  obtain ⟨D', B', q', e, h1, h2, h3⟩ := h.ex
  refine ⟨⟨D', B', q', e, h1, fun i hi => ?_, fun i hi => ?_⟩, u.after h.upd fun i hi => (hD i hi).symm⟩
  · rcases h2 i hi with h' | h'
    · exact hD i h'
    · exact .inr (Nat.le_trans u.le h')
  · rcases h3 i hi with h' | h'
    · exact hB i h'
    · exact .inr (Nat.le_trans u.le h')

theorem DiskIn.rebuild {S S' : St} {D B : List Nat} {q : DP} {r r' : DiskR} {cv : V} {X : List Nat} (h : DiskIn S D B q r) (u : Upd X S S') (hX : ∀ i ∈ X, i = q.d ∨ i = q.bn ∨ i ∈ q.cv.block ∨ S.next ≤ i)
    (g1 : S'.get q.d = some (.cells (objC { q with cv := cv } r') true)) (g2 : NamesAt S' q.bn (entG q.fb r'.now)) (g3 : Acc S' 0 3 cv r'.chs.length (r'.chs.map (chC q.fb)).flatten)
    (hb : ∀ i ∈ cv.block, i ∈ q.cv.block ∨ S.next ≤ i) (e1 : r'.files = r.files) (e2 : r'.safe = r.safe) (hn : ∀ p ∈ r'.now, q.lv p.2) (hc : ∀ c ∈ r'.chs, c.kind ≠ 3 → q.lv c.file) : DiskIn S' (D ++ cv.block) B { q with cv := cv } r' := by
  have efl : ∀ k, r'.fl k = r.fl k := fun k => by simp only [DiskR.fl, e1]
  have hwS := u.wf0
  have hcvlt : ∀ i ∈ cv.block, i < S'.next := fun i hi => by
    obtain ⟨_, vs, hg⟩ := g3.own i hi
    exact u.wf.lt hg
  have nb : ∀ i ∈ B, i ∉ X := fun i hi hx => by
    rcases hX i hx with rfl | rfl | h1 | h1
    · exact h.apart _ h.dD hi
    · exact h.apart _ h.dN hi
    · exact h.apart _ (h.dC i h1) hi
    · have := h.ltB i hi; omega
  have nf : ∀ k, q.lv k → q.fb k ∉ X := fun k hk hx => by
    rcases hX _ hx with h1 | h1 | h1 | h1
    · exact (h.neF k hk).1 h1
    · exact (h.neF k hk).2.1 h1
    · exact (h.neC _ h1).2.2.2 k hk rfl
    · have := h.ltD _ (h.dF k hk); omega
  have ns : q.bs ∉ X := fun hx => by
    rcases hX _ hx with h1 | h1 | h1 | h1
    · exact h.ne2 h1
    · exact h.ne3 h1.symm
    · exact (h.neC _ h1).2.2.1 rfl
    · have := h.ltD _ h.dS; omega
  refine ⟨g1, g2, by rw [e2]; exact h.safe.upd u ns, g3, fun k hk => ?_, h.inj, hn, by rw [e2]; exact h.lvS, hc, by rw [e1]; exact h.lvI, List.mem_append_left _ h.dD, List.mem_append_left _ h.dN, List.mem_append_left _ h.dS, fun i hi => List.mem_append_right _ hi, fun k hk => List.mem_append_left _ (h.dF k hk), h.dB, fun i hi => ?_, fun i hi => Nat.lt_of_lt_of_le (h.ltB i hi) u.le, fun i hi hB => ?_, h.ne1, h.ne2, h.ne3, fun i hi => ?_, h.neF⟩
  · obtain ⟨f1, f2⟩ := h.fl k hk
    rw [efl k]
    exact ⟨u.get f1 (nf k hk), f2.upd u fun i hi => nb i (h.dB k hk i hi)⟩
  · rcases List.mem_append.mp hi with hi | hi
    · exact Nat.lt_of_lt_of_le (h.ltD i hi) u.le
    · exact hcvlt i hi
  · rcases List.mem_append.mp hi with hi | hi
    · exact h.apart i hi hB
    · rcases hb i hi with h1 | h1
      · exact h.apart i (h.dC i h1) hB
      · have := h.ltB i hB; omega
  · rcases hb i hi with h1 | h1
    · exact h.neC i h1
    · have l1 := h.ltD _ h.dD
      have l2 := h.ltD _ h.dN
      have l3 := h.ltD _ h.dS
      refine ⟨fun e => by simp only at e; omega, fun e => by simp only at e; omega, fun e => by simp only at e; omega, fun k hk e => ?_⟩
      simp only at e
      have := h.ltD _ (h.dF k hk); omega

theorem chP_one (fb : Nat → Nat) (c : ChR) : (chP fb c).one = true := by unfold chP; split <;> rfl
theorem applyR_mem {l : List (Nm × Nat)} {c : ChR} {nf : Nat} (hc : ChOk nf c) : ∀ p ∈ applyR l c, p ∈ l ∨ (c.kind ≠ 3 ∧ p.2 = c.file) := by
  intro p hp
  rcases hc with ⟨h1, _⟩ | ⟨h1, _⟩ | ⟨h1, _⟩ <;> simp only [applyR, h1] at hp
  · rcases List.mem_cons.mp ((withR_perm _ _).mem_iff.1 hp) with rfl | hp
    · exact .inr ⟨by omega, rfl⟩
    · exact .inl (dropK_mem hp)
  · rcases List.mem_cons.mp ((withR_perm _ _).mem_iff.1 hp) with rfl | hp
    · exact .inr ⟨by omega, rfl⟩
    · exact .inl (dropK_mem (dropK_mem hp))
  · exact .inl (dropK_mem hp)

theorem disk_Disk_change.spec (hO : DiskF P N) {S : St} (hw : S.Wf) {D B : List Nat} {q : DP} {r : DiskR} (h : DiskIn S D B q r) (hd : downR r = false) {M nf : Nat} (hM : M ≤ 1000000) (n1 : r.chs.length ≤ M) (n3 : 0 ≤ r.steps ∧ r.steps ≤ M)
    (hl : r.left ≤ 9223372036854775807) {c : ChR} (hc : ChOk nf c) (hlv : c.kind ≠ 3 → q.lv c.file) {K : Int → St → Prop} (hk : ∀ S', Mv q.d D B S (changeR r c) S' → K 0 S') :
    CallA P (N Fn.disk_Disk_change) [.ptr q.d 0, .agg [.str c.fr, .str c.to, chP q.fb c]] S (retT [.one (.int .i64)] K) := by
  refine disk_Disk_change.run hO.change (newS_mk hw fun S1 g1 m1 e1 => ⟨rfl, ifS_mk (a := .ptr q.d 1) rfl ?_⟩)
  have h1 := h.grow g1
  have hdl := h.ltD _ h.dD
  have hnl := h.ltD _ h.dN
  refine ifS_mk (ld h1.obj rfl) ⟨c.fr, c.to, chP q.fb c, ldN m1 (by simp) rfl, disk_names_do.spec hO.do_ g1.wf h1.now (chP_one _ _) fun S2 h2 u2 => ⟨rfl, ifS_mk (a := .ptr q.d 3) rfl ?_⟩⟩
  have o2 : S2.get q.d = some (.cells (objC q r) true) := u2.get h1.obj (by simp only [List.mem_singleton]; exact fun e => h.ne1 e.symm)
  have m2 : S2.get S.next = some (.cells [.str c.fr, .str c.to, chP q.fb c] true) := u2.get m1 (by simp only [List.mem_singleton]; omega)
  have c2 : Acc S2 0 3 q.cv r.chs.length (r.chs.map (chC q.fb)).flatten := h1.chs.upd u2 fun i hi => by simp only [List.mem_singleton]; exact (h.neC i hi).2.1
  refine ifS_mk (ld o2 rfl) ⟨c.fr, c.to, chP q.fb c, ldN m2 (by simp) rfl, newS_mk u2.wf fun S3 g3 m3 e3 => sameK_mk (Same.of_grow g3 ?_) ?_⟩
  · intro i hi
    simp only [V.block, List.append_nil, List.mem_singleton] at hi
    subst hi
    have := u2.le; have := g1.le; omega
  have hs : srcV 3 S3 (.slice S2.next 0 1 1 3 true) = some (1, chC q.fb c) := by
    simp only [srcV, if_true]
    rw [St.loads_of m3 (by simp)]; rfl
  obtain ⟨v', S4, e4, a4, u4, t4⟩ := (c2.grow g3).app g3.wf (by omega) hs rfl (by simp only [chC, List.all_cons, List.all_nil, chP_one]; rfl) (bytes := 40) (by omega) (by omega)
  have o3 := g3.get o2
  have o4 : S4.get q.d = some (.cells (objC q r) true) := u4.get o3 fun hi => (h.neC _ hi).1 rfl
  have le12 := g1.le; have le2 := u2.le; have le3 := g3.le; have le4 := u4.le
  have hvd : ∀ i ∈ v'.block, i ≠ q.d := fun i hi => by
    rcases t4 i hi with h' | h'
    · exact (h.neC i h').1
    · omega
  refine ifP_mk e4 ⟨rfl, ifS_mk (a := .ptr q.d 3) rfl (st_mk u4.wf o4 (by rw [a4.at_.cells1]; rfl) (by rw [a4.at_.cells1]; simp [objC]) (by rw [a4.at_.cells1]; simp [a4.at_.one1]) fun S5 u5 m5 e5 => ?_)⟩
  rw [a4.at_.cells1] at m5
  have le5 := u5.le
  have hu : Upd (q.bn :: q.d :: q.cv.block) S S5 := by
    have k1 : Upd (q.bn :: q.d :: q.cv.block) S S2 := (g1.mono (by simp)).after u2 fun i hi => .inr (by simp only [List.mem_singleton] at hi; simp [hi])
    have k2 : Upd (q.bn :: q.d :: q.cv.block) S S3 := k1.after g3 (by simp)
    have k3 : Upd (q.bn :: q.d :: q.cv.block) S S4 := k2.after u4 fun i hi => .inr (by simp [hi])
    exact k3.after u5 fun i hi => .inr (by simp only [List.mem_singleton] at hi; simp [hi])
  have hb : ∀ i ∈ v'.block, i ∈ q.cv.block ∨ S.next ≤ i := fun i hi => by
    rcases t4 i hi with h' | h'
    · exact .inl h'
    · exact .inr (by omega)
  have h5 : DiskIn S5 (D ++ v'.block) B { q with cv := v' } { r with now := applyR r.now c, chs := r.chs ++ [c] } := by
    refine h.rebuild hu (fun i hi => ?_) ?_ ?_ ?_ hb rfl rfl ?_ ?_
    · simp only [List.mem_cons] at hi
      rcases hi with hi | hi | hi
      · exact .inr (.inl hi)
      · exact .inl hi
      · exact .inr (.inr (.inl hi))
    · rw [m5]; rfl
    · have n2 : NamesAt S2 q.bn (entG q.fb (applyR r.now c)) := h2.perm (apply_do hc)
      have n3' := (n2.upd g3 (by simp)).upd u4 fun hi => (h.neC _ hi).2.1 rfl
      exact n3'.upd u5 (by simp only [List.mem_singleton]; exact h.ne1)
    · have := a4.upd u5 fun i hi => by simp only [List.mem_singleton]; exact hvd i hi
      simpa [chC] using this
    · intro p hp
      rcases applyR_mem hc p hp with hp | ⟨hp, e⟩
      · exact h.lvN p hp
      · rw [e]; exact hlv hp
    · intro x hx
      rcases List.mem_append.mp hx with hx | hx
      · exact h.lvC x hx
      · simp only [List.mem_singleton] at hx; subst hx; exact hlv
  refine disk_Disk_done.spec hO u5.wf h5 hd hM n3 hl fun S6 h6 u6 e6 => hk S6 ⟨⟨_, _, { q with cv := v' }, rfl, h6, fun i hi => ?_, fun i hi => .inl hi⟩, ?_⟩
  · rcases List.mem_append.mp hi with hi | hi
    · exact .inl hi
    · rcases hb i hi with h' | h'
      · exact .inl (h.dC i h')
      · exact .inr h'
  · refine (hu.mono fun i hi => ?_).after u6 fun i hi => .inr ?_
    · simp only [List.mem_cons] at hi
      rcases hi with rfl | rfl | hi
      · exact .inl h.dN
      · exact .inl h.dD
      · exact .inl (h.dC i hi)
    · simp only [List.mem_singleton] at hi; subst hi; exact h.dD

end Go.Th.L
end

section
/- The disk's calls: names that may be, room used, reading. -/
set_option linter.unusedSimpArgs false
set_option linter.unusedVariables false
set_option maxHeartbeats 1000000
namespace Go.Th.L
open Go Go.Th Go.Th.Pure
variable {P : Program} {N : Nat → Nat}

theorem goodB_iff (c : UInt8) : goodB c = true ↔ (97 ≤ c.toNat ∧ c.toNat ≤ 122) ∨ (48 ≤ c.toNat ∧ c.toNat ≤ 57) ∨ c.toNat = 46 ∨ c.toNat = 45 := by
  simp only [goodB, Bool.or_eq_true, Bool.and_eq_true, decide_eq_true_eq, or_assoc]

theorem disk_good.spec (hF : disk_good.Ok P N) {S : St} {n : Nm} {K : Bool → St → Prop} (hk : K (goodN n) S) (hl : n.length < 4611686018427387904) : CallA P (N Fn.disk_good) [.str n] S (retT [.one .bool] K) := by
  refine CallA.gc1 (t := .bool) rfl (goodN n) hk fun K' hw hk' => disk_good.run hF (newS_mk hw fun S1 g1 m1 e1 => ?_)
  have hb : BytesAt S1 (.slice S.ro.next 0 n.length n.length 1 false) n := by
    refine ⟨by omega, by rw [bytesV_length, Nat.mul_one], .inr ⟨_, _, _, _, rfl, Nat.le_refl _, ?_⟩⟩
    rw [St.loads_of m1 (by rw [bytesV_length]; omega), List.drop_zero, Nat.mul_one, List.take_of_length_le (by rw [bytesV_length]; omega)]
  refine ⟨_, rfl, Loop1.ind (fun m z S' => ∃ i : Nat, z = i ∧ i + m = n.length ∧ S' = S1 ∧ (n.take i).all goodB = true) n.length ⟨0, rfl, by omega, rfl, rfl⟩ ?_⟩
  rintro m z S2 ⟨i, rfl, hi, rfl, hg⟩
  refine ifC_dec (fun hlt => ?_) (fun hge => ?_)
  · have hin : i < n.length := by omega
    refine ifS_mk (SlAt.idx hb hin) ⟨_, BytesAt.get hb hin, ?_⟩
    have nxt : goodB n[i] = true → ∃ m', m' < m ∧ ∃ i' : Nat, ((i : Int) + 1) = i' ∧ i' + m' = n.length ∧ S2 = S2 ∧ (n.take i').all goodB = true := fun hgi => by
      refine ⟨m - 1, by omega, i + 1, by omega, by omega, rfl, ?_⟩
      rw [List.take_add_one, List.all_append, hg, List.getElem?_eq_getElem hin]
      simp [hgi]
    have bad : goodB n[i] = false → K' false S2 := fun hb => by
      have : goodN n = false := by
        have h2 : n.all goodB = false := by
          rw [List.all_eq_false]
          exact ⟨n[i], List.getElem_mem hin, by simp [hb]⟩
        simp [goodN, h2]
      rw [this] at hk'
      exact hk' _
    have w : IntKind.i64.wrap ((i : Int) + 1) = (i : Int) + 1 := by rw [IntKind.wrap_i64]; omega
    have yes : goodB n[i] = true → setI (IntKind.i64.wrap ((i : Int) + 1)) fun x => ∃ k, k < m ∧ ∃ i' : Nat, x = i' ∧ i' + k = n.length ∧ S2 = S2 ∧ (n.take i').all goodB = true := fun hgi => setI_mk w (nxt hgi)
    have dec : ∀ p : Prop, (goodB n[i] = true ↔ p) → (p → goodB n[i] = true) ∧ (¬ p → goodB n[i] = false) := fun p hp => ⟨hp.2, fun h => by
      cases hx : goodB n[i] with
      | true => exact absurd (hp.1 hx) h
      | false => rfl⟩
    obtain ⟨d1, d2⟩ := dec _ (goodB_iff n[i])
    repeat' first
      | refine ifC_dec (fun _ => ?_) (fun _ => ?_)
      | refine ifC_ndec (fun _ => ?_) (fun _ => ?_)
    all_goals first
      | exact bad (d2 (by omega))
      | exact yes (d1 (by omega))
  · have : i = n.length := by omega
    subst this
    rw [List.take_length] at hg
    refine ifC_ndec (fun hne => ?_) (fun he => ?_)
    · have : goodN n = decide ((n.length : Int) ≤ 32) := by
        simp only [goodN, hg, Bool.true_and]
        have : decide (n ≠ []) = true := by simpa using hne
        rw [this, Bool.true_and]
        by_cases h : n.length ≤ 32
        · have : ((n.length : Int) ≤ 32) := by omega
          simp [h, this]
        · have : ¬ ((n.length : Int) ≤ 32) := by omega
          simp [h, this]
      rw [← this]; exact hk' _
    · have : goodN n = false := by simp [goodN, he]
      rw [this] at hk'
      exact hk' _


theorem used_sum (f : Nat → Nat) : ∀ (l : List (Nm × Nat)), (∀ p ∈ l, f p.2 ≤ 4194304) → (l.map fun p => f p.2).sum ≤ l.length * 4194304
  | [], _ => by simp
  | p :: l, h => by
    have h1 := h p (by simp)
    have h2 := used_sum f l fun q hq => h q (by simp [hq])
    simp only [List.map_cons, List.sum_cons, List.length_cons, Nat.add_mul]; omega


theorem perm_map_inv {α β : Type} {f : α → β} {es m : List β} (h : es.Perm m) : ∀ l, m = l.map f → ∃ ls : List α, es = ls.map f ∧ ls.Perm l := by
  induction h with
  | nil =>
    intro l hl
    exact ⟨[], rfl, by have := List.map_eq_nil_iff.1 hl.symm; rw [this]⟩
  | cons x h ih =>
    intro l hl
    cases l with
    | nil => simp at hl
    | cons a l =>
      simp only [List.map_cons, List.cons.injEq] at hl
      obtain ⟨ls, h1, h2⟩ := ih l hl.2
      exact ⟨a :: ls, by rw [h1, hl.1]; rfl, h2.cons a⟩
  | swap x y t =>
    intro l hl
    match l, hl with
    | a :: b :: l, hl =>
      simp only [List.map_cons, List.cons.injEq] at hl
      exact ⟨b :: a :: l, by rw [hl.1, hl.2.1, hl.2.2]; rfl, List.Perm.swap a b l⟩
  | trans h1 h2 ih1 ih2 =>
    intro l hl
    obtain ⟨l2, e2, p2⟩ := ih2 l hl
    obtain ⟨l1, e1, p1⟩ := ih1 l2 e2
    exact ⟨l1, e1, p1.trans p2⟩

def entT (fb : Nat → Nat) (l : List (Nm × Nat)) : List (V × V) := l.map fun p => (.str p.1, .ptr (fb p.2) 0)
theorem entT_eq (fb : Nat → Nat) (l : List (Nm × Nat)) : entS (entG fb l) = entT fb l := by simp [entS, entG, entT]
theorem rangeN_mk {S : St} (hw : S.Wf) {i : Nat} {fb : Nat → Nat} {l : List (Nm × Nat)} {own : Bool} (h : NamesAt S i (entG fb l) own) {k : V → St → Prop}
    (hk : ∀ ls S', ls.Perm l → S.get i = some (.map (entT fb ls) own) → Rng S' i S.next (entT fb ls) own (entT fb ls) → Upd [i] S S' → S'.next = S.next + 1 → k (.ptr S.next 0) S') : anyK (rangeP S (.map i)) k := by
  obtain ⟨es, hp, hg⟩ := h.ex
  obtain ⟨ls, h1, h2⟩ := perm_map_inv hp l rfl
  have e : es = entG fb ls := h1
  rw [e, entT_eq] at hg
  exact range_mk hw hg fun S' a b c => hk ls S' h2 hg a b c
theorem nextN_mk {S : St} (hw : S.Wf) {i j : Nat} {fb : Nat → Nat} {ls lf : List (Nm × Nat)} {own : Bool} (h : Rng S i j (entT fb ls) own (entT fb lf)) {k : V → St → Prop}
    (h1 : ∀ a p b S', lf = a ++ p :: b → Rng S' i j (entT fb ls) own (entT fb (a ++ b)) → entryV S' (.ptr j 0) = some (.tuple [.str p.1, .ptr (fb p.2) 0]) → Upd [j] S S' → S'.next = S.next → k (.tuple [.bool true, .str p.1, .ptr (fb p.2) 0]) S')
    (h2 : ∀ S', lf = [] → S'.get i = some (.map (entT fb ls) own) → Upd [i] S S' → S'.next = S.next → k (.tuple [.bool false]) S') : anyK (nextP S (.ptr j 0)) k := by
  refine next_mk hw h (fun a p b S' e r en u n => ?_) (fun S' e g u n => ?_)
  · obtain ⟨a', l2, e1, e2, e3⟩ := List.map_eq_append_iff.1 e
    obtain ⟨p', b', e4, e5, e6⟩ := List.map_eq_cons_iff.1 e3
    subst e2; subst e5; subst e6
    rw [e4] at e1
    refine h1 a' p' b' S' e1 ?_ en u n
    have : entT fb (a' ++ b') = List.map (fun p => (V.str p.1, V.ptr (fb p.2) 0)) a' ++ List.map (fun p => (V.str p.1, V.ptr (fb p.2) 0)) b' := by simp [entT]
    rw [this]; exact r
  · exact h2 S' (List.map_eq_nil_iff.1 e) g u n

theorem nod_perm {l l' : List (Nm × Nat)} (h : NodK l) (p : l'.Perm l) : NodK l' := (p.map _).nodup_iff.2 h

theorem disk_Disk_Used.spec (hF : disk_Disk_Used.Ok P N) (hO : DiskF P N) {S : St} {D B : List Nat} {q : DP} {r : DiskR} (h : DiskIn S D B q r) {M : Nat} (hok : OkR M r) {K : Int → St → Prop} (hk : K (usedR r : Nat) S) :
    CallA P (N Fn.disk_Disk_Used) [.ptr q.d 0] S (retT [.one (.int .i64)] K) := by
  refine CallA.gc1 (t := .int .i64) rfl ((usedR r : Nat) : Int) hk fun K' hwr hk' => disk_Disk_Used.run hF ?_
  have h0 := h.rd.ro
  refine disk_Disk_ready.spec hO.ready hO.down h0 (fun hd => ifC_ndec (fun _ => ?_) (fun h' => by omega)) (fun hd => ifC_ndec (fun h' => absurd rfl h') (fun _ => ?_))
  · have : usedR r = 0 := by simp [usedR, hd]
    rw [this] at hk'; exact hk' _
  have hu : usedR r = (r.now.map fun p => (r.fl p.2).b.length).sum := by simp [usedR, hd]
  have hst := hok.stNow
  refine ⟨rfl, ifS_mk (a := .ptr q.d 1) rfl (ifS_mk (ld h0.obj rfl) (rangeN_mk hwr h0.now fun ls S2 hp _ rg2 u2 n2 => ?_))⟩
  have hnod := nod_perm hst.sorted.nod hp
  have hbl : ∀ k, q.lv k → q.fb k < S.ro.next ∧ q.fb k ≠ q.bn ∧ ∀ i ∈ (q.bv k).block, i < S.ro.next ∧ i ≠ q.bn := fun k hk =>
    ⟨h.ltD _ (h.dF k hk), (h.neF k hk).2.1, fun i hi => ⟨h.ltB i (h.dB k hk i hi), fun e => h.apart _ h.dN (by rw [← e]; exact h.dB k hk i hi)⟩⟩
  refine Loop1.ind (fun m z S' => ∃ lf done : List (Nm × Nat), lf.length = m ∧ (done ++ lf).Perm r.now ∧ z = ((done.map fun p => (r.fl p.2).b.length).sum : Nat) ∧ Rng S' q.bn S.ro.next (entT q.fb ls) false (entT q.fb lf) ∧ Upd [q.bn, S.ro.next] S.ro S') ls.length ⟨ls, [], rfl, by simpa using hp, rfl, rg2, u2.mono (by simp)⟩ ?_
  rintro m z S3 ⟨lf, done, hm, hpm, rfl, rg, u3⟩
  have hnx := hwr
  refine nextN_mk u3.wf rg (fun a p b S4 e rg4 en u4 n4 => ?_) (fun S4 e _ _ _ => ?_)
  · subst e
    have hpn : p ∈ r.now := hpm.mem_iff.1 (by simp)
    have hlp := h.lvN p hpn
    have u34 : Upd [q.bn, S.ro.next] S.ro S4 := u3.after u4 fun i hi => .inr (by simp only [List.mem_singleton] at hi; simp [hi])
    obtain ⟨b1, b2, b3⟩ := hbl p.2 hlp
    obtain ⟨f1, f2⟩ := h0.fl p.2 hlp
    have g1 : S4.get (q.fb p.2) = some (.cells [q.bv p.2, .int .i64 ((r.fl p.2).safe : Nat)] false) := u34.get f1 (by simp only [List.mem_cons, List.not_mem_nil, or_false]; omega)
    have g2 : BytesAt S4 (q.bv p.2) (r.fl p.2).b := SlAt.upd f2 u34 fun i hi => by
      have := b3 i hi
      simp only [List.mem_cons, List.not_mem_nil, or_false]; omega
    have hsum : ((done.map fun p => (r.fl p.2).b.length).sum + (r.fl p.2).b.length) ≤ 268435456 := by
      have e1 : ((done ++ (a ++ p :: b)).map fun p => (r.fl p.2).b.length).sum = (r.now.map fun p => (r.fl p.2).b.length).sum := (hpm.map _).sum_nat
      have e2 := used_sum (fun k => (r.fl k).b.length) r.now fun p _ => (hok.fl p.2).2
      have := hst.len
      simp only [List.map_append, List.map_cons, List.sum_append, List.sum_cons] at e1
      omega
    refine ⟨true, rfl, ifC_tt rfl (ifS_mk en (ifS_mk (a := .ptr (q.fb p.2) 0) rfl ⟨rfl, ifS_mk (a := .ptr (q.fb p.2) 0) rfl (ifS_mk (ld g1 rfl) ⟨_, SlAt.len g2, setI_mk (n := (((done ++ [p]).map fun p => (r.fl p.2).b.length).sum : Nat)) ?_ ⟨m - 1, ?_, a ++ b, done ++ [p], ?_, ?_, rfl, rg4, u34⟩⟩)⟩))⟩
    · simp only [List.map_append, List.map_cons, List.map_nil, List.sum_append, List.sum_cons, List.sum_nil, Nat.add_zero]
      rw [IntKind.wrap_i64]; omega
    · simp only [List.length_append, List.length_cons] at hm; omega
    · simp only [List.length_append, List.length_cons] at hm ⊢; omega
    · refine List.Perm.trans ?_ hpm
      rw [List.append_assoc, List.singleton_append]
      exact List.Perm.append_left _ List.perm_middle.symm
  · subst e
    refine ⟨false, rfl, ifC_ff rfl ?_⟩
    have : ((done.map fun p => (r.fl p.2).b.length).sum : Nat) = usedR r := by
      rw [hu]
      rw [List.append_nil] at hpm
      exact (hpm.map _).sum_nat
    rw [this]; exact hk' _

end Go.Th.L
end

section
/- The disk's calls that change a file, and those that change names. -/
set_option linter.unusedSimpArgs false
set_option linter.unusedVariables false
set_option maxHeartbeats 1000000
namespace Go.Th.L
open Go Go.Th Go.Th.Pure
variable {P : Program} {N : Nat → Nat}

theorem app_tight {S : St} (hw : S.Wf) {B k : Nat} (hB : B ≤ S.next) {v y : V} {n m : Nat} {cs ds : List V} (h : Acc S B k v n cs) (ht : v = .nilSlice ∨ ∃ i o, v = .slice i o n n k true) (hy : srcV k S y = some (m, ds)) (hd : ds.length = m * k) (ho : ds.all V.one = true) {bytes : Nat}
    (hb : (n + m) * bytes ≤ 140737488355328) (hn : n + m ≤ 4611686018427387904) :
    ∃ v' S', appV S k bytes v y = some (v', S') ∧ Acc S' B k v' (n + m) (cs ++ ds) ∧ Grow S S' ∧ ∀ i ∈ v'.block, i ∈ v.block ∨ S.next ≤ i := by
  obtain ⟨v', S', e1, a1, u1, t1⟩ := h.app hw hB hy hd ho hb hn
  refine ⟨v', S', e1, a1, ?_, t1⟩
  rcases ht with rfl | ⟨i, o, rfl⟩
  · exact u1.mono (by simp [V.block])
  · obtain ⟨hBi, vs, hg⟩ := h.own i (by simp [V.block])
    simp only [appV, rApp, AX.ev, hy, ne_eq, not_true_eq_false, if_false] at e1
    by_cases hm : m = 0
    · rw [if_pos hm] at e1
      simp only [Option.some.injEq, Prod.mk.injEq] at e1
      rw [← e1.2]; exact Upd.refl hw _
    · rw [if_neg hm, if_neg (by omega), if_pos ⟨hb, hn⟩, hg] at e1
      simp only [if_true] at e1
      split at e1
      · rename_i v2 S2 heq
        split at heq
        · simp only [AR.val.injEq] at heq
          simp only [Option.some.injEq, Prod.mk.injEq] at e1
          rw [← e1.2, ← heq.2]
          exact (Upd.refl hw []).new _
        · cases heq
      · cases e1

theorem Acc.tight {S : St} {B k : Nat} {v : V} {n : Nat} {cs : List V} (h : Acc S B k v n cs) : ∃ v', sliceSlV k v none (some (.int .i64 (n : Nat))) (some (.int .i64 (n : Nat))) = some v' ∧ Acc S B k v' n cs ∧ (v' = .nilSlice ∨ ∃ i o, v' = .slice i o n n k true) ∧ ∀ i ∈ v'.block, i ∈ v.block := by
  rcases h.at_.2.2 with ⟨rfl, h0⟩ | ⟨i, o, c, t, rfl, hc, hl⟩
  · subst h0
    exact ⟨.nilSlice, rfl, h, .inl rfl, by simp [V.block]⟩
  · have hb : bnds n c none (some (.int .i64 (n : Nat))) (some (.int .i64 (n : Nat))) = some (0, n, n) := by
      simp only [bnds]
      rw [if_pos ⟨by omega, by omega⟩]
      simp only
      rw [if_pos ⟨by omega, by omega⟩]
      simp
    refine ⟨.slice i o n n k true, by simp [sliceSlV, hb], ⟨⟨h.at_.1, h.at_.2.1, .inr ⟨i, o, n, true, rfl, Nat.le_refl _, hl⟩⟩, h.ones, fun j hj => h.own j (by simpa [V.block] using hj), ?_⟩, .inr ⟨i, o, rfl⟩, by simp [V.block]⟩
    obtain ⟨vs, h1, h2⟩ := h.room
    exact ⟨vs, h1, by have : n * k ≤ c * k := Nat.mul_le_mul_right _ hc; omega⟩

theorem slices_Clone_Lbyte.spec (hF : slices_Clone_Lbyte.Ok P N) {S : St} (hw : S.Wf) {v : V} {bs : List UInt8} (h : BytesAt S v bs) (hl : bs.length ≤ 140737488355328) {K : V → St → Prop} (hk : ∀ v' S', BuiltB S S' v' bs → K v' S') :
    CallA P (N Fn.slices_Clone_Lbyte) [v] S (retT [.one .any] K) := by
  refine slices_Clone_Lbyte.run hF ?_
  rcases h.2.2 with ⟨rfl, h0⟩ | ⟨i, o, c, t, rfl, hc, hld⟩
  · have : bs = [] := List.length_eq_zero_iff.mp h0
    subst this
    exact ⟨true, rfl, ifC_tt rfl (hk _ _ (Built.nil (Upd.refl hw _) 1))⟩
  · refine ⟨false, rfl, ifC_ff rfl (newS_mk hw fun S1 g1 m1 e1 => ?_)⟩
    have hb : BuiltB S S1 (.slice S.next 0 0 0 1 true) [] := ⟨g1, ⟨⟨by simp [byteE], by simp [byteE], .inr ⟨_, _, _, _, rfl, by simp [byteE], by simp [byteE, St.loads]⟩⟩, rfl, fun j hj => by simp only [V.block, List.mem_singleton] at hj; subst hj; exact ⟨Nat.le_refl _, _, m1⟩, ⟨_, m1, by simp⟩⟩, by simp [byteE]⟩
    exact hb.app (SlAt.src (h.grow g1)) (by simpa using hl) fun v' S' b _ _ => hk v' S' (by simpa using b)

def DP.setBv (q : DP) (k : Nat) (v : V) : DP := { q with bv := fun j => if j = k then v else q.bv j }
theorem fl_set {r : DiskR} {k : Nat} (hk : k < r.files.length) (f : FileR) (j : Nat) : (setFl r k f).fl j = if j = k then f else r.fl j := by
  simp only [DiskR.fl, setFl, List.getD_eq_getElem?_getD]
  by_cases h : j = k
  · subst h
    rw [if_pos rfl, List.getElem?_set_self hk]; rfl
  · rw [if_neg h, List.getElem?_set_ne (fun e => h e.symm)]

theorem DiskIn.setFile {S S' : St} {D B : List Nat} {q : DP} {r : DiskR} {X : List Nat} (h : DiskIn S D B q r) {k : Nat} (hk : q.lv k) (u : Upd X S S') (hX : ∀ i ∈ X, i = q.fb k ∨ S.next ≤ i) {v : V} {f : FileR}
    (g : S'.get (q.fb k) = some (.cells [v, .int .i64 (f.safe : Nat)] true)) (a : Acc S' 0 1 v f.b.length (bytesV f.b)) (hv : ∀ i ∈ v.block, i ∈ (q.bv k).block ∨ S.next ≤ i) : DiskIn S' D (B ++ v.block) (q.setBv k v) (setFl r k f) := by
  have hkl := h.lvI k hk
  have hfl := h.ltD _ (h.dF k hk)
  have nX : ∀ i, i < S.next → i ≠ q.fb k → i ∉ X := fun i hi hne hx => by
    rcases hX i hx with h' | h'
    · exact hne h'
    · omega
  have nb : ∀ i ∈ B, i ∉ X := fun i hi => nX i (h.ltB i hi) fun e => h.apart _ (h.dF k hk) (by rw [← e]; exact hi)
  have hvlt : ∀ i ∈ v.block, i < S'.next := fun i hi => by
    obtain ⟨_, vs, hg⟩ := a.own i hi
    exact u.wf.lt hg
  have hlen : (setFl r k f).files.length = r.files.length := by simp [setFl]
  refine ⟨u.get h.obj (nX _ (h.ltD _ h.dD) fun e => (h.neF k hk).1 e.symm), h.now.upd u (nX _ (h.ltD _ h.dN) fun e => (h.neF k hk).2.1 e.symm), h.safe.upd u (nX _ (h.ltD _ h.dS) fun e => (h.neF k hk).2.2 e.symm), h.chs.upd u fun i hi => nX i (h.ltD _ (h.dC i hi)) ((h.neC i hi).2.2.2 k hk),
    fun j hj => ?_, h.inj, h.lvN, h.lvS, h.lvC, by rw [hlen]; exact h.lvI, h.dD, h.dN, h.dS, h.dC, h.dF, fun j hj i hi => ?_, fun i hi => Nat.lt_of_lt_of_le (h.ltD i hi) u.le, fun i hi => ?_, fun i hi hB => ?_, h.ne1, h.ne2, h.ne3, h.neC, h.neF⟩
  · rw [fl_set hkl]
    by_cases e : j = k
    · subst e
      simp only [DP.setBv, if_true]
      exact ⟨g, a⟩
    · simp only [DP.setBv, if_neg e]
      obtain ⟨f1, f2⟩ := h.fl j hj
      exact ⟨u.get f1 (nX _ (h.ltD _ (h.dF j hj)) fun e' => e (h.inj j k hj hk e')), f2.upd u fun i hi => nb i (h.dB j hj i hi)⟩
  · by_cases e : j = k
    · subst e
      simp only [DP.setBv, if_true] at hi
      exact List.mem_append_right _ hi
    · simp only [DP.setBv, if_neg e] at hi
      exact List.mem_append_left _ (h.dB j hj i hi)
  · rcases List.mem_append.mp hi with hi | hi
    · exact Nat.lt_of_lt_of_le (h.ltB i hi) u.le
    · exact hvlt i hi
  · rcases List.mem_append.mp hB with hB | hB
    · exact h.apart i hi hB
    · rcases hv i hB with h' | h'
      · exact h.apart i hi (h.dB k hk i h')
      · have := h.ltD i hi; omega

theorem Mv.of {d : Nat} {D B D' B' : List Nat} {q' : DP} {S S' : St} {r' : DiskR} (u : Upd D S S') (h : DiskIn S' D' B' q' r') (e : q'.d = d) (hD : ∀ i ∈ D', i ∈ D ∨ S.next ≤ i) (hB : ∀ i ∈ B', i ∈ B ∨ S.next ≤ i) : Mv d D B S r' S' := ⟨⟨D', B', q', e, h, hD, hB⟩, u⟩

structure DiskFw (P : Program) (N : Nat → Nat) : Prop where
  f : DiskF P N
  good : disk_good.Ok P N
  used : disk_Disk_Used.Ok P N
  create : disk_Disk_Create.Ok P N
  append : disk_Disk_Append.Ok P N
  sync : disk_Disk_Sync.Ok P N
  remove : disk_Disk_Remove.Ok P N
  read : disk_Disk_Read.Ok P N
  clone : slices_Clone_Lbyte.Ok P N
structure DiskF2 (P : Program) (N : Nat → Nat) : Prop extends DiskFw P N where
  rename : disk_Disk_Rename.Ok P N
  stop : disk_Disk_Stop.Ok P N
  steps : disk_Disk_Steps.Ok P N

theorem disk_step {S S' : St} {D B B' : List Nat} {q q' : DP} {r' : DiskR} (hO : DiskF P N) (u : Upd D S S') (h : DiskIn S' D B' q' r') (hq : q'.d = q.d) (hB : ∀ i ∈ B', i ∈ B ∨ S.next ≤ i) (hd : downR r' = false) {M : Nat} (hM : M ≤ 1000000) (h3 : 0 ≤ r'.steps ∧ r'.steps ≤ M) (hl : r'.left ≤ 9223372036854775807) {K : Int → St → Prop}
    (hk : ∀ S2, Mv q.d D B S (stepR r') S2 → K 0 S2) : CallA P (N Fn.disk_Disk_done) [.ptr q.d 0] S' (retT [.one (.int .i64)] K) := by
  rw [← hq]
  refine disk_Disk_done.spec hO u.wf h hd hM h3 hl fun S2 h2 u2 n2 => hk S2 (Mv.of (u.after u2 fun i hi => .inr ?_) h2 hq (fun i hi => .inl hi) hB)
  simp only [List.mem_singleton] at hi
  subst hi; exact h.dD

theorem disk_Disk_Sync.spec (hO : DiskFw P N) {S : St} (hw : S.Wf) {D B : List Nat} {q : DP} {r : DiskR} (h : DiskIn S D B q r) {M : Nat} (hok : OkR M r) (hM : M ≤ 1000000) {n : Nm} {K : Int → St → Prop} (hk : ∀ S', Mv q.d D B S (syncR r n).2 S' → K (syncR r n).1 S') :
    CallA P (N Fn.disk_Disk_Sync) [.ptr q.d 0, .str n] S (retT [.one (.int .i64)] K) := by
  refine disk_Disk_Sync.run hO.sync (disk_Disk_find.spec hO.f h.rd (fun hd => ifC_ndec (fun _ => ?_) (fun h' => by omega)) (fun hd hn => ifC_ndec (fun _ => ?_) (fun h' => by omega)) (fun hd k hkn => ifC_ndec (fun h' => absurd rfl h') (fun _ => ?_)))
  · have e : syncR r n = (174, r) := by simp [syncR, hd]
    rw [e] at hk; exact hk S (Mv.stay hw h)
  · have e : syncR r n = (172, r) := by simp [syncR, hd, hn]
    rw [e] at hk; exact hk S (Mv.stay hw h)
  · have e : syncR r n = (0, stepR (setFl r k ⟨(r.fl k).b, (r.fl k).b.length⟩)) := by simp [syncR, hd, hkn]
    rw [e] at hk
    have hlv := h.lvN _ ((lkK_some hok.stNow.sorted.nod).1 hkn)
    obtain ⟨f1, f2⟩ := h.fl k hlv
    refine ⟨rfl, ifS_mk (a := .ptr (q.fb k) 0) rfl (ifS_mk (ld f1 rfl) ⟨_, f2.at_.len, rfl, ifS_mk (a := .ptr (q.fb k) 1) rfl (st_mk hw f1 rfl (by simp [V.cells]) (by simp [V.cells, V.one]) fun S1 u1 m1 n1 => ?_)⟩)⟩
    simp only [over, V.cells] at m1
    have hnb : q.fb k ∉ (q.bv k).block := fun hm => h.apart _ (h.dF k hlv) (h.dB k hlv _ hm)
    have h1 := h.setFile hlv u1 (fun i hi => .inl (by simpa using hi)) (v := q.bv k) (f := ⟨(r.fl k).b, (r.fl k).b.length⟩) m1 (f2.upd u1 fun i hi => by simp only [List.mem_singleton]; rintro rfl; exact hnb hi) (fun i hi => .inl hi)
    refine disk_step hO.f (u1.mono fun i hi => .inl ?_) h1 rfl (fun i hi => ?_) hd hM (by have := hok.n3; exact this) hok.left.2 hk
    · simp only [List.mem_singleton] at hi; subst hi; exact h.dF k hlv
    · rcases List.mem_append.mp hi with hi | hi
      · exact .inl hi
      · exact .inl (h.dB k hlv i hi)

theorem disk_Disk_Append.spec (hO : DiskFw P N) {S : St} (hw : S.Wf) {D B : List Nat} {q : DP} {r : DiskR} (h : DiskIn S D B q r) {M : Nat} (hok : OkR M r) (hM : M ≤ 1000000) {n : Nm} {x : V} {bs : List UInt8} (hx : BytesAt S x bs) (hxl : bs.length ≤ 1000000000) {K : Int → St → Prop}
    (hk : ∀ S', Mv q.d D B S (appendR r n bs).2 S' → K (appendR r n bs).1 S') :
    CallA P (N Fn.disk_Disk_Append) [.ptr q.d 0, .str n, x] S (retT [.one (.int .i64)] K) := by
  refine disk_Disk_Append.run hO.append (disk_Disk_find.spec hO.f h.rd (fun hd => ifC_ndec (fun _ => ?_) (fun h' => by omega)) (fun hd hn => ifC_ndec (fun _ => ?_) (fun h' => by omega)) (fun hd k hkn => ifC_ndec (fun h' => absurd rfl h') (fun _ => ?_)))
  · have e : appendR r n bs = (174, r) := by simp [appendR, hd]
    rw [e] at hk; exact hk S (Mv.stay hw h)
  · have e : appendR r n bs = (172, r) := by simp [appendR, hd, hn]
    rw [e] at hk; exact hk S (Mv.stay hw h)
  · have e0 : appendR r n bs = if r.room - (usedR r : Int) < (bs.length : Int) then (173, r) else (0, stepR (setFl r k ⟨(r.fl k).b ++ bs, (r.fl k).safe⟩)) := by simp [appendR, hd, hkn]
    rw [e0] at hk
    have hst := hok.stNow
    have hlv := h.lvN _ ((lkK_some hst.sorted.nod).1 hkn)
    obtain ⟨f1, f2⟩ := h.fl k hlv
    have hus : usedR r ≤ 268435456 := by
      have e1 : usedR r = (r.now.map fun p => (r.fl p.2).b.length).sum := by simp [usedR, hd]
      have e2 := used_sum (fun k => (r.fl k).b.length) r.now fun p _ => (hok.fl p.2).2
      have := hst.len
      omega
    have hroom := hok.room
    refine ⟨_, SlAt.len hx, rfl, ifS_mk (a := .ptr q.d 0) rfl ⟨_, ld h.obj rfl, disk_Disk_Used.spec hO.used hO.f h hok (sameK_mk (Same.refl _ _) (setI_mk (n := r.room - (usedR r : Nat)) (by rw [IntKind.wrap_i64]; omega) (ifC_dec (fun hlt => ?_) (fun hge => ?_))))⟩⟩
    · rw [if_pos (by omega)] at hk; exact hk S (Mv.stay hw h)
    · rw [if_neg (by omega)] at hk
      obtain ⟨v1, e1, a1, t1, b1⟩ := Acc.tight f2
      have hfl := (hok.fl k).2
      obtain ⟨v2, S2, e2, a2, g2, b2⟩ := app_tight hw (by omega) a1 t1 (SlAt.src hx) (by rw [bytesV_length, Nat.mul_one]) (bytesV_ones _) (bytes := 1) (by omega) (by omega)
      have hnb : q.fb k ∉ (q.bv k).block := fun hm => h.apart _ (h.dF k hlv) (h.dB k hlv _ hm)
      have hfb := h.ltD _ (h.dF k hlv)
      have hv2 : ∀ i ∈ v2.block, i ∈ (q.bv k).block ∨ S.next ≤ i := fun i hi => by
        rcases b2 i hi with h' | h'
        · exact .inl (b1 i h')
        · exact .inr h'
      refine ⟨rfl, ifS_mk (a := .ptr (q.fb k) 0) rfl (ifS_mk (ld f1 rfl) ⟨rfl, ifS_mk (a := .ptr (q.fb k) 0) rfl (ifS_mk (ld f1 rfl) ⟨_, f2.at_.len, rfl, ifS_mk (a := .ptr (q.fb k) 0) rfl (ifS_mk (ld f1 rfl) ⟨_, f2.at_.len, ifS_mk e1 (ifP_mk e2 ⟨rfl, ifS_mk (a := .ptr (q.fb k) 0) rfl (st_mk g2.wf (g2.get f1) (by rw [a2.at_.cells1]; rfl) (by rw [a2.at_.cells1]; simp) (by rw [a2.at_.cells1]; simp [a2.at_.one1]) fun S3 u3 m3 n3 => ?_)⟩)⟩)⟩)⟩)⟩
      rw [a2.at_.cells1] at m3
      simp only [over] at m3
      have u : Upd [q.fb k] S S3 := (g2.mono (by simp)).after u3 fun i hi => .inr hi
      have hlb : (bytesV ((r.fl k).b ++ bs)) = bytesV (r.fl k).b ++ bytesV bs := by simp [bytesV]
      have h1 := h.setFile hlv u (fun i hi => .inl (by simpa using hi)) (v := v2) (f := ⟨(r.fl k).b ++ bs, (r.fl k).safe⟩) m3 (by
        have := a2.upd u3 fun i hi => by
          simp only [List.mem_singleton]
          rintro rfl
          rcases hv2 _ hi with h' | h'
          · exact hnb h'
          · omega
        simp only [List.length_append]
        rw [hlb]; exact this) hv2
      refine disk_step hO.f (u.mono fun i hi => .inl ?_) h1 rfl (fun i hi => ?_) hd hM (by have := hok.n3; exact this) hok.left.2 hk
      · simp only [List.mem_singleton] at hi; subst hi; exact h.dF k hlv
      · rcases List.mem_append.mp hi with hi | hi
        · exact .inl hi
        · rcases hv2 i hi with h' | h'
          · exact .inl (h.dB k hlv i h')
          · exact .inr h'

end Go.Th.L
end

section
/- The disk's calls: Create, Rename, Remove, SyncDir, Read, Stop, Steps. -/
set_option linter.unusedSimpArgs false
set_option linter.unusedVariables false
set_option maxHeartbeats 1000000
namespace Go.Th.L
open Go Go.Th Go.Th.Pure
variable {P : Program} {N : Nat → Nat}

def addR (r : DiskR) : DiskR := { r with files := r.files ++ [⟨[], 0⟩] }
def DP.add (q : DP) (n b : Nat) : DP := { q with fb := fun j => if j = n then b else q.fb j, bv := fun j => if j = n then .nilSlice else q.bv j, lv := fun j => q.lv j ∨ j = n }

theorem entG_congr {f g : Nat → Nat} {l : List (Nm × Nat)} (h : ∀ p ∈ l, f p.2 = g p.2) : entG f l = entG g l := List.map_congr_left fun p hp => by rw [h p hp]
theorem chC_congr {f g : Nat → Nat} {l : List ChR} (h : ∀ c ∈ l, c.kind ≠ 3 → f c.file = g c.file) : l.map (chC f) = l.map (chC g) := List.map_congr_left fun c hc => by
  simp only [chC, chP]
  by_cases hk : c.kind = 3
  · simp [hk]
  · simp [hk, h c hc hk]

theorem DiskIn.addFile {S S' : St} {D B : List Nat} {q : DP} {r : DiskR} (h : DiskIn S D B q r) (g : Grow S S') (hn : S'.next = S.next + 1) (m : S'.get S.next = some (.cells [.nilSlice, .int .i64 0] true)) :
    DiskIn S' (S.next :: D) B (q.add r.files.length S.next) (addR r) := by
  have h1 := h.grow g
  have lvn : ∀ k, q.lv k → k ≠ r.files.length := fun k hk e => by have := h.lvI k hk; omega
  have flo : ∀ k, q.lv k → (addR r).fl k = r.fl k := fun k hk => by
    have := h.lvI k hk
    simp only [DiskR.fl, addR, List.getD_eq_getElem?_getD, List.getElem?_append_left this]
  have fln : (addR r).fl r.files.length = ⟨[], 0⟩ := by simp [DiskR.fl, addR, List.getD_eq_getElem?_getD]
  have dl : ∀ i ∈ D, i ≠ S.next := fun i hi e => by have := h.ltD i hi; omega
  have en : ∀ l : List (Nm × Nat), (∀ p ∈ l, q.lv p.2) → entG (q.add r.files.length S.next).fb l = entG q.fb l := fun l hl => entG_congr fun p hp => by simp only [DP.add, if_neg (lvn _ (hl p hp))]
  have ec : (r.chs.map (chC (q.add r.files.length S.next).fb)) = r.chs.map (chC q.fb) := chC_congr fun c hc hk => by simp only [DP.add, if_neg (lvn _ (h.lvC c hc hk))]
  refine ⟨h1.obj, by show NamesAt S' q.bn (entG _ r.now) _; rw [en _ h.lvN]; exact h1.now, by show NamesAt S' q.bs (entG _ r.safe) _; rw [en _ h.lvS]; exact h1.safe, by show Acc S' 0 3 q.cv r.chs.length (r.chs.map _).flatten; rw [ec]; exact h1.chs, ?_, ?_, fun p hp => .inl (h.lvN p hp), fun p hp => .inl (h.lvS p hp), fun c hc hk => .inl (h.lvC c hc hk), ?_,
    List.mem_cons_of_mem _ h.dD, List.mem_cons_of_mem _ h.dN, List.mem_cons_of_mem _ h.dS, fun i hi => List.mem_cons_of_mem _ (h.dC i hi), ?_, ?_, ?_, h1.ltB, ?_, h.ne1, h.ne2, h.ne3, ?_, ?_⟩
  · rintro k (hk | rfl)
    · rw [flo k hk]
      simp only [DP.add, if_neg (lvn k hk)]
      exact h1.fl k hk
    · rw [fln]
      simp only [DP.add, if_true]
      exact ⟨m, Acc.nil _ _ _⟩
  · rintro k k' (hk | rfl) (hk' | rfl) e
    · simp only [DP.add, if_neg (lvn k hk), if_neg (lvn k' hk')] at e
      exact h.inj k k' hk hk' e
    · simp only [DP.add, if_neg (lvn k hk), if_true] at e
      exact absurd e (dl _ (h.dF k hk))
    · simp only [DP.add, if_neg (lvn k' hk'), if_true] at e
      exact absurd e.symm (dl _ (h.dF k' hk'))
    · rfl
  · rintro k (hk | rfl)
    · have := h.lvI k hk; simp only [addR, List.length_append, List.length_singleton]; omega
    · simp [addR]
  · rintro k (hk | rfl)
    · simp only [DP.add, if_neg (lvn k hk)]
      exact List.mem_cons_of_mem _ (h.dF k hk)
    · simp only [DP.add, if_true]
      exact List.mem_cons_self
  · rintro k (hk | rfl) i hi
    · simp only [DP.add, if_neg (lvn k hk)] at hi
      exact h.dB k hk i hi
    · simp only [DP.add, if_true, V.block] at hi
      cases hi
  · intro i hi
    rcases List.mem_cons.mp hi with rfl | hi
    · omega
    · exact h1.ltD i hi
  · intro i hi hB
    rcases List.mem_cons.mp hi with rfl | hi
    · have := h.ltB _ hB; omega
    · exact h.apart i hi hB
  · intro i hi
    obtain ⟨a1, a2, a3, a4⟩ := h.neC i hi
    refine ⟨a1, a2, a3, ?_⟩
    rintro k (hk | rfl)
    · simp only [DP.add, if_neg (lvn k hk)]
      exact a4 k hk
    · simp only [DP.add, if_true]
      exact dl _ (h.dC i hi)
  · rintro k (hk | rfl)
    · simp only [DP.add, if_neg (lvn k hk)]
      exact h.neF k hk
    · simp only [DP.add, if_true]
      exact ⟨fun e => dl _ h.dD e.symm, fun e => dl _ h.dN e.symm, fun e => dl _ h.dS e.symm⟩

theorem disk_Disk_Create.spec (hO : DiskFw P N) {S : St} (hw : S.Wf) {D B : List Nat} {q : DP} {r : DiskR} (h : DiskIn S D B q r) {M : Nat} (hok : OkR M r) (hM : M ≤ 1000000) {n : Nm} (hnl : n.length < 4611686018427387904) {K : Int → St → Prop} (hk : ∀ S', Mv q.d D B S (createR r n).2 S' → K (createR r n).1 S') :
    CallA P (N Fn.disk_Disk_Create) [.ptr q.d 0, .str n] S (retT [.one (.int .i64)] K) := by
  refine disk_Disk_Create.run hO.create (disk_Disk_ready.spec hO.f.ready hO.f.down h.rd (fun hd => ifC_ndec (fun _ => ?_) (fun h' => by omega)) (fun hd => ifC_ndec (fun h' => absurd rfl h') (fun _ => ?_)))
  · have e : createR r n = (174, r) := by simp [createR, hd]
    rw [e] at hk; exact hk S (Mv.stay hw h)
  refine ⟨rfl, ifS_mk (a := .ptr q.d 1) rfl (ifS_mk (ld h.obj rfl) ?_)⟩
  have hlk := names_lookup h.now .nilPtr true n
  rw [lk_entG] at hlk
  obtain ⟨a, hlk2⟩ : ∃ a : V, lookupV S 2 .nilPtr true (.map q.bn) (.str n) = some (.tuple [a, .bool (lkK r.now n).isSome]) := by
    cases hx : lkK r.now n with
    | none => rw [hx] at hlk; exact ⟨_, hlk⟩
    | some k => rw [hx] at hlk; exact ⟨_, hlk⟩
  refine ⟨a, _, hlk2, disk_good.spec hO.good ?_ hnl⟩
  cases hg : goodN n with
  | false =>
    have e : createR r n = (170, r) := by simp [createR, hd, hg]
    rw [e] at hk; exact ifC_tt rfl (hk S (Mv.stay hw h))
  | true =>
  refine ifC_ff rfl ?_
  cases hx : (lkK r.now n).isSome with
  | true =>
    have e : createR r n = (171, r) := by simp [createR, hd, hg, hx]
    rw [e] at hk; exact ifC_tt rfl (hk S (Mv.stay hw h))
  | false =>
  refine ifC_ff rfl ⟨rfl, ifS_mk (a := .ptr q.d 1) rfl (ifS_mk (ld h.obj rfl) ⟨_, names_len h.now, ?_⟩)⟩
  have hlen : (entG q.fb r.now).length = r.now.length := by simp [entG]
  rw [hlen]
  refine ifC_dec (fun hmany => ?_) (fun hfew => ?_)
  · have e : createR r n = (175, r) := by
      simp only [createR, hd, hg, hx]
      simp; omega
    rw [e] at hk; exact hk S (Mv.stay hw h)
  · have e : createR r n = (0, changeR (addR r) ⟨1, [], n, r.files.length⟩) := by
      simp only [createR, hd, hg, hx]
      simp only [Bool.false_eq_true, if_false, Bool.not_true]
      rw [if_neg (by omega)]; rfl
    rw [e] at hk
    have hne : n ≠ [] := by
      simp only [goodN, Bool.and_eq_true, decide_eq_true_eq] at hg
      exact hg.1.2
    refine newS_mk hw fun S3 g3 m3 n3 => ⟨rfl, ?_⟩
    have h3 := h.addFile g3 n3 m3
    have := disk_Disk_change.spec (K := K) hO.f g3.wf h3 (by exact hd) hM (by exact hok.n1) (by exact hok.n3) (by exact hok.left.2) (c := ⟨1, [], n, r.files.length⟩) (nf := r.files.length + 1) (.inl ⟨rfl, rfl, hne, by simp⟩) (fun _ => .inr rfl) (fun S' hm => hk S' (Mv.before (g3.mono (by simp)) (fun i hi => ?_) (fun i hi => .inl hi) hm))
    · simpa [chP, DP.add] using this
    · rcases List.mem_cons.mp hi with rfl | hi
      · exact .inr (Nat.le_refl _)
      · exact .inl hi

theorem disk_Disk_Remove.spec (hO : DiskFw P N) {S : St} (hw : S.Wf) {D B : List Nat} {q : DP} {r : DiskR} (h : DiskIn S D B q r) {M : Nat} (hok : OkR M r) (hM : M ≤ 1000000) {a : Nm} {K : Int → St → Prop} (hk : ∀ S', Mv q.d D B S (removeR r a).2 S' → K (removeR r a).1 S') :
    CallA P (N Fn.disk_Disk_Remove) [.ptr q.d 0, .str a] S (retT [.one (.int .i64)] K) := by
  refine disk_Disk_Remove.run hO.remove (disk_Disk_find.spec hO.f h.rd (fun hd => ifC_ndec (fun _ => ?_) (fun h' => by omega)) (fun hd hn => ifC_ndec (fun _ => ?_) (fun h' => by omega)) (fun hd k hkn => ifC_ndec (fun h' => absurd rfl h') (fun _ => ?_)))
  · have e : removeR r a = (174, r) := by simp [removeR, hd]
    rw [e] at hk; exact hk S (Mv.stay hw h)
  · have e : removeR r a = (172, r) := by simp [removeR, hd, hn]
    rw [e] at hk; exact hk S (Mv.stay hw h)
  · have e0 : removeR r a = (0, changeR r ⟨3, a, [], 0⟩) := by simp [removeR, hd, hkn]
    rw [e0] at hk
    have hst := hok.stNow
    have hm := (lkK_some hst.sorted.nod).1 hkn
    exact disk_Disk_change.spec hO.f hw h hd hM hok.n1 hok.n3 hok.left.2 (c := ⟨3, a, [], 0⟩) (nf := r.files.length) (.inr (.inr ⟨rfl, hst.ne _ hm, rfl⟩)) (fun h' => absurd rfl h') hk

theorem disk_Disk_Stop.spec (hO : DiskF2 P N) {S : St} (hw : S.Wf) {D B : List Nat} {q : DP} {r : DiskR} (h : DiskIn S D B q r) {n : Int} {K : Int → St → Prop} (hk : ∀ S', Mv q.d D B S (stopR r n).2 S' → K (stopR r n).1 S') :
    CallA P (N Fn.disk_Disk_Stop) [.ptr q.d 0, .int .i64 n] S (retT [.one (.int .i64)] K) := by
  refine disk_Disk_Stop.run hO.stop (disk_Disk_ready.spec hO.f.ready hO.f.down h.rd (fun hd => ifC_ndec (fun _ => ?_) (fun h' => by omega)) (fun hd => ifC_ndec (fun h' => absurd rfl h') (fun _ => ?_)))
  · have e : stopR r n = (174, r) := by simp [stopR, hd]
    rw [e] at hk; exact hk S (Mv.stay hw h)
  refine ifC_dec (fun hneg => ?_) (fun hpos => ?_)
  · have e : stopR r n = (1, r) := by simp [stopR, hd, hneg]
    rw [e] at hk; exact hk S (Mv.stay hw h)
  · have e : stopR r n = (0, { r with left := n }) := by simp [stopR, hd, hpos]
    rw [e] at hk
    refine ⟨rfl, ifS_mk (a := .ptr q.d 5) rfl (st_mk hw h.obj rfl (by simp [objC, V.cells]) (by simp [V.cells, V.one]) fun S1 u1 m1 n1 => ⟨rfl, ifS_mk (a := .ptr q.d 6) rfl (st_mk u1.wf m1 rfl (by simp [objC, over, V.cells]) (by simp [V.cells, V.one]) fun S2 u2 m2 n2 => hk S2 ?_)⟩)⟩
    have u := u1.trans u2
    refine Mv.of (u.mono fun i hi => .inl ?_) (h.fields (r' := { r with left := n }) u ?_ rfl rfl rfl rfl) rfl (fun i hi => .inl hi) (fun i hi => .inl hi)
    · simp only [List.mem_singleton] at hi; subst hi; exact h.dD
    · rw [m2]
      have h1 : (0 ≤ n) := by omega
      simp [objC, over, V.cells, Pure.DiskR.left, L.stopsR, leftC, h1]

theorem disk_Disk_Read.spec (hO : DiskFw P N) {S : St} (hw : S.Wf) {o : Bool} {q : DP} {r : DiskR} (h : DiskRd S o q r) {M : Nat} (hok : OkR M r) {n : Nm} {K : V → Int → St → Prop} (hk : ∀ v S', BuiltB S S' v (readR r n).1 → K v (readR r n).2 S') :
    CallA P (N Fn.disk_Disk_Read) [.ptr q.d 0, .str n] S (retT [.one .any, .one (.int .i64)] K) := by
  refine disk_Disk_Read.run hO.read (disk_Disk_find.spec hO.f h (fun hd => ifC_ndec (fun _ => ?_) (fun h' => by omega)) (fun hd hn => ifC_ndec (fun _ => ?_) (fun h' => by omega)) (fun hd k hkn => ifC_ndec (fun h' => absurd rfl h') (fun _ => ?_)))
  · have e : readR r n = ([], 174) := by simp [readR, hd]
    rw [e] at hk; exact hk _ S (Built.nil (Upd.refl hw _) 1)
  · have e : readR r n = ([], 172) := by simp [readR, hd, hn]
    rw [e] at hk; exact hk _ S (Built.nil (Upd.refl hw _) 1)
  · have e : readR r n = ((r.fl k).b, 0) := by simp [readR, hd, hkn]
    rw [e] at hk
    have hlv := h.lvN _ ((lkK_some hok.stNow.sorted.nod).1 hkn)
    obtain ⟨f1, f2⟩ := h.fl k hlv
    have := (hok.fl k).2
    exact ⟨rfl, ifS_mk (a := .ptr (q.fb k) 0) rfl (ifS_mk (ld f1 rfl) (slices_Clone_Lbyte.spec hO.clone hw f2 (by omega) fun v' S' b => hk v' S' b))⟩

abbrev MapsClone (P : Program) (f : FuncId) : Prop := ∀ {S : St} (_ : S.Wf) {i : Nat} {es : List (V × V)} {own : Bool} {K : V → St → Prop}, S.get i = some (.map es own) →
  (∀ S', Grow S S' → S'.get S.next = some (.map es true) → S'.next = S.next + 1 → K (.map S.next) S') → CallA P f [.map i] S (retT [.one .any] K)

theorem disk_Disk_SyncDir.spec (hO : DiskFw P N) (hF : disk_Disk_SyncDir.Ok P N) (hC : MapsClone P (N Fn.maps_Clone_disk_names)) {S : St} (hw : S.Wf) {D B : List Nat} {q : DP} {r : DiskR} (h : DiskIn S D B q r) {M : Nat} (hok : OkR M r) (hM : M ≤ 1000000) {K : Int → St → Prop}
    (hk : ∀ S', Mv q.d D B S (syncDirR r).2 S' → K (syncDirR r).1 S') : CallA P (N Fn.disk_Disk_SyncDir) [.ptr q.d 0] S (retT [.one (.int .i64)] K) := by
  refine disk_Disk_SyncDir.run hF (disk_Disk_ready.spec hO.f.ready hO.f.down h.rd (fun hd => ifC_ndec (fun _ => ?_) (fun h' => by omega)) (fun hd => ifC_ndec (fun h' => absurd rfl h') (fun _ => ?_)))
  · have e : syncDirR r = (174, r) := by simp [syncDirR, hd]
    rw [e] at hk; exact hk S (Mv.stay hw h)
  have e : syncDirR r = (0, stepR { r with safe := r.now, chs := [] }) := by simp [syncDirR, hd]
  rw [e] at hk
  obtain ⟨es, hp, hg⟩ := h.now.ex
  refine ⟨rfl, ifS_mk (a := .ptr q.d 1) rfl (ifS_mk (ld h.obj rfl) (hC hw hg fun S1 g1 m1 n1 => ⟨rfl, ifS_mk (a := .ptr q.d 2) rfl (st_mk g1.wf (g1.get h.obj) rfl (by simp [objC, V.cells]) (by simp [V.cells, V.one]) fun S2 u2 m2 n2 => ⟨rfl, ifS_mk (a := .ptr q.d 3) rfl (st_mk u2.wf m2 rfl (by simp [objC, over, V.cells]) (by simp [V.cells, V.one]) fun S3 u3 m3 n3 => ?_)⟩)⟩))⟩
  have hdl := h.ltD _ h.dD
  have u : Upd [q.d] S S3 := ((g1.mono (by simp)).after u2 fun i hi => .inr hi).after u3 fun i hi => .inr hi
  have h2 : DiskIn S3 (S.next :: D) B { q with bs := S.next, cv := .nilSlice } { r with safe := r.now, chs := [] } := by
    have nD : ∀ i ∈ D, i ≠ S.next := fun i hi e => by have := h.ltD i hi; omega
    refine ⟨?_, h.now.upd u (by simp only [List.mem_singleton]; exact h.ne1), ?_, Acc.nil _ _ _, fun k hk => ?_, h.inj, h.lvN, h.lvN, by simp, h.lvI, List.mem_cons_of_mem _ h.dD, List.mem_cons_of_mem _ h.dN, List.mem_cons_self, by simp [V.block], fun k hk => List.mem_cons_of_mem _ (h.dF k hk), h.dB, fun i hi => ?_, fun i hi => Nat.lt_of_lt_of_le (h.ltB i hi) u.le, fun i hi hB => ?_, h.ne1, fun e => nD _ h.dD e.symm, fun e => nD _ h.dN e, by simp [V.block], fun k hk => ⟨(h.neF k hk).1, (h.neF k hk).2.1, nD _ (h.dF k hk)⟩⟩
    · rw [m3]; rfl
    · refine ⟨⟨es, hp, ?_⟩, h.now.nod⟩
      exact u3.get (u2.get m1 (by simp only [List.mem_singleton]; omega)) (by simp only [List.mem_singleton]; omega)
    · obtain ⟨f1, f2⟩ := h.fl k hk
      refine ⟨u.get f1 (by simp only [List.mem_singleton]; exact (h.neF k hk).1), f2.upd u fun i hi => ?_⟩
      simp only [List.mem_singleton]
      rintro rfl
      exact h.apart _ h.dD (h.dB k hk _ hi)
    · have := u2.le; have := u3.le
      rcases List.mem_cons.mp hi with rfl | hi
      · omega
      · exact Nat.lt_of_lt_of_le (h.ltD i hi) u.le
    · rcases List.mem_cons.mp hi with rfl | hi
      · have := h.ltB _ hB; omega
      · exact h.apart i hi hB
  refine disk_Disk_done.spec hO.f u.wf h2 (by exact hd) hM (by exact hok.n3) (by exact hok.left.2) fun S4 h4 u4 n4 => hk S4 (Mv.of ((u.mono fun i hi => .inl ?_).after u4 fun i hi => .inr ?_) h4 rfl (fun i hi => ?_) (fun i hi => .inl hi))
  · simp only [List.mem_singleton] at hi; subst hi; exact h.dD
  · simp only [List.mem_singleton] at hi; subst hi; exact h.dD
  · rcases List.mem_cons.mp hi with rfl | hi
    · exact .inr (Nat.le_refl _)
    · exact .inl hi

end Go.Th.L
end

section
/- The names of a disk, in order: slices.Sorted(maps.Keys(names)). -/
set_option linter.unusedSimpArgs false
set_option linter.unusedVariables false
set_option maxHeartbeats 1000000
namespace Go.Th.L
open Go Go.Th Go.Th.Pure
variable {P : Program} {N : Nat → Nat}

def strE (l : List Nm) : List (List V) := l.map fun n => [V.str n]
def strsV (l : List Nm) : List V := l.map V.str
theorem strE_flat (l : List Nm) : (strE l).flatten = strsV l := by
  induction l with
  | nil => rfl
  | cons a l ih => simp only [strE, strsV, List.map_cons, List.flatten_cons] at ih ⊢; rw [ih]; rfl
theorem strE_len (l : List Nm) : (strE l).length = l.length := by simp [strE]
theorem strsV_ones (l : List Nm) : (strsV l).all V.one = true := by simp [strsV, V.one]

theorem maps_Keys_1.spec (hF : maps_Keys_disk_names_1.Ok P N) {J : List Nm → St → Prop} {l i mi jj : Nat} {fb : Nat → Nat} {ns : List (Nm × Nat)} {own : Bool} {S : St} (hw : S.Wf) (hi : S.get i = some (.cells [.map mi] true)) (hm : NamesAt S mi (entG fb ns) own) (hjj : jj = S.next)
    (hg : ∀ pre S1 S2, J pre S1 → Upd [mi, jj] S1 S2 → J pre S2) (hjw : ∀ pre S1, J pre S1 → S1.Wf)
    (hy : ∀ pre x S1 (K : Bool → St → Prop), J pre S1 → pre.length < ns.length → jj < S1.next → (∀ S2, J (pre ++ [x]) S2 → Upd [] S2 S2 → S2.get mi = S1.get mi → S2.get jj = S1.get jj → S1.next ≤ S2.next → K true S2) → CallA P (P.funcs.size + l) [.str x] S1 (retT [.one .bool] K))
    (h0 : J [] S) {K : St → Prop} (hk : ∀ xs S', xs.Perm (ns.map (·.1)) → J xs S' → S'.get mi = S.get mi → K S') : CallA P (N Fn.maps_Keys_disk_names_1) [.func (.yield l) [] [], .ptr i 0] S (retT [] K) := by
  subst hjj
  have hml := hm.lt hw
  refine maps_Keys_disk_names_1.run hF (ifS_mk (ld hi rfl) (rangeN_mk hw hm fun ls S2 hp hg0 rg2 u2 n2 => ?_))
  have hJ2 : J [] S2 := hg _ _ _ h0 (u2.mono (by simp))
  refine Loop0.ind (fun m S' => ∃ lf done : List (Nm × Nat), lf.length = m ∧ (done ++ lf).Perm ns ∧ Rng S' mi S.next (entT fb ls) own (entT fb lf) ∧ J (done.map (·.1)) S' ∧ S.next < S'.next) ls.length ⟨ls, [], rfl, by simpa using hp, rg2, hJ2, by omega⟩ ?_
  rintro m S3 ⟨lf, done, hm3, hpm, rg, hJ, hlt⟩
  refine nextN_mk (hjw _ _ hJ) rg (fun a p b S4 e rg4 en u4 n4 => ?_) (fun S4 e g4 u4 n4 => ?_)
  · subst e
    have hJ4 := hg _ _ _ hJ (u4.mono (by simp))
    have hlen : done.length < ns.length := by
      rw [← hpm.length_eq]; simp; omega
    refine ⟨true, rfl, ifC_tt rfl (ifS_mk en ⟨p.1, rfl, ifS_mk (a := (P.funcs.size + l, [V.str p.1])) rfl (hy _ p.1 S4 _ hJ4 (by simpa using hlen) (by omega) fun S5 hJ5 _ e1 e2 hle => ifC_ff rfl ?_)⟩)⟩
    refine ⟨m - 1, ?_, a ++ b, done ++ [p], ?_, ?_, ?_, by simpa using hJ5, by omega⟩
    · simp only [List.length_append, List.length_cons] at hm3; omega
    · simp only [List.length_append, List.length_cons] at hm3 ⊢; omega
    · refine List.Perm.trans ?_ hpm
      rw [List.append_assoc, List.singleton_append]
      exact List.Perm.append_left _ List.perm_middle.symm
    · obtain ⟨bs, c, seen, q1, q2, q3, q4, q5⟩ := rg4.ex
      exact ⟨bs, c, seen, q1, q2, by rw [e1]; exact q3, by rw [e2]; exact q4, q5⟩
  · subst e
    refine ⟨false, rfl, ifC_ff rfl (hk (done.map (·.1)) S4 ?_ (hg _ _ _ hJ (u4.mono (by simp))) (by rw [g4, hg0]))⟩
    rw [List.append_nil] at hpm
    exact hpm.map _

def seq_start : AC := .region [⟨(.some 2), .none, (.box (.tmp 0))⟩, ⟨(.some 4), .none, (.move (.con .nilSlice))⟩]
def seq_seq : AC := .region [⟨(.some 6), .none, (.move (.tmp 1))⟩]
def seq_set : AC := .region [⟨(.some 5), .none, (.move (.tmp 7))⟩]
def seq_body : AC := .block 1 (.region [⟨(.some 8), .none, (.load1 (.tmp 2))⟩, ⟨(.some 9), .none, (.move (.tmp 5))⟩, ⟨(.some 10), .none, (.buildSlice 1 1 [(.str [])] [(0, (1, (.tmp 9)))])⟩, ⟨(.some 11), .none, (.app 1 16 (.tmp 8) (.tmp 10))⟩, ⟨.none, .none, (.store 1 (.tmp 2) (.tmp 11))⟩])
def seq_end : AC := .seq (.region [⟨(.some 12), .none, (.load1 (.tmp 2))⟩, ⟨(.some 4), .none, (.move (.tmp 12))⟩]) .ret
def appendSeq_R : RC := .seq (.ac seq_start) (.seq (.seq (.ac seq_seq) (.block 0 (.range (.tmp 6) [7] seq_set seq_body))) (.ac seq_end))
def slices_AppendSeq.Ok (P : Program) (f : Nat) : Prop := rfun P f = some (13, [.tmp 4], appendSeq_R)

theorem ifSome_ifS' {α : Type} (o : Option α) (k : α → Prop) (t : Tag k) : ifSome o k t = ifS o k := by cases o <;> rfl
theorem new_facts' {S : St} (hw : S.Wf) (b : Blk) : ∃ S', Grow S S' ∧ S'.get S.next = some b ∧ S'.next = S.next + 1 ∧ S.new b = S' := ⟨_, (Upd.refl hw _).new b, by simp, rfl, rfl⟩

theorem slices_AppendSeq.spec (hF : slices_AppendSeq.Ok P (N Fn.slices_AppendSeq_Lstring)) (hK1 : maps_Keys_disk_names_1.Ok P N) (hcan : canEnter P (N Fn.maps_Keys_disk_names_1) = true) {i mi : Nat} {fb : Nat → Nat} {ns : List (Nm × Nat)} {own : Bool} {S : St} (hw : S.Wf) (hi : S.get i = some (.cells [.map mi] true)) (hm : NamesAt S mi (entG fb ns) own) (hns : ns.length ≤ 1000000) {K : V → St → Prop}
    (hk : ∀ v xs S', xs.Perm (ns.map (·.1)) → Built S S' 1 v (strE xs) → K v S') :
    CallA P (N Fn.slices_AppendSeq_Lstring) [.nilSlice, .func (.func (N Fn.maps_Keys_disk_names_1)) [] [.ptr i 0]] S (retT [.one .any] K) := by
  refine CallA.of_R (envP_ok P) hF ?_
  simp only [appendSeq_R, wpR]
  simp only [go_sem, seq_start]
  obtain ⟨S2, g2, m2, n2, e2⟩ := new_facts' hw (Blk.cells [V.nilSlice] true)
  rw [e2]
  simp only [go_sem, seq_seq]
  generalize hfr0 : [V.nilSlice, V.func (Fn.func (N Fn.maps_Keys_disk_names_1)) [] [V.ptr i 0], V.ptr S.next 0, V.undef, V.nilSlice, V.undef, V.func (Fn.func (N Fn.maps_Keys_disk_names_1)) [] [V.ptr i 0],
    V.undef, V.undef, V.undef, V.undef, V.undef, V.undef] = fr0
  refine ⟨N Fn.maps_Keys_disk_names_1, _, rfl, hcan, fun l D rec e1 e2' e3 e4 e5 => ?_⟩
  obtain ⟨S5, g5, m5, n5, e5a⟩ := new_facts' g2.wf (Blk.odd D (Obj.deferred (some [])) [])
  obtain ⟨S6, g6, m6, n6, e6a⟩ := new_facts' g5.wf (Blk.odd l (Obj.loop rec) fr0)
  rw [e5a, e6a]
  have hil0 : S2.next + 1 = S.next + 2 := by omega
  have hid0 : S2.next = S.next + 1 := n2
  have hn6 : S6.next = S.next + 3 := by omega
  rw [n5, hid0] at m6
  rw [hid0] at m5
  rw [hil0]
  have mD6 : S6.get (S.next + 1) = some (Blk.odd D (Obj.deferred (some [])) []) := g6.get m5
  have mb6 : S6.get S.next = some (Blk.cells [V.nilSlice] true) := g6.get (g5.get m2)
  have g06 : Grow S S6 := g2.trans (g5.trans g6)
  have hil := hw.lt hi
  have hml := hm.lt hw
  have hbx : S.next ≤ S6.next := by omega
  let J : List Nm → St → Prop := fun pre S' => S'.Wf ∧ S6.next ≤ S'.next ∧ S'.get (S.next + 1) = some (Blk.odd D (Obj.deferred (some [])) []) ∧ S'.get (S.next + 2) = some (Blk.odd l (Obj.loop rec) fr0) ∧
    (∃ v, S'.get S.next = some (.cells [v] true) ∧ Acc S' (S6.next + 1) 1 v pre.length (strsV pre)) ∧ ∀ j, j < S.next → j ≠ mi → S'.get j = S.get j
  have hJ0 : J [] S6 := ⟨g06.wf, Nat.le_refl _, mD6, m6, ⟨_, mb6, Acc.nil _ _ _⟩, fun j hj _ => g06.keep j hj (by simp)⟩
  have hnn : ∀ S' : St, NamesAt S6 mi (entG fb ns) own := fun _ => hm.upd g06 (by simp)
  refine CallA.mono (maps_Keys_1.spec (J := J) (l := l) (i := i) (mi := mi) (jj := S6.next) (ns := ns) (fb := fb) (own := own) (K := fun S' => ∃ xs, xs.Perm (ns.map (·.1)) ∧ J xs S' ∧ S'.get mi = S6.get mi) hK1 g06.wf (g06.get hi) (hnn S6) rfl ?_ (fun pre S1 h => h.1) ?_ hJ0 (fun xs S' h1 h2 h3 => ⟨xs, h1, h2, h3⟩)) ?_
  · rintro pre S1 S2' ⟨w1, hle, hD1, hl1, ⟨v, hv, ha⟩, hfr⟩ u
    refine ⟨u.wf, Nat.le_trans hle u.le, u.get hD1 ?_, u.get hl1 ?_, ⟨v, u.get hv ?_, ha.upd u fun j hj => ?_⟩, fun j hj hne => ?_⟩
    · simp only [List.mem_cons, List.not_mem_nil, or_false]; omega
    · simp only [List.mem_cons, List.not_mem_nil, or_false]; omega
    · simp only [List.mem_cons, List.not_mem_nil, or_false]; omega
    · have := (ha.own j hj).1
      simp only [List.mem_cons, List.not_mem_nil, or_false]; omega
    · rw [u.keep j (by omega) (by simp only [List.mem_cons, List.not_mem_nil, or_false]; omega)]; exact hfr j hj hne
  · rintro pre x S7 K' ⟨w7, hle, hD1, hl1, ⟨v, hv, ha⟩, hfr⟩ hlen hjj hK
    refine CallA.round (envP_ok P) hl1 e1 e3 e4 e5 rfl ?_
    simp only [seq_set, seq_body, putAll, wpA_region, wpA_block, runIs_move, letV_eq, put_some, runIs_nil]
    refine ⟨hl1, ?_⟩
    have u9 : Upd [S.next + 2] S7 (S7.put (S.next + 2) (some (Blk.odd l (Obj.loop { rec with state := .busy }) fr0))) := (Upd.refl w7 [S.next + 2]).put (by omega) (.inr (by simp)) _
    generalize hS9 : S7.put (S.next + 2) (some (Blk.odd l (Obj.loop { rec with state := .busy }) fr0)) = S9 at u9
    have hil9 : S9.get (S.next + 2) = some (Blk.odd l (Obj.loop { rec with state := .busy }) fr0) := by rw [← hS9]; simp
    have n9 : S9.next = S7.next := by rw [← hS9]; rfl
    have hv9 : S9.get S.next = some (.cells [v] true) := u9.get hv (by simp)
    have ha9 := ha.upd u9 fun j hj => by
      have := (ha.own j hj).1
      simp only [List.mem_singleton]; omega
    have hx2 : AX.ev ((fr0.set 7 (V.str x)).set 5 (AX.ev (fr0.set 7 (V.str x)) (AX.tmp 7))) (AX.tmp 2) = V.ptr S.next 0 := by rw [← hfr0]; rfl
    simp only [runIs_load1, hx2, ifSome_ifS']
    refine ifS_mk (ld hv9 rfl) ?_
    simp only [runIs_move, letV_eq, put_some, runIs_buildSlice]
    have hx9 : AX.ev ((((fr0.set 7 (V.str x)).set 5 (AX.ev (fr0.set 7 (V.str x)) (AX.tmp 7))).set 8 v).set 9 (AX.ev (((fr0.set 7 (V.str x)).set 5 (AX.ev (fr0.set 7 (V.str x)) (AX.tmp 7))).set 8 v) (AX.tmp 5))) (AX.tmp 9) = V.str x := by rw [← hfr0]; rfl
    generalize hfr1 : ((((fr0.set 7 (V.str x)).set 5 (AX.ev (fr0.set 7 (V.str x)) (AX.tmp 7))).set 8 v).set 9 (AX.ev (((fr0.set 7 (V.str x)).set 5 (AX.ev (fr0.set 7 (V.str x)) (AX.tmp 7))).set 8 v) (AX.tmp 5))) = fr1 at hx9
    have hx8 : AX.ev (put fr1 (some 10) (V.slice S9.next 0 1 1 1 true)) (AX.tmp 8) = v := by rw [← hfr1, ← hfr0]; rfl
    have hx10 : AX.ev (put fr1 (some 10) (V.slice S9.next 0 1 1 1 true)) (AX.tmp 10) = V.slice S9.next 0 1 1 1 true := by rw [← hfr1, ← hfr0]; rfl
    simp only [List.map_cons, List.map_nil, hx9, ifSome_ifS']
    refine ifS_mk (a := [V.str x]) rfl ?_
    simp only [runIs_app, hx8, hx10, ifSome_ifS']
    obtain ⟨Sa, ga, ma, na, ea⟩ := new_facts' u9.wf (Blk.cells [V.str x] true)
    rw [ea]
    have hs : srcV 1 Sa (.slice S9.next 0 1 1 1 true) = some (1, [V.str x]) := by
      simp only [srcV, if_true]
      rw [St.loads_of ma (by simp)]; rfl
    obtain ⟨v', Sb, eb, ab, ub, tb⟩ := (ha9.grow ga).app ga.wf (by omega) hs rfl rfl (bytes := 16) (by omega) (by omega)
    refine ifS_mk (a := (v', Sb)) eb ?_
    have hx11 : ∀ w : V, AX.ev (put (put fr1 (some 10) (V.slice S9.next 0 1 1 1 true)) (some 11) w) (AX.tmp 11) = w := fun w => by rw [← hfr1, ← hfr0]; rfl
    have hx2' : ∀ w : V, AX.ev (put (put fr1 (some 10) (V.slice S9.next 0 1 1 1 true)) (some 11) w) (AX.tmp 2) = V.ptr S.next 0 := fun w => by rw [← hfr1, ← hfr0]; rfl
    simp only [runIs_store, hx11, hx2', ifSome_ifS']
    have hvb : ∀ j ∈ v.block, S6.next + 1 ≤ j := fun j hj => (ha.own j hj).1
    have hvb' : ∀ j ∈ v'.block, S6.next + 1 ≤ j := fun j hj => (ab.own j hj).1
    have nvb : ∀ j, j ≤ S6.next → j ∉ v.block := fun j hj hm => by have := hvb j hm; omega
    have hb1 : Sb.get S.next = some (.cells [v] true) := ub.get (ga.get hv9) (nvb _ (by omega))
    refine st_mk ub.wf hb1 (by rw [ab.at_.cells1]; rfl) (by rw [ab.at_.cells1]; simp) (by rw [ab.at_.cells1]; simp [ab.at_.one1]) fun Sc uc mc nc => ?_
    rw [ab.at_.cells1] at mc
    simp only [over] at mc
    simp only [put_none, runIs_nil, blockQ_normal]
    have hilc : Sc.get (S.next + 2) = some (Blk.odd l (Obj.loop { rec with state := .busy }) fr0) := uc.get (ub.get (ga.get hil9) (nvb _ (by omega))) (by simp)
    refine ⟨hilc, true, rfl, ?_⟩
    have hrec : ({ rec with state := .ready, pending := none } : Loop) = rec := by cases rec; simp only at e1 e2'; subst e1; subst e2'; rfl
    rw [hrec]
    have lec := uc.le; have leb := ub.le; have lea := ga.le
    have ud : Upd [S.next + 2] Sc (Sc.put (S.next + 2) (some (Blk.odd l (Obj.loop rec) fr0))) := (Upd.refl uc.wf [S.next + 2]).put (by omega) (.inr (by simp)) _
    have ild : (Sc.put (S.next + 2) (some (Blk.odd l (Obj.loop rec) fr0))).get (S.next + 2) = some (Blk.odd l (Obj.loop rec) fr0) := by simp
    generalize Sc.put (S.next + 2) (some (Blk.odd l (Obj.loop rec) fr0)) = Sd at ud ild
    have led := ud.le
    have keep : ∀ j, j ≤ S6.next → j ≠ S.next → j ≠ S.next + 2 → Sd.get j = S7.get j := fun j h1 h2 h3 => by
      rw [ud.keep j (by omega) (by simpa using h3), uc.keep j (by omega) (by simpa using h2), ub.keep j (by omega) (nvb j h1), ga.keep j (by omega) (by simp), u9.keep j (by omega) (by simpa using h3)]
    have hsv : strsV (pre ++ [x]) = strsV pre ++ [V.str x] := by simp [strsV]
    refine hK Sd ⟨ud.wf, by omega, ?_, ild, ⟨v', ud.get mc (by simp), ?_⟩, fun j hj hne => ?_⟩ (Upd.refl ud.wf _) ?_ ?_ (by omega)
    · rw [keep _ (by omega) (by omega) (by omega)]; exact hD1
    · rw [hsv]
      have := (ab.upd uc fun j hj => by have := hvb' j hj; simp only [List.mem_singleton]; omega).upd ud fun j hj => by have := hvb' j hj; simp only [List.mem_singleton]; omega
      simpa using this
    · rw [keep j (by omega) (by omega) (by omega)]; exact hfr j hj hne
    · exact keep mi (by omega) (by omega) (by omega)
    · exact keep S6.next (Nat.le_refl _) (by omega) (by omega)
  · rintro r S7 ⟨rfl, xs, hxs, ⟨w7, hle, hD1, hl1, ⟨v, hv, ha⟩, hfr⟩, hmi⟩
    refine ⟨hl1, ?_⟩
    have u8 : Upd [S.next + 2] S7 (S7.put (S.next + 2) (some (Blk.odd l (Obj.loop { rec with state := .exhausted }) fr0))) := (Upd.refl w7 [S.next + 2]).put (by omega) (.inr (by simp)) _
    generalize S7.put (S.next + 2) (some (Blk.odd l (Obj.loop { rec with state := .exhausted }) fr0)) = S8 at u8
    have hv8 : S8.get S.next = some (.cells [v] true) := u8.get hv (by simp)
    have hD8 : S8.get (S.next + 1) = some (Blk.odd D (Obj.deferred (some [])) []) := u8.get hD1 (by simp)
    have hev2 : AX.ev fr0 (AX.tmp 2) = V.ptr S.next 0 := by rw [← hfr0]; rfl
    have hev12 : AX.ev (fr0.set 12 v) (AX.tmp 12) = v := by rw [← hfr0]; rfl
    simp only [seq_end, wpA_seq, wpA_region, runIs_load1, hev2, ifSome_ifS']
    refine ifS_mk (ld hv8 rfl) ?_
    simp only [runIs_move, letV_eq, put_some, runIs_nil, thenQ_normal, wpA_ret, endW_ret, hev12]
    have le8 := u8.le
    refine ⟨D, S.next + 1, rfl, hD8, ?_⟩
    simp only [leaveD_nil]
    have u10 : Upd [S.next + 1] S8 (S8.put (S.next + 1) (some (Blk.odd D (Obj.deferred none) []))) := (Upd.refl u8.wf [S.next + 1]).put (by omega) (.inr (by simp)) _
    generalize S8.put (S.next + 1) (some (Blk.odd D (Obj.deferred none) [])) = S10 at u10
    have le10 := u10.le
    have hvb : ∀ j ∈ v.block, S6.next + 1 ≤ j := fun j hj => (ha.own j hj).1
    have gg : Grow S S10 := by
      refine ⟨hw, u10.wf, by omega, fun j hj _ => ?_⟩
      rw [u10.keep j (by omega) (by simp only [List.mem_singleton]; omega), u8.keep j (by omega) (by simp only [List.mem_singleton]; omega)]
      by_cases hj2 : j = mi
      · subst hj2
        rw [hmi]; exact g06.keep _ hml (by simp)
      · exact hfr j hj hj2
    have fin : retT [.one .any] K (.ret (tupled [v])) S10 := by
      refine ⟨v, rfl, hk v xs S10 hxs ⟨gg, ?_, by simp [strE]⟩⟩
      have := ((ha.below (B' := S.next) (by omega)).upd u8 fun j hj => by have := hvb j hj; simp only [List.mem_singleton]; omega).upd u10 fun j hj => by have := hvb j hj; simp only [List.mem_singleton]; omega
      rw [strE_flat, strE_len]; exact this
    rw [← hfr0]
    exact fin

end Go.Th.L
end

section
/- The disk's Names; what choices say. -/
set_option linter.unusedSimpArgs false
set_option linter.unusedVariables false
set_option maxHeartbeats 1000000
namespace Go.Th.L
open Go Go.Th Go.Th.Pure
variable {P : Program} {N : Nat → Nat}

def srtN (l : List Nm) : List Nm := l.mergeSort fun x y => decide (x ≤ y)
abbrev SortsStr (P : Program) (f : FuncId) : Prop := ∀ {S0 S : St} {v : V} {l : List Nm} {K : St → Prop}, Built S0 S 1 v (strE l) → l.length ≤ 1000000 → (∀ S', Built S0 S' 1 v (strE (srtN l)) → K S') → CallA P f [v] S (retT [] K)

theorem srtN_of {xs : List Nm} {l : List (Nm × Nat)} (hs : SrtK l) (hp : xs.Perm (l.map (·.1))) : srtN xs = l.map (·.1) := by
  have h1 : (srtN xs).Pairwise (fun a b => decide (a ≤ b) = true) := List.pairwise_mergeSort (fun a b c h k => by
    simp only [decide_eq_true_eq] at h k ⊢
    exact List.le_trans h k) (fun a b => by
    simp only [Bool.or_eq_true, decide_eq_true_eq]
    exact List.le_total a b) xs
  have h2 : (l.map (·.1)).Pairwise (fun a b => decide (a ≤ b) = true) := by
    rw [List.pairwise_map]
    refine hs.imp fun hab => ?_
    simp only [decide_eq_true_eq]
    exact List.le_of_lt hab
  refine List.Perm.eq_of_pairwise (fun a b _ _ x y => ?_) h1 h2 ((List.mergeSort_perm _ _).trans hp)
  simp only [decide_eq_true_eq] at x y
  exact List.le_antisymm x y

structure NamesF (P : Program) (N : Nat → Nat) : Prop where
  names : disk_Disk_Names.Ok P N
  keys : maps_Keys_disk_names.Ok P N
  keys1 : maps_Keys_disk_names_1.Ok P N
  can : canEnter P (N Fn.maps_Keys_disk_names_1) = true
  sorted : slices_Sorted_string.Ok P N
  collect : slices_Collect_string.Ok P N
  append : slices_AppendSeq.Ok P (N Fn.slices_AppendSeq_Lstring)
  sort : SortsStr P (N Fn.slices_Sort_Lstring)

theorem disk_Disk_Names.spec (hO : DiskF P N) (hN : NamesF P N) {S : St} (hw : S.Wf) {o : Bool} {q : DP} {r : DiskR} (h : DiskRd S o q r) {nf : Nat} (hst : StOk nf r.now) {K : V → St → Prop} (hk : ∀ v S', Built S S' 1 v (strE (namesR r)) → K v S') :
    CallA P (N Fn.disk_Disk_Names) [.ptr q.d 0] S (retT [.one .any] K) := by
  refine disk_Disk_Names.run hN.names (disk_Disk_ready.spec hO.ready hO.down h (fun hd => ifC_ndec (fun _ => ?_) (fun h' => by omega)) (fun hd => ifC_ndec (fun h' => absurd rfl h') (fun _ => ?_)))
  · have e : namesR r = [] := by simp [namesR, hd]
    rw [e] at hk; exact hk _ S (Built.nil (Upd.refl hw _) 1)
  have e : namesR r = r.now.map (·.1) := by simp [namesR, hd]
  rw [e] at hk
  refine ⟨rfl, ifS_mk (a := .ptr q.d 1) rfl (ifS_mk (ld h.obj rfl) (maps_Keys_disk_names.run hN.keys (newS_mk hw fun S2 g2 m2 n2 => ?_)))⟩
  have hl := hst.len
  refine slices_Sorted_string.run hN.sorted (slices_Collect_string.run hN.collect (slices_AppendSeq.spec hN.append hN.keys1 hN.can g2.wf m2 (h.now.upd g2 (by simp)) (by omega) fun v xs S3 hxs hB => ?_))
  have hxl : xs.length ≤ 64 := by rw [hxs.length_eq, List.length_map]; exact hl
  refine hN.sort hB (by omega) fun S4 hB4 => hk v S4 ?_
  rw [srtN_of hst.sorted hxs] at hB4
  exact ⟨g2.trans hB4.grow, hB4.acc.below g2.le, hB4.each⟩

theorem disk_says.spec (hF : disk_says.Ok P N) {S : St} {c : Int} (hc : -9223372036854775808 ≤ c ∧ c ≤ 9223372036854775807) {n : Nat} (hn : n < 4611686018427387904) {K : Int → St → Prop} (hk : K (saysR c n : Nat) S) : CallA P (N Fn.disk_says) [.int .i64 c, .int .i64 n] S (retT [.one (.int .i64)] K) := by
  refine disk_says.run hF (Join1.mid (fun x S' => x = (if c < 0 then -(c + 1) else c) ∧ S' = S) (ifC_dec (fun h => ?_) (fun h => ⟨by rw [if_neg h], rfl⟩)) ?_)
  · refine setI_mk (n := c + 1) (by rw [IntKind.wrap_i64]; omega) (setI_mk (n := -(c + 1)) (by rw [IntKind.wrap_i64]; omega) ⟨by rw [if_pos h], rfl⟩)
  · rintro x S' ⟨rfl, rfl⟩
    refine setI_mk (n := ((n + 1 : Nat) : Int)) (by rw [IntKind.wrap_i64]; omega) ⟨by omega, setI_mk (n := ((saysR c n : Nat) : Int)) ?_ hk⟩
    have h0 : 0 ≤ (if c < 0 then -(c + 1) else c) := by split <;> omega
    obtain ⟨m, hm⟩ := Int.eq_ofNat_of_zero_le h0
    unfold saysR
    rw [hm, Int.toNat_natCast]
    exact rfl

theorem SlAt.none_ {S S' : St} {k : Nat} {v : V} {cs : List V} (h : SlAt S k v 0 cs) : SlAt S' k v 0 cs := by
  obtain ⟨a, b, c⟩ := h
  have hc : cs = [] := List.length_eq_zero_iff.mp (by omega)
  subst hc
  refine ⟨a, b, ?_⟩
  rcases c with c | ⟨i, o, c, t, e, h1, h2⟩
  · exact .inl c
  · refine .inr ⟨i, o, c, t, e, h1, ?_⟩
    simp [St.loads]
theorem ints_none {S S' : St} {v : V} (h : IntsAt S v []) : IntsAt S' v [] := SlAt.none_ h
def ChAt (S : St) (cb : Nat) (bl : List Nat) (l : List Int) : Prop := ∃ w, S.get cb = some (.cells [w] true) ∧ IntsAt S w l ∧ (l ≠ [] → ∀ i ∈ w.block, i ∈ bl)
theorem ChAt.upd {X : List Nat} {S S' : St} {cb : Nat} {bl : List Nat} {l : List Int} (h : ChAt S cb bl l) (u : Upd X S S') (h1 : cb ∉ X) (h2 : ∀ i ∈ bl, i ∉ X) : ChAt S' cb bl l := by
  obtain ⟨w, a, b, c⟩ := h
  refine ⟨w, u.get a h1, ?_, c⟩
  by_cases hl : l = []
  · subst hl; exact ints_none b
  · exact SlAt.upd b u fun i hi => h2 i (c hl i hi)

theorem ints_sub {S : St} {v : V} {l : List Int} (hv : IntsAt S v l) (h : 0 < l.length) : ∃ v', sliceSlV 1 v (some (.int .i64 1)) none none = some v' ∧ IntsAt S v' l.tail ∧ ∀ i ∈ v'.block, i ∈ v.block := by
  obtain ⟨v', e, a, b⟩ := SlAt.sub hv (lo := some (.int .i64 1)) (hi := none) (l := 1) (h := l.length) (c := 0) (fun cap hc => bnds_l (l := 1) (by omega)) (by omega) (Nat.le_refl _)
  refine ⟨v', e, ?_, b⟩
  have hl : (intsV .i64 l).length = l.length := intsV_length _ _
  have : ((intsV .i64 l).drop (1 * 1)).take ((l.length - 1) * 1) = intsV .i64 l.tail := by
    rw [Nat.mul_one, Nat.mul_one, List.take_of_length_le (by rw [List.length_drop, hl]; omega)]
    cases l <;> simp [intsV]
  rw [this] at a
  have hlt : l.length - 1 = l.tail.length := by simp
  rw [hlt] at a
  exact a

theorem disk_Crash_1.spec (hF : disk_Disk_Crash_1.Ok P N) {S : St} (hw : S.Wf) {cb : Nat} {bl : List Nat} {l : List Int} (h : ChAt S cb bl l) (hb : cb ∉ bl) {K : Int → St → Prop} (hk : ∀ S', ChAt S' cb bl l.tail → Upd [cb] S S' → S'.next = S.next → K (l.headD 0) S') :
    CallA P (N Fn.disk_Disk_Crash_1) [.ptr cb 0] S (retT [.one (.int .i64)] K) := by
  obtain ⟨w, h1, h2, h3⟩ := h
  refine disk_Disk_Crash_1.run hF (ifS_mk (ld h1 rfl) ⟨_, h2.length, ifC_dec (fun h0 => ?_) (fun h0 => ?_)⟩)
  · have : l = [] := List.length_eq_zero_iff.mp (by omega)
    subst this
    exact hk S ⟨w, h1, h2, h3⟩ (Upd.refl hw _) rfl
  · cases l with
    | nil => exact absurd rfl h0
    | cons a l =>
      obtain ⟨v', e, a', b'⟩ := ints_sub h2 (by simp)
      have hgt : loadV S (eltV 1 w 0 0) = some (.int .i64 a) := h2.get (j := 0) (by simp)
      refine ifS_mk (ld h1 rfl) (ifS_mk (h2.idx (j := 0) (by simp)) ⟨a, hgt, ifS_mk (ld h1 rfl) (ifS_mk e (st_mk hw h1 (by rw [a'.cells1]; rfl) (by rw [a'.cells1]; simp) (by rw [a'.cells1]; simp [a'.one1]) fun S1 u1 m1 n1 => hk S1 ⟨v', ?_, SlAt.upd a' u1 fun i hi => ?_, fun _ i hi => h3 (by simp) i (b' i hi)⟩ u1 n1))⟩)
      · rw [m1, a'.cells1]; rfl
      · simp only [List.mem_singleton]
        rintro rfl
        exact hb (h3 (by simp) _ (b' _ hi))

end Go.Th.L
end

section
/- The disk crashes. -/
set_option linter.unusedSimpArgs false
set_option linter.unusedVariables false
set_option maxHeartbeats 1000000
namespace Go.Th.L
open Go Go.Th Go.Th.Pure
variable {P : Program} {N : Nat → Nat}

theorem flatten_takeN {α : Type} {k : Nat} : ∀ {es : List (List α)} (_ : ∀ e ∈ es, e.length = k) (m : Nat), es.flatten.take (m * k) = (es.take m).flatten
  | [], _, m => by simp
  | e :: es, h, 0 => by simp
  | e :: es, h, m + 1 => by
    have he := h e (by simp)
    have ih := flatten_takeN (es := es) (fun e he => h e (by simp [he])) m
    simp only [List.flatten_cons, List.take_succ_cons]
    rw [List.take_append, List.take_of_length_le (by rw [he, Nat.add_mul]; omega), he]
    congr 1
    rw [show (m + 1) * k - k = m * k by rw [Nat.add_mul]; omega]
    exact ih

theorem SlE.first {S : St} {k : Nat} {v : V} {es : List (List V)} (h : SlE S k v es) {m : Nat} (hm : m ≤ es.length) : ∃ v', sliceSlV k v none (some (.int .i64 (m : Nat))) none = some v' ∧ SlE S k v' (es.take m) ∧ ∀ i ∈ v'.block, i ∈ v.block := by
  obtain ⟨v', e, a, b⟩ := SlAt.sub h.1 (lo := none) (hi := some (.int .i64 (m : Nat))) (l := 0) (h := m) (c := 0) (fun cap hc => bnds_h (h := m) (by omega)) (by omega) hm
  refine ⟨v', e, ⟨?_, fun x hx => h.2 x (List.mem_of_mem_take hx)⟩, b⟩
  rw [Nat.zero_mul, List.drop_zero, Nat.sub_zero, flatten_takeN h.2] at a
  have : (es.take m).length = m := by rw [List.length_take]; omega
  rw [this]; exact a

theorem clear_mk {S : St} (hw : S.Wf) {B : Nat} {v : V} {bs : List UInt8} (h : Acc S B 1 v bs.length (bytesV bs)) {a : Nat} (ha : a ≤ bs.length) {K : St → Prop}
    (hk : ∀ S', Acc S' B 1 v bs.length (bytesV (bs.take a ++ List.replicate (bs.length - a) 0)) → Upd v.block S S' → K S') : ifS (sliceSlV 1 v (some (.int .i64 (a : Nat))) none none) fun x => ifS (clearV S 1 [V.int .u8 0] x) K := by
  obtain ⟨v', e, a1, b1⟩ := SlAt.sub h.at_ (lo := some (.int .i64 (a : Nat))) (hi := none) (l := a) (h := bs.length) (c := 0) (fun cap hc => bnds_l (l := a) ha) ha (Nat.le_refl _)
  refine ifS_mk e ?_
  by_cases h0 : bs.length - a = 0
  · have haa : a = bs.length := by omega
    refine ifS_mk (a := S) ?_ (hk S ?_ (Upd.refl hw _))
    · rcases a1.2.2 with ⟨rfl, _⟩ | ⟨i, o, c, t, rfl, _⟩
      · rfl
      · simp [clearV, rClear, AX.ev, h0]
    · rw [h0, haa, List.take_length]; simpa using h
  · have hre : reps (bs.length - a) [V.int .u8 0] = bytesV (List.replicate (bs.length - a) 0) := by
      rw [reps_nums]
      simp [intsV, bytesV]
    obtain ⟨S', e2, a2, u2⟩ := h.write hw (a := a) (xs := bytesV (List.replicate (bs.length - a) 0)) (bytesV_ones _) (by rw [bytesV_length, List.length_replicate]; omega) (by rw [bytesV_length, List.length_replicate]; omega)
    refine ifS_mk (a := S') ?_ (hk S' ?_ u2)
    · rcases h.at_.2.2 with ⟨rfl, hz⟩ | ⟨i, o, c, t, rfl, hc, hl⟩
      · omega
      · have hs : sliceSlV 1 (V.slice i o bs.length c 1 t) (some (.int .i64 (a : Nat))) none none = some (V.slice i (o + a * 1) (bs.length - a) (c - a) 1 (t || false)) := by
          simp [sliceSlV, bnds_l ha]
        rw [hs] at e
        simp only [Option.some.injEq] at e
        subst e
        have e3 : S.stores i (o + a * 1) (bytesV (List.replicate (bs.length - a) 0)) = some S' := by rw [Nat.mul_one]; exact e2
        simp only [clearV, rClear, AX.ev, ne_eq, not_true_eq_false, if_false, if_neg h0, hre, e3]
    · have : over (bytesV bs) a (bytesV (List.replicate (bs.length - a) 0)) = bytesV (bs.take a ++ List.replicate (bs.length - a) 0) := by
        rw [over_at (by rw [bytesV_length, bytesV_length, List.length_replicate]; omega)]
        rw [List.drop_of_length_le (by rw [bytesV_length, bytesV_length, List.length_replicate]; omega), List.append_nil]
        simp [bytesV, List.map_take]
      rw [← this]; exact a2

structure DiskMid (S : St) (D B : List Nat) (q : DP) (sb cv : V) (r : DiskR) : Prop where
  obj : S.get q.d = some (.cells [.int .i64 r.room, .map q.bn, sb, cv, .int .i64 r.steps, .bool (stopsR r), .int .i64 (leftC r)] true)
  now : NamesAt S q.bn (entG q.fb r.now)
  fl : ∀ k, q.lv k → S.get (q.fb k) = some (.cells [q.bv k, .int .i64 ((r.fl k).safe : Nat)] true) ∧ Acc S 0 1 (q.bv k) (r.fl k).b.length (bytesV (r.fl k).b)
  inj : ∀ k k', q.lv k → q.lv k' → q.fb k = q.fb k' → k = k'
  lvN : ∀ p ∈ r.now, q.lv p.2
  lvI : ∀ k, q.lv k → k < r.files.length
  dD : q.d ∈ D
  dN : q.bn ∈ D
  dF : ∀ k, q.lv k → q.fb k ∈ D
  dB : ∀ k, q.lv k → ∀ i ∈ (q.bv k).block, i ∈ B
  ltD : ∀ i ∈ D, i < S.next
  ltB : ∀ i ∈ B, i < S.next
  apart : ∀ i ∈ D, i ∉ B
  ne1 : q.bn ≠ q.d
  neF : ∀ k, q.lv k → q.fb k ≠ q.d ∧ q.fb k ≠ q.bn

theorem DiskMid.upd {X : List Nat} {S S' : St} {D B : List Nat} {q : DP} {sb cv : V} {r : DiskR} (h : DiskMid S D B q sb cv r) (u : Upd X S S') (h1 : ∀ i ∈ X, i ∉ D) (h2 : ∀ i ∈ X, i ∉ B) : DiskMid S' D B q sb cv r := by
  have nd : ∀ i ∈ D, i ∉ X := fun i hi hx => h1 i hx hi
  have nb : ∀ i ∈ B, i ∉ X := fun i hi hx => h2 i hx hi
  exact { h with obj := u.get h.obj (nd _ h.dD), now := h.now.upd u (nd _ h.dN), fl := fun k hk => ⟨u.get (h.fl k hk).1 (nd _ (h.dF k hk)), (h.fl k hk).2.upd u fun i hi => nb _ (h.dB k hk i hi)⟩, ltD := fun i hi => Nat.lt_of_lt_of_le (h.ltD i hi) u.le, ltB := fun i hi => Nat.lt_of_lt_of_le (h.ltB i hi) u.le }

def DP.re (q : DP) (k b : Nat) (v : V) : DP := { q with fb := fun j => if j = k then b else q.fb j, bv := fun j => if j = k then v else q.bv j }

theorem entG_re {q : DP} {l : List (Nm × Nat)} (hn : NodK l) (hi : (l.map (·.2)).Nodup) {n : Nm} {k b : Nat} {v : V} (hm : (n, k) ∈ l) : ((n, V.ptr b 0) :: dropK (entG q.fb l) n).Perm (entG (q.re k b v).fb l) := by
  obtain ⟨a, c, rfl⟩ := List.append_of_mem hm
  have ha : ∀ p ∈ a ++ c, p.1 ≠ n ∧ p.2 ≠ k := by
    intro p hp
    rw [NodK, List.map_append, List.map_cons, List.nodup_append] at hn
    rw [List.map_append, List.map_cons, List.nodup_append] at hi
    obtain ⟨_, n2, n3⟩ := hn
    obtain ⟨_, i2, i3⟩ := hi
    rw [List.nodup_cons] at n2 i2
    rcases List.mem_append.mp hp with hp | hp
    · exact ⟨fun e => n3 p.1 (List.mem_map_of_mem (f := (·.1)) hp) n (by simp) e, fun e => i3 p.2 (List.mem_map_of_mem (f := (·.2)) hp) k (by simp) e⟩
    · exact ⟨fun e => n2.1 (by rw [← e]; exact List.mem_map_of_mem (f := (·.1)) hp), fun e => i2.1 (by rw [← e]; exact List.mem_map_of_mem (f := (·.2)) hp)⟩
  rw [drop_entG]
  have e1 : dropK (a ++ (n, k) :: c) n = a ++ c := by
    rw [dropK, List.filter_append, List.filter_cons_of_neg (by simp)]
    have h1 : a.filter (fun p => !decide (p.1 = n)) = a := List.filter_eq_self.2 fun p hp => by simpa using (ha p (List.mem_append_left _ hp)).1
    have h2 : c.filter (fun p => !decide (p.1 = n)) = c := List.filter_eq_self.2 fun p hp => by simpa using (ha p (List.mem_append_right _ hp)).1
    rw [h1, h2]
  rw [e1]
  have e2 : entG q.fb (a ++ c) = entG (q.re k b v).fb (a ++ c) := entG_congr fun p hp => by simp only [DP.re, if_neg (ha p hp).2]
  rw [e2]
  have e3 : entG (q.re k b v).fb (a ++ (n, k) :: c) = entG (q.re k b v).fb a ++ (n, V.ptr b 0) :: entG (q.re k b v).fb c := by simp [entG, DP.re]
  have e4 : entG (q.re k b v).fb (a ++ c) = entG (q.re k b v).fb a ++ entG (q.re k b v).fb c := by simp [entG]
  rw [e3, e4]
  exact List.perm_middle.symm

theorem DiskMid.re {S S' : St} {D B : List Nat} {q : DP} {sb cv : V} {r : DiskR} {X : List Nat} (h : DiskMid S D B q sb cv r) {nf : Nat} (hst : StOk nf r.now) {n : Nm} {k b : Nat} {v : V} {f : FileR} (hm : (n, k) ∈ r.now) (u : Upd X S S') (hX : ∀ i ∈ X, i = q.bn ∨ S.next ≤ i) (hb : S.next ≤ b ∧ b < S'.next)
    (g : S'.get b = some (.cells [v, .int .i64 (f.safe : Nat)] true)) (a : Acc S' 0 1 v f.b.length (bytesV f.b)) (hv : ∀ i ∈ v.block, S.next ≤ i ∧ i ≠ b) (hn : NamesAt S' q.bn ((n, .ptr b 0) :: dropK (entG q.fb r.now) n)) :
    DiskMid S' (b :: D) (B ++ v.block) (q.re k b v) sb cv (setFl r k f) := by
  have hlv := h.lvN _ hm
  have hkl := h.lvI k hlv
  have hlen : (setFl r k f).files.length = r.files.length := by simp [setFl]
  have dl : ∀ i ∈ D, i ≠ b := fun i hi e => by have := h.ltD i hi; omega
  have nX : ∀ i, i < S.next → i ≠ q.bn → i ∉ X := fun i hi hne hx => by
    rcases hX i hx with h' | h'
    · exact hne h'
    · omega
  have hvlt : ∀ i ∈ v.block, i < S'.next := fun i hi => by
    obtain ⟨_, vs, hg⟩ := a.own i hi
    exact u.wf.lt hg
  refine ⟨u.get h.obj (nX _ (h.ltD _ h.dD) fun e => h.ne1 e.symm), hn.perm (entG_re hst.sorted.nod hst.inj hm), fun j hj => ?_, fun j j' hj hj' e => ?_, h.lvN, by rw [hlen]; exact h.lvI, List.mem_cons_of_mem _ h.dD, List.mem_cons_of_mem _ h.dN, fun j hj => ?_, fun j hj i hi => ?_, fun i hi => ?_, fun i hi => ?_, fun i hi hB => ?_, h.ne1, fun j hj => ?_⟩
  · rw [fl_set hkl]
    by_cases e : j = k
    · subst e
      simp only [DP.re, if_true]
      exact ⟨g, a⟩
    · simp only [DP.re, if_neg e]
      obtain ⟨f1, f2⟩ := h.fl j hj
      exact ⟨u.get f1 (nX _ (h.ltD _ (h.dF j hj)) (h.neF j hj).2), f2.upd u fun i hi => nX i (h.ltB i (h.dB j hj i hi)) fun e => h.apart _ h.dN (by rw [← e]; exact h.dB j hj i hi)⟩
  · by_cases e1 : j = k <;> by_cases e2 : j' = k
    · rw [e1, e2]
    · simp only [DP.re, if_pos e1, if_neg e2] at e
      exact absurd e.symm (dl _ (h.dF j' hj'))
    · simp only [DP.re, if_neg e1, if_pos e2] at e
      exact absurd e (dl _ (h.dF j hj))
    · simp only [DP.re, if_neg e1, if_neg e2] at e
      exact h.inj j j' hj hj' e
  · by_cases e : j = k
    · simp only [DP.re, if_pos e]; exact List.mem_cons_self
    · simp only [DP.re, if_neg e]; exact List.mem_cons_of_mem _ (h.dF j hj)
  · by_cases e : j = k
    · simp only [DP.re, if_pos e] at hi; exact List.mem_append_right _ hi
    · simp only [DP.re, if_neg e] at hi; exact List.mem_append_left _ (h.dB j hj i hi)
  · rcases List.mem_cons.mp hi with rfl | hi
    · exact hb.2
    · exact Nat.lt_of_lt_of_le (h.ltD i hi) u.le
  · rcases List.mem_append.mp hi with hi | hi
    · exact Nat.lt_of_lt_of_le (h.ltB i hi) u.le
    · exact hvlt i hi
  · rcases List.mem_cons.mp hi with rfl | hi <;> rcases List.mem_append.mp hB with hB | hB
    · have := h.ltB _ hB; omega
    · exact (hv _ hB).2 rfl
    · exact h.apart i hi hB
    · have := h.ltD i hi; have := (hv i hB).1; omega
  · by_cases e : j = k
    · simp only [DP.re, if_pos e]
      exact ⟨fun e' => dl _ h.dD e'.symm, fun e' => dl _ h.dN e'.symm⟩
    · simp only [DP.re, if_neg e]; exact h.neF j hj

theorem crashFs_snoc (cs : List Int) : ∀ (l : List (Nm × Nat)) (p : Nm × Nat) (i : Nat) (fs : List FileR), crashFs cs (l ++ [p]) i fs = (crashFs cs l i fs).set p.2 (cutF (choiceR cs (i + l.length + 1)) ((crashFs cs l i fs).getD p.2 ⟨[], 0⟩))
  | [], p, i, fs => by simp [crashFs]
  | x :: l, p, i, fs => by
    rw [List.cons_append, crashFs, crashFs_snoc cs l p (i + 1), crashFs]
    congr 3
    simp only [List.length_cons]
    congr 1; omega

end Go.Th.L
end

section
/- The disk crashes: the walk. -/
set_option linter.unusedSimpArgs false
set_option linter.unusedVariables false
set_option maxHeartbeats 2000000
namespace Go.Th.L
open Go Go.Th Go.Th.Pure
variable {P : Program} {N : Nat → Nat}

structure CrashF (P : Program) (N : Nat → Nat) : Prop where
  f : DiskF P N
  n : NamesF P N
  crash : disk_Disk_Crash.Ok P N
  c1 : disk_Disk_Crash_1.Ok P N
  can : canEnter P (N Fn.disk_Disk_Crash_1) = true
  says : disk_says.Ok P N
  clone : slices_Clone_Lbyte.Ok P N
  maps : MapsClone P (N Fn.maps_Clone_disk_names)

theorem stsR_succ {r : DiskR} {i : Nat} (h : i < r.chs.length) : stsR r (i + 1) = applyR (stsR r i) r.chs[i] := by
  simp only [stsR]
  rw [List.take_add_one, List.getElem?_eq_getElem h, Option.toList_some, List.foldl_append]
  rfl

theorem drop_head {cs : List Int} {i : Nat} : (cs.drop i).headD 0 = choiceR cs i := by
  unfold choiceR
  rw [List.headD_eq_head?_getD, List.head?_drop, List.getD_eq_getElem?_getD]
theorem drop_tail {cs : List Int} {i : Nat} : (cs.drop i).tail = cs.drop (i + 1) := by rw [List.tail_drop]

theorem bytes_first {S : St} {v : V} {b : List UInt8} (hv : BytesAt S v b) {m : Nat} (hm : m ≤ b.length) : ∃ v', sliceSlV 1 v none (some (.int .i64 (m : Nat))) none = some v' ∧ BytesAt S v' (b.take m) ∧ ∀ i ∈ v'.block, i ∈ v.block := by
  obtain ⟨v', e, a, c⟩ := SlAt.sub hv (lo := none) (hi := some (.int .i64 (m : Nat))) (l := 0) (h := m) (c := 0) (fun cap hc => bnds_h (h := m) (by omega)) (by omega) hm
  refine ⟨v', e, ?_, c⟩
  rw [Nat.zero_mul, List.drop_zero, Nat.sub_zero, Nat.mul_one] at a
  have h1 : (bytesV b).take m = bytesV (b.take m) := by simp [bytesV, List.map_take]
  have h2 : (b.take m).length = m := by rw [List.length_take]; omega
  rw [h1] at a
  show SlAt S 1 v' (b.take m).length (bytesV (b.take m))
  rw [h2]; exact a

theorem DiskMid.safe {S S' : St} {D B : List Nat} {q : DP} {sb cv : V} {r : DiskR} (h : DiskMid S D B q sb cv r) {bs : Nat} (u : Upd [q.d] S S') (hb : S.next ≤ bs ∧ bs < S'.next) (hn : NamesAt S' bs (entG q.fb r.now)) (g : S'.get q.d = some (.cells [.int .i64 r.room, .map q.bn, .map bs, .nilSlice, .int .i64 r.steps, .bool (stopsR r), .int .i64 (leftC r)] true)) :
    DiskIn S' (bs :: D) B { q with bs := bs, cv := .nilSlice } { r with safe := r.now, chs := [] } := by
  have nD : ∀ i ∈ D, i ≠ bs := fun i hi e => by have := h.ltD i hi; omega
  refine ⟨g, h.now.upd u (by simp only [List.mem_singleton]; exact h.ne1), hn, Acc.nil _ _ _, fun k hk => ?_, h.inj, h.lvN, h.lvN, by simp, h.lvI, List.mem_cons_of_mem _ h.dD, List.mem_cons_of_mem _ h.dN, List.mem_cons_self, by simp [V.block], fun k hk => List.mem_cons_of_mem _ (h.dF k hk), h.dB, fun i hi => ?_, fun i hi => Nat.lt_of_lt_of_le (h.ltB i hi) u.le, fun i hi hB => ?_, h.ne1, fun e => nD _ h.dD e.symm, fun e => nD _ h.dN e, by simp [V.block], fun k hk => ⟨(h.neF k hk).1, (h.neF k hk).2, nD _ (h.dF k hk)⟩⟩
  · obtain ⟨f1, f2⟩ := h.fl k hk
    refine ⟨u.get f1 (by simp only [List.mem_singleton]; exact (h.neF k hk).1), f2.upd u fun i hi => ?_⟩
    simp only [List.mem_singleton]
    rintro rfl
    exact h.apart _ h.dD (h.dB k hk _ hi)
  · rcases List.mem_cons.mp hi with rfl | hi
    · exact hb.2
    · exact Nat.lt_of_lt_of_le (h.ltD i hi) u.le
  · rcases List.mem_cons.mp hi with rfl | hi
    · have := h.ltB _ hB; omega
    · exact h.apart i hi hB

theorem DiskIn.mid {S : St} {D B : List Nat} {q : DP} {r : DiskR} (h : DiskIn S D B q r) : DiskMid S D B q (.map q.bs) q.cv r :=
  ⟨h.obj, h.now, h.fl, h.inj, h.lvN, h.lvI, h.dD, h.dN, h.dF, h.dB, h.ltD, h.ltB, h.apart, h.ne1, fun k hk => ⟨(h.neF k hk).1, (h.neF k hk).2.1⟩⟩

theorem cutF_b (c : Int) (f : FileR) : (cutF c f).b = if c < 0 then (f.b.take (f.safe + saysR c (f.b.length - f.safe))).take f.safe ++ List.replicate ((f.b.take (f.safe + saysR c (f.b.length - f.safe))).length - f.safe) 0 else f.b.take (f.safe + saysR c (f.b.length - f.safe)) := rfl

theorem disk_Disk_Crash.spec (hO : CrashF P N) {S : St} (hw : S.Wf) {D B : List Nat} {q : DP} {r : DiskR} (h : DiskIn S D B q r) {M : Nat} (hok : OkR M r) (hM : M ≤ 1000000) {x : V} {cs : List Int} (hx : IntsAt S x cs) (hxD : cs ≠ [] → ∀ i ∈ x.block, i ∉ D) (hxl : cs ≠ [] → ∀ i ∈ x.block, i < S.next)
    (hcs : ∀ c ∈ cs, -9223372036854775808 ≤ c ∧ c ≤ 9223372036854775807) {K : Int → St → Prop} (hk : ∀ S', Mv q.d D B S (crashR cs r) S' → K 0 S') : CallA P (N Fn.disk_Disk_Crash) [.ptr q.d 0, x] S (retT [.one (.int .i64)] K) := by
  obtain ⟨bl, hbl, hblD, hbll⟩ : ∃ bl : List Nat, (cs ≠ [] → ∀ i ∈ x.block, i ∈ bl) ∧ (∀ i ∈ bl, i ∉ D) ∧ ∀ i ∈ bl, i < S.next := by
    by_cases h0 : cs = []
    · exact ⟨[], fun h => absurd h0 h, by simp, by simp⟩
    · exact ⟨x.block, fun _ i hi => hi, hxD h0, hxl h0⟩
  have hchI : ∀ i, -9223372036854775808 ≤ choiceR cs i ∧ choiceR cs i ≤ 9223372036854775807 := fun i => by
    unfold choiceR
    rw [List.getD_eq_getElem?_getD]
    cases hi : cs[i]? with
    | none => simp
    | some c => exact hcs c (List.mem_of_getElem? hi)
  refine disk_Disk_Crash.run hO.crash (newS_mk hw fun S1 g1 m1 n1 => ⟨false, rfl, ifC_ff rfl ⟨rfl, ifS_mk (a := .ptr q.d 5) rfl ?_⟩⟩)
  rw [hx.cells1] at m1
  have hdl := h.ltD _ h.dD
  refine st_mk g1.wf (g1.get h.obj) rfl (by simp [objC, V.cells]) (by simp [V.cells, V.one]) fun S2 u2 m2 n2 => ⟨rfl, ifS_mk (a := .ptr q.d 6) rfl (st_mk u2.wf m2 rfl (by simp [objC, over, V.cells]) (by simp [V.cells, V.one]) fun S3 u3 m3 n3 => ⟨rfl, ifS_mk (a := .ptr q.d 2) rfl (ifS_mk (ld m3 rfl) ?_)⟩)⟩
  have u13 : Upd [q.d] S1 S3 := u2.trans u3
  have cb3 : S3.get S.next = some (.cells [x] true) := u13.get m1 (by simp only [List.mem_singleton]; omega)
  obtain ⟨es, hp, hg⟩ := h.safe.ex
  have hg3 : S3.get q.bs = some (.map (entS es) true) := u13.get (g1.get hg) (by simp only [List.mem_singleton]; exact h.ne2)
  refine hO.maps u3.wf hg3 fun S4 g4 m4 n4 => ⟨rfl, ifS_mk (a := .ptr q.d 1) rfl (st_mk g4.wf (g4.get m3) rfl (by simp [objC, over, V.cells]) (by simp [V.cells, V.one]) fun S5 u5 m5 n5 => ?_)⟩
  have hS3 : S3.next = S.next + 1 := by omega
  have uA : Upd [q.d] S S5 := ((g1.mono (by simp)).trans u13).trans ((g4.mono (by simp)).trans u5)
  -- the disk behind the safe names were taken
  let r0 : DiskR := { r with left := -1, now := r.safe }
  let q0 : DP := { q with bn := S3.next }
  have nbn : ∀ i ∈ D, i ≠ S3.next := fun i hi e => by have := h.ltD i hi; omega
  have h5 : DiskIn S5 (S3.next :: D) B q0 r0 := by
    have a := h
    refine ⟨?_, ⟨⟨es, hp, u5.get m4 (by simp only [List.mem_singleton]; show ¬ S3.next = q.d; omega)⟩, h.safe.nod⟩, h.safe.upd uA (by simp only [List.mem_singleton]; exact h.ne2), h.chs.upd uA (fun i hi => by simp only [List.mem_singleton]; exact (h.neC i hi).1), fun k hk => ?_, h.inj, h.lvS, h.lvS, h.lvC, h.lvI, List.mem_cons_of_mem _ h.dD, List.mem_cons_self, List.mem_cons_of_mem _ h.dS, fun i hi => List.mem_cons_of_mem _ (h.dC i hi), fun k hk => List.mem_cons_of_mem _ (h.dF k hk), h.dB, fun i hi => ?_, fun i hi => Nat.lt_of_lt_of_le (h.ltB i hi) uA.le, fun i hi hB => ?_, fun e => nbn _ h.dD e.symm, h.ne2, fun e => nbn _ h.dS e.symm, fun i hi => ?_, fun k hk => ?_⟩
    · rw [m5]; rfl
    · obtain ⟨f1, f2⟩ := h.fl k hk
      exact ⟨uA.get f1 (by simp only [List.mem_singleton]; exact (h.neF k hk).1), f2.upd uA fun i hi => by
        simp only [List.mem_singleton]
        rintro rfl
        exact h.apart _ h.dD (h.dB k hk _ hi)⟩
    · have hb5 : S3.next < S5.next := by omega
      rcases List.mem_cons.mp hi with rfl | hi
      · exact hb5
      · exact Nat.lt_of_lt_of_le (h.ltD i hi) uA.le
    · rcases List.mem_cons.mp hi with rfl | hi
      · have := h.ltB _ hB; omega
      · exact h.apart i hi hB
    · obtain ⟨a1, a2, a3, a4⟩ := h.neC i hi
      exact ⟨a1, nbn _ (h.dC i hi), a3, a4⟩
    · obtain ⟨a1, a2, a3⟩ := h.neF k hk
      exact ⟨a1, nbn _ (h.dF k hk), a3⟩
  have hcbD : ∀ i ∈ D, i ≠ S.next := fun i hi e => by have := h.ltD i hi; omega
  have cb5 : ChAt S5 S.next bl (cs.drop 0) := ⟨x, u5.get (g4.get cb3) (by simp only [List.mem_singleton]; omega), by
      rw [List.drop_zero]
      by_cases h0 : cs = []
      · subst h0; exact ints_none hx
      · exact SlAt.upd hx uA (fun i hi => by simp only [List.mem_singleton]; rintro rfl; exact hxD h0 _ hi h.dD), by rw [List.drop_zero]; exact hbl⟩
  have hcbx : S.next ∉ bl := fun hm => by have := hbll _ hm; omega
  have sl5 : SlE S5 3 q.cv (r.chs.map (chC q.fb)) := ⟨by
    have := h5.chs.at_
    have e : (r.chs.map (chC q.fb)).length = r.chs.length := by simp
    rw [e]; exact this, fun e he => by
    obtain ⟨c, _, rfl⟩ := List.mem_map.1 he; rfl⟩
  have hmany := saysR_le (choiceR cs 0) r.chs.length
  have hn1 := hok.n1
  refine ⟨rfl, ifS_mk (a := .ptr q.d 3) rfl (ifS_mk (ld m5 rfl) ⟨rfl, ifS_mk (a := .ptr q.d 3) rfl (ifS_mk (ld m5 rfl) ⟨_, sl5.len, ifS_mk (callee_mk hO.can) (disk_Crash_1.spec hO.c1 u5.wf cb5 hcbx fun S6 c6 u6 n6 => ?_)⟩)⟩)⟩
  rw [drop_tail] at c6
  have hcvd : q.cv.block.all (fun i => decide (i ≠ S.next)) = true := by
    rw [List.all_eq_true]
    intro i hi; simpa using hcbD i (h.dC i hi)
  have hcvl : ∀ i ∈ q.cv.block, i < S5.next := fun i hi => Nat.lt_of_lt_of_le (h.ltD i (h.dC i hi)) uA.le
  refine sameK_mk (fun i hi => ?_) ?_
  · have h2 : i ∈ q.cv.block ∨ i = q.d := by
      rcases List.mem_append.mp hi with hi | hi
      · exact .inl hi
      · rcases List.mem_append.mp hi with hi | hi
        · exact .inr (by simpa [V.block] using hi)
        · exact .inr (by simpa [V.block] using hi)
    refine u6.keep i ?_ ?_
    · rcases h2 with h2 | h2
      · exact hcvl i h2
      · subst h2; exact u5.wf.lt m5
    · simp only [List.mem_singleton]
      rcases h2 with h2 | h2
      · exact hcbD i (h.dC i h2)
      · subst h2; omega
  have hlen3 : (r.chs.map (chC q.fb)).length = r.chs.length := by simp
  rw [hlen3, drop_head]
  refine disk_says.spec hO.says (hchI 0) (by omega) (sameK_mk (Same.refl _ _) ?_)
  have h6 : DiskIn S6 (S3.next :: D) B q0 r0 := h5.upd u6 (fun i hi hD => by
    simp only [List.mem_singleton] at hi; subst hi
    rcases List.mem_cons.mp hD with e | hD
    · omega
    · exact hcbD _ hD rfl) (fun i hi hB => by
    simp only [List.mem_singleton] at hi; subst hi
    have := h.ltB _ hB; omega)
  have sl6 : SlE S6 3 q.cv (r.chs.map (chC q.fb)) := sl5.upd u6 fun i hi => by simp only [List.mem_singleton]; exact hcbD i (h.dC i hi)
  obtain ⟨cv', e7, sl7, b7⟩ := SlE.first sl6 (m := saysR (choiceR cs 0) r.chs.length) (by rw [hlen3]; exact hmany)
  have hl7 : ((r.chs.map (chC q.fb)).take (saysR (choiceR cs 0) r.chs.length)).length = saysR (choiceR cs 0) r.chs.length := by rw [List.length_take, hlen3]; omega
  refine ifS_mk e7 ⟨_, sl7.len, ?_⟩
  rw [hl7]
  have hS6 : S6.next = S5.next := n6
  refine Loop1.ind (fun m z S' => ∃ i : Nat, z = i ∧ i + m = saysR (choiceR cs 0) r.chs.length ∧ (∃ D', DiskIn S' D' B q0 { r0 with now := stsR r i } ∧ (∀ j ∈ D', j ∈ S3.next :: D ∨ S6.next ≤ j)) ∧ Upd [S3.next] S6 S' ) (saysR (choiceR cs 0) r.chs.length) ⟨0, rfl, by omega, ⟨_, h6, fun j hj => .inl hj⟩, Upd.refl u6.wf _⟩ ?_
  rintro m z S8 ⟨i, rfl, him, ⟨D8, h8, hD8⟩, u8⟩
  have le8 := u8.le
  have hbnl : S3.next < S6.next := by
    have := h6.ltD S3.next List.mem_cons_self; exact this
  refine ifC_dec (fun hlt => ?_) (fun hge => ?_)
  · -- a change is done
    have hi : i < saysR (choiceR cs 0) r.chs.length := by omega
    have hic : i < r.chs.length := by omega
    have sl8 : SlE S8 3 cv' ((r.chs.map (chC q.fb)).take (saysR (choiceR cs 0) r.chs.length)) := sl7.upd u8 fun j hj => by simp only [List.mem_singleton]; exact nbn _ (h.dC j (b7 j hj))
    have hget : ((r.chs.map (chC q.fb)).take (saysR (choiceR cs 0) r.chs.length))[i]'(by rw [hl7]; exact hi) = chC q.fb r.chs[i] := by simp
    have hck := hok.chs _ (List.getElem_mem hic)
    refine ifS_mk (sl8.idx (j := i) (by rw [hl7]; exact hi)) ⟨(r.chs[i]).fr, (r.chs[i]).to, chP q.fb r.chs[i], by rw [sl8.getN (j := i) (by rw [hl7]; exact hi) (by omega), hget]; rfl, newS_mk u8.wf fun S9 g9 m9 n9 => st_mk g9.wf m9 rfl (by simp [V.cells]) (by simp only [V.cells, List.all_cons, List.all_nil, chP_one]; rfl) fun S10 u10 m10 n10 => ⟨rfl, ifS_mk (a := .ptr q.d 1) rfl ?_⟩⟩
    simp only [V.cells, over] at m10
    have g10 : Grow S8 S10 := g9.after u10 fun j hj => by simp only [List.mem_singleton] at hj; exact .inl (by omega)
    have h10 := h8.grow g10
    refine ifS_mk (ld h10.obj rfl) ⟨(r.chs[i]).fr, (r.chs[i]).to, chP q.fb r.chs[i], ldN m10 (by simp) rfl, disk_names_do.spec hO.f.do_ u10.wf h10.now (chP_one _ _) fun S11 hn11 u11 => setI_mk (n := ((i + 1 : Nat) : Int)) (by rw [IntKind.wrap_i64]; omega) ⟨m - 1, by omega, i + 1, rfl, by omega, ?_, ?_⟩⟩
    · have hb : Upd [S3.next] S8 S11 := (g10.mono (by simp)).after u11 fun j hj => .inr hj
      have hnm : NamesAt S11 S3.next (entG q.fb (stsR r (i + 1))) := by
        rw [stsR_succ hic]
        exact hn11.perm (apply_do hck)
      have hmem := applyR_mem (l := stsR r i) hck
      have := h8.rebuild (cv := q.cv) (r' := { r0 with now := stsR r (i + 1) }) hb (fun j hj => by simp only [List.mem_singleton] at hj; exact .inr (.inl hj)) (u11.get h10.obj (by simp only [List.mem_singleton]; exact fun e => h8.ne1 e.symm)) hnm (h10.chs.upd u11 fun j hj => by simp only [List.mem_singleton]; exact (h8.neC j hj).2.1) (fun j hj => .inl hj) rfl rfl (fun p hp => by
        simp only at hp
        rw [stsR_succ hic] at hp
        rcases hmem p hp with hp | ⟨hp, e⟩
        · exact h8.lvN p hp
        · rw [e]; exact h.lvC _ (List.getElem_mem hic) hp) h.lvC
      refine ⟨D8 ++ q.cv.block, this, fun j hj => ?_⟩
      rcases List.mem_append.mp hj with hj | hj
      · exact hD8 j hj
      · exact .inl (List.mem_cons_of_mem _ (h.dC j hj))
    · exact u8.after ((g10.mono (by simp)).after u11 fun j hj => .inr hj) fun j hj => .inr hj
  · -- all changes are done
    have : i = saysR (choiceR cs 0) r.chs.length := by omega
    subst this
    have hNl : stsR r (saysR (choiceR cs 0) r.chs.length) = crashN cs r := rfl
    rw [hNl] at h8
    have hst := crashN_ok hok cs
    generalize hnl : crashN cs r = nl at h8 hst
    have hdn : downR { r0 with now := nl } = false := rfl
    have hnm : namesR { r0 with now := nl } = nl.map (·.1) := by simp [namesR, hdn]
    refine disk_Disk_Names.spec hO.f hO.n u8.wf h8.rd hst fun w S12 hB12 => ⟨_, hB12.sl.len, ?_⟩
    rw [hnm] at hB12 ⊢
    have g12 := hB12.grow
    have le12 := g12.le
    have hlnm : (strE (nl.map (·.1))).length = nl.length := by simp [strE]
    rw [hlnm]
    have hlen := hst.len
    have hwb : ∀ i ∈ w.block, S8.next ≤ i := hB12.from
    have hS38 : S3.next < S8.next := by omega
    have uB : Upd [q.d] S S8 := (uA.after u6 fun i hi => .inl (by simp only [List.mem_singleton] at hi; omega)).after u8 fun i hi => .inl (by simp only [List.mem_singleton] at hi; omega)
    have u68 : Upd [S.next] S5 S6 := u6
    have c12 : ChAt S12 S.next bl (cs.drop 1) := (c6.upd u8 (by simp only [List.mem_singleton]; omega) fun i hi => by simp only [List.mem_singleton]; have := hbll i hi; omega).upd g12 (by simp) (by simp)
    have mid12 : DiskMid S12 D8 B q0 (.map q.bs) q.cv { r0 with now := nl } := h8.mid.upd g12 (by simp) (by simp)
    refine Loop1.ind (fun m z S' => ∃ (t : Nat) (D' B' : List Nat) (q' : DP), z = t ∧ t + m = nl.length ∧ q'.d = q.d ∧ q'.bn = S3.next ∧ DiskMid S' D' B' q' (.map q.bs) q.cv { r0 with now := nl, files := crashFs cs (nl.take t) 0 r.files } ∧
      (∀ j ∈ D', j ∈ S3.next :: D ∨ S6.next ≤ j) ∧ (∀ j ∈ B', j ∈ B ∨ S6.next ≤ j) ∧ ChAt S' S.next bl (cs.drop (t + 1)) ∧ Upd [S.next, S3.next] S12 S') nl.length ⟨0, D8, B, q0, rfl, by omega, rfl, rfl, mid12, hD8, fun j hj => .inl hj, c12, Upd.refl g12.wf _⟩ ?_
    rintro m z S13 ⟨t, D', B', q', rfl, htm, eqd, eqn, mid, hD', hB', c13, u13'⟩
    have le13 := u13'.le
    have sl13 : SlE S13 1 w (strE (nl.map (·.1))) := hB12.sl.upd u13' fun i hi => by
      have := hwb i hi
      simp only [List.mem_cons, List.not_mem_nil, or_false]; omega
    have nxD : ∀ j ∈ D', j ≠ S.next := fun j hj e => by
      rcases hD' j hj with h' | h'
      · rcases List.mem_cons.mp h' with h' | h'
        · omega
        · exact hcbD j h' e
      · omega
    have nxB : ∀ j ∈ B', j ≠ S.next := fun j hj e => by
      rcases hB' j hj with h' | h'
      · have := h.ltB j h'; omega
      · omega
    have hfsz := crashFs_sz cs (nl.take t) 0 r.files hok.fsz
    refine ifC_dec (fun hlt2 => ?_) (fun hge2 => ?_)
    · have ht : t < nl.length := by omega
      have hgt : loadV S13 (eltV 1 w t 0) = some (.str (nl[t]).1) := by
        rw [sl13.get (j := t) (by rw [hlnm]; exact ht) (by omega)]
        simp [strE]
      have hmem : (nl[t].1, nl[t].2) ∈ nl := List.getElem_mem ht
      generalize hnk : nl[t] = nk at hgt hmem
      obtain ⟨n, k⟩ := nk
      simp only at hgt hmem
      have hlv := mid.lvN (n, k) hmem
      simp only at hlv
      have hlk := names_lookup mid.now .nilPtr false n
      rw [lk_entG, (lkK_some hst.sorted.nod).2 hmem] at hlk
      simp only [Option.map_some, lookOut, Bool.false_eq_true, if_false] at hlk
      rw [eqn] at hlk
      refine ifS_mk (sl13.idx (j := t) (by rw [hlnm]; exact ht)) ⟨n, hgt, rfl, ifS_mk (a := .ptr q.d 1) rfl ?_⟩
      have o13 := mid.obj
      rw [eqd, eqn] at o13
      refine ifS_mk (ld o13 rfl) (ifS_mk hlk (ifS_mk (callee_mk hO.can) (disk_Crash_1.spec hO.c1 u13'.wf c13 hcbx fun S14 c14 u14 n14 => ?_)))
      rw [drop_head, drop_tail] at *
      have mid14 := mid.upd u14 (fun j hj hD => by simp only [List.mem_singleton] at hj; subst hj; exact nxD _ hD rfl) (fun j hj hB => by simp only [List.mem_singleton] at hj; subst hj; exact nxB _ hB rfl)
      generalize hrt : ({ r0 with now := nl, files := crashFs cs (nl.take t) 0 r.files } : DiskR) = rt at mid14 mid
      have hrtn : rt.now = nl := by rw [← hrt]
      have hrtf : rt.files = crashFs cs (nl.take t) 0 r.files := by rw [← hrt]
      have hf1 : (rt.fl k).safe ≤ (rt.fl k).b.length ∧ (rt.fl k).b.length ≤ 4194304 := by
        unfold DiskR.fl
        rw [hrtf, List.getD_eq_getElem?_getD]
        cases hkk : (crashFs cs (nl.take t) 0 r.files)[k]? with
        | none => simp
        | some f => exact hfsz f (List.mem_of_getElem? hkk)
      obtain ⟨f1, f2⟩ := mid14.fl k hlv
      generalize hff : rt.fl k = f at hf1 f1 f2
      have hfk : q'.fb k < S14.next := mid14.ltD _ (mid14.dF k hlv)
      have hsle := saysR_le (choiceR cs (t + 1)) (f.b.length - f.safe)
      refine ⟨rfl, ifS_mk (a := .ptr (q'.fb k) 0) rfl (ifS_mk (ld f1 rfl) ⟨rfl, ifS_mk (a := .ptr (q'.fb k) 1) rfl ⟨_, ld f1 rfl, rfl, ifS_mk (a := .ptr (q'.fb k) 0) rfl (ifS_mk (ld f1 rfl) ⟨_, f2.at_.len, rfl, ifS_mk (a := .ptr (q'.fb k) 1) rfl ⟨_, ld f1 rfl, setI_mk (n := ((f.b.length - f.safe : Nat) : Int)) (by rw [IntKind.wrap_i64]; omega) ?_⟩⟩)⟩⟩)⟩
      refine disk_says.spec hO.says (hchI (t + 1)) (by omega) (sameK_mk (Same.refl _ _) (setI_mk (n := ((f.safe + saysR (choiceR cs (t + 1)) (f.b.length - f.safe) : Nat) : Int)) (by rw [IntKind.wrap_i64]; omega) ?_))
      obtain ⟨v91, e91, a91, b91⟩ := bytes_first (m := f.safe + saysR (choiceR cs (t + 1)) (f.b.length - f.safe)) f2.at_ (by omega)
      have hl91 : (f.b.take (f.safe + saysR (choiceR cs (t + 1)) (f.b.length - f.safe))).length = f.safe + saysR (choiceR cs (t + 1)) (f.b.length - f.safe) := by rw [List.length_take]; omega
      refine ifS_mk e91 (slices_Clone_Lbyte.spec hO.clone u14.wf a91 (by rw [hl91]; omega) fun v92 S16 hb92 => sameK_mk (Same.of_grow hb92.grow ?_) ?_)
      · intro j hj
        have hbv : ∀ j ∈ (q'.bv k).block, j < S14.next := fun j hj => mid14.ltB j (mid14.dB k hlv j hj)
        have hfb : ∀ o, j ∈ (V.ptr (q'.fb k) o).block → j < S14.next := fun o hj => by
          have : j = q'.fb k := by simpa [V.block] using hj
          omega
        rcases List.mem_append.mp hj with hj | hj
        · exact hfb _ hj
        rcases List.mem_append.mp hj with hj | hj
        · exact hbv j hj
        rcases List.mem_append.mp hj with hj | hj
        · exact hfb _ hj
        rcases List.mem_append.mp hj with hj | hj
        · exact hfb _ hj
        rcases List.mem_append.mp hj with hj | hj
        · exact hfb _ hj
        · cases hj
      have a92 : Acc S16 S14.next 1 v92 (f.b.take (f.safe + saysR (choiceR cs (t + 1)) (f.b.length - f.safe))).length (bytesV (f.b.take (f.safe + saysR (choiceR cs (t + 1)) (f.b.length - f.safe)))) := by
        have := hb92.acc
        rwa [byteE_flat, byteE_len] at this
      have g16 := hb92.grow
      have hv92 : ∀ j ∈ v92.block, S14.next ≤ j := hb92.from
      have hclen : (cutF (choiceR cs (t + 1)) f).b.length = (f.b.take (f.safe + saysR (choiceR cs (t + 1)) (f.b.length - f.safe))).length := by
        rw [cutF_b]
        split
        · rw [List.length_append, List.length_take, List.length_replicate]; omega
        · rfl
      refine Join0.mid (fun S' => Acc S' S14.next 1 v92 (cutF (choiceR cs (t + 1)) f).b.length (bytesV (cutF (choiceR cs (t + 1)) f).b) ∧ Grow S14 S') (ifC_dec (fun hneg => ?_) (fun hpos => ?_)) ?_
      · refine ⟨rfl, ifS_mk (a := .ptr (q'.fb k) 1) rfl ⟨_, ld (g16.get f1) rfl, ?_⟩⟩
        refine clear_mk g16.wf a92 (a := f.safe) (by rw [hl91]; omega) fun S18 a18 u18 => ⟨?_, g16.after u18 fun j hj => .inl (hv92 j hj)⟩
        rw [hclen, cutF_b, if_pos hneg]; exact a18
      · refine ⟨?_, g16⟩
        rw [hclen, cutF_b, if_neg hpos]; exact a92
      rintro S17 ⟨a17, g17⟩
      have le17 := g17.le
      have o17 := g17.get mid14.obj
      rw [eqd, eqn] at o17
      have hln : lenV S17 2 v92 = some (.int .i64 ((cutF (choiceR cs (t + 1)) f).b.length : Nat)) := a17.at_.len
      refine ⟨rfl, ifS_mk (a := .ptr q.d 1) rfl (ifS_mk (ld o17 rfl) ⟨_, hln, a17.at_.cells1, newS_mk g17.wf fun S19 g19 m19 n19 => ?_⟩)⟩
      have nm19 := (mid14.now.upd g17 (by simp)).upd g19 (by simp)
      rw [eqn] at nm19
      refine names_upd g19.wf nm19 n (.ptr S17.next 0) fun S20 hn20 u20 n20 => setI_mk (n := ((t + 1 : Nat) : Int)) (by rw [IntKind.wrap_i64]; omega) ?_
      have uu : Upd [S3.next] S14 S20 := ((g17.trans g19).mono (by simp)).after u20 fun j hj => .inr hj
      have hb17 : S17.get S17.next = none := g17.wf _ (Nat.le_refl _)
      have mid20 := mid14.re (n := n) (k := k) (b := S17.next) (v := v92) (f := cutF (choiceR cs (t + 1)) f) (X := [S3.next]) (nf := r.files.length) (by rw [hrtn]; exact hst) (by rw [hrtn]; exact hmem) uu (fun j hj => by simp only [List.mem_singleton] at hj; exact .inl (by rw [eqn]; exact hj)) ⟨by omega, by have := u20.le; omega⟩
        (u20.get m19 (by simp only [List.mem_singleton]; omega)) ((a17.below (B' := 0) (by omega)).upd ((g19.mono (by simp)).after u20 fun j hj => .inr hj) fun j hj => by simp only [List.mem_singleton]; have := hv92 j hj; omega)
        (fun j hj => ⟨hv92 j hj, fun e => by
          obtain ⟨_, vs, hg17⟩ := a17.own j hj
          rw [e, hb17] at hg17; cases hg17⟩) (by rw [eqn]; exact hn20)
      refine ⟨m - 1, by omega, t + 1, S17.next :: D', B' ++ v92.block, q'.re k S17.next v92, rfl, by omega, eqd, eqn, ?_, fun j hj => ?_, fun j hj => ?_, ?_, ?_⟩
      · have : setFl rt k (cutF (choiceR cs (t + 1)) f) = { r0 with now := nl, files := crashFs cs (nl.take (t + 1)) 0 r.files } := by
          rw [List.take_add_one, List.getElem?_eq_getElem ht, Option.toList_some, crashFs_snoc, hnk, ← hrt]
          simp only [setFl]
          have ht0 : (nl.take t).length = t := by rw [List.length_take]; omega
          rw [ht0, Nat.zero_add, ← hff, ← hrt]
          rfl
        rw [← this]; exact mid20
      · rcases List.mem_cons.mp hj with rfl | hj
        · exact .inr (by omega)
        · exact hD' j hj
      · rcases List.mem_append.mp hj with hj | hj
        · exact hB' j hj
        · exact .inr (by have := hv92 j hj; omega)
      · exact c14.upd uu (by simp only [List.mem_singleton]; omega) fun j hj => by simp only [List.mem_singleton]; have := hbll j hj; omega
      · exact (u13'.after u14 fun j hj => .inr (by simp only [List.mem_singleton] at hj; simp [hj])).after uu fun j hj => .inr (by simp only [List.mem_singleton] at hj; simp [hj])
    · -- all names are done
      have : t = nl.length := by omega
      subst this
      rw [List.take_length] at mid
      have o13 := mid.obj
      rw [eqd, eqn] at o13
      obtain ⟨es2, hp2, hg2⟩ := mid.now.ex
      rw [eqn] at hg2
      have hne : S3.next ≠ q.d := by omega
      refine ⟨rfl, ifS_mk (a := .ptr q.d 1) rfl (ifS_mk (ld o13 rfl) (hO.maps u13'.wf hg2 fun S21 g21 m21 n21 => ⟨rfl, ifS_mk (a := .ptr q.d 2) rfl (st_mk g21.wf (g21.get o13) rfl (by simp [V.cells]) (by simp [V.cells, V.one]) fun S22 u22 m22 n22 => ⟨rfl, ifS_mk (a := .ptr q.d 3) rfl (st_mk u22.wf m22 rfl (by simp [over, V.cells]) (by simp [V.cells, V.one]) fun S23 u23 m23 n23 => hk S23 ?_)⟩)⟩))⟩
      have hlt13 : q.d < S13.next := u13'.wf.lt o13
      have uC : Upd [q.d] S13 S23 := ((g21.mono (by simp)).after u22 fun i hi => .inr hi).after u23 fun i hi => .inr hi
      have fin := mid.safe (bs := S13.next) (S' := S23) (by rw [eqd]; exact uC) ⟨Nat.le_refl _, by have := u22.le; have := u23.le; omega⟩ ⟨⟨es2, hp2, u23.get (u22.get m21 (by simp only [List.mem_singleton]; omega)) (by simp only [List.mem_singleton]; omega)⟩, mid.now.nod⟩ (by rw [eqd, m23, eqn]; rfl)
      have hr' : ({ ({ r0 with now := nl, files := crashFs cs nl 0 r.files } : DiskR) with safe := nl, chs := [] } : DiskR) = crashR cs r := by
        simp only [crashR, hnl]; rfl
      refine Mv.of (d := q.d) (q' := { q' with bs := S13.next, cv := .nilSlice }) ?_ (hr' ▸ fin) eqd (fun j hj => ?_) (fun j hj => ?_)
      · have uD : Upd [q.d] S S23 := ((uB.after g12 (by simp)).after u13' fun i hi => .inl (by simp only [List.mem_cons, List.not_mem_nil, or_false] at hi; omega)).after uC fun i hi => .inr hi
        refine uD.mono fun i hi => .inl ?_
        simp only [List.mem_singleton] at hi
        subst hi; exact h.dD
      · have f1 : ∀ j ∈ D', j ∈ D ∨ S.next ≤ j := fun j hj => by
          rcases hD' j hj with h' | h'
          · rcases List.mem_cons.mp h' with h' | h'
            · exact .inr (by omega)
            · exact .inl h'
          · exact .inr (by omega)
        rcases List.mem_cons.mp hj with rfl | hj
        · exact .inr (by omega)
        · exact f1 j hj
      · rcases hB' j hj with h' | h'
        · exact .inl h'
        · exact .inr (by omega)

end Go.Th.L
end

section
/- A disk is copied: a file of its own for each file. -/
set_option linter.unusedSimpArgs false
set_option linter.unusedVariables false
set_option maxHeartbeats 2000000
namespace Go.Th.L
open Go Go.Th Go.Th.Pure
variable {P : Program} {N : Nat → Nat}

def Src (S : St) (q : DP) (r : DiskR) : Prop := ∀ k, q.lv k → S.get (q.fb k) = some (.cells [q.bv k, .int .i64 ((r.fl k).safe : Nat)] true) ∧ BytesAt S (q.bv k) (r.fl k).b
section own
variable {S : St} {q : DP} {r : DiskR} (src : Src S q r) (inj : ∀ k k', q.lv k → q.lv k' → q.fb k = q.fb k' → k = k')
include src inj

end own

end Go.Th.L
end

section
/- A disk is copied: the walk. -/
set_option linter.unusedSimpArgs false
set_option linter.unusedVariables false
set_option maxHeartbeats 2000000
namespace Go.Th.L
open Go Go.Th Go.Th.Pure
variable {P : Program} {N : Nat → Nat}

structure CloneF (P : Program) (N : Nat → Nat) : Prop where
  clone : disk_Disk_Clone.Ok P N
  c1 : disk_Disk_Clone_1.Ok P N
  can : canEnter P (N Fn.disk_Disk_Clone_1) = true
  bytes : slices_Clone_Lbyte.Ok P N

end Go.Th.L
end

section
/- A disk is copied: all of it. -/
set_option linter.unusedSimpArgs false
set_option linter.unusedVariables false
set_option maxHeartbeats 4000000
namespace Go.Th.L
open Go Go.Th Go.Th.Pure
variable {P : Program} {N : Nat → Nat}

end Go.Th.L
end

section
/- Numbers: cloned, appended to, parts. -/
set_option linter.unusedSimpArgs false
set_option linter.unusedVariables false
namespace Go.Th.L
open Go Go.Th
variable {P : Program} {N : Nat → Nat}

theorem eqS_nilI {S : St} {k : Nat} {v : V} {n : Nat} {cs : List V} (h : SlAt S k v n cs) : ∃ b, eqV 2 [] v .nilSlice = some b ∧ (b = true → v = .nilSlice ∧ n = 0) := by
  rcases h.2.2 with ⟨rfl, h0⟩ | ⟨i, o, c, t, rfl, _⟩
  · exact ⟨true, rfl, fun _ => ⟨rfl, h0⟩⟩
  · exact ⟨false, rfl, fun h => by cases h⟩

theorem ints_app {S0 S : St} {v y : V} {l m : List Int} (h : BuiltI S0 S v l) (hy : IntsAt S y m) (hl : l.length + m.length < 1000000) {K : V → St → Prop}
    (hk : ∀ v' S', BuiltI S0 S' v' (l ++ m) → Upd v.block S S' → (∀ i ∈ v'.block, i ∈ v.block ∨ S.next ≤ i) → K v' S') : ifP (appV S 1 8 v y) K := by
  refine Built.app h (ds := intE m) (by rw [intE_flat, intE_len]; exact hy.src) (by simp [intE]) (by rw [intE_flat]; exact intsV_ones _ _) (by simp only [intE_len]; omega) (by simp only [intE_len]; omega) fun v' S' b => hk v' S' ?_
  simpa [BuiltI, intE] using b
theorem BuiltI.nil {S0 S : St} (g : Grow S0 S) : BuiltI S0 S .nilSlice [] := Built.nil g 1

theorem slices_Clone_Lint.spec (hF : slices_Clone_Lint.Ok P N) {S : St} (hw : S.Wf) {v : V} {l : List Int} (hv : IntsAt S v l) (hl : l.length < 1000000) {K : V → St → Prop} (hk : ∀ v' S', BuiltI S S' v' l → K v' S') :
    CallA P (N Fn.slices_Clone_Lint) [v] S (retT [.one .any] K) := by
  obtain ⟨b, hb, hb2⟩ := eqS_nilI hv
  refine slices_Clone_Lint.run hF ⟨b, hb, ifC_tt_ff (fun h1 => ?_) (fun h1 => ?_)⟩
  · have hl0 := List.length_eq_zero_iff.mp (hb2 h1).2
    subst hl0
    exact hk _ _ (BuiltI.nil (Upd.refl hw _))
  · refine newS_mk hw fun S1 g1 m1 n1 => ?_
    have hB : BuiltI S S1 (.slice S.next 0 0 0 1 true) [] := ⟨g1, ⟨⟨by simp [intE], by simp [intE], .inr ⟨_, 0, 0, true, rfl, Nat.le_refl _, by rw [St.loads_of m1 (by simp [intE])]; simp [intE]⟩⟩, rfl, by simp only [V.block, List.mem_singleton]; rintro i rfl; exact ⟨Nat.le_refl _, _, m1⟩, ⟨_, m1, by simp⟩⟩, by simp [intE]⟩
    exact ints_app hB (hv.grow g1) (by simp; omega) fun v' S' b' _ _ => hk v' S' b'

end Go.Th.L
end
