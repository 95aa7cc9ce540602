/- What the row of one statement stands on: a store, abstract code, functions of the program and their laws (ThHdisk1, ThHdisk2). -/
import Derived.Test.YtilkmjbbdnnphaaGreatDoorThBPdisk3
import Derived.Test.YtilkmjbbdnnphaaGreatDoorThBGref17
import Derived.Test.YtilkmjbbdnnphaaGreatDoorThBQ10

section
/- The disk in the store; what its small functions do. -/
set_option linter.unusedSimpArgs false
set_option linter.unusedVariables false
set_option maxHeartbeats 1000000
namespace Go.Th.L
open Go Go.Th Go.Th.Pure
variable {P : Program} {N : Nat → Nat}

structure DP where
  d : Nat
  bn : Nat
  bs : Nat
  cv : V
  fb : Nat → Nat
  bv : Nat → V
  lv : Nat → Prop

def entG (fb : Nat → Nat) (l : List (Nm × Nat)) : List (Nm × V) := l.map fun p => (p.1, .ptr (fb p.2) 0)
def chP (fb : Nat → Nat) (c : ChR) : V := if c.kind = 3 then .nilPtr else .ptr (fb c.file) 0
def chC (fb : Nat → Nat) (c : ChR) : List V := [.str c.fr, .str c.to, chP fb c]
def stopsR (r : DiskR) : Bool := decide (0 ≤ r.left)
def leftC (r : DiskR) : Int := if 0 ≤ r.left then r.left else 0
def objC (q : DP) (r : DiskR) : List V := [.int .i64 r.room, .map q.bn, .map q.bs, q.cv, .int .i64 r.steps, .bool (stopsR r), .int .i64 (leftC r)]

structure DiskIn (S : St) (D B : List Nat) (q : DP) (r : DiskR) : Prop where
  obj : S.get q.d = some (.cells (objC q r) true)
  now : NamesAt S q.bn (entG q.fb r.now)
  safe : NamesAt S q.bs (entG q.fb r.safe)
  chs : Acc S 0 3 q.cv r.chs.length (r.chs.map (chC q.fb)).flatten
  fl : ∀ k, q.lv k → S.get (q.fb k) = some (.cells [q.bv k, .int .i64 ((r.fl k).safe : Nat)] true) ∧ Acc S 0 1 (q.bv k) (r.fl k).b.length (bytesV (r.fl k).b)
  inj : ∀ k k', q.lv k → q.lv k' → q.fb k = q.fb k' → k = k'
  lvN : ∀ p ∈ r.now, q.lv p.2
  lvS : ∀ p ∈ r.safe, q.lv p.2
  lvC : ∀ c ∈ r.chs, c.kind ≠ 3 → q.lv c.file
  lvI : ∀ k, q.lv k → k < r.files.length
  dD : q.d ∈ D
  dN : q.bn ∈ D
  dS : q.bs ∈ D
  dC : ∀ i ∈ q.cv.block, i ∈ D
  dF : ∀ k, q.lv k → q.fb k ∈ D
  dB : ∀ k, q.lv k → ∀ i ∈ (q.bv k).block, i ∈ B
  ltD : ∀ i ∈ D, i < S.next
  ltB : ∀ i ∈ B, i < S.next
  apart : ∀ i ∈ D, i ∉ B
  ne1 : q.bn ≠ q.d
  ne2 : q.bs ≠ q.d
  ne3 : q.bn ≠ q.bs
  neC : ∀ i ∈ q.cv.block, i ≠ q.d ∧ i ≠ q.bn ∧ i ≠ q.bs ∧ ∀ k, q.lv k → i ≠ q.fb k
  neF : ∀ k, q.lv k → q.fb k ≠ q.d ∧ q.fb k ≠ q.bn ∧ q.fb k ≠ q.bs

section
variable {S S' : St} {D B : List Nat} {q : DP} {r : DiskR}

theorem DiskIn.upd {X : List Nat} (h : DiskIn S D B q r) (u : Upd X S S') (h1 : ∀ i ∈ X, i ∉ D) (h2 : ∀ i ∈ X, i ∉ B) : DiskIn S' D B q r := by
  have nd : ∀ i ∈ D, i ∉ X := fun i hi hx => h1 i hx hi
  have nb : ∀ i ∈ B, i ∉ X := fun i hi hx => h2 i hx hi
  refine { h with obj := u.get h.obj (nd _ h.dD), now := h.now.upd u (nd _ h.dN), safe := h.safe.upd u (nd _ h.dS), chs := h.chs.upd u (fun i hi => nd _ (h.dC i hi)), fl := fun k hk => ?_, ltD := fun i hi => Nat.lt_of_lt_of_le (h.ltD i hi) u.le, ltB := fun i hi => Nat.lt_of_lt_of_le (h.ltB i hi) u.le }
  obtain ⟨g1, g2⟩ := h.fl k hk
  exact ⟨u.get g1 (nd _ (h.dF k hk)), g2.upd u (fun i hi => nb _ (h.dB k hk i hi))⟩

theorem DiskIn.grow (h : DiskIn S D B q r) (u : Grow S S') : DiskIn S' D B q r := h.upd u (by simp) (by simp)

structure DiskRd (S : St) (o : Bool) (q : DP) (r : DiskR) : Prop where
  obj : S.get q.d = some (.cells (objC q r) o)
  now : NamesAt S q.bn (entG q.fb r.now) o
  fl : ∀ k, q.lv k → S.get (q.fb k) = some (.cells [q.bv k, .int .i64 ((r.fl k).safe : Nat)] o) ∧ BytesAt S (q.bv k) (r.fl k).b
  lvN : ∀ p ∈ r.now, q.lv p.2
theorem DiskIn.rd (h : DiskIn S D B q r) : DiskRd S true q r := ⟨h.obj, h.now, fun k hk => ⟨(h.fl k hk).1, (h.fl k hk).2.at_⟩, h.lvN⟩
theorem DiskRd.ro (h : DiskRd S true q r) : DiskRd S.ro false q r := ⟨by rw [St.get_ro, h.obj]; rfl, h.now.ro, fun k hk => by
    obtain ⟨g1, g2⟩ := h.fl k hk
    exact ⟨by rw [St.get_ro, g1]; rfl, SlAt.ro g2⟩, h.lvN⟩
theorem DiskRd.upd {X : List Nat} {o : Bool} (h : DiskRd S o q r) (u : Upd X S S') (h1 : q.d ∉ X) (h2 : q.bn ∉ X) (h3 : ∀ k, q.lv k → q.fb k ∉ X ∧ ∀ i ∈ (q.bv k).block, i ∉ X) : DiskRd S' o q r :=
  ⟨u.get h.obj h1, h.now.upd u h2, fun k hk => by
    obtain ⟨g1, g2⟩ := h.fl k hk
    exact ⟨u.get g1 (h3 k hk).1, SlAt.upd g2 u (h3 k hk).2⟩, h.lvN⟩
theorem DiskRd.grow {o : Bool} (h : DiskRd S o q r) (u : Grow S S') : DiskRd S' o q r := h.upd u (by simp) (by simp) fun k hk => ⟨by simp, by simp⟩

theorem stops_down (r : DiskR) : (stopsR r && decide (leftC r = 0)) = downR r := by
  simp only [stopsR, leftC, downR]
  by_cases h0 : 0 ≤ r.left
  · simp [h0]
  · have : ¬ r.left = 0 := by omega
    simp [h0, this]

theorem lk_entG (fb : Nat → Nat) (l : List (Nm × Nat)) (n : Nm) : lkK (entG fb l) n = (lkK l n).map fun k => V.ptr (fb k) 0 := by
  induction l with
  | nil => rfl
  | cons p l ih =>
    simp only [entG, List.map_cons] at ih ⊢
    rw [lkK_cons, lkK_cons]
    split
    · rfl
    · exact ih
theorem drop_entG (fb : Nat → Nat) (l : List (Nm × Nat)) (n : Nm) : dropK (entG fb l) n = entG fb (dropK l n) := by
  simp only [entG, dropK, List.filter_map]; rfl
theorem DiskIn.nil (h : DiskIn S D B q r) : nilV (V.ptr q.d 0) = some (V.ptr q.d 0) := rfl
end

theorem disk_Disk_Down.spec (hF : disk_Disk_Down.Ok P N) {S : St} {o : Bool} {q : DP} {r : DiskR} (h : DiskRd S o q r) {K : Bool → St → Prop} (hk : K (downR r) S) : CallA P (N Fn.disk_Disk_Down) [.ptr q.d 0] S (retT [.one .bool] K) := by
  refine disk_Disk_Down.run hF ⟨false, rfl, ifC_tt rfl ⟨rfl, ifS_mk (a := .ptr q.d 5) rfl ⟨_, ld h.obj rfl, ?_⟩⟩⟩
  have hd := stops_down r
  cases hs : stopsR r with
  | false =>
    rw [hs] at hd
    refine ifC_ff rfl ?_
    rw [← hd] at hk; exact hk
  | true =>
    rw [hs] at hd
    refine ifC_tt rfl ⟨rfl, ifS_mk (a := .ptr q.d 6) rfl ⟨_, ld h.obj rfl, ?_⟩⟩
    rw [← hd] at hk; exact hk

theorem disk_Disk_ready.spec (hF : disk_Disk_ready.Ok P N) (hD : disk_Disk_Down.Ok P N) {S : St} {o : Bool} {q : DP} {r : DiskR} (h : DiskRd S o q r) {K : Int → St → Prop}
    (h1 : downR r = true → K 174 S) (h2 : downR r = false → K 0 S) : CallA P (N Fn.disk_Disk_ready) [.ptr q.d 0] S (retT [.one (.int .i64)] K) := by
  refine disk_Disk_ready.run hF ⟨false, rfl, ifC_ff rfl (disk_Disk_Down.spec hD h ?_)⟩
  cases hd : downR r with
  | true => exact ifC_tt rfl (h1 hd)
  | false => exact ifC_ff rfl (h2 hd)
structure DiskF (P : Program) (N : Nat → Nat) : Prop where
  down : disk_Disk_Down.Ok P N
  ready : disk_Disk_ready.Ok P N
  find : disk_Disk_find.Ok P N
  done : disk_Disk_done.Ok P N
  do_ : disk_names_do.Ok P N
  change : disk_Disk_change.Ok P N

theorem disk_Disk_find.spec (hO : DiskF P N) {S : St} {o : Bool} {q : DP} {r : DiskR} (h : DiskRd S o q r) {n : Nm} {K : V → Int → St → Prop}
    (h1 : downR r = true → K .nilPtr 174 S) (h2 : downR r = false → lkK r.now n = none → K .nilPtr 172 S) (h3 : downR r = false → ∀ k, lkK r.now n = some k → K (.ptr (q.fb k) 0) 0 S) :
    CallA P (N Fn.disk_Disk_find) [.ptr q.d 0, .str n] S (retT [.one .any, .one (.int .i64)] K) := by
  refine disk_Disk_find.run hO.find (disk_Disk_ready.spec hO.ready hO.down h (fun hd => ifC_ndec (fun _ => h1 hd) (fun h' => by omega)) (fun hd => ifC_ndec (fun h' => absurd rfl h') (fun _ => ?_)))
  refine ⟨rfl, ifS_mk (a := .ptr q.d 1) rfl (ifS_mk (ld h.obj rfl) ?_)⟩
  have hl := names_lookup h.now .nilPtr true n
  rw [lk_entG] at hl
  cases hk : lkK r.now n with
  | none =>
    rw [hk] at hl
    exact ⟨.nilPtr, false, hl, ifC_tt rfl (h2 hd hk)⟩
  | some k =>
    rw [hk] at hl
    exact ⟨.ptr (q.fb k) 0, true, hl, ifC_ff rfl (h3 hd k hk)⟩
theorem DiskIn.fields {S S' : St} {D B : List Nat} {q : DP} {r r' : DiskR} (h : DiskIn S D B q r) (u : Upd [q.d] S S') (g : S'.get q.d = some (.cells (objC q r') true)) (e1 : r'.files = r.files) (e2 : r'.now = r.now) (e3 : r'.safe = r.safe) (e4 : r'.chs = r.chs) : DiskIn S' D B q r' := by
  have efl : ∀ k, r'.fl k = r.fl k := fun k => by simp only [DiskR.fl, e1]
  refine { h with obj := g, now := ?_, safe := ?_, chs := ?_, fl := fun k hk => ?_, lvN := by rw [e2]; exact h.lvN, lvS := by rw [e3]; exact h.lvS, lvC := by rw [e4]; exact h.lvC, lvI := by rw [e1]; exact h.lvI, ltD := fun i hi => Nat.lt_of_lt_of_le (h.ltD i hi) u.le, ltB := fun i hi => Nat.lt_of_lt_of_le (h.ltB i hi) u.le }
  · rw [e2]; exact h.now.upd u (by simp only [List.mem_singleton]; exact h.ne1)
  · rw [e3]; exact h.safe.upd u (by simp only [List.mem_singleton]; exact h.ne2)
  · rw [e4]; exact h.chs.upd u (fun i hi => by simp only [List.mem_singleton]; exact (h.neC i hi).1)
  · obtain ⟨g1, g2⟩ := h.fl k hk
    rw [efl k]
    refine ⟨u.get g1 (by simp only [List.mem_singleton]; exact (h.neF k hk).1), g2.upd u (fun i hi hx => ?_)⟩
    simp only [List.mem_singleton] at hx
    subst hx
    exact h.apart _ h.dD (h.dB k hk _ hi)

theorem disk_Disk_done.spec (hO : DiskF P N) {S : St} (hw : S.Wf) {D B : List Nat} {q : DP} {r : DiskR} (h : DiskIn S D B q r) (hd : downR r = false) {M : Nat} (hM : M ≤ 1000000) (h3 : 0 ≤ r.steps ∧ r.steps ≤ M) (hl : r.left ≤ 9223372036854775807) {K : Int → St → Prop}
    (hk : ∀ S', DiskIn S' D B q (stepR r) → Upd [q.d] S S' → S'.next = S.next → K 0 S') : CallA P (N Fn.disk_Disk_done) [.ptr q.d 0] S (retT [.one (.int .i64)] K) := by
  refine disk_Disk_done.run hO.done ⟨rfl, ifS_mk (a := .ptr q.d 4) rfl ⟨_, ld h.obj rfl, setI_mk (n := r.steps + 1) (by rw [IntKind.wrap_i64]; omega) ⟨rfl, ifS_mk (a := .ptr q.d 4) rfl (st_mk hw h.obj rfl (by simp [objC, V.cells]) (by simp [V.cells, V.one]) fun S1 u1 m1 n1 => ?_)⟩⟩⟩
  simp only [objC, over, V.cells] at m1
  refine ⟨rfl, ifS_mk (a := .ptr q.d 5) rfl ⟨_, ld m1 rfl, ?_⟩⟩
  have hd' : r.left ≠ 0 := by simpa [downR] using hd
  by_cases h0 : 0 ≤ r.left
  · have hs : stopsR r = true := by simp [stopsR, h0]
    rw [hs]
    have hlc : leftC r = r.left := by simp [leftC, h0]
    refine ifC_tt rfl ⟨rfl, ifS_mk (a := .ptr q.d 6) rfl ⟨_, ld m1 rfl, setI_mk (n := r.left - 1) (by rw [hlc, IntKind.wrap_i64]; omega) ⟨rfl, ifS_mk (a := .ptr q.d 6) rfl (st_mk u1.wf m1 rfl (by simp [V.cells]) (by simp [V.cells, V.one]) fun S2 u2 m2 n2 => hk S2 ?_ (u1.trans u2) (by rw [n2, n1]))⟩⟩⟩
    simp only [over, V.cells] at m2
    refine h.fields (u1.trans u2) ?_ rfl rfl rfl rfl
    rw [m2]
    have es : (stepR r).left = r.left - 1 := by
      simp only [stepR]
      rw [if_pos (by omega)]
    have e1 : stopsR (stepR r) = true := by
      unfold stopsR
      rw [decide_eq_true_eq, es]; omega
    have e2 : leftC (stepR r) = r.left - 1 := by
      unfold leftC
      rw [es, if_pos (by omega)]
    simp only [objC, e1, e2, hs]
    rfl
  · have hs : stopsR r = false := by simp [stopsR, h0]
    rw [hs]
    refine ifC_ff rfl (hk S1 (h.fields u1 ?_ rfl rfl rfl rfl) u1 n1)
    rw [m1]
    have e0 : (stepR r).left = r.left := by
      simp only [stepR]
      rw [if_neg (by omega)]
    have e1 : stopsR (stepR r) = stopsR r := by simp only [stopsR, e0]
    have e2 : leftC (stepR r) = leftC r := by simp only [leftC, e0]
    simp only [objC, e1, e2]
    rfl

def doV (l : List (Nm × V)) (fr to : Nm) (f : V) : List (Nm × V) :=
  let l1 := if fr ≠ [] then dropK l fr else l
  if to ≠ [] then (to, f) :: dropK l1 to else l1

theorem apply_do {nf : Nat} {fb : Nat → Nat} {l : List (Nm × Nat)} {c : ChR} (hc : ChOk nf c) : (doV (entG fb l) c.fr c.to (chP fb c)).Perm (entG fb (applyR l c)) := by
  rcases hc with ⟨h1, h2, h3, _⟩ | ⟨h1, h2, h3, _⟩ | ⟨h1, h2, h3⟩
  · simp only [doV, h2, ne_eq, not_true_eq_false, if_false, applyR, h1]
    rw [if_pos h3, drop_entG]
    have := (withR_perm (c.to, c.file) (dropK l c.to)).map fun p : Nm × Nat => (p.1, V.ptr (fb p.2) 0)
    have e : chP fb c = .ptr (fb c.file) 0 := by simp [chP, h1]
    rw [e]
    exact this.symm
  · simp only [doV, applyR, h1]
    rw [if_pos h3, if_pos h2, drop_entG, drop_entG]
    have := (withR_perm (c.to, c.file) (dropK (dropK l c.fr) c.to)).map fun p : Nm × Nat => (p.1, V.ptr (fb p.2) 0)
    have e : chP fb c = .ptr (fb c.file) 0 := by simp [chP, h1]
    rw [e]
    exact this.symm
  · simp only [doV, applyR, h1, h3, ne_eq, not_true_eq_false, if_false]
    rw [if_pos h2, drop_entG]

theorem disk_names_do.spec (hF : disk_names_do.Ok P N) {S : St} (hw : S.Wf) {i : Nat} {l : List (Nm × V)} (h : NamesAt S i l) {fr to : Nm} {f : V} (hf : f.one = true) {K : St → Prop}
    (hk : ∀ S', NamesAt S' i (doV l fr to f) → Upd [i] S S' → K S') : CallA P (N Fn.disk_names_do) [.map i, .agg [.str fr, .str to, f]] S (retT [] K) := by
  refine disk_names_do.run hF (newS_mk hw fun S1 g1 m1 n1 => ?_)
  have hi := h.lt hw
  have h1 := h.upd g1 (by simp)
  have b1 : Upd [i] S S1 := g1.mono (by simp)
  refine Join0.mid (fun S2 => NamesAt S2 i (if fr ≠ [] then dropK l fr else l) ∧ Upd [i] S S2 ∧ S2.get S.next = some (.cells [.str fr, .str to, f] true)) ⟨fr, ld m1 rfl, ifC_ndec (fun hne => ?_) (fun he => ?_)⟩ ?_
  · refine ⟨fr, ld m1 rfl, names_del g1.wf h1 fr fun S2 h2 u2 n2 => ⟨?_, b1.after u2 (fun j hj => .inr hj), u2.get m1 (by simp; omega)⟩⟩
    rw [if_pos hne]; exact h2
  · refine ⟨?_, b1, m1⟩
    rw [if_neg (by simpa using he)]; exact h1
  · rintro S2 ⟨h2, u2, m2⟩
    refine ⟨to, ld m2 rfl, ifC_ndec (fun hne => ?_) (fun he => ?_)⟩
    · refine ⟨to, ld m2 rfl, ifS_mk (ld m2 rfl) (names_upd u2.wf h2 to f fun S3 h3 u3 n3 => hk S3 ?_ (u2.after u3 (fun j hj => .inr hj)))⟩
      simp only [doV]
      rw [if_pos hne]; exact h3
    · refine hk S2 ?_ u2
      simp only [doV]
      rw [if_neg (by simpa using he)]; exact h2

end Go.Th.L
end

section
/- The disk's calls that change names. -/
set_option linter.unusedSimpArgs false
set_option linter.unusedVariables false
set_option maxHeartbeats 1000000
namespace Go.Th.L
open Go Go.Th Go.Th.Pure
variable {P : Program} {N : Nat → Nat}

structure Mv (d : Nat) (D B : List Nat) (S : St) (r' : DiskR) (S' : St) : Prop where
  ex : ∃ D' B' q', q'.d = d ∧ DiskIn S' D' B' q' r' ∧ (∀ i ∈ D', i ∈ D ∨ S.next ≤ i) ∧ ∀ i ∈ B', i ∈ B ∨ S.next ≤ i
  upd : Upd D S S'

theorem Mv.stay {S : St} (hw : S.Wf) {D B : List Nat} {q : DP} {r : DiskR} (h : DiskIn S D B q r) : Mv q.d D B S r S := ⟨⟨D, B, q, rfl, h, fun i hi => .inl hi, fun i hi => .inl hi⟩, Upd.refl hw D⟩
theorem Mv.grow {S S' : St} {D B : List Nat} {q : DP} {r : DiskR} (h : DiskIn S D B q r) (g : Grow S S') : Mv q.d D B S r S' := ⟨⟨D, B, q, rfl, h.grow g, fun i hi => .inl hi, fun i hi => .inl hi⟩, g.mono (by simp)⟩
theorem Mv.before {d : Nat} {D B D1 B1 : List Nat} {S S1 S' : St} {r' : DiskR} (u : Upd D S S1) (hD : ∀ i ∈ D1, i ∈ D ∨ S.next ≤ i) (hB : ∀ i ∈ B1, i ∈ B ∨ S.next ≤ i) (h : Mv d D1 B1 S1 r' S') : Mv d D B S r' S' := by
  obtain ⟨D', B', q', e, h1, h2, h3⟩ := h.ex
  refine ⟨⟨D', B', q', e, h1, fun i hi => ?_, fun i hi => ?_⟩, u.after h.upd fun i hi => (hD i hi).symm⟩
  · rcases h2 i hi with h' | h'
    · exact hD i h'
    · exact .inr (Nat.le_trans u.le h')
  · rcases h3 i hi with h' | h'
    · exact hB i h'
    · exact .inr (Nat.le_trans u.le h')

theorem DiskIn.rebuild {S S' : St} {D B : List Nat} {q : DP} {r r' : DiskR} {cv : V} {X : List Nat} (h : DiskIn S D B q r) (u : Upd X S S') (hX : ∀ i ∈ X, i = q.d ∨ i = q.bn ∨ i ∈ q.cv.block ∨ S.next ≤ i)
    (g1 : S'.get q.d = some (.cells (objC { q with cv := cv } r') true)) (g2 : NamesAt S' q.bn (entG q.fb r'.now)) (g3 : Acc S' 0 3 cv r'.chs.length (r'.chs.map (chC q.fb)).flatten)
    (hb : ∀ i ∈ cv.block, i ∈ q.cv.block ∨ S.next ≤ i) (e1 : r'.files = r.files) (e2 : r'.safe = r.safe) (hn : ∀ p ∈ r'.now, q.lv p.2) (hc : ∀ c ∈ r'.chs, c.kind ≠ 3 → q.lv c.file) : DiskIn S' (D ++ cv.block) B { q with cv := cv } r' := by
  have efl : ∀ k, r'.fl k = r.fl k := fun k => by simp only [DiskR.fl, e1]
  have hwS := u.wf0
  have hcvlt : ∀ i ∈ cv.block, i < S'.next := fun i hi => by
    obtain ⟨_, vs, hg⟩ := g3.own i hi
    exact u.wf.lt hg
  have nb : ∀ i ∈ B, i ∉ X := fun i hi hx => by
    rcases hX i hx with rfl | rfl | h1 | h1
    · exact h.apart _ h.dD hi
    · exact h.apart _ h.dN hi
    · exact h.apart _ (h.dC i h1) hi
    · have := h.ltB i hi; omega
  have nf : ∀ k, q.lv k → q.fb k ∉ X := fun k hk hx => by
    rcases hX _ hx with h1 | h1 | h1 | h1
    · exact (h.neF k hk).1 h1
    · exact (h.neF k hk).2.1 h1
    · exact (h.neC _ h1).2.2.2 k hk rfl
    · have := h.ltD _ (h.dF k hk); omega
  have ns : q.bs ∉ X := fun hx => by
    rcases hX _ hx with h1 | h1 | h1 | h1
    · exact h.ne2 h1
    · exact h.ne3 h1.symm
    · exact (h.neC _ h1).2.2.1 rfl
    · have := h.ltD _ h.dS; omega
  refine ⟨g1, g2, by rw [e2]; exact h.safe.upd u ns, g3, fun k hk => ?_, h.inj, hn, by rw [e2]; exact h.lvS, hc, by rw [e1]; exact h.lvI, List.mem_append_left _ h.dD, List.mem_append_left _ h.dN, List.mem_append_left _ h.dS, fun i hi => List.mem_append_right _ hi, fun k hk => List.mem_append_left _ (h.dF k hk), h.dB, fun i hi => ?_, fun i hi => Nat.lt_of_lt_of_le (h.ltB i hi) u.le, fun i hi hB => ?_, h.ne1, h.ne2, h.ne3, fun i hi => ?_, h.neF⟩
  · obtain ⟨f1, f2⟩ := h.fl k hk
    rw [efl k]
    exact ⟨u.get f1 (nf k hk), f2.upd u fun i hi => nb i (h.dB k hk i hi)⟩
  · rcases List.mem_append.mp hi with hi | hi
    · exact Nat.lt_of_lt_of_le (h.ltD i hi) u.le
    · exact hcvlt i hi
  · rcases List.mem_append.mp hi with hi | hi
    · exact h.apart i hi hB
    · rcases hb i hi with h1 | h1
      · exact h.apart i (h.dC i h1) hB
      · have := h.ltB i hB; omega
  · rcases hb i hi with h1 | h1
    · exact h.neC i h1
    · have l1 := h.ltD _ h.dD
      have l2 := h.ltD _ h.dN
      have l3 := h.ltD _ h.dS
      refine ⟨fun e => by simp only at e; omega, fun e => by simp only at e; omega, fun e => by simp only at e; omega, fun k hk e => ?_⟩
      simp only at e
      have := h.ltD _ (h.dF k hk); omega

theorem chP_one (fb : Nat → Nat) (c : ChR) : (chP fb c).one = true := by unfold chP; split <;> rfl
theorem chP_cells (fb : Nat → Nat) (c : ChR) : (chP fb c).cells = [chP fb c] := by unfold chP; split <;> rfl

theorem applyR_mem {l : List (Nm × Nat)} {c : ChR} {nf : Nat} (hc : ChOk nf c) : ∀ p ∈ applyR l c, p ∈ l ∨ (c.kind ≠ 3 ∧ p.2 = c.file) := by
  intro p hp
  rcases hc with ⟨h1, _⟩ | ⟨h1, _⟩ | ⟨h1, _⟩ <;> simp only [applyR, h1] at hp
  · rcases List.mem_cons.mp ((withR_perm _ _).mem_iff.1 hp) with rfl | hp
    · exact .inr ⟨by omega, rfl⟩
    · exact .inl (dropK_mem hp)
  · rcases List.mem_cons.mp ((withR_perm _ _).mem_iff.1 hp) with rfl | hp
    · exact .inr ⟨by omega, rfl⟩
    · exact .inl (dropK_mem (dropK_mem hp))
  · exact .inl (dropK_mem hp)

theorem disk_Disk_change.spec (hO : DiskF P N) {S : St} (hw : S.Wf) {D B : List Nat} {q : DP} {r : DiskR} (h : DiskIn S D B q r) (hd : downR r = false) {M nf : Nat} (hM : M ≤ 1000000) (n1 : r.chs.length ≤ M) (n3 : 0 ≤ r.steps ∧ r.steps ≤ M)
    (hl : r.left ≤ 9223372036854775807) {c : ChR} (hc : ChOk nf c) (hlv : c.kind ≠ 3 → q.lv c.file) {K : Int → St → Prop} (hk : ∀ S', Mv q.d D B S (changeR r c) S' → K 0 S') :
    CallA P (N Fn.disk_Disk_change) [.ptr q.d 0, .agg [.str c.fr, .str c.to, chP q.fb c]] S (retT [.one (.int .i64)] K) := by
  refine disk_Disk_change.run hO.change (newS_mk hw fun S1 g1 m1 e1 => ⟨rfl, ifS_mk (a := .ptr q.d 1) rfl ?_⟩)
  have h1 := h.grow g1
  have hdl := h.ltD _ h.dD
  have hnl := h.ltD _ h.dN
  refine ifS_mk (ld h1.obj rfl) ⟨c.fr, c.to, chP q.fb c, ldN m1 (by simp) rfl, disk_names_do.spec hO.do_ g1.wf h1.now (chP_one _ _) fun S2 h2 u2 => ⟨rfl, ifS_mk (a := .ptr q.d 3) rfl ?_⟩⟩
  have o2 : S2.get q.d = some (.cells (objC q r) true) := u2.get h1.obj (by simp only [List.mem_singleton]; exact fun e => h.ne1 e.symm)
  have m2 : S2.get S.next = some (.cells [.str c.fr, .str c.to, chP q.fb c] true) := u2.get m1 (by simp only [List.mem_singleton]; omega)
  have c2 : Acc S2 0 3 q.cv r.chs.length (r.chs.map (chC q.fb)).flatten := h1.chs.upd u2 fun i hi => by simp only [List.mem_singleton]; exact (h.neC i hi).2.1
  refine ifS_mk (ld o2 rfl) ⟨c.fr, c.to, chP q.fb c, ldN m2 (by simp) rfl, newS_mk u2.wf fun S3 g3 m3 e3 => sameK_mk (Same.of_grow g3 ?_) ?_⟩
  · intro i hi
    simp only [V.block, List.append_nil, List.mem_singleton] at hi
    subst hi
    have := u2.le; have := g1.le; omega
  have hs : srcV 3 S3 (.slice S2.next 0 1 1 3 true) = some (1, chC q.fb c) := by
    simp only [srcV, if_true]
    rw [St.loads_of m3 (by simp)]; rfl
  obtain ⟨v', S4, e4, a4, u4, t4⟩ := (c2.grow g3).app g3.wf (by omega) hs rfl (by simp only [chC, List.all_cons, List.all_nil, chP_one]; rfl) (bytes := 40) (by omega) (by omega)
  have o3 := g3.get o2
  have o4 : S4.get q.d = some (.cells (objC q r) true) := u4.get o3 fun hi => (h.neC _ hi).1 rfl
  have le12 := g1.le; have le2 := u2.le; have le3 := g3.le; have le4 := u4.le
  have hvd : ∀ i ∈ v'.block, i ≠ q.d := fun i hi => by
    rcases t4 i hi with h' | h'
    · exact (h.neC i h').1
    · omega
  refine ifP_mk e4 ⟨rfl, ifS_mk (a := .ptr q.d 3) rfl (st_mk u4.wf o4 (by rw [a4.at_.cells1]; rfl) (by rw [a4.at_.cells1]; simp [objC]) (by rw [a4.at_.cells1]; simp [a4.at_.one1]) fun S5 u5 m5 e5 => ?_)⟩
  rw [a4.at_.cells1] at m5
  have le5 := u5.le
  have hu : Upd (q.bn :: q.d :: q.cv.block) S S5 := by
    have k1 : Upd (q.bn :: q.d :: q.cv.block) S S2 := (g1.mono (by simp)).after u2 fun i hi => .inr (by simp only [List.mem_singleton] at hi; simp [hi])
    have k2 : Upd (q.bn :: q.d :: q.cv.block) S S3 := k1.after g3 (by simp)
    have k3 : Upd (q.bn :: q.d :: q.cv.block) S S4 := k2.after u4 fun i hi => .inr (by simp [hi])
    exact k3.after u5 fun i hi => .inr (by simp only [List.mem_singleton] at hi; simp [hi])
  have hb : ∀ i ∈ v'.block, i ∈ q.cv.block ∨ S.next ≤ i := fun i hi => by
    rcases t4 i hi with h' | h'
    · exact .inl h'
    · exact .inr (by omega)
  have h5 : DiskIn S5 (D ++ v'.block) B { q with cv := v' } { r with now := applyR r.now c, chs := r.chs ++ [c] } := by
    refine h.rebuild hu (fun i hi => ?_) ?_ ?_ ?_ hb rfl rfl ?_ ?_
    · simp only [List.mem_cons] at hi
      rcases hi with hi | hi | hi
      · exact .inr (.inl hi)
      · exact .inl hi
      · exact .inr (.inr (.inl hi))
    · rw [m5]; rfl
    · have n2 : NamesAt S2 q.bn (entG q.fb (applyR r.now c)) := h2.perm (apply_do hc)
      have n3' := (n2.upd g3 (by simp)).upd u4 fun hi => (h.neC _ hi).2.1 rfl
      exact n3'.upd u5 (by simp only [List.mem_singleton]; exact h.ne1)
    · have := a4.upd u5 fun i hi => by simp only [List.mem_singleton]; exact hvd i hi
      simpa [chC] using this
    · intro p hp
      rcases applyR_mem hc p hp with hp | ⟨hp, e⟩
      · exact h.lvN p hp
      · rw [e]; exact hlv hp
    · intro x hx
      rcases List.mem_append.mp hx with hx | hx
      · exact h.lvC x hx
      · simp only [List.mem_singleton] at hx; subst hx; exact hlv
  refine disk_Disk_done.spec hO u5.wf h5 hd hM n3 hl fun S6 h6 u6 e6 => hk S6 ⟨⟨_, _, { q with cv := v' }, rfl, h6, fun i hi => ?_, fun i hi => .inl hi⟩, ?_⟩
  · rcases List.mem_append.mp hi with hi | hi
    · exact .inl hi
    · rcases hb i hi with h' | h'
      · exact .inl (h.dC i h')
      · exact .inr h'
  · refine (hu.mono fun i hi => ?_).after u6 fun i hi => .inr ?_
    · simp only [List.mem_cons] at hi
      rcases hi with rfl | rfl | hi
      · exact .inl h.dN
      · exact .inl h.dD
      · exact .inl (h.dC i hi)
    · simp only [List.mem_singleton] at hi; subst hi; exact h.dD

end Go.Th.L
end
