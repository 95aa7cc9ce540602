/- What the row of one statement stands on: a store, abstract code, functions of the program and their laws (ThHwal4, ThHwal5, ThHwal6, ThHwal7, ThHwal8, ThHwal9). -/
import Derived.Test.YtilkmjbbdnnphaaGreatDoorThBHwal3
import Derived.Test.YtilkmjbbdnnphaaGreatDoorThBHref17a

section
/- wal: heads and records read. -/
set_option linter.unusedSimpArgs false
set_option linter.unusedVariables false
set_option maxHeartbeats 1000000
namespace Go.Th.L
open Go Go.Th Go.Th.Pure
variable {P : Program} {N : Nat → Nat}

def wholeB (l : List UInt8) : Bool := decide (((n4 l (l.length - 4) : Nat) : Int) = sumI (l.take (l.length - 4)))
def n8 (l : List UInt8) (i : Nat) : Nat := n4 l i + 4294967296 * n4 l (i + 4)
def beginsB (l : List UInt8) : Int × Bool := if l.length < 16 ∨ wholeB (l.take 16) = false then (0, false) else (IntKind.i64.wrap ((n8 l 4 : Nat) : Int), decide (n4 l 0 = 1818326888))

theorem wal_begins.spec (hO : WalB P N) {S : St} {v : V} {l : List UInt8} (h : BytesAt S v l) (hl : l.length ≤ 4611686018427387000) {K : Int → Bool → St → Prop} (hk : K (beginsB l).1 (beginsB l).2 S) : CallA P (N Fn.wal_begins) [v] S (retT [.one (.int .i64), .one .bool] K) := by
  refine wal_begins.run hO.begins (Join0.mid (fun S' => S' = S ∧ 16 ≤ l.length ∧ wholeB (l.take 16) = true) ⟨_, SlAt.len h, ifC_dec (fun hs => ?_) (fun hs => ?_)⟩ ?_)
  · have e : beginsB l = (0, false) := by rw [beginsB, if_pos (.inl (by omega))]
    rw [e] at hk; exact hk
  · obtain ⟨v', e1, a1, _⟩ := bytes_first h (m := 16) (by omega)
    have lt : (l.take 16).length = 16 := by rw [List.length_take]; omega
    refine ifS_mk e1 (wal_whole.spec hO.whole hO.g32 hO.sum a1 (by omega) (by omega) ?_)
    show ifC (!wholeB (l.take 16)) _ _
    cases hw : wholeB (l.take 16) with
    | true => exact ifC_ff rfl ⟨rfl, by omega, rfl⟩
    | false =>
      have e : beginsB l = (0, false) := by rw [beginsB, if_pos (.inr hw)]
      rw [e] at hk
      exact ifC_tt rfl hk
  · rintro S1 ⟨rfl, h16, hwt⟩
    have e : beginsB l = (IntKind.i64.wrap ((n8 l 4 : Nat) : Int), decide (n4 l 0 = 1818326888)) := by
      rw [beginsB, if_neg]
      rintro (h1 | h1)
      · omega
      · rw [hwt] at h1; cases h1
    rw [e] at hk
    refine wal_get32.spec hO.g32 h (by omega) (by omega) (fun hn => absurd (by omega) hn) fun j hj hjl => ?_
    have hj0 : j = 0 := by omega
    subst hj0
    refine wal_get64.spec hO.g64 hO.g32 (i := 4) h (by omega) (by omega) (setI_mk rfl ?_)
    have e2 : decide (((n4 l 0 : Nat) : Int) = 1818326888) = decide (n4 l 0 = 1818326888) := by
      rcases Nat.decEq (n4 l 0) 1818326888 with h' | h'
      · rw [decide_eq_false h', decide_eq_false (by omega)]
      · rw [decide_eq_true h', decide_eq_true (by omega)]
    rw [e2]; exact hk

def recE (l : List (Int × List UInt8)) : List (List V) := l.map fun p => [.int .i64 p.1, .str p.2]
theorem recE_len (l : List (Int × List UInt8)) : (recE l).length = l.length := by simp [recE]
def aheadB (l : List UInt8) (seq : Int) : Bool := decide (n4 l 0 ≤ 65536) && decide (n4 l 0 + 16 ≤ l.length) && decide (((n8 l 4 : Nat) : Int) = seq) && wholeB (l.take (n4 l 0 + 16))
def recsB : Nat → List UInt8 → Int → List (Int × List UInt8) × Bool
  | 0, l, _ => ([], decide (l.length = 0))
  | f + 1, l, seq => if 16 ≤ l.length then (if aheadB l seq then let r := recsB f (l.drop (n4 l 0 + 16)) (seq + 1); ((seq, (l.drop 12).take (n4 l 0)) :: r.1, r.2) else ([], false)) else ([], decide (l.length = 0))

theorem bytes_from {S : St} {v : V} {b : List UInt8} (hv : BytesAt S v b) {m : Nat} (hm : m ≤ b.length) : ∃ v', sliceSlV 1 v (some (.int .i64 (m : Nat))) none none = some v' ∧ BytesAt S v' (b.drop m) := by
  obtain ⟨v', e, a, _⟩ := SlAt.sub hv (lo := some (.int .i64 (m : Nat))) (hi := none) (l := m) (h := b.length) (c := 0) (fun cap hc => bnds_l (l := m) (by omega)) hm (Nat.le_refl _)
  refine ⟨v', e, ?_⟩
  have e2 : ((bytesV b).drop (m * 1)).take ((b.length - m) * 1) = bytesV (b.drop m) := by
    rw [Nat.mul_one, Nat.mul_one, List.take_of_length_le (by rw [List.length_drop, bytesV_length]; omega)]
    simp [bytesV, List.map_drop]
  rw [e2] at a
  have : b.length - m = (b.drop m).length := by rw [List.length_drop]
  rw [this] at a
  exact a
theorem bytes_mid {S : St} {v : V} {b : List UInt8} (hv : BytesAt S v b) {x y : Nat} {k1 k2 : IntKind} (hxy : x ≤ y) (hy : y ≤ b.length) : ∃ v', sliceSlV 1 v (some (.int k1 (x : Nat))) (some (.int k2 (y : Nat))) none = some v' ∧ BytesAt S v' ((b.drop x).take (y - x)) := by
  obtain ⟨v', e, a, _⟩ := SlAt.sub hv (lo := some (.int k1 (x : Nat))) (hi := some (.int k2 (y : Nat))) (l := x) (h := y) (c := 0) (fun cap hc => bnds_lh hxy (by omega)) hxy hy
  refine ⟨v', e, ?_⟩
  have e2 : ((bytesV b).drop (x * 1)).take ((y - x) * 1) = bytesV ((b.drop x).take (y - x)) := by
    rw [Nat.mul_one, Nat.mul_one]
    simp [bytesV, List.map_drop, List.map_take]
  rw [e2] at a
  exact SlAt.bytes a

theorem wal_records.spec (hO : WalB P N) {S : St} (hw : S.Wf) {v : V} {l : List UInt8} (h : BytesAt S v l) (hl : l.length ≤ 4194304) (h16 : 16 ≤ l.length) {seq : Int} (hs : 0 ≤ seq ∧ seq ≤ 1000000000) {K : V → Bool → St → Prop}
    (hk : ∀ v' S', Built S S' 2 v' (recE (recsB l.length (l.drop 16) seq).1) → K v' (recsB l.length (l.drop 16) seq).2 S') : CallA P (N Fn.wal_records) [v, .int .i64 seq] S (retT [.one .any, .one .bool] K) := by
  obtain ⟨v0, e0, a0⟩ := bytes_from h (m := 16) h16
  refine wal_records.run hO.records (ifS_mk e0 (Loop3.ind (fun m x y z S' => ∃ (rest : List UInt8) (f : Nat) (done : List (Int × List UInt8)), m = rest.length ∧ BytesAt S x rest ∧ Built S S' 2 z (recE done) ∧ rest.length ≤ f ∧ y = seq + done.length ∧ 16 * done.length + rest.length ≤ l.length ∧
    recsB l.length (l.drop 16) seq = (done ++ (recsB f rest y).1, (recsB f rest y).2)) (l.drop 16).length ⟨l.drop 16, l.length, [], rfl, a0, Built.nil (Upd.refl hw []) 2, by rw [List.length_drop]; omega, by simp, by simp [List.length_drop], by simp⟩ ?_))
  rintro m x y z S1 ⟨rest, f, done, rfl, hx, hb, hf, rfl, hd, hr⟩
  have x1 : BytesAt S1 x rest := SlAt.grow hx hb.grow
  have lr : rest.length ≤ 4194304 := by omega
  refine ⟨_, SlAt.len x1, ifC_dec (fun hge => ?_) (fun hlt => ?_)⟩
  · have hge' : 16 ≤ rest.length := by omega
    obtain ⟨f', rfl⟩ : ∃ f', f = f' + 1 := ⟨f - 1, by omega⟩
    have bad : aheadB rest (seq + done.length) = false → K z false S1 := fun hbad => by
      have e : recsB (f' + 1) rest (seq + done.length) = ([], false) := by rw [recsB, if_pos hge', hbad]; rfl
      rw [e] at hr
      rw [hr] at hk
      simp only [List.append_nil] at hk
      exact hk _ _ hb
    refine wal_get32.spec hO.g32 x1 (by omega) (by omega) (fun hn => absurd (by omega) hn) fun j hj hjl => ?_
    have hj0 : j = 0 := by omega
    subst hj0
    refine wal_get64.spec hO.g64 hO.g32 (i := 4) x1 (by omega) (by omega) ?_
    generalize hn : n4 rest 0 = n
    have wn : ∀ k : Nat, k ≤ 65536 → IntKind.i64.wrap ((k : Nat) : Int) = ((k : Nat) : Int) := fun k hk => by rw [IntKind.wrap_i64]; omega
    have wn16 : n ≤ 65536 → IntKind.i64.wrap (((n : Nat) : Int) + 16) = ((n + 16 : Nat) : Int) := fun hk => by rw [IntKind.wrap_i64]; omega
    refine Join1.mid (fun z' S' => z' = z ∧ S' = S1 ∧ aheadB rest (seq + done.length) = true ∧ n ≤ 65536 ∧ n + 16 ≤ rest.length) (ifC_dec (fun h1 => bad (by simp only [aheadB, hn]; rw [decide_eq_false (show ¬ n ≤ 65536 by omega)]; simp)) fun h1 => ?_) ?_
    · have h1' : n ≤ 65536 := by omega
      refine setI_mk (wn n h1') (setI_mk (wn16 h1') ⟨_, SlAt.len x1, ifC_dec (fun h2 => bad (by simp only [aheadB, hn]; rw [decide_eq_false (show ¬ n + 16 ≤ rest.length by omega)]; simp)) fun h2 => setI_mk (n := seq + done.length) (by rw [IntKind.wrap_u64]; omega) ?_⟩)
      have h2' : n + 16 ≤ rest.length := by omega
      refine ifC_ndec (fun h3 => bad ?_) fun h3 => ?_
      · have h3' : ¬ ((n8 rest 4 : Nat) : Int) = seq + done.length := h3
        simp only [aheadB, hn]
        rw [decide_eq_false h3']; simp
      · obtain ⟨v2, e2, a2, _⟩ := bytes_first x1 (m := n + 16) h2'
        have lt : (rest.take (n + 16)).length = n + 16 := by rw [List.length_take]; omega
        refine setI_mk (wn n h1') (setI_mk (wn16 h1') (ifS_mk e2 (wal_whole.spec hO.whole hO.g32 hO.sum a2 (by omega) (by omega) ?_)))
        show ifC (!wholeB (rest.take (n + 16))) _ _
        have h3' : ((n8 rest 4 : Nat) : Int) = seq + done.length := h3
        cases hwt : wholeB (rest.take (n + 16)) with
        | false => exact ifC_tt rfl (bad (by simp only [aheadB, hn, hwt, Bool.and_false]))
        | true =>
          refine ifC_ff rfl ⟨rfl, rfl, ?_, h1', h2'⟩
          simp only [aheadB, hn, hwt, Bool.and_true]
          rw [decide_eq_true h1', decide_eq_true h2', decide_eq_true h3']; rfl
    · rintro z' S4 ⟨rfl, rfl, hah, h1, h2⟩
      obtain ⟨v3, e3, a3⟩ := bytes_mid x1 (x := 12) (y := 12 + n) (k1 := .i64) (k2 := .u32) (by omega) (by omega)
      rw [Nat.add_sub_cancel_left] at a3
      obtain ⟨v5, e5, a5⟩ := bytes_from hx (m := n + 16) h2
      have hdl : (recE done).length ≤ 262144 := by rw [recE_len]; omega
      refine setI_mk (n := ((12 + n : Nat) : Int)) (by rw [IntKind.wrap_u32]; omega) (ifS_mk e3 ⟨_, bytes_str a3, hb.push (e := [.int .i64 (seq + done.length), .str ((rest.drop 12).take n)]) rfl rfl (by omega) (by omega) fun v7 S7 b7 u7 t7 => setI_mk (wn n h1) (setI_mk (wn16 h1) (ifS_mk e5 (setI_mk (n := seq + done.length + 1) (by rw [IntKind.wrap_i64]; omega) ?_)))⟩)
      refine ⟨(rest.drop (n + 16)).length, by rw [List.length_drop]; omega, rest.drop (n + 16), f', done ++ [(seq + done.length, (rest.drop 12).take n)], rfl, a5, by simpa [recE] using b7, by rw [List.length_drop]; omega, by rw [List.length_append]; simp; omega, by rw [List.length_append, List.length_drop]; simp; omega, ?_⟩
      rw [hr]
      have e : recsB (f' + 1) rest (seq + done.length) = ((seq + done.length, (rest.drop 12).take n) :: (recsB f' (rest.drop (n + 16)) (seq + done.length + 1)).1, (recsB f' (rest.drop (n + 16)) (seq + done.length + 1)).2) := by
        rw [recsB, if_pos hge', if_pos hah, hn]
      rw [e]
      simp
  · refine ⟨_, SlAt.len x1, ?_⟩
    have hlt' : ¬ 16 ≤ rest.length := by omega
    have e : recsB f rest (seq + done.length) = ([], decide (rest.length = 0)) := by
      cases f with
      | zero => rfl
      | succ f => rw [recsB, if_neg hlt']
    rw [e] at hr
    rw [hr] at hk
    simp only [List.append_nil] at hk
    have e2 : decide (((rest.length : Nat) : Int) = 0) = decide (rest.length = 0) := by
      rcases Nat.decEq rest.length 0 with h' | h'
      · rw [decide_eq_false h', decide_eq_false (by omega)]
      · rw [decide_eq_true h', decide_eq_true (by omega)]
    rw [e2]; exact hk _ _ hb

end Go.Th.L
end

section
/- wal: the log in the store; its last number; no log. -/
set_option linter.unusedSimpArgs false
set_option linter.unusedVariables false
set_option maxHeartbeats 1000000
namespace Go.Th.L
open Go Go.Th Go.Th.Pure
variable {P : Program} {N : Nat → Nat}

structure SegR where
  name : Nm
  first : Int
  next : Int
  size : Int
  dirty : Bool
def segC (s : SegR) : List V := [.str s.name, .int .i64 s.first, .int .i64 s.next, .int .i64 s.size, .bool s.dirty]
structure LogR where
  segs : List SegR
  synced : Int
  names : Bool
  file : Int
structure LP where
  o : Nat
  sv : V
  gs : List Nat
def ptrE (gs : List Nat) : List (List V) := gs.map fun g => [V.ptr g 0]
def logC (d : Nat) (q : LP) (l : LogR) : List V := [.ptr d 0, q.sv, .int .i64 l.synced, .bool l.names, .int .i64 l.file]
structure LogIn (S : St) (G : List Nat) (d : Nat) (q : LP) (l : LogR) : Prop where
  obj : S.get q.o = some (.cells (logC d q l) true)
  sl : Acc S 0 1 q.sv q.gs.length (ptrE q.gs).flatten
  len : q.gs.length = l.segs.length
  seg : ∀ i (h1 : i < q.gs.length) (h2 : i < l.segs.length), S.get q.gs[i] = some (.cells (segC l.segs[i]) true)
  nod : q.gs.Nodup
  oG : q.o ∈ G
  sG : ∀ i ∈ q.sv.block, i ∈ G
  gG : ∀ i ∈ q.gs, i ∈ G
  lt : ∀ i ∈ G, i < S.next
  n1 : q.o ∉ q.gs
  n2 : q.o ∉ q.sv.block
  n3 : ∀ i ∈ q.sv.block, i ∉ q.gs
section
variable {S S' : St} {G : List Nat} {d : Nat} {q : LP} {l : LogR}
theorem LogIn.upd {X : List Nat} (h : LogIn S G d q l) (u : Upd X S S') (hX : ∀ i ∈ X, i ∉ G) : LogIn S' G d q l := by
  have nG : ∀ i ∈ G, i ∉ X := fun i hi hx => hX i hx hi
  exact { h with obj := u.get h.obj (nG _ h.oG), sl := h.sl.upd u fun i hi => nG i (h.sG i hi), seg := fun i h1 h2 => u.get (h.seg i h1 h2) (nG _ (h.gG _ (List.getElem_mem h1))), lt := fun i hi => Nat.lt_of_lt_of_le (h.lt i hi) u.le }
theorem LogIn.grow (h : LogIn S G d q l) (u : Grow S S') : LogIn S' G d q l := h.upd u (by simp)
theorem ptrE_len (gs : List Nat) : (ptrE gs).length = gs.length := by simp [ptrE]
theorem LogIn.sle (h : LogIn S G d q l) : SlE S 1 q.sv (ptrE q.gs) := ⟨by rw [ptrE_len]; exact h.sl.at_, fun e he => by
  obtain ⟨_, _, rfl⟩ := List.mem_map.1 he; rfl⟩
theorem LogIn.length (h : LogIn S G d q l) : lenV S 2 q.sv = some (.int .i64 l.segs.length) := by
  rw [h.sle.len, ptrE_len, h.len]
theorem LogIn.ix (h : LogIn S G d q l) {i : Nat} (hi : i < l.segs.length) : idxAddrV 1 q.sv (.int .i64 (i : Int)) = some (eltV 1 q.sv i 0) := h.sle.idx (by rw [ptrE_len, h.len]; exact hi)
theorem LogIn.ptr (h : LogIn S G d q l) {i : Nat} (hi : i < l.segs.length) : loadV S (eltV 1 q.sv i 0) = some (.ptr (q.gs[i]'(by rw [h.len]; exact hi)) 0) := by
  rw [h.sle.get (by rw [ptrE_len, h.len]; exact hi) (by omega)]
  simp [ptrE]
theorem LogIn.at (h : LogIn S G d q l) {i : Nat} (hi : i < l.segs.length) : S.get (q.gs[i]'(by rw [h.len]; exact hi)) = some (.cells (segC l.segs[i]) true) := h.seg i _ hi
end

def lastR (l : LogR) : Int := match l.segs.getLast? with
  | none => 0
  | some s => s.next - 1
theorem lastR_at {l : LogR} (h : 0 < l.segs.length) : lastR l = (l.segs[l.segs.length - 1]).next - 1 := by
  unfold lastR
  rw [List.getLast?_eq_getElem?, List.getElem?_eq_getElem (by omega)]

theorem wal_Log_Last.nil (hF : wal_Log_Last.Ok P N) {S : St} {K : Int → St → Prop} (hk : K 0 S) : CallA P (N Fn.wal_Log_Last) [.nilPtr] S (retT [.one (.int .i64)] K) :=
  wal_Log_Last.run hF (Join0.mid (fun _ => False) ⟨true, rfl, ifC_tt rfl hk⟩ (fun _ h => h.elim))

theorem wal_Log_Last.spec (hF : wal_Log_Last.Ok P N) {S : St} {G : List Nat} {d : Nat} {q : LP} {l : LogR} (h : LogIn S G d q l) (hl : l.segs.length ≤ 1000000) (hb : ∀ s ∈ l.segs, 0 ≤ s.next ∧ s.next ≤ 4611686018427387904) {K : Int → St → Prop} (hk : K (lastR l) S) :
    CallA P (N Fn.wal_Log_Last) [.ptr q.o 0] S (retT [.one (.int .i64)] K) := by
  refine wal_Log_Last.run hF (Join0.mid (fun S' => S' = S ∧ 0 < l.segs.length) ⟨false, rfl, ifC_ff rfl ⟨rfl, ifS_mk (a := .ptr q.o 1) rfl (ifS_mk (ld h.obj rfl) ⟨_, h.length, ifC_dec (fun h0 => ?_) (fun h0 => ⟨rfl, by omega⟩)⟩)⟩⟩ ?_)
  · have : l.segs = [] := List.length_eq_zero_iff.mp (by omega)
    have e : lastR l = 0 := by simp [lastR, this]
    rw [e] at hk; exact hk
  · rintro S1 ⟨rfl, hpos⟩
    rw [lastR_at hpos] at hk
    have hn := hb _ (List.getElem_mem (show l.segs.length - 1 < l.segs.length by omega))
    refine ⟨rfl, ifS_mk (a := .ptr q.o 1) rfl (ifS_mk (ld h.obj rfl) ⟨rfl, ifS_mk (a := .ptr q.o 1) rfl (ifS_mk (ld h.obj rfl) ⟨_, h.length, setI_mk (n := ((l.segs.length - 1 : Nat) : Int)) (by rw [IntKind.wrap_i64]; omega) (ifS_mk (h.ix (by omega)) (ifS_mk (h.ptr (by omega)) ⟨rfl, ifS_mk rfl ⟨_, ld (h.at (by omega)) rfl, setI_mk ?_ hk⟩⟩))⟩)⟩)⟩
    rw [IntKind.wrap_i64]; omega

theorem wal_Log_Append.nil (hF : wal_Log_Append.Ok P N) {S : St} {s : Nm} {K : Int → Int → St → Prop} (hk : K 0 3 S) : CallA P (N Fn.wal_Log_Append) [.nilPtr, .str s] S (retT [.one (.int .i64), .one (.int .i64)] K) :=
  wal_Log_Append.run hF ⟨true, rfl, ifC_tt rfl hk⟩
theorem wal_Log_Sync.nil (hF : wal_Log_Sync.Ok P N) {S : St} {K : Int → St → Prop} (hk : K 3 S) : CallA P (N Fn.wal_Log_Sync) [.nilPtr] S (retT [.one (.int .i64)] K) :=
  wal_Log_Sync.run hF ⟨true, rfl, ifC_tt rfl hk⟩
theorem wal_Log_Cut.nil (hF : wal_Log_Cut.Ok P N) {S : St} {n : Int} {K : Int → St → Prop} (hk : K 3 S) : CallA P (N Fn.wal_Log_Cut) [.nilPtr, .int .i64 n] S (retT [.one (.int .i64)] K) :=
  wal_Log_Cut.run hF (Join0.mid (fun _ => False) ⟨true, rfl, ifC_tt rfl hk⟩ (fun _ h => h.elim))
theorem wal_Open.nil (hF : wal_Open.Ok P N) {S : St} {K : V → V → Int → St → Prop} (hk : K .nilPtr .nilSlice 3 S) : CallA P (N Fn.wal_Open) [.nilPtr] S (retT [.one .any, .one .any, .one (.int .i64)] K) :=
  wal_Open.run hF ⟨true, rfl, ifC_tt rfl hk⟩

end Go.Th.L
end

section
/- wal: a log on its disk; Sync. -/
set_option linter.unusedSimpArgs false
set_option linter.unusedVariables false
set_option maxHeartbeats 1000000
namespace Go.Th.L
open Go Go.Th Go.Th.Pure
variable {P : Program} {N : Nat → Nat}

structure LD (S0 S : St) (G D B : List Nat) (d : Nat) (q : LP) (l : LogR) (r : DiskR) : Prop where
  lg : LogIn S G d q l
  dh : DH S D B d r
  g : Grow S0 S
  fG : ∀ i ∈ G, S0.next ≤ i
  fD : ∀ i ∈ D, S0.next ≤ i
  ap : ∀ i ∈ G, i ∉ D ∧ i ∉ B
section
variable {S0 S S' : St} {G D B D1 B1 : List Nat} {d : Nat} {q : LP} {l l' : LogR} {r r1 : DiskR}
theorem LD.wf (h : LD S0 S G D B d q l r) : S.Wf := h.g.wf
theorem LD.grow (h : LD S0 S G D B d q l r) (u : Grow S S') : LD S0 S' G D B d q l r := ⟨h.lg.grow u, h.dh.grow u, h.g.trans u, h.fG, h.fD, h.ap⟩
theorem LD.disk (h : LD S0 S G D B d q l r) (k : DH S' D1 B1 d r1) (f : Foot D B S D1 B1 S') : LD S0 S' G D1 B1 d q l r1 := by
  have hl := h.g.le
  refine ⟨h.lg.upd f.2.2 fun i hi hG => (h.ap i hG).1 hi, k, h.g.after f.2.2 fun i hi => .inl (h.fD i hi), h.fG, fun i hi => ?_, fun i hi => ⟨fun hD => ?_, fun hB => ?_⟩⟩
  · rcases f.1 i hi with h' | h'
    · exact h.fD i h'
    · omega
  · rcases f.1 i hD with h' | h'
    · exact (h.ap i hi).1 h'
    · have := h.lg.lt i hi; omega
  · rcases f.2.1 i hB with h' | h'
    · exact (h.ap i hi).2 h'
    · have := h.lg.lt i hi; omega
theorem LD.log {X : List Nat} (h : LD S0 S G D B d q l r) (k : LogIn S' G d q l') (u : Upd X S S') (hX : ∀ i ∈ X, i ∈ G) : LD S0 S' G D B d q l' r :=
  ⟨k, h.dh.upd u (fun i hi => (h.ap i (hX i hi)).1) (fun i hi => (h.ap i (hX i hi)).2), h.g.after u fun i hi => .inl (h.fG i (hX i hi)), h.fG, h.fD, h.ap⟩

theorem LogIn.setSeg (h : LogIn S G d q l) {i : Nat} (hi : i < l.segs.length) {s : SegR} (u : Upd [q.gs[i]'(by rw [h.len]; exact hi)] S S') (g : S'.get (q.gs[i]'(by rw [h.len]; exact hi)) = some (.cells (segC s) true)) : LogIn S' G d q { l with segs := l.segs.set i s } := by
  have hgi : i < q.gs.length := by rw [h.len]; exact hi
  have hm : q.gs[i] ∈ q.gs := List.getElem_mem hgi
  refine { h with obj := u.get h.obj fun hx => ?_, sl := h.sl.upd u fun j hj hx => ?_, len := by simpa using h.len, seg := fun j h1 h2 => ?_, lt := fun j hj => Nat.lt_of_lt_of_le (h.lt j hj) u.le }
  · simp only [List.mem_singleton] at hx
    exact h.n1 (hx ▸ hm)
  · simp only [List.mem_singleton] at hx
    subst hx
    exact h.n3 _ hj hm
  · simp only [List.length_set] at h2
    by_cases e : i = j
    · subst e
      simp only [List.getElem_set_self]
      exact g
    · rw [List.getElem_set_ne e]
      refine u.get (h.seg j h1 h2) fun hx => ?_
      simp only [List.mem_singleton] at hx
      have := (List.getElem_inj h.nod).1 hx
      omega
theorem LogIn.setObj (h : LogIn S G d q l) (u : Upd [q.o] S S') (g : S'.get q.o = some (.cells (logC d q l') true)) (e : l'.segs = l.segs) : LogIn S' G d q l' := by
  refine { h with obj := g, sl := h.sl.upd u fun j hj hx => ?_, len := by rw [e]; exact h.len, seg := fun j h1 h2 => ?_, lt := fun j hj => Nat.lt_of_lt_of_le (h.lt j hj) u.le }
  · simp only [List.mem_singleton] at hx
    subst hx
    exact h.n2 hj
  · simp only [e] at h2 ⊢
    refine u.get (h.seg j h1 h2) fun hx => ?_
    simp only [List.mem_singleton] at hx
    exact h.n1 (hx ▸ List.getElem_mem h1)
end

def Mvd (G D : List Nat) (S : St) (D' : List Nat) (S' : St) : Prop := Upd (G ++ D) S S' ∧ ∀ i ∈ D', i ∈ D ∨ S.next ≤ i
section
variable {S S1 S2 : St} {G D D1 D2 B1 B2 X : List Nat}
theorem Mvd.refl (hw : S.Wf) (G D : List Nat) : Mvd G D S D S := ⟨Upd.refl hw _, fun i hi => .inl hi⟩
theorem Mvd.disk (m : Mvd G D S D1 S1) (f : Foot D1 B1 S1 D2 B2 S2) : Mvd G D S D2 S2 := by
  have hl := m.1.le
  refine ⟨m.1.after f.2.2 fun i hi => ?_, fun i hi => ?_⟩
  · rcases m.2 i hi with h | h
    · exact .inr (List.mem_append_right _ h)
    · exact .inl h
  · rcases f.1 i hi with h | h
    · exact m.2 i h
    · exact .inr (by omega)
theorem Mvd.log (m : Mvd G D S D1 S1) (u : Upd X S1 S2) (hX : ∀ i ∈ X, i ∈ G) : Mvd G D S D1 S2 := ⟨m.1.after u fun i hi => .inr (List.mem_append_left _ (hX i hi)), m.2⟩
theorem Mvd.grow (m : Mvd G D S D1 S1) (u : Grow S1 S2) : Mvd G D S D1 S2 := ⟨m.1.after u (by simp), m.2⟩
theorem Mvd.trans (m : Mvd G D S D1 S1) (k : Mvd G D1 S1 D2 S2) : Mvd G D S D2 S2 := by
  have hl := m.1.le
  refine ⟨m.1.after k.1 fun i hi => ?_, fun i hi => ?_⟩
  · rcases List.mem_append.mp hi with h | h
    · exact .inr (List.mem_append_left _ h)
    · rcases m.2 i h with h | h
      · exact .inr (List.mem_append_right _ h)
      · exact .inl h
  · rcases k.2 i hi with h | h
    · exact m.2 i h
    · exact .inr (by omega)
end

end Go.Th.L
end

section
/- wal: Sync. -/
set_option linter.unusedSimpArgs false
set_option linter.unusedVariables false
set_option maxHeartbeats 1000000
namespace Go.Th.L
open Go Go.Th Go.Th.Pure
variable {P : Program} {N : Nat → Nat}

def syncSegs : List SegR → DiskR → Int × List SegR × DiskR
  | [], r => (0, [], r)
  | s :: t, r => if s.dirty = true then (if (syncR r s.name).1 = 0 then ((syncSegs t (syncR r s.name).2).1, { s with dirty := false } :: (syncSegs t (syncR r s.name).2).2.1, (syncSegs t (syncR r s.name).2).2.2) else ((syncR r s.name).1, s :: t, (syncR r s.name).2))
    else ((syncSegs t r).1, s :: (syncSegs t r).2.1, (syncSegs t r).2.2)
def logSyncR (l : LogR) (r : DiskR) : Int × LogR × DiskR :=
  let a := syncSegs l.segs r
  let l1 := { l with segs := a.2.1 }
  if a.1 = 0 then (if l.names then (if (syncDirR a.2.2).1 = 0 then (0, { l1 with names := false, synced := lastR l1 }, (syncDirR a.2.2).2) else ((syncDirR a.2.2).1, l1, (syncDirR a.2.2).2)) else (0, { l1 with synced := lastR l1 }, a.2.2)) else (a.1, l1, a.2.2)

theorem prw {α β : Type} (p : α × β) : p = (p.1, p.2) := rfl
structure WalF (P : Program) (N : Nat → Nat) : Prop where
  b : WalB P N
  d : DiskFv P N
  last : wal_Log_Last.Ok P N
  sync : wal_Log_Sync.Ok P N
  begin_ : wal_Log_begin.Ok P N
  lay : wal_Log_lay.Ok P N
  append : wal_Log_Append.Ok P N
  settle : wal_Log_settle.Ok P N
  open_ : wal_Open.Ok P N
  cut : wal_Log_Cut.Ok P N

def SegsOk (l : List SegR) : Prop := ∀ s ∈ l, 0 ≤ s.next ∧ s.next ≤ 4611686018427387904

theorem wal_Log_Sync.spec (hO : WalF P N) {S0 S : St} {G D B : List Nat} {d : Nat} {q : LP} {l : LogR} {r : DiskR} (h : LD S0 S G D B d q l r) {M : Nat} (hok : OkR M r) (hl : l.segs.length ≤ 1000) (hM : M + l.segs.length + 1 ≤ 1000000) (hs : SegsOk l.segs) {K : Int → St → Prop}
    (hk : ∀ S' D' B', LD S0 S' G D' B' d q (logSyncR l r).2.1 (logSyncR l r).2.2 → OkR (M + l.segs.length + 1) (logSyncR l r).2.2 → Mvd G D S D' S' → K (logSyncR l r).1 S') : CallA P (N Fn.wal_Log_Sync) [.ptr q.o 0] S (retT [.one (.int .i64)] K) := by
  refine wal_Log_Sync.run hO.sync ⟨false, rfl, ifC_ff rfl ⟨rfl, ifS_mk (a := .ptr q.o 1) rfl (ifS_mk (ld h.lg.obj rfl) ⟨_, h.lg.length, ?_⟩)⟩⟩
  refine Loop1.ind (fun m z S' => ∃ (i : Nat) (D1 B1 : List Nat) (done todo : List SegR) (r1 : DiskR), z = i ∧ i + m = l.segs.length ∧ done.length = i ∧ todo.length = m ∧ LD S0 S' G D1 B1 d q { l with segs := done ++ todo } r1 ∧ OkR (M + i) r1 ∧ SegsOk (done ++ todo) ∧ Mvd G D S D1 S' ∧
    syncSegs l.segs r = ((syncSegs todo r1).1, done ++ (syncSegs todo r1).2.1, (syncSegs todo r1).2.2)) l.segs.length ⟨0, D, B, [], l.segs, r, rfl, by omega, rfl, rfl, h, hok, hs, Mvd.refl h.wf G D, by simp⟩ ?_
  rintro m z S1 ⟨i, D1, B1, done, todo, r1, rfl, hi, hdl, htl, h1, ok1, so1, mv1, he⟩
  refine ifC_dec (fun hlt => ?_) (fun hge => ?_)
  · cases todo with
    | nil => simp at htl; omega
    | cons s t =>
      have hin : i < (done ++ s :: t).length := by rw [List.length_append, List.length_cons]; omega
      have hget : (done ++ s :: t)[i] = s := by
        rw [List.getElem_append_right (by omega)]
        simp [hdl]
      have hat := h1.lg.at (i := i) hin
      simp only [hget] at hat
      have nxt : ∀ {S' : St} {D' B' : List Nat} {s' : SegR} {r' : DiskR}, LD S0 S' G D' B' d q { l with segs := (done ++ [s']) ++ t } r' → OkR (M + (i + 1)) r' → s'.next = s.next → Mvd G D S D' S' → (syncSegs (s :: t) r1 = ((syncSegs t r').1, s' :: (syncSegs t r').2.1, (syncSegs t r').2.2)) →
          ∃ m', m' < m ∧ ∃ (i' : Nat) (D1 B1 : List Nat) (done todo : List SegR) (r1 : DiskR), ((i + 1 : Nat) : Int) = i' ∧ i' + m' = l.segs.length ∧ done.length = i' ∧ todo.length = m' ∧ LD S0 S' G D1 B1 d q { l with segs := done ++ todo } r1 ∧ OkR (M + i') r1 ∧ SegsOk (done ++ todo) ∧ Mvd G D S D1 S' ∧
            syncSegs l.segs r = ((syncSegs todo r1).1, done ++ (syncSegs todo r1).2.1, (syncSegs todo r1).2.2) := by
        intro S' D' B' s' r' a1 a2 a3 am a4
        simp only [List.length_cons] at htl
        refine ⟨m - 1, by omega, i + 1, D', B', done ++ [s'], t, r', rfl, by omega, by simp [hdl], by omega, a1, a2, fun y hy => ?_, am, ?_⟩
        · simp only [List.append_assoc, List.singleton_append, List.mem_append, List.mem_cons] at hy
          rcases hy with hy | rfl | hy
          · exact so1 y (by simp [hy])
          · rw [a3]; exact so1 s (by simp)
          · exact so1 y (by simp [hy])
        · rw [he, a4]; simp
      have wi : IntKind.i64.wrap ((i : Int) + 1) = ((i + 1 : Nat) : Int) := by rw [IntKind.wrap_i64]; omega
      refine ifS_mk (h1.lg.ix hin) (ifS_mk (h1.lg.ptr hin) ⟨rfl, ifS_mk rfl ⟨_, ld hat rfl, ?_⟩⟩)
      cases hd : s.dirty with
      | false =>
        refine ifC_tt rfl (setI_mk wi (nxt (s' := s) (r' := r1) (by simpa using h1) (ok1.mono (by omega)) rfl mv1 ?_))
        rw [syncSegs, if_neg (by rw [hd]; simp)]
      | true =>
        refine ifC_ff rfl ⟨rfl, ifS_mk (a := .ptr q.o 0) rfl (ifS_mk (ld h1.lg.obj rfl) ⟨rfl, ifS_mk rfl ⟨_, ld hat rfl, DH.sync hO.d h1.wf h1.dh ok1 (by omega) (prw _) fun S2 D2 B2 h2 f2 => ?_⟩⟩)⟩
        have L2 := h1.disk h2 f2
        have mv2 := mv1.disk f2
        have ok2 := syncR_ok ok1 s.name
        refine ifC_ndec (fun hne => ?_) (fun hz => ?_)
        · have e1 : syncSegs (s :: t) r1 = ((syncR r1 s.name).1, s :: t, (syncR r1 s.name).2) := by rw [syncSegs, if_pos hd, if_neg hne]
          rw [e1] at he
          have e2 : logSyncR l r = ((syncR r1 s.name).1, { l with segs := done ++ s :: t }, (syncR r1 s.name).2) := by
            simp only [logSyncR, he]
            rw [if_neg hne]
          rw [e2] at hk
          exact hk S2 D2 B2 L2 (ok2.mono (by omega)) mv2
        · have hat2 := L2.lg.at (i := i) hin
          simp only [hget] at hat2
          refine ⟨rfl, ifS_mk rfl (st_mk L2.wf hat2 rfl (by simp [segC, V.cells]) (by simp [V.cells, V.one]) fun S3 u3 m3 n3 => setI_mk wi (nxt (D' := D2) (B' := B2) (s' := { s with dirty := false }) (r' := (syncR r1 s.name).2) ?_ (ok2.mono (by omega)) rfl (mv2.log u3 fun j hj => ?_) ?_))⟩
          · have k3 := L2.lg.setSeg (i := i) hin (s := { s with dirty := false }) u3 (by rw [m3]; simp [segC, over, V.cells])
            have e3 : (done ++ s :: t).set i { s with dirty := false } = (done ++ [{ s with dirty := false }]) ++ t := by
              rw [List.set_append_right _ _ (by omega)]
              simp [hdl]
            simp only [e3] at k3
            refine L2.log k3 u3 fun j hj => ?_
            simp only [List.mem_singleton] at hj
            subst hj
            exact L2.lg.gG _ (List.getElem_mem _)
          · simp only [List.mem_singleton] at hj
            subst hj
            exact L2.lg.gG _ (List.getElem_mem _)
          · rw [syncSegs, if_pos hd, if_pos hz]
  · have hm0 : m = 0 := by omega
    subst hm0
    have ht : todo = [] := List.length_eq_zero_iff.mp htl
    subst ht
    simp only [syncSegs, List.append_nil] at he
    simp only [List.append_nil] at h1 so1
    have hdn : done.length ≤ 1000 := by omega
    have fin : ∀ {S' : St} {D' B' : List Nat} {l' : LogR} {r' : DiskR}, Mvd G D S D' S' → LD S0 S' G D' B' d q l' r' → OkR (M + l.segs.length + 1) r' → l'.segs = done → logSyncR l r = (0, { l' with synced := lastR l' }, r') →
        CallA P (N Fn.wal_Log_Last) [.ptr q.o 0] S' (retT [(.one (.int .i64))] fun (x56 : Int) (S7 : St) => nilV (V.ptr q.o 0) = some (V.ptr q.o 0) ∧ ifS (fieldAddrV 2 (V.ptr q.o 0)) fun x58 => ifS (storeV S7 1 x58 (V.int .i64 x56)) fun S8 => K 0 S8) := by
      intro S' D' B' l' r' a0 a1 a2 a3 a4
      refine wal_Log_Last.spec hO.last a1.lg (by rw [a3]; omega) (by rw [a3]; exact so1) ⟨rfl, ifS_mk (a := .ptr q.o 2) rfl (st_mk a1.wf a1.lg.obj rfl (by simp [logC, V.cells]) (by simp [V.cells, V.one]) fun S8 u8 m8 n8 => ?_)⟩
      rw [a4] at hk
      refine hk S8 D' B' (a1.log (a1.lg.setObj (l' := { l' with synced := lastR l' }) u8 (by rw [m8]; rfl) rfl) u8 fun j hj => ?_) a2 (a0.log u8 fun j hj => ?_)
      · simp only [List.mem_singleton] at hj
        subst hj; exact a1.lg.oG
      · simp only [List.mem_singleton] at hj
        subst hj; exact a1.lg.oG
    refine Join0.mid (fun S' => ∃ (D' B' : List Nat) (l' : LogR) (r' : DiskR), Mvd G D S D' S' ∧ LD S0 S' G D' B' d q l' r' ∧ OkR (M + l.segs.length + 1) r' ∧ l'.segs = done ∧ logSyncR l r = (0, { l' with synced := lastR l' }, r')) ⟨rfl, ifS_mk (a := .ptr q.o 3) rfl ⟨_, ld h1.lg.obj rfl, ?_⟩⟩ ?_
    · show ifC l.names _ _
      cases hn : l.names with
      | false =>
        refine ifC_ff rfl ⟨D1, B1, { l with segs := done }, r1, mv1, h1, ok1.mono (by omega), rfl, ?_⟩
        simp only [logSyncR, he, if_true, hn, Bool.false_eq_true, if_false]
      | true =>
        refine ifC_tt rfl ⟨rfl, ifS_mk (a := .ptr q.o 0) rfl (ifS_mk (ld h1.lg.obj rfl) (DH.syncDir hO.d h1.wf h1.dh ok1 (by omega) (prw _) fun S5 D5 B5 h5 f5 => ?_))⟩
        have L5 := h1.disk h5 f5
        have mv5 := mv1.disk f5
        have ok5 := syncDirR_ok ok1
        refine ifC_ndec (fun hne => ?_) (fun hz => ?_)
        · have e2 : logSyncR l r = ((syncDirR r1).1, { l with segs := done }, (syncDirR r1).2) := by
            simp only [logSyncR, he, if_true, hn]
            rw [if_neg hne]
          rw [e2] at hk
          exact hk S5 D5 B5 L5 (ok5.mono (by omega)) mv5
        · refine ⟨rfl, ifS_mk (a := .ptr q.o 3) rfl (st_mk L5.wf L5.lg.obj rfl (by simp [logC, V.cells]) (by simp [V.cells, V.one]) fun S6 u6 m6 n6 => ⟨D5, B5, { l with segs := done, names := false }, (syncDirR r1).2, mv5.log u6 (fun j hj => ?_), L5.log (L5.lg.setObj (l' := { l with segs := done, names := false }) u6 (by rw [m6]; rfl) rfl) u6 fun j hj => ?_, ok5.mono (by omega), rfl, ?_⟩)⟩
          · simp only [List.mem_singleton] at hj
            subst hj; exact L5.lg.oG
          · simp only [List.mem_singleton] at hj
            subst hj; exact L5.lg.oG
          · simp only [logSyncR, he, if_true, hn, hz]
            rfl
    · rintro S4 ⟨D', B', l', r', a0, a1, a2, a3, a4⟩
      exact fin a0 a1 a2 a3 a4

end Go.Th.L
end

section
/- wal: a record laid into the last segment. -/
set_option linter.unusedSimpArgs false
set_option linter.unusedVariables false
set_option maxHeartbeats 1000000
namespace Go.Th.L
open Go Go.Th Go.Th.Pure
variable {P : Program} {N : Nat → Nat}

def moreR (s : SegR) (n : Nat) : SegR := { s with size := s.size + n, next := s.next + 1, dirty := true }
def layR (l : LogR) (r : DiskR) (seq : Int) (t : Nm) : Int × LogR × DiskR :=
  match l.segs[l.segs.length - 1]? with
  | none => (0, l, r)
  | some s => if (appendR r s.name (laidB seq t)).1 = 0 then (0, { l with segs := l.segs.set (l.segs.length - 1) (moreR s (laidB seq t).length) }, (appendR r s.name (laidB seq t)).2) else ((appendR r s.name (laidB seq t)).1, l, (appendR r s.name (laidB seq t)).2)
theorem laidB_len (x : Int) (s : Nm) : (laidB x s).length = s.length + 16 := by simp [laidB, sealB, le_length]; omega

theorem wal_Log_lay.spec (hO : WalF P N) {S0 S : St} {G D B : List Nat} {d : Nat} {q : LP} {l : LogR} {r : DiskR} (h : LD S0 S G D B d q l r) {M : Nat} (hok : OkR M r) (hM : M ≤ 1000000) (hl : 0 < l.segs.length ∧ l.segs.length ≤ 1000000) (hs : SegsOk l.segs) (hz : ∀ s ∈ l.segs, 0 ≤ s.size ∧ s.size ≤ 1099511627776)
    {seq : Int} (hq : 0 ≤ seq ∧ seq < 18446744073709551616) {t : Nm} (ht : t.length ≤ 65536) {K : Int → St → Prop}
    (hk : ∀ S' D' B', LD S0 S' G D' B' d q (layR l r seq t).2.1 (layR l r seq t).2.2 → Upd (G ++ D) S S' → K (layR l r seq t).1 S') : CallA P (N Fn.wal_Log_lay) [.ptr q.o 0, .agg [.int .i64 seq, .str t]] S (retT [.one (.int .i64)] K) := by
  have hi : l.segs.length - 1 < l.segs.length := by omega
  have hgs : l.segs[l.segs.length - 1]? = some l.segs[l.segs.length - 1] := List.getElem?_eq_getElem hi
  generalize hn : l.segs.length - 1 = n at hi hgs
  have hmem := List.getElem_mem hi
  refine wal_Log_lay.run hO.lay (newS_mk h.wf fun S1 g1 m1 n1 => ?_)
  have h1 := h.grow g1
  have i1 : IntKind.i64.wrap (((l.segs.length : Nat) : Int) - 1) = ((n : Nat) : Int) := by rw [IntKind.wrap_i64]; omega
  refine ⟨rfl, ifS_mk (a := .ptr q.o 1) rfl (ifS_mk (ld h1.lg.obj rfl) ⟨rfl, ifS_mk (a := .ptr q.o 1) rfl (ifS_mk (ld h1.lg.obj rfl) ⟨_, h1.lg.length, setI_mk i1 (ifS_mk (h1.lg.ix hi) (ifS_mk (h1.lg.ptr hi) ⟨_, _, ldN m1 (by simp) rfl, ?_⟩))⟩)⟩)⟩
  refine wal_laid.spec hO.b h1.wf hq ht fun v2 S2 b2 => ?_
  have h2 := h1.grow b2.grow
  have hat2 := h2.lg.at hi
  refine ⟨rfl, ifS_mk (a := .ptr q.o 0) rfl (ifS_mk (ld h2.lg.obj rfl) ⟨rfl, ifS_mk rfl ⟨_, ld hat2 rfl, ?_⟩⟩)⟩
  have e0 : layR l r seq t = if (appendR r l.segs[n].name (laidB seq t)).1 = 0 then (0, { l with segs := l.segs.set n (moreR l.segs[n] (laidB seq t).length) }, (appendR r l.segs[n].name (laidB seq t)).2) else ((appendR r l.segs[n].name (laidB seq t)).1, l, (appendR r l.segs[n].name (laidB seq t)).2) := by
    simp only [layR, hn, hgs]
  refine DH.append hO.d h2.wf h2.dh hok hM b2.at_ (by rw [laidB_len]; omega) (prw _) fun S3 D3 B3 h3 f3 => ?_
  have L3 := h2.disk h3 f3
  have hv2 : ∀ i ∈ v2.block, i ∉ D := fun i hi hD => by have := b2.from i hi; have := h1.dh.ltD i hD; omega
  have U3 : Upd (G ++ D) S S3 := ((g1.mono (by simp)).after b2.grow (by simp)).after f3.2.2 fun i hi => .inr (List.mem_append_right _ hi)
  refine ifC_ndec (fun hne => ?_) (fun hz0 => ?_)
  · rw [if_neg hne] at e0
    rw [e0] at hk
    exact hk S3 D3 B3 L3 U3
  · rw [if_pos hz0] at e0
    rw [e0] at hk
    have hat3 := L3.lg.at hi
    have hsz := hz _ hmem
    have hnx := hs _ hmem
    have ll := laidB_len seq t
    have hbv : BytesAt S3 v2 (laidB seq t) := SlAt.upd b2.at_ f3.2.2 hv2
    refine ⟨rfl, ifS_mk rfl ⟨_, ld hat3 rfl, _, SlAt.len hbv, setI_mk (n := l.segs[n].size + (laidB seq t).length) (by rw [IntKind.wrap_i64]; omega) ⟨rfl, ifS_mk rfl (st_mk L3.wf hat3 rfl (by simp [segC, V.cells]) (by simp [V.cells, V.one]) fun S4 u4 m4 n4 => ?_)⟩⟩⟩
    simp only [segC, over, V.cells] at m4
    refine ⟨rfl, ifS_mk rfl ⟨_, ld m4 rfl, setI_mk (n := l.segs[n].next + 1) (by rw [IntKind.wrap_i64]; omega) ⟨rfl, ifS_mk rfl (st_mk u4.wf m4 rfl (by simp [V.cells]) (by simp [V.cells, V.one]) fun S5 u5 m5 n5 => ⟨rfl, ifS_mk rfl ?_⟩)⟩⟩⟩
    simp only [over, V.cells] at m5
    refine st_mk u5.wf m5 rfl (by simp [V.cells]) (by simp [V.cells, V.one]) fun S6 u6 m6 n6 => ?_
    simp only [over, V.cells] at m6
    have u36 := (u4.trans u5).trans u6
    have hin : ∀ j ∈ [q.gs[n]'(by rw [h.lg.len]; exact hi)], j ∈ G := fun j hj => by
      simp only [List.mem_singleton] at hj
      subst hj
      exact L3.lg.gG _ (List.getElem_mem _)
    exact hk S6 D3 B3 (L3.log (L3.lg.setSeg hi (s := moreR l.segs[n] (laidB seq t).length) u36 (by rw [m6]; rfl)) u36 hin) (U3.after u36 fun j hj => .inr (List.mem_append_left _ (hin j hj)))

end Go.Th.L
end

section
/- wal: one more segment. -/
set_option linter.unusedSimpArgs false
set_option linter.unusedVariables false
set_option maxHeartbeats 1000000
namespace Go.Th.L
open Go Go.Th Go.Th.Pure
variable {P : Program} {N : Nat → Nat}

theorem LogIn.add {S S' : St} {X G Gn : List Nat} {d g : Nat} {q : LP} {l l' : LogR} {v : V} {s : SegR} (h : LogIn S G d q l) (u : Upd X S S') (hX : ∀ i ∈ X, i = q.o ∨ i ∈ q.sv.block) (hGn : ∀ i ∈ Gn, i ∉ G ∧ i < S'.next)
    (obj : S'.get q.o = some (.cells (logC d { q with sv := v, gs := q.gs ++ [g] } l') true)) (e : l'.segs = l.segs ++ [s]) (sl : Acc S' 0 1 v (q.gs.length + 1) (ptrE (q.gs ++ [g])).flatten) (hg : S'.get g = some (.cells (segC s) true)) (gG : g ∈ Gn) (vG : ∀ i ∈ v.block, i ∈ q.sv.block ∨ (i ∈ Gn ∧ i ≠ g)) :
    LogIn S' (G ++ Gn) d { q with sv := v, gs := q.gs ++ [g] } l' := by
  have gn := (hGn g gG).1
  have og := h.lt _ h.oG
  have gl : ∀ i ∈ q.gs, i < S.next := fun i hi => h.lt i (h.gG i hi)
  have keep : ∀ i ∈ q.gs, i ∉ X := fun i hi hx => by
    rcases hX i hx with h1 | h1
    · subst h1; exact h.n1 hi
    · exact h.n3 i h1 hi
  refine ⟨obj, by simpa using sl, by rw [e]; simp [h.len], fun i h1 h2 => ?_, ?_, List.mem_append_left _ h.oG, fun i hi => ?_, fun i hi => ?_, fun i hi => ?_, fun hi => ?_, fun hi => ?_, fun i hi hg' => ?_⟩
  · simp only [e] at h2 ⊢
    simp only [List.length_append, List.length_singleton] at h1 h2
    by_cases hi : i < q.gs.length
    · have hi2 : i < l.segs.length := by rw [← h.len]; exact hi
      have e3 : (q.gs ++ [g])[i]'(by simp; omega) = q.gs[i] := List.getElem_append_left hi
      have e4 : (l.segs ++ [s])[i]'(by simp; omega) = l.segs[i] := List.getElem_append_left hi2
      rw [e3, e4]
      exact u.get (h.seg i hi hi2) (keep _ (List.getElem_mem hi))
    · have e1 : i = q.gs.length := by omega
      have e2 : i = l.segs.length := by rw [← h.len]; exact e1
      have e3 : (q.gs ++ [g])[i]'(by simp; omega) = g := by
        rw [List.getElem_append_right (by omega)]; simp
      have e4 : (l.segs ++ [s])[i]'(by simp; omega) = s := by
        rw [List.getElem_append_right (by omega)]; simp
      rw [e3, e4]
      exact hg
  · rw [List.nodup_append]
    refine ⟨h.nod, by simp, fun a ha b hb => ?_⟩
    simp only [List.mem_singleton] at hb
    subst hb
    rintro rfl
    exact gn (h.gG _ ha)
  · rcases vG i hi with h' | h'
    · exact List.mem_append_left _ (h.sG i h')
    · exact List.mem_append_right _ h'.1
  · rcases List.mem_append.mp hi with hi | hi
    · exact List.mem_append_left _ (h.gG i hi)
    · simp only [List.mem_singleton] at hi
      subst hi; exact List.mem_append_right _ gG
  · rcases List.mem_append.mp hi with hi | hi
    · exact Nat.lt_of_lt_of_le (h.lt i hi) u.le
    · exact (hGn i hi).2
  · rcases List.mem_append.mp hi with hi | hi
    · exact h.n1 hi
    · simp only [List.mem_singleton] at hi
      exact gn (hi ▸ h.oG)
  · rcases vG _ hi with h' | h'
    · exact h.n2 h'
    · exact (hGn _ h'.1).1 h.oG
  · rcases List.mem_append.mp hg' with h2 | h2
    · rcases vG i hi with h' | h'
      · exact h.n3 i h' h2
      · exact (hGn _ h'.1).1 (h.gG _ h2)
    · simp only [List.mem_singleton] at h2
      rcases vG i hi with h' | h'
      · exact gn (h2 ▸ h.sG i h')
      · exact h'.2 h2

end Go.Th.L
end
