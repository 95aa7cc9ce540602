/- What the row of one statement stands on: a store, abstract code, functions of the program and their laws (ThHdisk3, ThHdisk4, ThHdisk5). -/
import Derived.Test.YtilkmjbbdnnphaaGreatDoorThBHdisk2
import Derived.Test.YtilkmjbbdnnphaaGreatDoorThBGref17

section
/- The disk's calls: names that may be, room used, reading. -/
set_option linter.unusedSimpArgs false
set_option linter.unusedVariables false
set_option maxHeartbeats 1000000
namespace Go.Th.L
open Go Go.Th Go.Th.Pure
variable {P : Program} {N : Nat → Nat}

theorem goodB_iff (c : UInt8) : goodB c = true ↔ (97 ≤ c.toNat ∧ c.toNat ≤ 122) ∨ (48 ≤ c.toNat ∧ c.toNat ≤ 57) ∨ c.toNat = 46 ∨ c.toNat = 45 := by
  simp only [goodB, Bool.or_eq_true, Bool.and_eq_true, decide_eq_true_eq, or_assoc]

theorem disk_good.spec (hF : disk_good.Ok P N) {S : St} {n : Nm} {K : Bool → St → Prop} (hk : K (goodN n) S) (hl : n.length < 4611686018427387904) : CallA P (N Fn.disk_good) [.str n] S (retT [.one .bool] K) := by
  refine CallA.gc1 (t := .bool) rfl (goodN n) hk fun K' hw hk' => disk_good.run hF (newS_mk hw fun S1 g1 m1 e1 => ?_)
  have hb : BytesAt S1 (.slice S.ro.next 0 n.length n.length 1 false) n := by
    refine ⟨by omega, by rw [bytesV_length, Nat.mul_one], .inr ⟨_, _, _, _, rfl, Nat.le_refl _, ?_⟩⟩
    rw [St.loads_of m1 (by rw [bytesV_length]; omega), List.drop_zero, Nat.mul_one, List.take_of_length_le (by rw [bytesV_length]; omega)]
  refine ⟨_, rfl, Loop1.ind (fun m z S' => ∃ i : Nat, z = i ∧ i + m = n.length ∧ S' = S1 ∧ (n.take i).all goodB = true) n.length ⟨0, rfl, by omega, rfl, rfl⟩ ?_⟩
  rintro m z S2 ⟨i, rfl, hi, rfl, hg⟩
  refine ifC_dec (fun hlt => ?_) (fun hge => ?_)
  · have hin : i < n.length := by omega
    refine ifS_mk (SlAt.idx hb hin) ⟨_, BytesAt.get hb hin, ?_⟩
    have nxt : goodB n[i] = true → ∃ m', m' < m ∧ ∃ i' : Nat, ((i : Int) + 1) = i' ∧ i' + m' = n.length ∧ S2 = S2 ∧ (n.take i').all goodB = true := fun hgi => by
      refine ⟨m - 1, by omega, i + 1, by omega, by omega, rfl, ?_⟩
      rw [List.take_add_one, List.all_append, hg, List.getElem?_eq_getElem hin]
      simp [hgi]
    have bad : goodB n[i] = false → K' false S2 := fun hb => by
      have : goodN n = false := by
        have h2 : n.all goodB = false := by
          rw [List.all_eq_false]
          exact ⟨n[i], List.getElem_mem hin, by simp [hb]⟩
        simp [goodN, h2]
      rw [this] at hk'
      exact hk' _
    have w : IntKind.i64.wrap ((i : Int) + 1) = (i : Int) + 1 := by rw [IntKind.wrap_i64]; omega
    have yes : goodB n[i] = true → setI (IntKind.i64.wrap ((i : Int) + 1)) fun x => ∃ k, k < m ∧ ∃ i' : Nat, x = i' ∧ i' + k = n.length ∧ S2 = S2 ∧ (n.take i').all goodB = true := fun hgi => setI_mk w (nxt hgi)
    have dec : ∀ p : Prop, (goodB n[i] = true ↔ p) → (p → goodB n[i] = true) ∧ (¬ p → goodB n[i] = false) := fun p hp => ⟨hp.2, fun h => by
      cases hx : goodB n[i] with
      | true => exact absurd (hp.1 hx) h
      | false => rfl⟩
    obtain ⟨d1, d2⟩ := dec _ (goodB_iff n[i])
    repeat' first
      | refine ifC_dec (fun _ => ?_) (fun _ => ?_)
      | refine ifC_ndec (fun _ => ?_) (fun _ => ?_)
    all_goals first
      | exact bad (d2 (by omega))
      | exact yes (d1 (by omega))
  · have : i = n.length := by omega
    subst this
    rw [List.take_length] at hg
    refine ifC_ndec (fun hne => ?_) (fun he => ?_)
    · have : goodN n = decide ((n.length : Int) ≤ 32) := by
        simp only [goodN, hg, Bool.true_and]
        have : decide (n ≠ []) = true := by simpa using hne
        rw [this, Bool.true_and]
        by_cases h : n.length ≤ 32
        · have : ((n.length : Int) ≤ 32) := by omega
          simp [h, this]
        · have : ¬ ((n.length : Int) ≤ 32) := by omega
          simp [h, this]
      rw [← this]; exact hk' _
    · have : goodN n = false := by simp [goodN, he]
      rw [this] at hk'
      exact hk' _


theorem used_sum (f : Nat → Nat) : ∀ (l : List (Nm × Nat)), (∀ p ∈ l, f p.2 ≤ 4194304) → (l.map fun p => f p.2).sum ≤ l.length * 4194304
  | [], _ => by simp
  | p :: l, h => by
    have h1 := h p (by simp)
    have h2 := used_sum f l fun q hq => h q (by simp [hq])
    simp only [List.map_cons, List.sum_cons, List.length_cons, Nat.add_mul]; omega


theorem perm_map_inv {α β : Type} {f : α → β} {es m : List β} (h : es.Perm m) : ∀ l, m = l.map f → ∃ ls : List α, es = ls.map f ∧ ls.Perm l := by
  induction h with
  | nil =>
    intro l hl
    exact ⟨[], rfl, by have := List.map_eq_nil_iff.1 hl.symm; rw [this]⟩
  | cons x h ih =>
    intro l hl
    cases l with
    | nil => simp at hl
    | cons a l =>
      simp only [List.map_cons, List.cons.injEq] at hl
      obtain ⟨ls, h1, h2⟩ := ih l hl.2
      exact ⟨a :: ls, by rw [h1, hl.1]; rfl, h2.cons a⟩
  | swap x y t =>
    intro l hl
    match l, hl with
    | a :: b :: l, hl =>
      simp only [List.map_cons, List.cons.injEq] at hl
      exact ⟨b :: a :: l, by rw [hl.1, hl.2.1, hl.2.2]; rfl, List.Perm.swap a b l⟩
  | trans h1 h2 ih1 ih2 =>
    intro l hl
    obtain ⟨l2, e2, p2⟩ := ih2 l hl
    obtain ⟨l1, e1, p1⟩ := ih1 l2 e2
    exact ⟨l1, e1, p1.trans p2⟩

def entT (fb : Nat → Nat) (l : List (Nm × Nat)) : List (V × V) := l.map fun p => (.str p.1, .ptr (fb p.2) 0)
theorem entT_eq (fb : Nat → Nat) (l : List (Nm × Nat)) : entS (entG fb l) = entT fb l := by simp [entS, entG, entT]
theorem rangeN_mk {S : St} (hw : S.Wf) {i : Nat} {fb : Nat → Nat} {l : List (Nm × Nat)} {own : Bool} (h : NamesAt S i (entG fb l) own) {k : V → St → Prop}
    (hk : ∀ ls S', ls.Perm l → S.get i = some (.map (entT fb ls) own) → Rng S' i S.next (entT fb ls) own (entT fb ls) → Upd [i] S S' → S'.next = S.next + 1 → k (.ptr S.next 0) S') : anyK (rangeP S (.map i)) k := by
  obtain ⟨es, hp, hg⟩ := h.ex
  obtain ⟨ls, h1, h2⟩ := perm_map_inv hp l rfl
  have e : es = entG fb ls := h1
  rw [e, entT_eq] at hg
  exact range_mk hw hg fun S' a b c => hk ls S' h2 hg a b c
theorem nextN_mk {S : St} (hw : S.Wf) {i j : Nat} {fb : Nat → Nat} {ls lf : List (Nm × Nat)} {own : Bool} (h : Rng S i j (entT fb ls) own (entT fb lf)) {k : V → St → Prop}
    (h1 : ∀ a p b S', lf = a ++ p :: b → Rng S' i j (entT fb ls) own (entT fb (a ++ b)) → entryV S' (.ptr j 0) = some (.tuple [.str p.1, .ptr (fb p.2) 0]) → Upd [j] S S' → S'.next = S.next → k (.tuple [.bool true, .str p.1, .ptr (fb p.2) 0]) S')
    (h2 : ∀ S', lf = [] → S'.get i = some (.map (entT fb ls) own) → Upd [i] S S' → S'.next = S.next → k (.tuple [.bool false]) S') : anyK (nextP S (.ptr j 0)) k := by
  refine next_mk hw h (fun a p b S' e r en u n => ?_) (fun S' e g u n => ?_)
  · obtain ⟨a', l2, e1, e2, e3⟩ := List.map_eq_append_iff.1 e
    obtain ⟨p', b', e4, e5, e6⟩ := List.map_eq_cons_iff.1 e3
    subst e2; subst e5; subst e6
    rw [e4] at e1
    refine h1 a' p' b' S' e1 ?_ en u n
    have : entT fb (a' ++ b') = List.map (fun p => (V.str p.1, V.ptr (fb p.2) 0)) a' ++ List.map (fun p => (V.str p.1, V.ptr (fb p.2) 0)) b' := by simp [entT]
    rw [this]; exact r
  · exact h2 S' (List.map_eq_nil_iff.1 e) g u n

theorem nod_perm {l l' : List (Nm × Nat)} (h : NodK l) (p : l'.Perm l) : NodK l' := (p.map _).nodup_iff.2 h

theorem disk_Disk_Used.spec (hF : disk_Disk_Used.Ok P N) (hO : DiskF P N) {S : St} {D B : List Nat} {q : DP} {r : DiskR} (h : DiskIn S D B q r) {M : Nat} (hok : OkR M r) {K : Int → St → Prop} (hk : K (usedR r : Nat) S) :
    CallA P (N Fn.disk_Disk_Used) [.ptr q.d 0] S (retT [.one (.int .i64)] K) := by
  refine CallA.gc1 (t := .int .i64) rfl ((usedR r : Nat) : Int) hk fun K' hwr hk' => disk_Disk_Used.run hF ?_
  have h0 := h.rd.ro
  refine disk_Disk_ready.spec hO.ready hO.down h0 (fun hd => ifC_ndec (fun _ => ?_) (fun h' => by omega)) (fun hd => ifC_ndec (fun h' => absurd rfl h') (fun _ => ?_))
  · have : usedR r = 0 := by simp [usedR, hd]
    rw [this] at hk'; exact hk' _
  have hu : usedR r = (r.now.map fun p => (r.fl p.2).b.length).sum := by simp [usedR, hd]
  have hst := hok.stNow
  refine ⟨rfl, ifS_mk (a := .ptr q.d 1) rfl (ifS_mk (ld h0.obj rfl) (rangeN_mk hwr h0.now fun ls S2 hp _ rg2 u2 n2 => ?_))⟩
  have hnod := nod_perm hst.sorted.nod hp
  have hbl : ∀ k, q.lv k → q.fb k < S.ro.next ∧ q.fb k ≠ q.bn ∧ ∀ i ∈ (q.bv k).block, i < S.ro.next ∧ i ≠ q.bn := fun k hk =>
    ⟨h.ltD _ (h.dF k hk), (h.neF k hk).2.1, fun i hi => ⟨h.ltB i (h.dB k hk i hi), fun e => h.apart _ h.dN (by rw [← e]; exact h.dB k hk i hi)⟩⟩
  refine Loop1.ind (fun m z S' => ∃ lf done : List (Nm × Nat), lf.length = m ∧ (done ++ lf).Perm r.now ∧ z = ((done.map fun p => (r.fl p.2).b.length).sum : Nat) ∧ Rng S' q.bn S.ro.next (entT q.fb ls) false (entT q.fb lf) ∧ Upd [q.bn, S.ro.next] S.ro S') ls.length ⟨ls, [], rfl, by simpa using hp, rfl, rg2, u2.mono (by simp)⟩ ?_
  rintro m z S3 ⟨lf, done, hm, hpm, rfl, rg, u3⟩
  have hnx := hwr
  refine nextN_mk u3.wf rg (fun a p b S4 e rg4 en u4 n4 => ?_) (fun S4 e _ _ _ => ?_)
  · subst e
    have hpn : p ∈ r.now := hpm.mem_iff.1 (by simp)
    have hlp := h.lvN p hpn
    have u34 : Upd [q.bn, S.ro.next] S.ro S4 := u3.after u4 fun i hi => .inr (by simp only [List.mem_singleton] at hi; simp [hi])
    obtain ⟨b1, b2, b3⟩ := hbl p.2 hlp
    obtain ⟨f1, f2⟩ := h0.fl p.2 hlp
    have g1 : S4.get (q.fb p.2) = some (.cells [q.bv p.2, .int .i64 ((r.fl p.2).safe : Nat)] false) := u34.get f1 (by simp only [List.mem_cons, List.not_mem_nil, or_false]; omega)
    have g2 : BytesAt S4 (q.bv p.2) (r.fl p.2).b := SlAt.upd f2 u34 fun i hi => by
      have := b3 i hi
      simp only [List.mem_cons, List.not_mem_nil, or_false]; omega
    have hsum : ((done.map fun p => (r.fl p.2).b.length).sum + (r.fl p.2).b.length) ≤ 268435456 := by
      have e1 : ((done ++ (a ++ p :: b)).map fun p => (r.fl p.2).b.length).sum = (r.now.map fun p => (r.fl p.2).b.length).sum := (hpm.map _).sum_nat
      have e2 := used_sum (fun k => (r.fl k).b.length) r.now fun p _ => (hok.fl p.2).2
      have := hst.len
      simp only [List.map_append, List.map_cons, List.sum_append, List.sum_cons] at e1
      omega
    refine ⟨true, rfl, ifC_tt rfl (ifS_mk en (ifS_mk (a := .ptr (q.fb p.2) 0) rfl ⟨rfl, ifS_mk (a := .ptr (q.fb p.2) 0) rfl (ifS_mk (ld g1 rfl) ⟨_, SlAt.len g2, setI_mk (n := (((done ++ [p]).map fun p => (r.fl p.2).b.length).sum : Nat)) ?_ ⟨m - 1, ?_, a ++ b, done ++ [p], ?_, ?_, rfl, rg4, u34⟩⟩)⟩))⟩
    · simp only [List.map_append, List.map_cons, List.map_nil, List.sum_append, List.sum_cons, List.sum_nil, Nat.add_zero]
      rw [IntKind.wrap_i64]; omega
    · simp only [List.length_append, List.length_cons] at hm; omega
    · simp only [List.length_append, List.length_cons] at hm ⊢; omega
    · refine List.Perm.trans ?_ hpm
      rw [List.append_assoc, List.singleton_append]
      exact List.Perm.append_left _ List.perm_middle.symm
  · subst e
    refine ⟨false, rfl, ifC_ff rfl ?_⟩
    have : ((done.map fun p => (r.fl p.2).b.length).sum : Nat) = usedR r := by
      rw [hu]
      rw [List.append_nil] at hpm
      exact (hpm.map _).sum_nat
    rw [this]; exact hk' _

end Go.Th.L
end

section
/- The disk's calls that change a file, and those that change names. -/
set_option linter.unusedSimpArgs false
set_option linter.unusedVariables false
set_option maxHeartbeats 1000000
namespace Go.Th.L
open Go Go.Th Go.Th.Pure
variable {P : Program} {N : Nat → Nat}

theorem app_tight {S : St} (hw : S.Wf) {B k : Nat} (hB : B ≤ S.next) {v y : V} {n m : Nat} {cs ds : List V} (h : Acc S B k v n cs) (ht : v = .nilSlice ∨ ∃ i o, v = .slice i o n n k true) (hy : srcV k S y = some (m, ds)) (hd : ds.length = m * k) (ho : ds.all V.one = true) {bytes : Nat}
    (hb : (n + m) * bytes ≤ 140737488355328) (hn : n + m ≤ 4611686018427387904) :
    ∃ v' S', appV S k bytes v y = some (v', S') ∧ Acc S' B k v' (n + m) (cs ++ ds) ∧ Grow S S' ∧ ∀ i ∈ v'.block, i ∈ v.block ∨ S.next ≤ i := by
  obtain ⟨v', S', e1, a1, u1, t1⟩ := h.app hw hB hy hd ho hb hn
  refine ⟨v', S', e1, a1, ?_, t1⟩
  rcases ht with rfl | ⟨i, o, rfl⟩
  · exact u1.mono (by simp [V.block])
  · obtain ⟨hBi, vs, hg⟩ := h.own i (by simp [V.block])
    simp only [appV, rApp, AX.ev, hy, ne_eq, not_true_eq_false, if_false] at e1
    by_cases hm : m = 0
    · rw [if_pos hm] at e1
      simp only [Option.some.injEq, Prod.mk.injEq] at e1
      rw [← e1.2]; exact Upd.refl hw _
    · rw [if_neg hm, if_neg (by omega), if_pos ⟨hb, hn⟩, hg] at e1
      simp only [if_true] at e1
      split at e1
      · rename_i v2 S2 heq
        split at heq
        · simp only [AR.val.injEq] at heq
          simp only [Option.some.injEq, Prod.mk.injEq] at e1
          rw [← e1.2, ← heq.2]
          exact (Upd.refl hw []).new _
        · cases heq
      · cases e1

theorem Acc.tight {S : St} {B k : Nat} {v : V} {n : Nat} {cs : List V} (h : Acc S B k v n cs) : ∃ v', sliceSlV k v none (some (.int .i64 (n : Nat))) (some (.int .i64 (n : Nat))) = some v' ∧ Acc S B k v' n cs ∧ (v' = .nilSlice ∨ ∃ i o, v' = .slice i o n n k true) ∧ ∀ i ∈ v'.block, i ∈ v.block := by
  rcases h.at_.2.2 with ⟨rfl, h0⟩ | ⟨i, o, c, t, rfl, hc, hl⟩
  · subst h0
    exact ⟨.nilSlice, rfl, h, .inl rfl, by simp [V.block]⟩
  · have hb : bnds n c none (some (.int .i64 (n : Nat))) (some (.int .i64 (n : Nat))) = some (0, n, n) := by
      simp only [bnds]
      rw [if_pos ⟨by omega, by omega⟩]
      simp only
      rw [if_pos ⟨by omega, by omega⟩]
      simp
    refine ⟨.slice i o n n k true, by simp [sliceSlV, hb], ⟨⟨h.at_.1, h.at_.2.1, .inr ⟨i, o, n, true, rfl, Nat.le_refl _, hl⟩⟩, h.ones, fun j hj => h.own j (by simpa [V.block] using hj), ?_⟩, .inr ⟨i, o, rfl⟩, by simp [V.block]⟩
    obtain ⟨vs, h1, h2⟩ := h.room
    exact ⟨vs, h1, by have : n * k ≤ c * k := Nat.mul_le_mul_right _ hc; omega⟩

theorem slices_Clone_Lbyte.spec (hF : slices_Clone_Lbyte.Ok P N) {S : St} (hw : S.Wf) {v : V} {bs : List UInt8} (h : BytesAt S v bs) (hl : bs.length ≤ 140737488355328) {K : V → St → Prop} (hk : ∀ v' S', BuiltB S S' v' bs → K v' S') :
    CallA P (N Fn.slices_Clone_Lbyte) [v] S (retT [.one .any] K) := by
  refine slices_Clone_Lbyte.run hF ?_
  rcases h.2.2 with ⟨rfl, h0⟩ | ⟨i, o, c, t, rfl, hc, hld⟩
  · have : bs = [] := List.length_eq_zero_iff.mp h0
    subst this
    exact ⟨true, rfl, ifC_tt rfl (hk _ _ (Built.nil (Upd.refl hw _) 1))⟩
  · refine ⟨false, rfl, ifC_ff rfl (newS_mk hw fun S1 g1 m1 e1 => ?_)⟩
    have hb : BuiltB S S1 (.slice S.next 0 0 0 1 true) [] := ⟨g1, ⟨⟨by simp [byteE], by simp [byteE], .inr ⟨_, _, _, _, rfl, by simp [byteE], by simp [byteE, St.loads]⟩⟩, rfl, fun j hj => by simp only [V.block, List.mem_singleton] at hj; subst hj; exact ⟨Nat.le_refl _, _, m1⟩, ⟨_, m1, by simp⟩⟩, by simp [byteE]⟩
    exact hb.app (SlAt.src (h.grow g1)) (by simpa using hl) fun v' S' b _ _ => hk v' S' (by simpa using b)

def DP.setBv (q : DP) (k : Nat) (v : V) : DP := { q with bv := fun j => if j = k then v else q.bv j }
theorem fl_set {r : DiskR} {k : Nat} (hk : k < r.files.length) (f : FileR) (j : Nat) : (setFl r k f).fl j = if j = k then f else r.fl j := by
  simp only [DiskR.fl, setFl, List.getD_eq_getElem?_getD]
  by_cases h : j = k
  · subst h
    rw [if_pos rfl, List.getElem?_set_self hk]; rfl
  · rw [if_neg h, List.getElem?_set_ne (fun e => h e.symm)]

theorem DiskIn.setFile {S S' : St} {D B : List Nat} {q : DP} {r : DiskR} {X : List Nat} (h : DiskIn S D B q r) {k : Nat} (hk : q.lv k) (u : Upd X S S') (hX : ∀ i ∈ X, i = q.fb k ∨ S.next ≤ i) {v : V} {f : FileR}
    (g : S'.get (q.fb k) = some (.cells [v, .int .i64 (f.safe : Nat)] true)) (a : Acc S' 0 1 v f.b.length (bytesV f.b)) (hv : ∀ i ∈ v.block, i ∈ (q.bv k).block ∨ S.next ≤ i) : DiskIn S' D (B ++ v.block) (q.setBv k v) (setFl r k f) := by
  have hkl := h.lvI k hk
  have hfl := h.ltD _ (h.dF k hk)
  have nX : ∀ i, i < S.next → i ≠ q.fb k → i ∉ X := fun i hi hne hx => by
    rcases hX i hx with h' | h'
    · exact hne h'
    · omega
  have nb : ∀ i ∈ B, i ∉ X := fun i hi => nX i (h.ltB i hi) fun e => h.apart _ (h.dF k hk) (by rw [← e]; exact hi)
  have hvlt : ∀ i ∈ v.block, i < S'.next := fun i hi => by
    obtain ⟨_, vs, hg⟩ := a.own i hi
    exact u.wf.lt hg
  have hlen : (setFl r k f).files.length = r.files.length := by simp [setFl]
  refine ⟨u.get h.obj (nX _ (h.ltD _ h.dD) fun e => (h.neF k hk).1 e.symm), h.now.upd u (nX _ (h.ltD _ h.dN) fun e => (h.neF k hk).2.1 e.symm), h.safe.upd u (nX _ (h.ltD _ h.dS) fun e => (h.neF k hk).2.2 e.symm), h.chs.upd u fun i hi => nX i (h.ltD _ (h.dC i hi)) ((h.neC i hi).2.2.2 k hk),
    fun j hj => ?_, h.inj, h.lvN, h.lvS, h.lvC, by rw [hlen]; exact h.lvI, h.dD, h.dN, h.dS, h.dC, h.dF, fun j hj i hi => ?_, fun i hi => Nat.lt_of_lt_of_le (h.ltD i hi) u.le, fun i hi => ?_, fun i hi hB => ?_, h.ne1, h.ne2, h.ne3, h.neC, h.neF⟩
  · rw [fl_set hkl]
    by_cases e : j = k
    · subst e
      simp only [DP.setBv, if_true]
      exact ⟨g, a⟩
    · simp only [DP.setBv, if_neg e]
      obtain ⟨f1, f2⟩ := h.fl j hj
      exact ⟨u.get f1 (nX _ (h.ltD _ (h.dF j hj)) fun e' => e (h.inj j k hj hk e')), f2.upd u fun i hi => nb i (h.dB j hj i hi)⟩
  · by_cases e : j = k
    · subst e
      simp only [DP.setBv, if_true] at hi
      exact List.mem_append_right _ hi
    · simp only [DP.setBv, if_neg e] at hi
      exact List.mem_append_left _ (h.dB j hj i hi)
  · rcases List.mem_append.mp hi with hi | hi
    · exact Nat.lt_of_lt_of_le (h.ltB i hi) u.le
    · exact hvlt i hi
  · rcases List.mem_append.mp hB with hB | hB
    · exact h.apart i hi hB
    · rcases hv i hB with h' | h'
      · exact h.apart i hi (h.dB k hk i h')
      · have := h.ltD i hi; omega

theorem Mv.of {d : Nat} {D B D' B' : List Nat} {q' : DP} {S S' : St} {r' : DiskR} (u : Upd D S S') (h : DiskIn S' D' B' q' r') (e : q'.d = d) (hD : ∀ i ∈ D', i ∈ D ∨ S.next ≤ i) (hB : ∀ i ∈ B', i ∈ B ∨ S.next ≤ i) : Mv d D B S r' S' := ⟨⟨D', B', q', e, h, hD, hB⟩, u⟩

structure DiskFw (P : Program) (N : Nat → Nat) : Prop where
  f : DiskF P N
  good : disk_good.Ok P N
  used : disk_Disk_Used.Ok P N
  create : disk_Disk_Create.Ok P N
  append : disk_Disk_Append.Ok P N
  sync : disk_Disk_Sync.Ok P N
  remove : disk_Disk_Remove.Ok P N
  read : disk_Disk_Read.Ok P N
  clone : slices_Clone_Lbyte.Ok P N
structure DiskF2 (P : Program) (N : Nat → Nat) : Prop extends DiskFw P N where
  rename : disk_Disk_Rename.Ok P N
  stop : disk_Disk_Stop.Ok P N
  steps : disk_Disk_Steps.Ok P N

theorem disk_step {S S' : St} {D B B' : List Nat} {q q' : DP} {r' : DiskR} (hO : DiskF P N) (u : Upd D S S') (h : DiskIn S' D B' q' r') (hq : q'.d = q.d) (hB : ∀ i ∈ B', i ∈ B ∨ S.next ≤ i) (hd : downR r' = false) {M : Nat} (hM : M ≤ 1000000) (h3 : 0 ≤ r'.steps ∧ r'.steps ≤ M) (hl : r'.left ≤ 9223372036854775807) {K : Int → St → Prop}
    (hk : ∀ S2, Mv q.d D B S (stepR r') S2 → K 0 S2) : CallA P (N Fn.disk_Disk_done) [.ptr q.d 0] S' (retT [.one (.int .i64)] K) := by
  rw [← hq]
  refine disk_Disk_done.spec hO u.wf h hd hM h3 hl fun S2 h2 u2 n2 => hk S2 (Mv.of (u.after u2 fun i hi => .inr ?_) h2 hq (fun i hi => .inl hi) hB)
  simp only [List.mem_singleton] at hi
  subst hi; exact h.dD

theorem disk_Disk_Sync.spec (hO : DiskFw P N) {S : St} (hw : S.Wf) {D B : List Nat} {q : DP} {r : DiskR} (h : DiskIn S D B q r) {M : Nat} (hok : OkR M r) (hM : M ≤ 1000000) {n : Nm} {K : Int → St → Prop} (hk : ∀ S', Mv q.d D B S (syncR r n).2 S' → K (syncR r n).1 S') :
    CallA P (N Fn.disk_Disk_Sync) [.ptr q.d 0, .str n] S (retT [.one (.int .i64)] K) := by
  refine disk_Disk_Sync.run hO.sync (disk_Disk_find.spec hO.f h.rd (fun hd => ifC_ndec (fun _ => ?_) (fun h' => by omega)) (fun hd hn => ifC_ndec (fun _ => ?_) (fun h' => by omega)) (fun hd k hkn => ifC_ndec (fun h' => absurd rfl h') (fun _ => ?_)))
  · have e : syncR r n = (174, r) := by simp [syncR, hd]
    rw [e] at hk; exact hk S (Mv.stay hw h)
  · have e : syncR r n = (172, r) := by simp [syncR, hd, hn]
    rw [e] at hk; exact hk S (Mv.stay hw h)
  · have e : syncR r n = (0, stepR (setFl r k ⟨(r.fl k).b, (r.fl k).b.length⟩)) := by simp [syncR, hd, hkn]
    rw [e] at hk
    have hlv := h.lvN _ ((lkK_some hok.stNow.sorted.nod).1 hkn)
    obtain ⟨f1, f2⟩ := h.fl k hlv
    refine ⟨rfl, ifS_mk (a := .ptr (q.fb k) 0) rfl (ifS_mk (ld f1 rfl) ⟨_, f2.at_.len, rfl, ifS_mk (a := .ptr (q.fb k) 1) rfl (st_mk hw f1 rfl (by simp [V.cells]) (by simp [V.cells, V.one]) fun S1 u1 m1 n1 => ?_)⟩)⟩
    simp only [over, V.cells] at m1
    have hnb : q.fb k ∉ (q.bv k).block := fun hm => h.apart _ (h.dF k hlv) (h.dB k hlv _ hm)
    have h1 := h.setFile hlv u1 (fun i hi => .inl (by simpa using hi)) (v := q.bv k) (f := ⟨(r.fl k).b, (r.fl k).b.length⟩) m1 (f2.upd u1 fun i hi => by simp only [List.mem_singleton]; rintro rfl; exact hnb hi) (fun i hi => .inl hi)
    refine disk_step hO.f (u1.mono fun i hi => .inl ?_) h1 rfl (fun i hi => ?_) hd hM (by have := hok.n3; exact this) hok.left.2 hk
    · simp only [List.mem_singleton] at hi; subst hi; exact h.dF k hlv
    · rcases List.mem_append.mp hi with hi | hi
      · exact .inl hi
      · exact .inl (h.dB k hlv i hi)

theorem disk_Disk_Append.spec (hO : DiskFw P N) {S : St} (hw : S.Wf) {D B : List Nat} {q : DP} {r : DiskR} (h : DiskIn S D B q r) {M : Nat} (hok : OkR M r) (hM : M ≤ 1000000) {n : Nm} {x : V} {bs : List UInt8} (hx : BytesAt S x bs) (hxl : bs.length ≤ 1000000000) {K : Int → St → Prop}
    (hk : ∀ S', Mv q.d D B S (appendR r n bs).2 S' → K (appendR r n bs).1 S') :
    CallA P (N Fn.disk_Disk_Append) [.ptr q.d 0, .str n, x] S (retT [.one (.int .i64)] K) := by
  refine disk_Disk_Append.run hO.append (disk_Disk_find.spec hO.f h.rd (fun hd => ifC_ndec (fun _ => ?_) (fun h' => by omega)) (fun hd hn => ifC_ndec (fun _ => ?_) (fun h' => by omega)) (fun hd k hkn => ifC_ndec (fun h' => absurd rfl h') (fun _ => ?_)))
  · have e : appendR r n bs = (174, r) := by simp [appendR, hd]
    rw [e] at hk; exact hk S (Mv.stay hw h)
  · have e : appendR r n bs = (172, r) := by simp [appendR, hd, hn]
    rw [e] at hk; exact hk S (Mv.stay hw h)
  · have e0 : appendR r n bs = if r.room - (usedR r : Int) < (bs.length : Int) then (173, r) else (0, stepR (setFl r k ⟨(r.fl k).b ++ bs, (r.fl k).safe⟩)) := by simp [appendR, hd, hkn]
    rw [e0] at hk
    have hst := hok.stNow
    have hlv := h.lvN _ ((lkK_some hst.sorted.nod).1 hkn)
    obtain ⟨f1, f2⟩ := h.fl k hlv
    have hus : usedR r ≤ 268435456 := by
      have e1 : usedR r = (r.now.map fun p => (r.fl p.2).b.length).sum := by simp [usedR, hd]
      have e2 := used_sum (fun k => (r.fl k).b.length) r.now fun p _ => (hok.fl p.2).2
      have := hst.len
      omega
    have hroom := hok.room
    refine ⟨_, SlAt.len hx, rfl, ifS_mk (a := .ptr q.d 0) rfl ⟨_, ld h.obj rfl, disk_Disk_Used.spec hO.used hO.f h hok (sameK_mk (Same.refl _ _) (setI_mk (n := r.room - (usedR r : Nat)) (by rw [IntKind.wrap_i64]; omega) (ifC_dec (fun hlt => ?_) (fun hge => ?_))))⟩⟩
    · rw [if_pos (by omega)] at hk; exact hk S (Mv.stay hw h)
    · rw [if_neg (by omega)] at hk
      obtain ⟨v1, e1, a1, t1, b1⟩ := Acc.tight f2
      have hfl := (hok.fl k).2
      obtain ⟨v2, S2, e2, a2, g2, b2⟩ := app_tight hw (by omega) a1 t1 (SlAt.src hx) (by rw [bytesV_length, Nat.mul_one]) (bytesV_ones _) (bytes := 1) (by omega) (by omega)
      have hnb : q.fb k ∉ (q.bv k).block := fun hm => h.apart _ (h.dF k hlv) (h.dB k hlv _ hm)
      have hfb := h.ltD _ (h.dF k hlv)
      have hv2 : ∀ i ∈ v2.block, i ∈ (q.bv k).block ∨ S.next ≤ i := fun i hi => by
        rcases b2 i hi with h' | h'
        · exact .inl (b1 i h')
        · exact .inr h'
      refine ⟨rfl, ifS_mk (a := .ptr (q.fb k) 0) rfl (ifS_mk (ld f1 rfl) ⟨rfl, ifS_mk (a := .ptr (q.fb k) 0) rfl (ifS_mk (ld f1 rfl) ⟨_, f2.at_.len, rfl, ifS_mk (a := .ptr (q.fb k) 0) rfl (ifS_mk (ld f1 rfl) ⟨_, f2.at_.len, ifS_mk e1 (ifP_mk e2 ⟨rfl, ifS_mk (a := .ptr (q.fb k) 0) rfl (st_mk g2.wf (g2.get f1) (by rw [a2.at_.cells1]; rfl) (by rw [a2.at_.cells1]; simp) (by rw [a2.at_.cells1]; simp [a2.at_.one1]) fun S3 u3 m3 n3 => ?_)⟩)⟩)⟩)⟩)⟩
      rw [a2.at_.cells1] at m3
      simp only [over] at m3
      have u : Upd [q.fb k] S S3 := (g2.mono (by simp)).after u3 fun i hi => .inr hi
      have hlb : (bytesV ((r.fl k).b ++ bs)) = bytesV (r.fl k).b ++ bytesV bs := by simp [bytesV]
      have h1 := h.setFile hlv u (fun i hi => .inl (by simpa using hi)) (v := v2) (f := ⟨(r.fl k).b ++ bs, (r.fl k).safe⟩) m3 (by
        have := a2.upd u3 fun i hi => by
          simp only [List.mem_singleton]
          rintro rfl
          rcases hv2 _ hi with h' | h'
          · exact hnb h'
          · omega
        simp only [List.length_append]
        rw [hlb]; exact this) hv2
      refine disk_step hO.f (u.mono fun i hi => .inl ?_) h1 rfl (fun i hi => ?_) hd hM (by have := hok.n3; exact this) hok.left.2 hk
      · simp only [List.mem_singleton] at hi; subst hi; exact h.dF k hlv
      · rcases List.mem_append.mp hi with hi | hi
        · exact .inl hi
        · rcases hv2 i hi with h' | h'
          · exact .inl (h.dB k hlv i h')
          · exact .inr h'

end Go.Th.L
end

section
/- The disk's calls: Create, Rename, Remove, SyncDir, Read, Stop, Steps. -/
set_option linter.unusedSimpArgs false
set_option linter.unusedVariables false
set_option maxHeartbeats 1000000
namespace Go.Th.L
open Go Go.Th Go.Th.Pure
variable {P : Program} {N : Nat → Nat}

def addR (r : DiskR) : DiskR := { r with files := r.files ++ [⟨[], 0⟩] }
def DP.add (q : DP) (n b : Nat) : DP := { q with fb := fun j => if j = n then b else q.fb j, bv := fun j => if j = n then .nilSlice else q.bv j, lv := fun j => q.lv j ∨ j = n }

theorem entG_congr {f g : Nat → Nat} {l : List (Nm × Nat)} (h : ∀ p ∈ l, f p.2 = g p.2) : entG f l = entG g l := List.map_congr_left fun p hp => by rw [h p hp]
theorem chC_congr {f g : Nat → Nat} {l : List ChR} (h : ∀ c ∈ l, c.kind ≠ 3 → f c.file = g c.file) : l.map (chC f) = l.map (chC g) := List.map_congr_left fun c hc => by
  simp only [chC, chP]
  by_cases hk : c.kind = 3
  · simp [hk]
  · simp [hk, h c hc hk]

theorem DiskIn.addFile {S S' : St} {D B : List Nat} {q : DP} {r : DiskR} (h : DiskIn S D B q r) (g : Grow S S') (hn : S'.next = S.next + 1) (m : S'.get S.next = some (.cells [.nilSlice, .int .i64 0] true)) :
    DiskIn S' (S.next :: D) B (q.add r.files.length S.next) (addR r) := by
  have h1 := h.grow g
  have lvn : ∀ k, q.lv k → k ≠ r.files.length := fun k hk e => by have := h.lvI k hk; omega
  have flo : ∀ k, q.lv k → (addR r).fl k = r.fl k := fun k hk => by
    have := h.lvI k hk
    simp only [DiskR.fl, addR, List.getD_eq_getElem?_getD, List.getElem?_append_left this]
  have fln : (addR r).fl r.files.length = ⟨[], 0⟩ := by simp [DiskR.fl, addR, List.getD_eq_getElem?_getD]
  have dl : ∀ i ∈ D, i ≠ S.next := fun i hi e => by have := h.ltD i hi; omega
  have en : ∀ l : List (Nm × Nat), (∀ p ∈ l, q.lv p.2) → entG (q.add r.files.length S.next).fb l = entG q.fb l := fun l hl => entG_congr fun p hp => by simp only [DP.add, if_neg (lvn _ (hl p hp))]
  have ec : (r.chs.map (chC (q.add r.files.length S.next).fb)) = r.chs.map (chC q.fb) := chC_congr fun c hc hk => by simp only [DP.add, if_neg (lvn _ (h.lvC c hc hk))]
  refine ⟨h1.obj, by show NamesAt S' q.bn (entG _ r.now) _; rw [en _ h.lvN]; exact h1.now, by show NamesAt S' q.bs (entG _ r.safe) _; rw [en _ h.lvS]; exact h1.safe, by show Acc S' 0 3 q.cv r.chs.length (r.chs.map _).flatten; rw [ec]; exact h1.chs, ?_, ?_, fun p hp => .inl (h.lvN p hp), fun p hp => .inl (h.lvS p hp), fun c hc hk => .inl (h.lvC c hc hk), ?_,
    List.mem_cons_of_mem _ h.dD, List.mem_cons_of_mem _ h.dN, List.mem_cons_of_mem _ h.dS, fun i hi => List.mem_cons_of_mem _ (h.dC i hi), ?_, ?_, ?_, h1.ltB, ?_, h.ne1, h.ne2, h.ne3, ?_, ?_⟩
  · rintro k (hk | rfl)
    · rw [flo k hk]
      simp only [DP.add, if_neg (lvn k hk)]
      exact h1.fl k hk
    · rw [fln]
      simp only [DP.add, if_true]
      exact ⟨m, Acc.nil _ _ _⟩
  · rintro k k' (hk | rfl) (hk' | rfl) e
    · simp only [DP.add, if_neg (lvn k hk), if_neg (lvn k' hk')] at e
      exact h.inj k k' hk hk' e
    · simp only [DP.add, if_neg (lvn k hk), if_true] at e
      exact absurd e (dl _ (h.dF k hk))
    · simp only [DP.add, if_neg (lvn k' hk'), if_true] at e
      exact absurd e.symm (dl _ (h.dF k' hk'))
    · rfl
  · rintro k (hk | rfl)
    · have := h.lvI k hk; simp only [addR, List.length_append, List.length_singleton]; omega
    · simp [addR]
  · rintro k (hk | rfl)
    · simp only [DP.add, if_neg (lvn k hk)]
      exact List.mem_cons_of_mem _ (h.dF k hk)
    · simp only [DP.add, if_true]
      exact List.mem_cons_self
  · rintro k (hk | rfl) i hi
    · simp only [DP.add, if_neg (lvn k hk)] at hi
      exact h.dB k hk i hi
    · simp only [DP.add, if_true, V.block] at hi
      cases hi
  · intro i hi
    rcases List.mem_cons.mp hi with rfl | hi
    · omega
    · exact h1.ltD i hi
  · intro i hi hB
    rcases List.mem_cons.mp hi with rfl | hi
    · have := h.ltB _ hB; omega
    · exact h.apart i hi hB
  · intro i hi
    obtain ⟨a1, a2, a3, a4⟩ := h.neC i hi
    refine ⟨a1, a2, a3, ?_⟩
    rintro k (hk | rfl)
    · simp only [DP.add, if_neg (lvn k hk)]
      exact a4 k hk
    · simp only [DP.add, if_true]
      exact dl _ (h.dC i hi)
  · rintro k (hk | rfl)
    · simp only [DP.add, if_neg (lvn k hk)]
      exact h.neF k hk
    · simp only [DP.add, if_true]
      exact ⟨fun e => dl _ h.dD e.symm, fun e => dl _ h.dN e.symm, fun e => dl _ h.dS e.symm⟩

theorem disk_Disk_Create.spec (hO : DiskFw P N) {S : St} (hw : S.Wf) {D B : List Nat} {q : DP} {r : DiskR} (h : DiskIn S D B q r) {M : Nat} (hok : OkR M r) (hM : M ≤ 1000000) {n : Nm} (hnl : n.length < 4611686018427387904) {K : Int → St → Prop} (hk : ∀ S', Mv q.d D B S (createR r n).2 S' → K (createR r n).1 S') :
    CallA P (N Fn.disk_Disk_Create) [.ptr q.d 0, .str n] S (retT [.one (.int .i64)] K) := by
  refine disk_Disk_Create.run hO.create (disk_Disk_ready.spec hO.f.ready hO.f.down h.rd (fun hd => ifC_ndec (fun _ => ?_) (fun h' => by omega)) (fun hd => ifC_ndec (fun h' => absurd rfl h') (fun _ => ?_)))
  · have e : createR r n = (174, r) := by simp [createR, hd]
    rw [e] at hk; exact hk S (Mv.stay hw h)
  refine ⟨rfl, ifS_mk (a := .ptr q.d 1) rfl (ifS_mk (ld h.obj rfl) ?_)⟩
  have hlk := names_lookup h.now .nilPtr true n
  rw [lk_entG] at hlk
  obtain ⟨a, hlk2⟩ : ∃ a : V, lookupV S 2 .nilPtr true (.map q.bn) (.str n) = some (.tuple [a, .bool (lkK r.now n).isSome]) := by
    cases hx : lkK r.now n with
    | none => rw [hx] at hlk; exact ⟨_, hlk⟩
    | some k => rw [hx] at hlk; exact ⟨_, hlk⟩
  refine ⟨a, _, hlk2, disk_good.spec hO.good ?_ hnl⟩
  cases hg : goodN n with
  | false =>
    have e : createR r n = (170, r) := by simp [createR, hd, hg]
    rw [e] at hk; exact ifC_tt rfl (hk S (Mv.stay hw h))
  | true =>
  refine ifC_ff rfl ?_
  cases hx : (lkK r.now n).isSome with
  | true =>
    have e : createR r n = (171, r) := by simp [createR, hd, hg, hx]
    rw [e] at hk; exact ifC_tt rfl (hk S (Mv.stay hw h))
  | false =>
  refine ifC_ff rfl ⟨rfl, ifS_mk (a := .ptr q.d 1) rfl (ifS_mk (ld h.obj rfl) ⟨_, names_len h.now, ?_⟩)⟩
  have hlen : (entG q.fb r.now).length = r.now.length := by simp [entG]
  rw [hlen]
  refine ifC_dec (fun hmany => ?_) (fun hfew => ?_)
  · have e : createR r n = (175, r) := by
      simp only [createR, hd, hg, hx]
      simp; omega
    rw [e] at hk; exact hk S (Mv.stay hw h)
  · have e : createR r n = (0, changeR (addR r) ⟨1, [], n, r.files.length⟩) := by
      simp only [createR, hd, hg, hx]
      simp only [Bool.false_eq_true, if_false, Bool.not_true]
      rw [if_neg (by omega)]; rfl
    rw [e] at hk
    have hne : n ≠ [] := by
      simp only [goodN, Bool.and_eq_true, decide_eq_true_eq] at hg
      exact hg.1.2
    refine newS_mk hw fun S3 g3 m3 n3 => ⟨rfl, ?_⟩
    have h3 := h.addFile g3 n3 m3
    have := disk_Disk_change.spec (K := K) hO.f g3.wf h3 (by exact hd) hM (by exact hok.n1) (by exact hok.n3) (by exact hok.left.2) (c := ⟨1, [], n, r.files.length⟩) (nf := r.files.length + 1) (.inl ⟨rfl, rfl, hne, by simp⟩) (fun _ => .inr rfl) (fun S' hm => hk S' (Mv.before (g3.mono (by simp)) (fun i hi => ?_) (fun i hi => .inl hi) hm))
    · simpa [chP, DP.add] using this
    · rcases List.mem_cons.mp hi with rfl | hi
      · exact .inr (Nat.le_refl _)
      · exact .inl hi

theorem disk_Disk_Rename.spec (hO : DiskF2 P N) {S : St} (hw : S.Wf) {D B : List Nat} {q : DP} {r : DiskR} (h : DiskIn S D B q r) {M : Nat} (hok : OkR M r) (hM : M ≤ 1000000) {a t : Nm} (htl : t.length < 4611686018427387904) {K : Int → St → Prop} (hk : ∀ S', Mv q.d D B S (renameR r a t).2 S' → K (renameR r a t).1 S') :
    CallA P (N Fn.disk_Disk_Rename) [.ptr q.d 0, .str a, .str t] S (retT [.one (.int .i64)] K) := by
  refine disk_Disk_Rename.run hO.rename (disk_Disk_find.spec hO.f h.rd (fun hd => ifC_ndec (fun _ => ?_) (fun h' => by omega)) (fun hd hn => ifC_ndec (fun _ => ?_) (fun h' => by omega)) (fun hd k hkn => ifC_ndec (fun h' => absurd rfl h') (fun _ => ?_)))
  · have e : renameR r a t = (174, r) := by simp [renameR, hd]
    rw [e] at hk; exact hk S (Mv.stay hw h)
  · have e : renameR r a t = (172, r) := by simp [renameR, hd, hn]
    rw [e] at hk; exact hk S (Mv.stay hw h)
  · refine disk_good.spec hO.good ?_ htl
    have e0 : renameR r a t = if !goodN t then (170, r) else (0, changeR r ⟨2, a, t, k⟩) := by simp [renameR, hd, hkn]
    rw [e0] at hk
    cases hg : goodN t with
    | false => rw [hg] at hk; exact ifC_tt rfl (hk S (Mv.stay hw h))
    | true =>
      rw [hg] at hk
      have hne : t ≠ [] := by
        simp only [goodN, Bool.and_eq_true, decide_eq_true_eq] at hg
        exact hg.1.2
      have hst := hok.stNow
      have hm := (lkK_some hst.sorted.nod).1 hkn
      have hlv := h.lvN _ hm
      exact ifC_ff rfl ⟨rfl, disk_Disk_change.spec hO.f hw h hd hM hok.n1 hok.n3 hok.left.2 (c := ⟨2, a, t, k⟩) (nf := r.files.length) (.inr (.inl ⟨rfl, hst.ne _ hm, hne, hst.idx _ hm⟩)) (fun _ => hlv) hk⟩

theorem disk_Disk_Remove.spec (hO : DiskFw P N) {S : St} (hw : S.Wf) {D B : List Nat} {q : DP} {r : DiskR} (h : DiskIn S D B q r) {M : Nat} (hok : OkR M r) (hM : M ≤ 1000000) {a : Nm} {K : Int → St → Prop} (hk : ∀ S', Mv q.d D B S (removeR r a).2 S' → K (removeR r a).1 S') :
    CallA P (N Fn.disk_Disk_Remove) [.ptr q.d 0, .str a] S (retT [.one (.int .i64)] K) := by
  refine disk_Disk_Remove.run hO.remove (disk_Disk_find.spec hO.f h.rd (fun hd => ifC_ndec (fun _ => ?_) (fun h' => by omega)) (fun hd hn => ifC_ndec (fun _ => ?_) (fun h' => by omega)) (fun hd k hkn => ifC_ndec (fun h' => absurd rfl h') (fun _ => ?_)))
  · have e : removeR r a = (174, r) := by simp [removeR, hd]
    rw [e] at hk; exact hk S (Mv.stay hw h)
  · have e : removeR r a = (172, r) := by simp [removeR, hd, hn]
    rw [e] at hk; exact hk S (Mv.stay hw h)
  · have e0 : removeR r a = (0, changeR r ⟨3, a, [], 0⟩) := by simp [removeR, hd, hkn]
    rw [e0] at hk
    have hst := hok.stNow
    have hm := (lkK_some hst.sorted.nod).1 hkn
    exact disk_Disk_change.spec hO.f hw h hd hM hok.n1 hok.n3 hok.left.2 (c := ⟨3, a, [], 0⟩) (nf := r.files.length) (.inr (.inr ⟨rfl, hst.ne _ hm, rfl⟩)) (fun h' => absurd rfl h') hk

theorem disk_Disk_Stop.spec (hO : DiskF2 P N) {S : St} (hw : S.Wf) {D B : List Nat} {q : DP} {r : DiskR} (h : DiskIn S D B q r) {n : Int} {K : Int → St → Prop} (hk : ∀ S', Mv q.d D B S (stopR r n).2 S' → K (stopR r n).1 S') :
    CallA P (N Fn.disk_Disk_Stop) [.ptr q.d 0, .int .i64 n] S (retT [.one (.int .i64)] K) := by
  refine disk_Disk_Stop.run hO.stop (disk_Disk_ready.spec hO.f.ready hO.f.down h.rd (fun hd => ifC_ndec (fun _ => ?_) (fun h' => by omega)) (fun hd => ifC_ndec (fun h' => absurd rfl h') (fun _ => ?_)))
  · have e : stopR r n = (174, r) := by simp [stopR, hd]
    rw [e] at hk; exact hk S (Mv.stay hw h)
  refine ifC_dec (fun hneg => ?_) (fun hpos => ?_)
  · have e : stopR r n = (1, r) := by simp [stopR, hd, hneg]
    rw [e] at hk; exact hk S (Mv.stay hw h)
  · have e : stopR r n = (0, { r with left := n }) := by simp [stopR, hd, hpos]
    rw [e] at hk
    refine ⟨rfl, ifS_mk (a := .ptr q.d 5) rfl (st_mk hw h.obj rfl (by simp [objC, V.cells]) (by simp [V.cells, V.one]) fun S1 u1 m1 n1 => ⟨rfl, ifS_mk (a := .ptr q.d 6) rfl (st_mk u1.wf m1 rfl (by simp [objC, over, V.cells]) (by simp [V.cells, V.one]) fun S2 u2 m2 n2 => hk S2 ?_)⟩)⟩
    have u := u1.trans u2
    refine Mv.of (u.mono fun i hi => .inl ?_) (h.fields (r' := { r with left := n }) u ?_ rfl rfl rfl rfl) rfl (fun i hi => .inl hi) (fun i hi => .inl hi)
    · simp only [List.mem_singleton] at hi; subst hi; exact h.dD
    · rw [m2]
      have h1 : (0 ≤ n) := by omega
      simp [objC, over, V.cells, Pure.DiskR.left, L.stopsR, leftC, h1]

theorem disk_Disk_Steps.spec (hF : disk_Disk_Steps.Ok P N) {S : St} {o : Bool} {q : DP} {r : DiskR} (h : DiskRd S o q r) {K : Int → St → Prop} (hk : K r.steps S) : CallA P (N Fn.disk_Disk_Steps) [.ptr q.d 0] S (retT [.one (.int .i64)] K) :=
  disk_Disk_Steps.run hF ⟨false, rfl, ifC_ff rfl ⟨rfl, ifS_mk (a := .ptr q.d 4) rfl ⟨_, ld h.obj rfl, hk⟩⟩⟩

theorem disk_Disk_Read.spec (hO : DiskFw P N) {S : St} (hw : S.Wf) {o : Bool} {q : DP} {r : DiskR} (h : DiskRd S o q r) {M : Nat} (hok : OkR M r) {n : Nm} {K : V → Int → St → Prop} (hk : ∀ v S', BuiltB S S' v (readR r n).1 → K v (readR r n).2 S') :
    CallA P (N Fn.disk_Disk_Read) [.ptr q.d 0, .str n] S (retT [.one .any, .one (.int .i64)] K) := by
  refine disk_Disk_Read.run hO.read (disk_Disk_find.spec hO.f h (fun hd => ifC_ndec (fun _ => ?_) (fun h' => by omega)) (fun hd hn => ifC_ndec (fun _ => ?_) (fun h' => by omega)) (fun hd k hkn => ifC_ndec (fun h' => absurd rfl h') (fun _ => ?_)))
  · have e : readR r n = ([], 174) := by simp [readR, hd]
    rw [e] at hk; exact hk _ S (Built.nil (Upd.refl hw _) 1)
  · have e : readR r n = ([], 172) := by simp [readR, hd, hn]
    rw [e] at hk; exact hk _ S (Built.nil (Upd.refl hw _) 1)
  · have e : readR r n = ((r.fl k).b, 0) := by simp [readR, hd, hkn]
    rw [e] at hk
    have hlv := h.lvN _ ((lkK_some hok.stNow.sorted.nod).1 hkn)
    obtain ⟨f1, f2⟩ := h.fl k hlv
    have := (hok.fl k).2
    exact ⟨rfl, ifS_mk (a := .ptr (q.fb k) 0) rfl (ifS_mk (ld f1 rfl) (slices_Clone_Lbyte.spec hO.clone hw f2 (by omega) fun v' S' b => hk v' S' b))⟩

abbrev MapsClone (P : Program) (f : FuncId) : Prop := ∀ {S : St} (_ : S.Wf) {i : Nat} {es : List (V × V)} {own : Bool} {K : V → St → Prop}, S.get i = some (.map es own) →
  (∀ S', Grow S S' → S'.get S.next = some (.map es true) → S'.next = S.next + 1 → K (.map S.next) S') → CallA P f [.map i] S (retT [.one .any] K)

theorem disk_Disk_SyncDir.spec (hO : DiskFw P N) (hF : disk_Disk_SyncDir.Ok P N) (hC : MapsClone P (N Fn.maps_Clone_disk_names)) {S : St} (hw : S.Wf) {D B : List Nat} {q : DP} {r : DiskR} (h : DiskIn S D B q r) {M : Nat} (hok : OkR M r) (hM : M ≤ 1000000) {K : Int → St → Prop}
    (hk : ∀ S', Mv q.d D B S (syncDirR r).2 S' → K (syncDirR r).1 S') : CallA P (N Fn.disk_Disk_SyncDir) [.ptr q.d 0] S (retT [.one (.int .i64)] K) := by
  refine disk_Disk_SyncDir.run hF (disk_Disk_ready.spec hO.f.ready hO.f.down h.rd (fun hd => ifC_ndec (fun _ => ?_) (fun h' => by omega)) (fun hd => ifC_ndec (fun h' => absurd rfl h') (fun _ => ?_)))
  · have e : syncDirR r = (174, r) := by simp [syncDirR, hd]
    rw [e] at hk; exact hk S (Mv.stay hw h)
  have e : syncDirR r = (0, stepR { r with safe := r.now, chs := [] }) := by simp [syncDirR, hd]
  rw [e] at hk
  obtain ⟨es, hp, hg⟩ := h.now.ex
  refine ⟨rfl, ifS_mk (a := .ptr q.d 1) rfl (ifS_mk (ld h.obj rfl) (hC hw hg fun S1 g1 m1 n1 => ⟨rfl, ifS_mk (a := .ptr q.d 2) rfl (st_mk g1.wf (g1.get h.obj) rfl (by simp [objC, V.cells]) (by simp [V.cells, V.one]) fun S2 u2 m2 n2 => ⟨rfl, ifS_mk (a := .ptr q.d 3) rfl (st_mk u2.wf m2 rfl (by simp [objC, over, V.cells]) (by simp [V.cells, V.one]) fun S3 u3 m3 n3 => ?_)⟩)⟩))⟩
  have hdl := h.ltD _ h.dD
  have u : Upd [q.d] S S3 := ((g1.mono (by simp)).after u2 fun i hi => .inr hi).after u3 fun i hi => .inr hi
  have h2 : DiskIn S3 (S.next :: D) B { q with bs := S.next, cv := .nilSlice } { r with safe := r.now, chs := [] } := by
    have nD : ∀ i ∈ D, i ≠ S.next := fun i hi e => by have := h.ltD i hi; omega
    refine ⟨?_, h.now.upd u (by simp only [List.mem_singleton]; exact h.ne1), ?_, Acc.nil _ _ _, fun k hk => ?_, h.inj, h.lvN, h.lvN, by simp, h.lvI, List.mem_cons_of_mem _ h.dD, List.mem_cons_of_mem _ h.dN, List.mem_cons_self, by simp [V.block], fun k hk => List.mem_cons_of_mem _ (h.dF k hk), h.dB, fun i hi => ?_, fun i hi => Nat.lt_of_lt_of_le (h.ltB i hi) u.le, fun i hi hB => ?_, h.ne1, fun e => nD _ h.dD e.symm, fun e => nD _ h.dN e, by simp [V.block], fun k hk => ⟨(h.neF k hk).1, (h.neF k hk).2.1, nD _ (h.dF k hk)⟩⟩
    · rw [m3]; rfl
    · refine ⟨⟨es, hp, ?_⟩, h.now.nod⟩
      exact u3.get (u2.get m1 (by simp only [List.mem_singleton]; omega)) (by simp only [List.mem_singleton]; omega)
    · obtain ⟨f1, f2⟩ := h.fl k hk
      refine ⟨u.get f1 (by simp only [List.mem_singleton]; exact (h.neF k hk).1), f2.upd u fun i hi => ?_⟩
      simp only [List.mem_singleton]
      rintro rfl
      exact h.apart _ h.dD (h.dB k hk _ hi)
    · have := u2.le; have := u3.le
      rcases List.mem_cons.mp hi with rfl | hi
      · omega
      · exact Nat.lt_of_lt_of_le (h.ltD i hi) u.le
    · rcases List.mem_cons.mp hi with rfl | hi
      · have := h.ltB _ hB; omega
      · exact h.apart i hi hB
  refine disk_Disk_done.spec hO.f u.wf h2 (by exact hd) hM (by exact hok.n3) (by exact hok.left.2) fun S4 h4 u4 n4 => hk S4 (Mv.of ((u.mono fun i hi => .inl ?_).after u4 fun i hi => .inr ?_) h4 rfl (fun i hi => ?_) (fun i hi => .inl hi))
  · simp only [List.mem_singleton] at hi; subst hi; exact h.dD
  · simp only [List.mem_singleton] at hi; subst hi; exact h.dD
  · rcases List.mem_cons.mp hi with rfl | hi
    · exact .inr (Nat.le_refl _)
    · exact .inl hi

end Go.Th.L
end
