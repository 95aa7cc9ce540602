/- What the row of one statement stands on: a store, abstract code, functions of the program and their laws (ThHlaw02b, ThHlaw02c). -/
import Derived.Test.YtdpehfhhbmmhjaaThBHtopk3
import Derived.Test.YtdpehfhhbmmhjaaThBHlaw02
import Derived.Test.YtdpehfhhbmmhjaaThBGwide
import Derived.Test.YtdpehfhhbmmhjaaThBQ10

section
/- The laws of layer 2: merging, the order of offers. -/
set_option linter.unusedSimpArgs false
set_option linter.unusedVariables false
set_option linter.unusedSectionVars false
namespace Go.Th.L
open Go Go.Th Go.Th.Pure Go.Sort
variable {P : Program} {N : Nat → Nat}

theorem law02_hit.keep (hF : law02_hit.Ok P N) {S : St} {a b : Int} {K : Int → Int → Int → St → Prop} (hk : K a 0 b S) : CallA P (N Fn.law02_hit) [.int .i64 a, .int .u64 b] S (retT [.agg [.int .i64, .int .u64, .int .u64]] K) := by
  refine CallA.gcT (ds := [.agg [.int .i64, .int .u64, .int .u64]]) rfl (CallA.wfT fun hw => ?_)
  exact law02_hit.spec hF hw fun S' g => hk

theorem total_mono {ls : List (List Hit)} {j : Nat} (hj : j < ls.length) : ((ls.take (j + 1)).flatten).length = ((ls.take j).flatten).length + ls[j].length := by
  rw [← flat_snoc hj, List.length_append]

theorem law02_total.spec (hF : law02_total.Ok P N) {S : St} {lv : V} {vs : List V} {ls : List (List Hit)} (h : ListsAt S lv vs ls) (hl : ls.length < 4611686018427387904) (hn : ∀ l ∈ ls, l.length < 4611686018427387904) {K : Int → St → Prop}
    (hk : ∀ t : Int, (t ≤ 3000 → ls.length + ls.flatten.length ≤ 3000) → K t S) : CallA P (N Fn.law02_total) [lv] S (retT [.one (.int .i64)] K) := by
  refine law02_total.run hF ⟨_, h.length, Loop2.ind (fun m t x S' => S' = S ∧ ∃ j : Nat, x = j ∧ m = ls.length - j ∧ j ≤ ls.length ∧ t = ((ls.length + (ls.take j).flatten.length : Nat) : Int)) ls.length ⟨rfl, 0, rfl, rfl, Nat.zero_le _, by simp⟩ ?_⟩
  rintro m _ _ S1 ⟨rfl, j, rfl, rfl, hj, rfl⟩
  refine Join0.mid (fun S' => S' = S1 ∧ j < ls.length ∧ ls.length + (ls.take j).flatten.length ≤ 3000) ⟨_, h.length, ifC_dec (fun h1 => ifC_dec (fun h2 => ⟨rfl, by omega, by omega⟩) (fun h2 => hk _ (fun h3 => by omega))) (fun h1 => hk _ fun h3 => ?_)⟩ ?_
  · have : j = ls.length := by omega
    subst this
    rw [List.take_length] at h3
    omega
  · rintro S2 ⟨rfl, h1, h2⟩
    have h3 := hn _ (List.getElem_mem h1)
    refine ifS_mk (h.idx h1) (ifS_mk (h.get h1) ⟨_, (h.hits h1).len, setI_mk (i64_add (by omega)) (setI_mk (i64_add1 (by omega)) ⟨ls.length - (j + 1), by omega, rfl, j + 1, rfl, rfl, h1, ?_⟩)⟩)
    rw [total_mono h1]; congr 1; omega

/-! ## lists of one's own -/
def markC : List V := [.int .i64 (-7), .int .u64 0, .int .u64 7]
abbrev LentH (S : St) (B : Nat) (u : V) (l : List Hit) : Prop := Lent S B 3 u l.length 1 (hitsE l).flatten markC
theorem LentH.hits {S : St} {B : Nat} {u : V} {l : List Hit} (h : LentH S B u l) : HitsAt S u l := HitsAt.mk (Lent.sl h)

theorem hitsE_flen (l : List Hit) : (hitsE l).flatten.length = l.length * 3 := by rw [flatten_len (k := 3) (fun e he => hitsE_three e he), hitsE_len]

structure OwnAt (S : St) (B : Nat) (us : List V) (ls : List (List Hit)) : Prop where
  len : us.length = ls.length
  lent : ∀ i (h : i < us.length) (h' : i < ls.length), LentH S B us[i] ls[i]
  apart : ∀ i k (h : i < us.length) (h' : k < us.length), i < k → ∀ b ∈ (us[i]).block, b ∉ (us[k]).block

theorem zeroH_one : [V.int .i64 0, V.int .u64 0, V.int .u64 0].all V.one = true := rfl

theorem setAt_flat {l : List Hit} : over ((hitsE l).flatten ++ [V.int .i64 0, V.int .u64 0, V.int .u64 0]) (l.length * 3 + 0) markC = (hitsE l).flatten ++ markC := by
  have h1 : ((hitsE l).flatten).length = l.length * 3 := hitsE_flen l
  have := over_app (hitsE l).flatten [V.int .i64 0, V.int .u64 0, V.int .u64 0] 0 markC
  rw [Nat.add_zero] at this
  rw [Nat.add_zero, ← h1, this]; rfl

theorem ownE_get {us : List V} : ((us.map fun u => [u]).flatten) = us := by
  induction us with
  | nil => rfl
  | cons u us ih => simp only [List.map_cons, List.flatten_cons, List.singleton_append, ih]

theorem law02_spoil.tight (hF : law02_spoil.Ok P N) (hh : law02_hit.Ok P N) {S : St} (hw : S.Wf) {B i n c : Nat} {cs : List V} (hn : n ≤ c) (hc : c < 1000000) (ha : Acc S B 3 (.slice i 0 c c 3 true) c cs) {K : St → Prop} (hk : ∀ S', Upd [i] S S' → K S') :
    CallA P (N Fn.law02_spoil) [.slice i 0 n c 3 true] S (retT [] K) := by
  refine law02_spoil.run hF ⟨_, rfl, ifS_mk (slice_ext (Nat.le_refl _)) (Loop1.ind (fun m x S' => ∃ (j : Nat) (es : List V), x = j ∧ m = c - j ∧ j ≤ c ∧ Acc S' B 3 (.slice i 0 c c 3 true) c es ∧ Upd [i] S S') c ⟨0, cs, rfl, rfl, Nat.zero_le _, ha, Upd.refl hw _⟩ ?_)⟩
  rintro m _ S1 ⟨j, es, rfl, rfl, hj, ha1, u1⟩
  refine ⟨_, lenV_slice .., ifC_dec (fun h1 => ?_) (fun h1 => hk _ u1)⟩
  have h1 : j < c := by omega
  obtain ⟨S2, e2, a2, u2⟩ := ha1.put u1.wf (m := j) (off := 0) (x := V.agg [.int .i64 (-9), .int .u64 0, .int .u64 9]) h1 (by simp [V.cells]) rfl (by simp [V.cells])
  exact law02_hit.keep hh (ifS_mk (ha1.at_.idx h1) (ifS_mk e2 (setI_mk (i64_add1 (by omega)) ⟨c - (j + 1), by omega, j + 1, _, rfl, rfl, h1, a2, u1.trans u2⟩)))

/-- What the laws stand on. -/
structure Law02Ok (P : Program) (N : Nat → Nat) : Prop where
  merge : topk_Merge.Ok P N
  mergeOk : MergeOk P N
  total : law02_total.Ok P N
  hit : law02_hit.Ok P N
  spoil : law02_spoil.Ok P N
  same : ref02_Same.Ok P N
  first : ref02_First.Ok P N
  sorted : ref02_Sorted.Ok P N
  with_ : ref02_With.Ok P N
  rless : ref02_Less.Spec P N
  awake : AwakeF P (N Fn.law02_awake)

theorem law02_TopkMerges.spec (hF : law02_TopkMerges.Ok P N) (hO : Law02Ok P N) {S : St} (hw : S.Wf) {k : Int} {lv : V} {vs : List V} {ls : List (List Hit)} (h : ListsAt S lv vs ls) (hl : ls.length < 4611686018427387904) (hn : ∀ l ∈ ls, l.length < 4611686018427387904)
    {K : Bool → St → Prop} (hk : ∀ S', K true S') : CallA P (N Fn.law02_TopkMerges) [.int .i64 k, lv] S (retT [.one .bool] K) := by
  refine law02_TopkMerges.run hF (law02_total.spec hO.total h hl hn fun t ht => ifC_dec (fun h1 => hO.awake _ _ (hk _)) (fun h1 => ?_))
  have htot := ht (by omega)
  have hl1 : ls.length ≤ 3000 := by omega
  have hll : ∀ j (hj : j < ls.length), ls[j].length ≤ 3000 := fun j hj => by
    have := total_mono hj
    have := flat_le (ls := ls) (j := j + 1); omega
  refine Loop3.ind (fun m x5 x6 x7 S' => ∃ (j : Nat) (us : List V), x7 = j ∧ m = ls.length - j ∧ j ≤ ls.length ∧ Grow S S' ∧ Built S S' 1 x5 (us.map fun u => [u]) ∧ Built S S' 3 x6 (hitsE (ls.take j).flatten) ∧ OwnAt S' S.next us (ls.take j) ∧
    (∀ u ∈ us, ∀ b ∈ u.block, b ∉ x5.block ∧ b ∉ x6.block) ∧ (∀ b ∈ x5.block, b ∉ x6.block)) ls.length ⟨0, [], rfl, rfl, Nat.zero_le _, Upd.refl hw _, Built.nil (Upd.refl hw _) 1, by simpa using Built.nil (Upd.refl hw _) 3, ⟨rfl, by simp, by simp⟩, by simp, by simp [V.block]⟩ ?_
  rintro m x5 x6 _ S3 ⟨j, us, rfl, rfl, hj, g3, b5, b6, hOwn, hap, hap2⟩
  have hus : us.length = j := by rw [hOwn.len, List.length_take]; omega
  refine ⟨_, (h.grow g3).length, ifC_dec (fun h2 => ?_) (fun h2 => ?_)⟩
  · have h2 : j < ls.length := by omega
    have hlj := hll j h2
    have hg := h.grow g3
    refine ifS_mk (hg.idx h2) (ifS_mk (hg.get h2) ⟨_, (hg.hits h2).len, setI_mk (i64_add1 (by omega)) (ifP_mk (mk_slice (by omega) (by omega)) ?_)⟩)
    generalize hx : vs[j]'(h.ltv h2) = vj
    have hvj : HitsAt S vj ls[j] := hx ▸ h.hits h2
    generalize hS4 : S3.new (.cells (reps (ls[j].length + 1) [V.int .i64 0, V.int .u64 0, V.int .u64 0]) true) = S4
    have g34 : Grow S3 S4 := hS4 ▸ (Upd.refl g3.wf []).new _
    have hreps : ∀ n, reps n [V.int .i64 0, V.int .u64 0, V.int .u64 0] = (hitsE (List.replicate n ⟨0, 0, 0⟩)).flatten := fun n => by
      simp only [reps, hitsE, List.map_replicate]
    have a4 : Acc S4 S3.next 3 (.slice S3.next 0 (ls[j].length + 1) (ls[j].length + 1) 3 true) (ls[j].length + 1) (hitsE (List.replicate (ls[j].length + 1) ⟨0, 0, 0⟩)).flatten := by
      rw [← hS4, hreps]
      exact Acc.fresh g3.wf (Nat.le_refl _) (by omega) (by rw [hitsE_flen, List.length_replicate]) (hitsE_one _) true
    have g4 : Grow S S4 := g3.trans g34
    have hg4 := h.grow g4
    have hgx : ∀ {S' : St} (g : Grow S S'), loadV S' (eltV 1 lv j 0) = some vj := fun g => by rw [← hx]; exact (h.grow g).get h2
    obtain ⟨S5, e5, a5, u5⟩ := a4.copy g4.wf (hvj.grow g4).at_.src (hitsE_flen _) (hitsE_one _) (by omega)
    have own1 : ∀ {D' : List Nat} {A B' : St}, Upd D' A B' → (∀ b ∈ D', b = S3.next) → Grow S A → Grow S B' := fun u hD g => g.after u fun b hb => .inl (by have := g3.le; have := hD b hb; omega)
    have g5 : Grow S S5 := own1 u5 (by simp [V.block]) g4
    refine ifS_mk (hg4.idx h2) (ifS_mk (hgx g4) (ifP_mk e5 (ifS_mk ((h.grow g5).idx h2) (ifS_mk (hgx g5) ⟨_, (hvj.grow g5).len, law02_hit.keep hO.hit (sameK_mk (Same.refl _ _) (ifS_mk (a5.at_.idx (by omega)) ?_))⟩))))
    have ec : over (hitsE (List.replicate (ls[j].length + 1) ⟨0, 0, 0⟩)).flatten 0 ((hitsE ls[j]).flatten.take (min ls[j].length (ls[j].length + 1) * 3)) = (hitsE ls[j]).flatten ++ [V.int .i64 0, V.int .u64 0, V.int .u64 0] := by
      rw [Nat.min_eq_left (by omega), ← hitsE_flen, List.take_length, List.replicate_succ']
      simp only [hitsE, List.map_append, List.flatten_append]
      have := over_zero (hitsE (List.replicate ls[j].length ⟨0, 0, 0⟩)).flatten (hitsE [⟨0, 0, 0⟩]).flatten (hitsE ls[j]).flatten (by rw [hitsE_flen, hitsE_flen, List.length_replicate])
      exact this
    rw [ec] at a5
    obtain ⟨S7, e7, a7, u7⟩ := a5.put g5.wf (m := ls[j].length) (off := 0) (x := V.agg markC) (by omega) (by simp [V.cells, markC]) rfl (by simp [V.cells, markC])
    rw [show (V.agg markC).cells = markC from rfl, setAt_flat] at a7
    have g7 : Grow S S7 := own1 u7 (by simp [V.block]) g5
    refine ifS_mk e7 (ifS_mk ((h.grow g7).idx h2) (ifS_mk (hgx g7) ⟨_, (hvj.grow g7).len, ifS_mk (slice_ext (by omega)) ⟨rfl, ?_⟩⟩))
    have hL7 : LentH S7 S3.next (.slice S3.next 0 ls[j].length (ls[j].length + 1) 3 true) ls[j] := ⟨S3.next, rfl, hitsE_flen _, a7⟩
    generalize hu : V.slice S3.next 0 ls[j].length (ls[j].length + 1) 3 true = u at hL7
    have hub : u.block = [S3.next] := by rw [← hu]; rfl
    have hu1 : u.one = true := by rw [← hu]; rfl
    have u37 : Grow S3 S7 := (g34.after u5 (by simp [V.block])).after u7 (by simp [V.block])
    have b57 : Built S S7 1 x5 (us.map fun u => [u]) := b5.next u37
    have b67 : Built S S7 3 x6 (hitsE (ls.take j).flatten) := b6.next u37
    have x5lt := b5.lt
    have x6lt := b6.lt
    have hS3S7 : S3.next < S7.next := by
      obtain ⟨_, vs', hgv⟩ := a7.own S3.next (by simp [V.block])
      exact g7.wf.lt hgv
    refine b57.push (e := [u]) rfl (by simp [hu1]) (by simp only [List.length_map, hus]; omega) (by simp only [List.length_map, hus]; omega) fun y5 S9 b9 u9 t9 => ?_
    have x5S : ∀ b ∈ x5.block, S.next ≤ b := b57.from
    have g9 : Grow S S9 := b9.grow
    refine ifS_mk ((h.grow g9).idx h2) (ifS_mk (hgx g9) (hits_app (b67.upd u9 x5S fun b hb hb' => hap2 b hb' hb) (hvj.grow g9) ?_ fun y6 S10 b10 u10 t10 => setI_mk (i64_add1 (by omega)) ?_))
    · have := flat_le (ls := ls) (j := j + 1)
      rw [total_mono h2] at this; omega
    rw [flat_snoc h2] at b10
    have uL : ∀ {u' : V} {l : List Hit}, LentH S7 S.next u' l → (∀ b ∈ u'.block, b ∉ x5.block ∧ b ∉ x6.block) → LentH S10 S.next u' l := fun hL hb => (hL.upd u9 (fun b h' => (hb b h').1)).upd u10 fun b h' => (hb b h').2
    have hunew : ∀ b ∈ u.block, b ∉ x5.block ∧ b ∉ x6.block := fun b hb => by
      rw [hub] at hb; simp only [List.mem_singleton] at hb; subst hb
      exact ⟨fun h' => by have := x5lt _ h'; omega, fun h' => by have := x6lt _ h'; omega⟩
    have huold : ∀ u' ∈ us, ∀ b ∈ u'.block, b < S3.next := fun u' hu' b hb => by
      obtain ⟨q, hq, rfl⟩ := List.getElem_of_mem hu'
      exact (hOwn.lent q hq (by rw [← hOwn.len]; exact hq)).lt g3.wf b hb
    have s79 := u9.le
    refine ⟨ls.length - (j + 1), by omega, j + 1, us ++ [u], rfl, rfl, h2, b10.grow, ?_, b10, ⟨?_, ?_, ?_⟩, ?_, ?_⟩
    · have : Built S S9 1 y5 ((us ++ [u]).map fun u => [u]) := by simpa using b9
      refine this.upd u10 (b6.from) fun b hb hb' => ?_
      rcases t9 b hb with h' | h'
      · exact hap2 b h' hb'
      · have := x6lt b hb'; omega
    · rw [List.length_append, hus, List.length_take]; simp; omega
    · intro i h' h''
      simp only [List.length_append, List.length_cons, List.length_nil] at h'
      rcases Nat.lt_or_ge i j with hi | hi
      · rw [List.getElem_append_left (by omega), List.getElem_take]
        have h3 := hOwn.lent i (by omega) (by rw [List.length_take]; omega)
        rw [List.getElem_take] at h3
        exact uL (h3.upd u37 (by simp)) (hap _ (List.getElem_mem _))
      · have : i = j := by omega
        subst this
        rw [List.getElem_append_right (by omega), List.getElem_take]
        simp only [hus, Nat.sub_self, List.getElem_cons_zero]
        exact uL (hL7.below g3.le) hunew
    · intro i q h' h'' hiq b hb
      simp only [List.length_append, List.length_cons, List.length_nil] at h' h''
      rw [List.getElem_append_left (by omega)] at hb
      rcases Nat.lt_or_ge q j with hq | hq
      · rw [List.getElem_append_left (by omega)]
        exact hOwn.apart i q (by omega) (by omega) hiq b hb
      · have : q = j := by omega
        subst this
        rw [List.getElem_append_right (by omega)]
        simp only [hus, Nat.sub_self, List.getElem_cons_zero]
        intro hb'
        rw [hub] at hb'; simp only [List.mem_singleton] at hb'
        have := huold _ (List.getElem_mem _) b hb; omega
    · intro u' hu' b hb
      have hb1 : b ∉ x5.block ∧ b ∉ x6.block ∧ b < S7.next := by
        rcases List.mem_append.mp hu' with h' | h'
        · exact ⟨(hap u' h' b hb).1, (hap u' h' b hb).2, by have := huold u' h' b hb; omega⟩
        · simp only [List.mem_singleton] at h'; subst h'
          have := hunew b hb
          rw [hub] at hb; simp only [List.mem_singleton] at hb
          exact ⟨this.1, this.2, by omega⟩
      refine ⟨fun h' => ?_, fun h' => ?_⟩
      · rcases t9 b h' with h'' | h''
        · exact hb1.1 h''
        · omega
      · rcases t10 b h' with h'' | h''
        · exact hb1.2.1 h''
        · omega
    · intro b hb hb'
      rcases t10 b hb' with h' | h'
      · rcases t9 b hb with h'' | h''
        · exact hap2 b h'' h'
        · have := x6lt b h'; omega
      · have := b9.lt b hb; omega
  · have hjl : j = ls.length := by omega
    subst hjl
    rw [List.take_length] at b6 hOwn
    have hLs : ListsAt S3 x5 us ls := ⟨hOwn.len, by have := b5.sl.1; rwa [List.length_map, ownE_get] at this, fun i h' h'' => (hOwn.lent i h' h'').hits⟩
    -- what is told, whatever k is
    have key : ∀ (y : V) (e : Int) (want : List Hit) (S11 : St), Grow S3 S11 → HitsAt S11 y want → (∀ b ∈ y.block, S3.next ≤ b) → ((k < 1 ∨ 64 < k) → e = 1 ∧ want = []) → (∀ n : Nat, k = n → 1 ≤ n → n ≤ 64 → e = 0 ∧ want = best n ls.flatten) →
        Loop1 (fun (k2 : Int → St → Prop) (x11 : Int) (S12 : St) =>
      ∃ x68 : Int, lenV S12 2 lv = some (V.int .i64 x68) ∧
      ifC (decide (x11 < x68))
      (ifS (idxAddrV 1 x5 (V.int .i64 x11)) fun (x74 : V) =>
       ifS (loadV S12 x74) fun (x75 : V) =>
       ifS (idxAddrV 1 lv (V.int .i64 x11)) fun (x78 : V) =>
       ifS (loadV S12 x78) fun (x79 : V) =>
       ∃ x80 : Int, lenV S12 2 x79 = some (V.int .i64 x80) ∧
       setI (IntKind.i64.wrap (x80 + (1 : Int))) fun (x81 : Int) =>
       ifS (sliceSlV 3 x75 none (some (V.int .i64 x81)) none) fun (x82 : V) =>
       Join0 (fun (k3 : St → Prop) =>
        ifS (idxAddrV 1 x5 (V.int .i64 x11)) fun (x85 : V) =>
        ifS (loadV S12 x85) fun (x86 : V) =>
        ifS (idxAddrV 1 lv (V.int .i64 x11)) fun (x89 : V) =>
        ifS (loadV S12 x89) fun (x90 : V) =>
        CallA P (N Fn.ref02_Same) [x86, x90] S12 (retT [(.one .bool)] fun (x91 : Bool) (S14 : St) =>
        ifC (!x91)
        (K false S14)
        (ifS (idxAddrV 1 lv (V.int .i64 x11)) fun (x97 : V) =>
        ifS (loadV S14 x97) fun (x98 : V) =>
        ∃ x99 : Int, lenV S14 2 x98 = some (V.int .i64 x99) ∧
        ifS (idxAddrV 3 x82 (V.int .i64 x99)) fun (x100 : V) =>
        ∃ x101_a : Int, ∃ x101_b : Int, ∃ x101_c : Int, loadNV S14 3 x100 = some (V.agg [(V.int .i64 x101_a), (V.int .u64 x101_b), (V.int .u64 x101_c)]) ∧
        CallA P (N Fn.law02_hit) [(V.int .i64 (-7)), (V.int .u64 7)] S14 (retT [(.agg [(.int .i64), (.int .u64), (.int .u64)])] fun (x102_a : Int) (x102_b : Int) (x102_c : Int) (S15 : St) =>
        sameK (V.block x100 ++ (V.block x98 ++ (V.block x97 ++ (V.block x89 ++ (V.block x85 ++ []))))) S14 S15 (∃ x103 : Bool, eqV 6 [1, 1, 1] (V.agg [(V.int .i64 x101_a), (V.int .u64 x101_b), (V.int .u64 x101_c)]) (V.agg [(V.int .i64 x102_a), (V.int .u64 x102_b), (V.int .u64 x102_c)]) = some x103 ∧
        ifC (!x103)
        (K false S15)
        (k3  S15))))))
       (fun (S13 : St) =>
        ifS (idxAddrV 1 x5 (V.int .i64 x11)) fun (x107 : V) =>
        ifS (loadV S13 x107) fun (x108 : V) =>
        CallA P (N Fn.law02_spoil) [x108] S13 (retT [] fun (S16 : St) =>
        setI (IntKind.i64.wrap (x11 + (1 : Int))) fun (x71 : Int) =>
        k2 x71 S16)))
      (Join1 (fun (k4 : Bool → St → Prop) =>
        ifC (decide (k < (1 : Int)))
        (k4 true S12)
        (k4 (decide ((64 : Int) < k)) S12))
       (fun (x115 : Bool) (S17 : St) =>
        ifC x115
        (CallA P (N Fn.law02_awake) [] S17 (retT [(.one .bool)] fun (x116 : Bool) (S18 : St) =>
         ifC x116
         (ifC (decide (e = (1 : Int)))
         (∃ x123 : Int, lenV S18 2 y = some (V.int .i64 x123) ∧
         K (decide (x123 = (0 : Int))) S18)
         (K false S18))
         (K false S18)))
        (CallA P (N Fn.law02_awake) [] S17 (retT [(.one .bool)] fun (x126 : Bool) (S19 : St) =>
         ifC x126
         (ifC (decide (e = (0 : Int)))
         (CallA P (N Fn.ref02_First) [x6, (V.int .i64 k)] S19 (retT [(.one .any)] fun (x135 : V) (S20 : St) =>
         CallA P (N Fn.ref02_Same) [y, x135] S20 (retT [(.one .bool)] fun (x136 : Bool) (S21 : St) =>
         K x136 S21)))
         (K false S19))
         (K false S19))))))
     0 S11 := by
      intro y e want S11 g11 hy hyb h01 h02
      have x5lt := b5.lt
      have x6lt := b6.lt
      refine Loop1.ind (fun m x S' => ∃ j : Nat, x = j ∧ m = ls.length - j ∧ j ≤ ls.length ∧ Grow S S' ∧ HitsAt S' y want ∧ HitsAt S' x6 ls.flatten ∧ SlAt S' 1 x5 us.length us ∧
        ∀ i (h : i < us.length) (h' : i < ls.length), j ≤ i → LentH S' S.next us[i] ls[i]) ls.length ⟨0, rfl, rfl, Nat.zero_le _, g3.trans g11, hy, b6.hits.grow g11, hLs.sl.grow g11, fun i h' h'' _ => (hOwn.lent i h' h'').upd g11 (by simp)⟩ ?_
      rintro m _ S12 ⟨j, rfl, rfl, hj, g12, hy12, h612, h512, hL12⟩
      have hg := h.grow g12
      refine ⟨_, hg.length, ifC_dec (fun h3 => ?_) (fun h3 => ?_)⟩
      · have h3 : j < ls.length := by omega
        have h3u : j < us.length := by rw [hOwn.len]; exact h3
        have hlj := hll j h3
        have hLj := hL12 j h3u h3 (Nat.le_refl _)
        have hidx : idxAddrV 1 x5 (.int .i64 (j : Int)) = some (eltV 1 x5 j 0) := h512.idx h3u
        have hld : loadV S12 (eltV 1 x5 j 0) = some us[j] := by
          rw [h512.load (m := j) (off := 0) h3u (by omega), Nat.mul_one, Nat.add_zero, List.getElem?_eq_getElem h3u]
        have hLjH := hLj.hits
        obtain ⟨i0, hi0, hcl, hacc⟩ := hLj
        refine ifS_mk hidx (ifS_mk hld (ifS_mk (hg.idx h3) (ifS_mk (hg.get h3) ⟨_, (hg.hits h3).len, setI_mk (i64_add1 (by omega)) ?_⟩)))
        rw [hi0]
        refine ifS_mk (slice_ext (by omega)) (Join0.mid (fun S' => S' = S12) ?_ ?_)
        · refine ifS_mk hidx (ifS_mk hld (ifS_mk (hg.idx h3) (ifS_mk (hg.get h3) (ref02_Same.spec hO.same g12.wf hLjH (hg.hits h3) (by omega) (ifC_ff (by simp) (ifS_mk (hg.idx h3) (ifS_mk (hg.get h3) ⟨_, (hg.hits h3).len, ifS_mk (hacc.at_.idx (by omega)) ⟨-7, 0, 7, ?_, law02_hit.keep hO.hit (sameK_mk (Same.refl _ _) ⟨true, rfl, ifC_ff rfl rfl⟩)⟩⟩)))))))
          rw [hacc.at_.loadN (by omega) (by omega), ← hcl, List.drop_left]; rfl
        · rintro S13 rfl
          refine ifS_mk hidx (ifS_mk hld ?_)
          rw [hi0]
          have hblk : ∀ b ∈ (us[j]).block, S.next ≤ b ∧ b < S3.next := fun b hb => ⟨(hOwn.lent j h3u h3).from b hb, (hOwn.lent j h3u h3).lt g3.wf b hb⟩
          have hib : i0 ∈ (us[j]).block := by rw [hi0]; simp [V.block]
          refine law02_spoil.tight hO.spoil hO.hit g12.wf (Nat.le_add_right _ 1) (by omega) hacc fun S16 u16 => setI_mk (i64_add1 (by omega)) ⟨ls.length - (j + 1), by omega, j + 1, rfl, rfl, h3, ?_, ?_, ?_, ?_, ?_⟩
          · exact g12.after u16 fun b hb => by simp only [List.mem_singleton] at hb; subst hb; exact .inl (hblk b hib).1
          · exact hy12.upd u16 fun b hb hb' => by simp only [List.mem_singleton] at hb'; subst hb'; have := hyb b hb; have := (hblk b hib).2; omega
          · exact h612.upd u16 fun b hb hb' => by simp only [List.mem_singleton] at hb'; subst hb'; exact (hap _ (List.getElem_mem h3u) b hib).2 hb
          · exact h512.upd u16 fun b hb hb' => by simp only [List.mem_singleton] at hb'; subst hb'; exact (hap _ (List.getElem_mem h3u) b hib).1 hb
          · intro i h' h'' hji
            refine (hL12 i h' h'' (by omega)).upd u16 fun b hb hb' => ?_
            simp only [List.mem_singleton] at hb'; subst hb'
            exact hOwn.apart j i h3u h' (by omega) b hib hb
      · refine Join1.mid (fun b S' => S' = S12 ∧ b = decide (k < 1 ∨ 64 < k)) (ifC_dec (fun h4 => ⟨rfl, by simp [h4]⟩) (fun h4 => ⟨rfl, by simp [h4]⟩)) ?_
        rintro _ S17 ⟨rfl, rfl⟩
        refine ifC_dec (fun h4 => hO.awake _ _ (ifC_tt rfl ?_)) (fun h4 => hO.awake _ _ (ifC_tt rfl ?_))
        · obtain ⟨rfl, rfl⟩ := h01 h4
          exact ifC_pos rfl ⟨_, hy12.len, hk _⟩
        · obtain ⟨n, rfl⟩ := Int.eq_ofNat_of_zero_le (show 0 ≤ k by omega)
          obtain ⟨rfl, rfl⟩ := h02 n rfl (by omega) (by omega)
          refine ifC_pos rfl (ref02_First.spec hO.first hO.sorted hO.with_ hO.rless g12.wf h612 (by omega) fun v' S20 hv' _ g20 => ref02_Same.spec hO.same g20.wf (hy12.grow g20) hv' (by rw [best_length]; omega) ?_)
          rw [decide_eq_true rfl]; exact hk _
    refine topk_Merge.spec hO.merge hO.mergeOk g3.wf hLs (by omega) (by omega) (fun h3 => ?_) (fun n hn1 hn2 hn3 v S11 b11 => ?_)
    · exact key _ _ [] S3 (Upd.refl g3.wf _) (HitsAt.mk ⟨by simp, by simp, .inl ⟨rfl, rfl⟩⟩) (by simp [V.block]) (fun _ => ⟨rfl, rfl⟩) (fun n h4 h5 h6 => by omega)
    · exact key _ _ _ S11 b11.grow b11.hits b11.from (fun h4 => by omega) (fun n' h4 _ _ => ⟨rfl, by rw [show n' = n by omega]⟩)

end Go.Th.L
end

section
/- The laws of layer 2: the order of offers. -/
set_option linter.unusedSimpArgs false
set_option linter.unusedVariables false
set_option linter.unusedSectionVars false
namespace Go.Th.Pure
open Go

theorem best_best (k : Nat) (a : List Hit) : best k (best k a) = best k a := by
  show (sortH (best k a)).take k = best k a
  rw [sortH_of (best_srt k a), List.take_of_length_le (by rw [best_length]; omega)]
theorem best_app (k : Nat) : ∀ (b a : List Hit), best k (a ++ b) = best k (best k a ++ b)
  | [], a => by
    simp only [List.append_nil]
    exact (best_best k a).symm
  | x :: b, a => by
    have h1 := best_app k b (a ++ [x])
    have h2 := best_app k b (best k a ++ [x])
    rw [List.append_assoc, List.singleton_append] at h1 h2
    rw [h1, h2, best_snoc, best_snoc]
    rw [best_best]

theorem best_two (k : Nat) (a b : List Hit) : best k (best k a ++ best k b) = best k (a ++ b) := by
  rw [best_congr (List.perm_append_comm (l₁ := best k a)), ← best_app, best_congr (List.perm_append_comm (l₁ := b)), ← best_app]

/-- The second order of offers. -/
def turned (l : List Hit) (c : Nat) : List Hit := (l.drop c ++ l.take c).reverse
theorem turned_perm (l : List Hit) (c : Nat) : (turned l c).Perm l := by
  refine (List.reverse_perm _).trans ?_
  refine List.perm_append_comm.trans ?_
  rw [List.take_append_drop]
theorem turned_length (l : List Hit) (c : Nat) : (turned l c).length = l.length := (turned_perm l c).length_eq
theorem turned_get {l : List Hit} {c j : Nat} (hc : c ≤ l.length) (hj : j < l.length) (h1 : j < (turned l c).length) (h2 : (c + l.length - 1 - j) % l.length < l.length) : (turned l c)[j] = l[(c + l.length - 1 - j) % l.length] := by
  have h0 : (turned l c)[j]? = (l.drop c ++ l.take c)[(l.drop c ++ l.take c).length - 1 - j]? := by
    rw [turned, List.getElem?_reverse (by simp; omega)]
  rw [List.getElem?_eq_getElem h1] at h0
  have hlen : (l.drop c ++ l.take c).length = l.length := by simp; omega
  refine Option.some.inj (h0.trans ?_)
  rw [← List.getElem?_eq_getElem h2, hlen]
  by_cases h3 : l.length - 1 - j < l.length - c
  · rw [List.getElem?_append_left (by simp; omega), List.getElem?_drop]
    congr 1
    rw [Nat.mod_eq_of_lt (by omega)]; omega
  · rw [List.getElem?_append_right (by simp; omega), List.getElem?_take, if_pos (by simp; omega)]
    congr 1
    rw [List.length_drop]
    have : (c + l.length - 1 - j) % l.length = c + l.length - 1 - j - l.length := by
      rw [Nat.mod_eq_sub_mod (by omega), Nat.mod_eq_of_lt (by omega)]
    omega

end Go.Th.Pure
namespace Go.Th.L
open Go Go.Th Go.Th.Pure Go.Sort
variable {P : Program} {N : Nat → Nat}

/-- One list, as a list of lists. -/
theorem lists_one {S S1 : St} {v : V} {l : List Hit} (h : HitsAt S v l) (g : Grow S S1) (m : S1.get S.next = some (.cells [v] true)) : ListsAt S1 (.slice S.next 0 1 1 1 true) [v] [l] :=
  ⟨rfl, ⟨by simp, rfl, .inr ⟨_, 0, 1, true, rfl, Nat.le_refl _, by rw [St.loads_of m (by simp)]; rfl⟩⟩, fun j h1 h2 => by
    have : j = 0 := by simpa using h1
    subst this; exact h.grow g⟩
theorem lists_two {S S1 : St} {v u : V} {l p : List Hit} (h : HitsAt S v l) (h' : HitsAt S u p) (g : Grow S S1) (m : S1.get S.next = some (.cells [v, u] true)) : ListsAt S1 (.slice S.next 0 2 2 1 true) [v, u] [l, p] :=
  ⟨rfl, ⟨by simp, rfl, .inr ⟨_, 0, 2, true, rfl, Nat.le_refl _, by rw [St.loads_of m (by simp)]; rfl⟩⟩, fun j h1 h2 => by
    have : j = 0 ∨ j = 1 := by simp at h1; omega
    rcases this with rfl | rfl
    · exact h.grow g
    · exact h'.grow g⟩

theorem law02_TopkOrder.spec (hF : law02_TopkOrder.Ok P N) (hO : Law02Ok P N) {S : St} (hw : S.Wf) {k cut : Int} {lv : V} {l : List Hit} (hv : HitsAt S lv l) (hn : l.length < 4611686018427387904) (hcut : -9223372036854775808 ≤ cut ∧ cut ≤ 9223372036854775807)
    {K : Bool → St → Prop} (hk : ∀ S', K true S') : CallA P (N Fn.law02_TopkOrder) [.int .i64 k, lv, .int .i64 cut] S (retT [.one .bool] K) := by
  refine law02_TopkOrder.run hF (Join1.mid (fun b S' => S' = S ∧ (b = false → l.length ≤ 3000 ∧ 1 ≤ k ∧ k ≤ 64)) ⟨_, hv.len, ifC_dec (fun h1 => ⟨rfl, fun h => by cases h⟩) (fun h1 => ifC_dec (fun h2 => ⟨rfl, fun h => by cases h⟩) (fun h2 => ⟨rfl, fun h => by simp only [decide_eq_false_iff_not] at h; omega⟩))⟩ ?_)
  rintro b S1 ⟨rfl, hb⟩
  refine ifC_tt_ff (fun h1 => hO.awake _ _ (hk _)) (fun h1 => ?_)
  obtain ⟨hl, hk1, hk2⟩ := hb h1
  refine Join1.mid (fun x S' => S' = S1 ∧ ∃ c0 : Nat, x = c0) (ifC_dec (fun h2 => setI_mk (n := cut + 1) (by rw [IntKind.wrap_i64]; omega) (setI_mk (n := 0 - (cut + 1)) (by rw [IntKind.wrap_i64]; omega) ⟨rfl, (0 - (cut + 1)).toNat, by omega⟩)) (fun h2 => ⟨rfl, cut.toNat, by omega⟩)) ?_
  rintro _ S3 ⟨rfl, c0, rfl⟩
  refine ⟨_, hv.len, setI_mk (i64_add1 (by omega)) ⟨by omega, ?_⟩⟩
  have hc : c0 % (l.length + 1) ≤ l.length := by have := Nat.mod_lt c0 (show 0 < l.length + 1 by omega); omega
  refine setI_mk (n := ((c0 % (l.length + 1) : Nat) : Int)) (by rw [Int.tmod_eq_emod_of_nonneg (by omega)]; omega) ?_
  generalize c0 % (l.length + 1) = c at hc
  obtain ⟨n, rfl⟩ := Int.eq_ofNat_of_zero_le (show 0 ≤ k by omega)
  refine hO.mergeOk.new _ _ _ hw (fun h => by omega) fun n1 e1 ha1 ha2 S4 g4 hA4 => hO.mergeOk.new _ _ _ g4.wf (fun h => by omega) fun n2 e2 hb1 hb2 S5 g5 hB5 => ?_
  have hn1 : n = n1 := by omega
  have hn2 : n2 = n1 := by omega
  subst hn1; subst hn2
  refine Join0.mid (fun S' => S' = S5) ⟨false, rfl, ifC_ff rfl ⟨false, rfl, ifC_ff rfl (ifC_npos rfl (ifC_npos rfl rfl))⟩⟩ ?_
  rintro S6 rfl
  have hlt4 : S3.next < S4.next := hA4.lt _ (by simp)
  refine Loop1.ind (fun m x S' => ∃ (j : Nat) (Da Db : List Nat), x = j ∧ m = l.length - j ∧ j ≤ l.length ∧ Grow S3 S' ∧ HeapAt S' Da S3.next n2 (best n2 (l.take j)) ∧ HeapAt S' Db S4.next n2 (best n2 ((turned l c).take j)) ∧ (∀ i ∈ Da, S3.next ≤ i ∧ i ∉ Db) ∧ (∀ i ∈ Db, S3.next ≤ i)) l.length
    ⟨0, [S3.next], [S4.next], rfl, rfl, Nat.zero_le _, g4.trans g5, by simpa [best, sortH] using hA4.upd g5 (by simp), by simpa [best, sortH] using hB5, by simp; omega, by simp; omega⟩ ?_
  rintro m _ S7 ⟨j, Da, Db, rfl, rfl, hj, g7, hA7, hB7, hDa, hDb⟩
  have hv7 := hv.grow g7
  refine ⟨_, hv7.len, ifC_dec (fun h3 => ?_) (fun h3 => ?_)⟩
  · have h3 : j < l.length := by omega
    have hjt : j < (turned l c).length := by rw [turned_length]; exact h3
    refine ifS_mk (hv7.idx h3) ⟨_, _, _, hv7.get h3, hO.mergeOk.offer S7 Da _ n2 _ l[j] _ hA7 ha1 ha2 (by rw [best_length]; omega) fun S8 D8 hA8 u8 t8 => ?_⟩
    rw [best_take h3] at hA8
    have g8 : Grow S3 S8 := g7.after u8 fun i hi => .inl (hDa i hi).1
    have hv8 := hv.grow g8
    have hB8 := hB7.upd u8 fun i hi hi' => (hDa i hi').2 hi
    have hq : (c + l.length - 1 - j) % l.length < l.length := Nat.mod_lt _ (by omega)
    refine ⟨_, hv8.len, setI_mk (i64_add (by omega)) (setI_mk (i64_sub1 (by omega) (by omega)) (setI_mk (i64_sub (by omega) (by omega)) ⟨_, hv8.len, by omega, setI_mk (n := (((c + l.length - 1 - j) % l.length : Nat) : Int)) (by rw [Int.tmod_eq_emod_of_nonneg (by omega)]; omega) (ifS_mk (hv8.idx hq) ⟨_, _, _, hv8.get hq, ?_⟩)⟩))⟩
    refine hO.mergeOk.offer S8 Db _ n2 _ l[(c + l.length - 1 - j) % l.length] _ hB8 ha1 ha2 (by rw [best_length]; omega) fun S9 D9 hB9 u9 t9 => ?_
    rw [← turned_get hc h3 hjt hq, best_take hjt] at hB9
    refine setI_mk (i64_add1 (by omega)) ⟨l.length - (j + 1), by omega, j + 1, D8, D9, rfl, rfl, h3, g8.after u9 fun i hi => .inl (hDb i hi), hA8.upd u9 fun i hi hi' => ?_, hB9, fun i hi => ⟨?_, fun hi' => ?_⟩, fun i hi => ?_⟩
    · rcases t8 i hi with h' | h'
      · exact (hDa i h').2 hi'
      · have := hB7.lt i hi'; omega
    · rcases t8 i hi with h' | h'
      · exact (hDa i h').1
      · have := g7.le; omega
    · have hi8 := hA8.lt i hi
      rcases t9 i hi' with h' | h'
      · rcases t8 i hi with h'' | h''
        · exact (hDa i h'').2 h'
        · have := hB7.lt i h'; omega
      · omega
    · rcases t9 i hi with h' | h'
      · exact hDb i h'
      · have := g8.le; omega
  · have : j = l.length := by omega
    subst this
    rw [List.take_length] at hA7
    rw [List.take_of_length_le (by rw [turned_length]; omega), best_congr (turned_perm l c)] at hB7
    obtain ⟨va, ea, hva, hab⟩ := hv7.sub (lo := none) (hi := some (.int .i64 (c : Int))) (a := 0) (b := c) (fun cap hc' => bnds_h (by omega)) (Nat.zero_le _) hc
    rw [List.drop_zero, Nat.sub_zero] at hva
    refine ifS_mk ea ⟨hva.at_.cells1, newS_mk g7.wf fun S10 g10 m10 n10 => topk_Merge.spec hO.merge hO.mergeOk g10.wf (lists_one hva g10 m10) (by simp) (by simp; omega) (fun h => by omega) fun n' e' _ _ x S11 b11 => ?_⟩
    have hn' : n2 = n' := by omega
    subst hn'
    rw [List.flatten_singleton] at b11
    have g11 : Grow S7 S11 := g10.trans b11.grow
    obtain ⟨vb, eb, hvb, hbb⟩ := (hv7.grow g11).sub (lo := some (.int .i64 (c : Int))) (hi := none) (a := c) (b := l.length) (fun cap hc' => bnds_l hc) hc (Nat.le_refl _)
    rw [← List.length_drop, List.take_length] at hvb
    refine ifS_mk eb ⟨hvb.at_.cells1, newS_mk g11.wf fun S12 g12 m12 n12 => topk_Merge.spec hO.merge hO.mergeOk g12.wf (lists_one hvb g12 m12) (by simp) (by simp; omega) (fun h => by omega) fun n' e' _ _ y S13 b13 => ?_⟩
    have hn' : n2 = n' := by omega
    subst hn'
    rw [List.flatten_singleton] at b13
    have g13 : Grow S11 S13 := g12.trans b13.grow
    have hx13 := b11.hits.grow g13
    have hy13 := b13.hits
    refine ⟨hx13.at_.cells1, hy13.at_.cells1, newS_mk g13.wf fun S14 g14 m14 n14 => topk_Merge.spec hO.merge hO.mergeOk g14.wf (lists_two hx13 hy13 g14 m14) (by simp) ?_ (fun h => by omega) fun n' e' _ _ z S15 b15 => ?_⟩
    · simp only [List.flatten_cons, List.flatten_nil, List.append_nil, List.length_append, best_length]; omega
    have hn' : n2 = n' := by omega
    subst hn'
    have ez : best n2 [best n2 (l.take c), best n2 (l.drop c)].flatten = best n2 l := by
      simp only [List.flatten_cons, List.flatten_nil, List.append_nil]
      rw [best_two, List.take_append_drop]
    rw [ez] at b15
    have g15 : Grow S7 S15 := (g11.trans g13).trans (g14.trans b15.grow)
    refine topk_Heap_List.at_ hO.mergeOk.list hO.mergeOk.clone hO.mergeOk.sort (hA7.upd g15 (by simp)) (by rw [best_length]; omega) fun w S16 b16 => hO.awake _ _ (ifC_tt rfl (ifC_pos rfl (ifC_pos rfl (ifC_pos rfl ?_))))
    refine topk_Heap_List.at_ hO.mergeOk.list hO.mergeOk.clone hO.mergeOk.sort (hB7.upd (g15.trans b16.grow) (by simp)) (by rw [best_length]; omega) fun w2 S18 b18 => ref02_Same.spec hO.same b18.grow.wf b18.hits (b16.hits.grow b18.grow) (by rw [best_length]; omega) (ifC_tt (by simp) ?_)
    refine ref02_Same.spec hO.same b18.grow.wf (b15.hits.grow (b16.grow.trans b18.grow)) (b16.hits.grow b18.grow) (by rw [best_length]; omega) (ifC_tt (by simp) ⟨_, (b16.hits.grow b18.grow).len, _, (hv7.grow (g15.trans (b16.grow.trans b18.grow))).len, ?_⟩)
    have : decide (((best n2 l).length : Int) = goMin (n2 : Int) (l.length : Int)) = true := by
      rw [decide_eq_true_eq, best_length]
      unfold goMin
      split <;> omega
    rw [this]; exact hk _

end Go.Th.L
end
