/- What the row of one statement stands on: a store, abstract code, functions of the program and their laws (ThHcert8, ThHcert9, ThHcert10, ThHcert11, ThHcert12). -/
import Derived.Test.YtdjocmcbibedhaaThBHcert7
import Derived.Test.YtdjocmcbibedhaaThBHlaw03c
import Derived.Test.YtdjocmcbibedhaaThBGref13

section
/- The laws of chapter 13: what is looked at, awake, CertTrue, CertAll. -/
set_option linter.unusedSimpArgs false
set_option linter.unusedVariables false
set_option maxHeartbeats 1000000
namespace Go.Th.L
open Go Go.Th Go.Th.Pure Go.Sort
variable {P : Program} {N : Nat → Nat}

/-- Lengths that memory bounds. -/
structure SizedA (x : Ans) : Prop where
  hits : x.hits.length ≤ 17592186044416
  seen : x.seen.length ≤ 17592186044416
  rest : x.rest.length ≤ 17592186044416
  regs : ∀ g ∈ x.rest, g.lo.length ≤ 17592186044416 ∧ g.hi.length ≤ 17592186044416 ∧ g.ids.length ≤ 17592186044416
def sizeG (l : List Reg) : Nat := (l.map fun g => g.lo.length + g.hi.length + g.ids.length).sum
def totA (q : List Int) (x : Ans) (j : Nat) : Nat := q.length + x.hits.length + x.seen.length + x.rest.length + sizeG (x.rest.take j)
theorem sizeG_snoc {l : List Reg} {j : Nat} (h : j < l.length) : sizeG (l.take (j + 1)) = sizeG (l.take j) + (l[j].lo.length + l[j].hi.length + l[j].ids.length) := by
  unfold sizeG
  rw [List.take_add_one, List.getElem?_eq_getElem h, Option.toList_some, List.map_append, List.sum_append]
  simp
theorem restIds_size : ∀ (l : List Reg), (restIds l).length ≤ sizeG l
  | [] => by simp [restIds, sizeG]
  | g :: l => by
    have := restIds_size l
    rw [restIds_cons, List.length_append]
    simp only [sizeG, List.map_cons, List.sum_cons] at this ⊢
    omega
theorem sizeG_mem : ∀ {l : List Reg} {g : Reg}, g ∈ l → g.lo.length + g.hi.length + g.ids.length ≤ sizeG l
  | a :: l, g, h => by
    simp only [sizeG, List.map_cons, List.sum_cons]
    rcases List.mem_cons.mp h with rfl | h
    · omega
    · have := sizeG_mem h
      simp only [sizeG] at this; omega

/-- What the laws look at. -/
structure LookA (q : List Int) (x : Ans) : Prop where
  tot : totA q x x.rest.length ≤ 16384

theorem LookA.small {q : List Int} {x : Ans} (h : LookA q x) : SmallA x := by
  have := h.tot
  unfold totA at this
  rw [List.take_length] at this
  have := restIds_size x.rest
  unfold SmallA; omega

theorem law13_big.spec (hF : law13_big.Ok P N) (hV : keep_Vectors.Spec P N) {v u a b c : V} {rs : List Row} {q : List Int} {x : Ans} {S : St} (hv : RowsAt S v rs) (hrl : rs.length ≤ 17592186044416) (hrv : ∀ r ∈ rs, r.2.length ≤ 17592186044416)
    (hu : IntsAt S u q) (hql : q.length ≤ 17592186044416) (hx : AnsAt S a b c x) (hz : SizedA x) {K : Bool → St → Prop} (h1 : K true S) (h0 : LookA q x → K false S) : CallA P (N Fn.law13_big) [v, u, ansV a b c] S (retT [.one .bool] K) := by
  refine CallA.gcT (ds := [.one .bool]) rfl (CallA.wfT fun hw => ?_)
  have hv := hv.ro
  have hx := hx.ro
  have hu := hu.ro
  obtain ⟨z1, z2, z3, z4⟩ := hz
  refine law13_big.run hF (newS_mk hw fun S1 g1 mA n1 => ?_)
  have hx := hx.grow g1
  have hu := hu.grow g1
  have hv := hv.grow g1
  obtain ⟨ps, hc⟩ := hx.rest
  refine ⟨_, hu.len, ifS_mk (ld mA rfl) ⟨_, hx.hits.at_.len, setI_mk (n := ((q.length + x.hits.length : Nat) : Int)) (by rw [IntKind.wrap_i64]; omega) (ifS_mk (ld mA rfl) ⟨_, hx.seen.len, setI_mk (n := ((q.length + x.hits.length + x.seen.length : Nat) : Int)) (by rw [IntKind.wrap_i64]; omega) (ifS_mk (ld mA rfl) ⟨_, hc.length, setI_mk (n := ((totA q x 0 : Nat) : Int)) (by rw [IntKind.wrap_i64]; simp only [totA, List.take_zero, sizeG, List.map_nil, List.sum_nil]; omega) ?_⟩)⟩)⟩⟩
  refine Join1.mid (fun t S' => S' = S1 ∧ (t ≤ 16384 → LookA q x)) ?_ ?_
  · refine Loop2.ind (fun n t z S' => S' = S1 ∧ ∃ j : Nat, z = j ∧ j + n = x.rest.length ∧ t = (totA q x j : Nat)) x.rest.length ⟨rfl, 0, rfl, by omega, rfl⟩ ?_
    rintro n _ _ S3 ⟨rfl, j, rfl, hj, rfl⟩
    refine Join0.mid (fun S' => S' = S3 ∧ j < x.rest.length ∧ totA q x j ≤ 16384) (ifS_mk (ld mA rfl) ⟨_, hc.length, ifC_dec (fun h2 => ifC_dec (fun h3 => ⟨rfl, by omega, by omega⟩) (fun h3 => ⟨rfl, fun h => absurd h h3⟩)) (fun h2 => ⟨rfl, fun h => ⟨?_⟩⟩)⟩) ?_
    · have : j = x.rest.length := by omega
      subst this; omega
    · rintro S4 ⟨rfl, hjl, ht⟩
      obtain ⟨b1, b2, b3⟩ := z4 _ (List.getElem_mem hjl)
      have hR := hc.reg hjl
      refine ifS_mk (ld mA rfl) (ifS_mk (hc.idx hjl) (ifS_mk (hc.fld hjl 1) (ifS_mk (hc.lo hjl) ⟨_, hR.lo.len, setI_mk (n := ((totA q x j + x.rest[j].lo.length : Nat) : Int)) (by rw [IntKind.wrap_i64]; omega) (ifS_mk (ld mA rfl) (ifS_mk (hc.idx hjl) (ifS_mk (hc.fld hjl 2) (ifS_mk (hc.hi hjl) ⟨_, hR.hi.len, setI_mk (n := ((totA q x j + x.rest[j].lo.length + x.rest[j].hi.length : Nat) : Int)) (by rw [IntKind.wrap_i64]; omega)
        (ifS_mk (ld mA rfl) (ifS_mk (hc.idx hjl) (ifS_mk (hc.fld hjl 5) (ifS_mk (hc.ids hjl) ⟨_, hR.ids.len, setI_mk (n := ((totA q x (j + 1) : Nat) : Int)) ?_ (setI_mk (wrap_succ (by omega)) ⟨n - 1, by omega, rfl, j + 1, rfl, by omega, rfl⟩)⟩))))⟩))))⟩)))
      rw [IntKind.wrap_i64]
      simp only [totA] at ht ⊢
      rw [sizeG_snoc hjl]
      omega
  · rintro t S2 ⟨rfl, ht⟩
    obtain ⟨ws, hv'⟩ := hv
    refine ifC_dec (fun _ => h1) (fun h2 => ⟨_, hv'.length, ifC_dec (fun _ => h1) (fun h3 => hV v rs 16384 _ _ ⟨ws, hv'⟩ hrl hrv (by omega) fun n hn => ?_)⟩)
    by_cases h4 : 16384 < n
    · rw [decide_eq_true h4]; exact h1
    · rw [decide_eq_false h4]; exact h0 (ht (by omega))

/-! ## the chapter's example -/
abbrev rows13 : List Row := [(1, [0]), (2, [5]), (3, [9])]
abbrev told13 (n : Int) : Ans := ⟨[⟨1, 0, 0⟩], [1], [⟨2, [n], [9], 0, [2, 3]⟩]⟩

theorem slAt_new {S : St} {i k n : Nat} {cs : List V} {own : Bool} (h : S.get i = some (.cells cs own)) (hl : cs.length = n * k) (hn : n ≤ 4611686018427387904) : SlAt S k (.slice i 0 n n k true) n cs :=
  ⟨hn, hl, .inr ⟨i, 0, n, true, rfl, Nat.le_refl _, by rw [St.loads_of h (by omega), List.drop_zero, List.take_of_length_le (by omega)]⟩⟩

theorem law13_rows.spec (hF : law13_rows.Ok P N) {S : St} (hw : S.Wf) {K : V → St → Prop} (hk : ∀ v S', Grow S S' → RowsAt S' v rows13 → K v S') : CallA P (N Fn.law13_rows) [] S (retT [.one .any] K) := by
  refine law13_rows.run hF (newS_mk hw fun S1 g1 m1 n1 => ⟨rfl, newS_mk g1.wf fun S2 g2 m2 n2 => ⟨rfl, newS_mk g2.wf fun S3 g3 m3 n3 => ⟨rfl, newS_mk g3.wf fun S4 g4 m4 n4 => hk _ _ (((g1.trans g2).trans g3).trans g4) ?_⟩⟩⟩)
  refine ⟨[.slice S.next 0 1 1 1 true, .slice S1.next 0 1 1 1 true, .slice S2.next 0 1 1 1 true], rfl, ⟨slAt_new m4 rfl (by decide), rowsC_two⟩, ?_⟩
  intro j h1 h2
  match j, h1, h2 with
  | 0, _, _ => exact lit_ints [0] (g4.get (g3.get (g2.get m1))) (by decide)
  | 1, _, _ => exact lit_ints [5] (g4.get (g3.get m2)) (by decide)
  | 2, _, _ => exact lit_ints [9] (g4.get m3) (by decide)

theorem law13_told.spec (hF : law13_told.Ok P N) {S : St} (hw : S.Wf) {n : Int} {K : V → V → V → St → Prop} (hk : ∀ a b c S', Grow S S' → AnsAt S' a b c (told13 n) → K a b c S') : CallA P (N Fn.law13_told) [.int .i64 n] S (retT [.agg [.any, .any, .any]] K) := by
  refine law13_told.run hF (newS_mk hw fun S1 g1 m1 n1 => newS_mk g1.wf fun S2 g2 m2 n2 => newS_mk g2.wf fun S3 g3 m3 n3 => newS_mk g3.wf fun S4 g4 m4 n4 => newS_mk g4.wf fun S5 g5 m5 n5 => newS_mk g5.wf fun S6 g6 m6 n6 => ⟨rfl, rfl, rfl, newS_mk g6.wf fun S7 g7 m7 n7 => ⟨rfl, rfl, rfl, ?_⟩⟩)
  have g17 : Grow S1 S7 := ((((g2.trans g3).trans g4).trans g5).trans g6).trans g7
  refine st_mk g7.wf (g17.get m1) rfl (by simp [V.cells]) rfl fun S8 u8 m8 n8 => ?_
  simp only [V.cells, over] at m8
  refine ⟨_, _, _, ldC m8 (by simp) rfl, hk _ _ _ _ ((g1.trans g17).after u8 (fun i hi => by simp only [List.mem_singleton] at hi; exact .inl (by omega))) ?_⟩
  have e : ∀ {i : Nat} {b : Blk}, S7.get i = some b → i ≠ S.next → S8.get i = some b := fun h hne => u8.get h (by simpa using hne)
  refine ⟨HitsAt.mk (slAt_new (e (g7.get (g6.get (g5.get (g4.get (g3.get m2))))) (by omega)) rfl (by decide)), lit_ints [1] (e (g7.get (g6.get (g5.get (g4.get m3)))) (by omega)) (by decide), ?_⟩
  refine ⟨[⟨.slice S3.next 0 1 1 1 true, .slice S4.next 0 1 1 1 true, .slice S5.next 0 2 2 1 true, 0, 0⟩], rfl, ⟨slAt_new (e m7 (by omega)) rfl (by decide), regsC_six⟩, ?_⟩
  have w0 : Wok 0 0 := ⟨by omega, by omega, by omega, by omega⟩
  have hreg : RegAt S8 (.slice S3.next 0 1 1 1 true) (.slice S4.next 0 1 1 1 true) (.slice S5.next 0 2 2 1 true) 0 0 ⟨2, [n], [9], 0, [2, 3]⟩ :=
    ⟨lit_ints [n] (e (g7.get (g6.get (g5.get m4))) (by omega)) (show 1 ≤ 4611686018427387904 by decide), lit_ints [9] (e (g7.get (g6.get m5)) (by omega)) (by decide), lit_ints [2, 3] (e (g7.get m6) (by omega)) (by decide), w0, rfl⟩
  intro j h1 h2
  match j, h1, h2 with
  | 0, _, _ => exact hreg

theorem top13 : errTop [0] rows13 1 = 0 := by decide +kernel
theorem told13_hits : [⟨1, 0, 0⟩] = best 1 (hitsOf [0] ([1].map (rowOf rows13))) := by decide +kernel
theorem told13_perm : ([1] ++ restIds [⟨2, [0], [9], 0, [2, 3]⟩]).Perm (idsOf rows13) := by decide +kernel
theorem sound13 {n : Int} (h : errReg ⟨2, [n], [9], 0, [2, 3]⟩ 1 = 0) (hn : n ≤ 5) : SoundA rows13 [0] 1 (told13 n) := by
  refine ⟨fun i h1 h2 => by simp at h2; omega, ?_, told13_perm, told13_hits⟩
  intro g hg
  simp only [List.mem_singleton] at hg
  subst hg
  refine ⟨by simp, h, ?_⟩
  intro i hi
  have e2 : rowOf rows13 2 = (2, [5]) := by decide +kernel
  have e3 : rowOf rows13 3 = (3, [9]) := by decide +kernel
  simp only [List.mem_cons, List.not_mem_nil, or_false] at hi
  unfold InReg
  rw [if_pos rfl]
  intro j hj
  rcases hi with rfl | rfl
  · rw [e2] at hj ⊢
    have : j = 0 := by simp at hj; omega
    subst this; simp; omega
  · rw [e3] at hj ⊢
    have : j = 0 := by simp at hj; omega
    subst this; simp; omega
theorem cert13_5 : CertA rows13 [0] 1 (told13 5) := by
  refine ⟨sound13 (by decide +kernel) (by omega), ?_⟩
  intro g hg
  simp only [List.mem_singleton] at hg
  subst hg
  exact ⟨by simp, 25, .inl ⟨rfl, by decide +kernel⟩, by decide +kernel⟩
theorem cert13_0 : ¬ CertA rows13 [0] 1 (told13 0) := by
  rintro ⟨_, h⟩
  obtain ⟨_, n, h1, h2⟩ := h _ (List.mem_singleton.mpr rfl)
  have := IsNear.unique h1 (m := 0) (.inl ⟨rfl, by decide +kernel⟩)
  subst this
  have : farH ((told13 0).hits.getD (1 - 1) default) = 0 := by decide +kernel
  omega
theorem sound13_6 : ¬ SoundA rows13 [0] 1 (told13 6) := by
  rintro ⟨_, h, _⟩
  have := (h _ (List.mem_singleton.mpr rfl)).2.2 2 (by simp)
  exact absurd this (by decide +kernel)

theorem law13_awake.spec (hF : law13_awake.Ok P N) (hR : law13_rows.Ok P N) (hT : law13_told.Ok P N) (hO : CertOk P N) : AwakeF P (N Fn.law13_awake) := by
  intro S K hk
  refine CallA.gcT (ds := [.one .bool]) rfl (CallA.wfT fun hw => ?_)
  refine law13_awake.run hF (law13_rows.spec hR hw fun v1 S1 g1 r1 => newS_mk g1.wf fun S2 g2 m2 n2 => law13_told.spec hT g2.wf fun a1 b1 c1 S3 g3 t1 => cert_Certain.spec hO g3.wf (r1.grow (g2.trans g3)) (lit_ints [0] (g3.get m2) (by decide)) t1 (fun h => absurd top13 h) fun _ d1 S4 i1 g4 => ?_)
  refine law13_rows.spec hR g4.wf fun v2 S5 g5 r2 => newS_mk g5.wf fun S6 g6 m6 n6 => law13_told.spec hT g6.wf fun a2 b2 c2 S7 g7 t2 => cert_Certain.spec hO g7.wf (r2.grow (g6.trans g7)) (lit_ints [0] (g7.get m6) (by decide)) t2 (fun h => absurd top13 h) fun _ d2 S8 i2 g8 => ?_
  refine law13_rows.spec hR g8.wf fun v3 S9 g9 r3 => newS_mk g9.wf fun S10 g10 m10 n10 => law13_told.spec hT g10.wf fun a3 b3 c3 S11 g11 t3 => cert_Sound.spec hO g11.wf (r3.grow (g10.trans g11)) (lit_ints [0] (g11.get m10) (by decide)) t3 (fun h => absurd top13 h) fun _ d3 S12 i3 g12 => ?_
  refine law13_rows.spec hR g12.wf fun v4 S13 g13 r4 => newS_mk g13.wf fun S14 g14 m14 n14 => law13_told.spec hT g14.wf fun a4 b4 c4 S15 g15 t4 => cert_Sound.spec hO g15.wf (r4.grow (g14.trans g15)) (lit_ints [0] (g15.get m14) (by decide)) t4 (fun h => absurd top13 h) fun _ d4 S16 i4 g16 => ?_
  have e1 : d1 = true := i1.mpr cert13_5
  have e2 : d2 = false := by cases d2 with | false => rfl | true => exact absurd (i2.mp rfl) cert13_0
  have e3 : d3 = true := i3.mpr (sound13 (by decide +kernel) (by omega))
  have e4 : d4 = false := by cases d4 with | false => rfl | true => exact absurd (i4.mp rfl) sound13_6
  subst e1; subst e2; subst e3; subst e4
  exact ifC_pos rfl (ifC_pos rfl (ifC_pos rfl (ifC_pos rfl (ifC_tt rfl (ifC_tt rfl (ifC_tt rfl hk))))))

/-- What the laws need. -/
structure Law13Ok (P : Program) (N : Nat → Nat) : Prop where
  cert : CertOk P N
  big : law13_big.Ok P N
  vecs : keep_Vectors.Spec P N
  awake : AwakeF P (N Fn.law13_awake)

/-- What a law is given. -/
structure Given13 (S : St) (v u a b c : V) (rs : List Row) (q : List Int) (x : Ans) : Prop where
  rows : RowsAt S v rs
  rl : rs.length ≤ 17592186044416
  rv : ∀ r ∈ rs, r.2.length ≤ 17592186044416
  vec : IntsAt S u q
  ql : q.length ≤ 17592186044416
  ans : AnsAt S a b c x
  sz : SizedA x
theorem Given13.grow {S S' : St} {v u a b c : V} {rs : List Row} {q : List Int} {x : Ans} (h : Given13 S v u a b c rs q x) (g : Grow S S') : Given13 S' v u a b c rs q x := ⟨h.rows.grow g, h.rl, h.rv, h.vec.grow g, h.ql, h.ans.grow g, h.sz⟩

end Go.Th.L
end

section
/- The laws of chapter 13: CertAll. -/
set_option linter.unusedSimpArgs false
set_option linter.unusedVariables false
set_option maxHeartbeats 1000000
namespace Go.Th.L
open Go Go.Th Go.Th.Pure Go.Sort
variable {P : Program} {N : Nat → Nat}

theorem nil_ints (S : St) : IntsAt S .nilSlice [] := ⟨by simp, rfl, .inl ⟨rfl, rfl⟩⟩
end Go.Th.L
end

section
/- An answer in memory of its own; answers compared; CertChecks. -/
set_option linter.unusedSimpArgs false
set_option linter.unusedVariables false
set_option maxHeartbeats 1000000
namespace Go.Th.L
open Go Go.Th Go.Th.Pure Go.Sort
variable {P : Program} {N : Nat → Nat}

/-! ## an answer in memory of its own -/
/-- Regions built since a store: each list too. -/
structure BuiltG (S0 S : St) (v : V) (gs : List Reg) (ps : List RP) : Prop where
  sl : Built S0 S 6 v (regsC gs ps)
  len : ps.length = gs.length
  at_ : ∀ j (hr : j < gs.length) (hw : j < ps.length), RegAt S ps[j].a ps[j].b ps[j].c ps[j].h ps[j].l gs[j]
theorem BuiltG.regs {S0 S : St} {v : V} {gs : List Reg} {ps : List RP} (h : BuiltG S0 S v gs ps) : RegsAt S v gs := ⟨ps, h.len, h.sl.sl, h.at_⟩

theorem RegAt.upd {D : List Nat} {S S' : St} {a b c : V} {h l : Int} {r : Reg} (hr : RegAt S a b c h l r) (u : Upd D S S') (hd : ∀ i, (i ∈ a.block ∨ i ∈ b.block ∨ i ∈ c.block) → i ∉ D) : RegAt S' a b c h l r :=
  ⟨SlAt.upd hr.lo u (fun i hi => hd i (.inl hi)), SlAt.upd hr.hi u (fun i hi => hd i (.inr (.inl hi))), SlAt.upd hr.ids u (fun i hi => hd i (.inr (.inr hi))), hr.rad, hr.radN⟩
theorem regsC_snoc : ∀ {gs : List Reg} {ps : List RP} (_ : ps.length = gs.length) (g : Reg) (p : RP), regsC (gs ++ [g]) (ps ++ [p]) = regsC gs ps ++ [p.cells g.shape]
  | [], [], _, r, w => rfl
  | [], _ :: _, h, _, _ => by simp at h
  | _ :: _, [], h, _, _ => by simp at h
  | r :: rs, w :: ws, h, r', w' => by
    simp only [List.cons_append, regsC, regsC_snoc (gs := rs) (ps := ws) (by simpa using h)]

/-- An answer in memory of its own: lists that lie apart. -/
structure LentA (S0 S : St) (L : Nat) (a b c : V) (x : Ans) (ps : List RP) : Prop where
  hits : Built S0 S 3 a (hitsE x.hits)
  seen : BuiltI S0 S b x.seen
  rest : BuiltG S0 S c x.rest ps
  dab : ∀ i ∈ a.block, i ∉ b.block
  dac : ∀ i ∈ a.block, i ∉ c.block
  dbc : ∀ i ∈ b.block, i ∉ c.block
  la : ∀ i ∈ a.block, L ≤ i
  lb : ∀ i ∈ b.block, L ≤ i
  lc : ∀ i ∈ c.block, L ≤ i
  parts : ∀ p ∈ ps, ∀ i, (i ∈ p.a.block ∨ i ∈ p.b.block ∨ i ∈ p.c.block) → L ≤ i ∧ i < S.next ∧ i ∉ a.block ∧ i ∉ b.block ∧ i ∉ c.block
theorem LentA.upd {S0 S S' : St} {L : Nat} {a b c : V} {x : Ans} {ps : List RP} (h : LentA S0 S L a b c x ps) {D : List Nat} (u : Upd D S S') (h0 : ∀ i ∈ D, S0.next ≤ i) (hd : ∀ i ∈ D, i < L ∨ S.next ≤ i) : LentA S0 S' L a b c x ps := by
  have na : ∀ i ∈ a.block, i ∉ D := fun i hi hD => by
    have := h.la i hi; have := h.hits.lt i hi
    rcases hd i hD with h' | h' <;> omega
  have nb : ∀ i ∈ b.block, i ∉ D := fun i hi hD => by
    have := h.lb i hi; have := h.seen.lt i hi
    rcases hd i hD with h' | h' <;> omega
  have nc : ∀ i ∈ c.block, i ∉ D := fun i hi hD => by
    have := h.lc i hi; have := h.rest.sl.lt i hi
    rcases hd i hD with h' | h' <;> omega
  refine ⟨h.hits.upd u h0 na, Built.upd h.seen u h0 nb, ⟨h.rest.sl.upd u h0 nc, h.rest.len, fun j hr hw => (h.rest.at_ j hr hw).upd u fun i hi hD => ?_⟩, h.dab, h.dac, h.dbc, h.la, h.lb, h.lc, fun p hp i hi => ?_⟩
  · obtain ⟨q1, q2, _⟩ := h.parts _ (List.getElem_mem hw) i hi
    rcases hd i hD with h' | h' <;> omega
  · obtain ⟨q1, q2, q3⟩ := h.parts p hp i hi
    exact ⟨q1, Nat.lt_of_lt_of_le q2 u.le, q3⟩
theorem LentA.ans {S0 S : St} {L : Nat} {a b c : V} {x : Ans} {ps : List RP} (h : LentA S0 S L a b c x ps) : AnsAt S a b c x := ⟨h.hits.hits, BuiltI.at_ h.seen, h.rest.regs⟩

theorem st1 {S : St} (hw : S.Wf) {i o : Nat} {cs : List V} {v : V} {k : St → Prop} (h : S.get i = some (.cells cs true)) (hv : V.cells v = [v]) (ho : v.one = true) (hf : o < cs.length)
    (hk : ∀ S', Upd [i] S S' → S'.get i = some (.cells (over cs o [v]) true) → S'.next = S.next → k S') : ifS (storeV S 1 (.ptr i o) v) k :=
  st_mk hw h (by rw [hv]; rfl) (by rw [hv]; simp; omega) (by rw [hv]; simp [ho]) (fun S' u m n => hk S' u (by rw [hv] at m; exact m) n)

theorem law13_lent.spec (hF : law13_lent.Ok P N) {a b c : V} {x : Ans} {S : St} (hw : S.Wf) (hx : AnsAt S a b c x) (hs1 : x.hits.length ≤ 16384) (hs2 : x.seen.length ≤ 16384) (hs3 : x.rest.length ≤ 16384) (hs4 : ∀ g ∈ x.rest, g.lo.length ≤ 16384 ∧ g.hi.length ≤ 16384 ∧ g.ids.length ≤ 16384)
    {K : V → V → V → St → Prop} (hk : ∀ a' b' c' ps S', LentA S S' S.next a' b' c' x ps → K a' b' c' S') : CallA P (N Fn.law13_lent) [ansV a b c] S (retT [.agg [.any, .any, .any]] K) := by
  obtain ⟨ps0, hc0⟩ := hx.rest
  refine law13_lent.run hF (newS_mk hw fun S1 g1 mA n1 => newS_mk g1.wf fun S2 g2 mR n2 => newS_mk g2.wf fun S3 g3 mB n3 => ?_)
  have g03 : Grow S S3 := (Upd.trans g1 g2).trans g3
  have mA3 := g3.get (g2.get mA)
  have mR3 := g3.get mR
  refine ifS_mk (ld mB rfl) (ifS_mk (ld mA3 rfl) (hits_app (l := []) (by simpa using Built.nil (S0 := S) g03 3) (hx.hits.grow g03) (by simp; omega) fun v1 S4 hB1 u4 t4 => ?_))
  rw [List.nil_append] at hB1
  have g34 : Grow S3 S4 := u4.mono (by simp [V.block])
  have t4 : ∀ i ∈ v1.block, S3.next ≤ i := fun i hi => by rcases t4 i hi with h | h; simp [V.block] at h; exact h
  refine st1 g34.wf (g34.get mB) hB1.acc.at_.cells1 hB1.one (by simp) fun S5 u5 mB5 n5 => ?_
  have hB15 : Built S S5 3 v1 (hitsE x.hits) := hB1.upd u5 (fun i hi => by simp only [List.mem_singleton] at hi; omega) (fun i hi => by have := t4 i hi; simp only [List.mem_singleton]; omega)
  have mA5 : S5.get S.next = some (.cells [a, b, c] true) := u5.get (g34.get mA3) (by simp only [List.mem_singleton]; omega)
  have mR5 := u5.get (g34.get mR3) (by simp only [List.mem_singleton]; omega)
  have g05 := hB15.grow
  simp only [over] at mB5
  refine ifS_mk (ld mB5 rfl) (ifS_mk (ld mA5 rfl) (ints_app (BuiltI.nil g05) (hx.seen.grow g05) (by simp; omega) fun v2 S6 hB2 u6 t6 => ?_))
  rw [List.nil_append] at hB2
  have g56 : Grow S5 S6 := u6.mono (by simp [V.block])
  have t6 : ∀ i ∈ v2.block, S5.next ≤ i := fun i hi => by rcases t6 i hi with h | h; simp [V.block] at h; exact h
  refine st1 g56.wf (g56.get mB5) hB2.acc.at_.cells1 hB2.one (by simp) fun S7 u7 mB7 n7 => ?_
  simp only [over] at mB7
  have mA7 : S7.get S.next = some (.cells [a, b, c] true) := u7.get (g56.get mA5) (by simp only [List.mem_singleton]; omega)
  have mR7 := u7.get (g56.get mR5) (by simp only [List.mem_singleton]; omega)
  have h35 : S3.next ≤ S5.next := by have := g34.le; have := u5.le; omega
  have hL7 : LentA S S7 S3.next v1 v2 .nilSlice ⟨x.hits, x.seen, x.rest.take 0⟩ [] := by
    refine ⟨(hB15.next g56).upd u7 (fun i hi => by simp only [List.mem_singleton] at hi; omega) (fun i hi => by have := t4 i hi; simp only [List.mem_singleton]; omega), Built.upd hB2 u7 (fun i hi => by simp only [List.mem_singleton] at hi; omega) (fun i hi => by have := t6 i hi; simp only [List.mem_singleton]; omega), ⟨?_, rfl, fun j h => by simp at h⟩, ?_, by simp [V.block], by simp [V.block], t4, fun i hi => by have := t6 i hi; omega, by simp [V.block], by simp⟩
    · have g07 : Grow S S7 := (Upd.trans g05 g56).after u7 (fun i hi => by simp only [List.mem_singleton] at hi; exact .inl (by omega))
      simpa [regsC] using Built.nil (S0 := S) g07 6
    · intro i h1 h2
      have := t6 i h2; have := hB15.lt i h1; omega
  have hrl := hc0.le
  refine Loop1.ind (fun n z S' => ∃ (j : Nat) (c' : V) (ps : List RP), z = j ∧ j + n = x.rest.length ∧ S7.next ≤ S'.next ∧ LentA S S' S3.next v1 v2 c' ⟨x.hits, x.seen, x.rest.take j⟩ ps ∧ S'.get S.next = some (.cells [a, b, c] true) ∧ S'.get S1.next = some (.cells [.nilSlice, .nilSlice, .nilSlice] true) ∧ S'.get S2.next = some (.cells [v1, v2, c'] true)) x.rest.length
    ⟨0, .nilSlice, [], rfl, by omega, Nat.le_refl _, hL7, mA7, mR7, mB7⟩ ?_
  rintro n _ S8 ⟨j, c', ps, rfl, hj, hle8, hL8, mA8, mR8, mB8⟩
  have g08 := hL8.hits.grow
  have hc8 := hc0.grow g08
  have hlt : S3.next ≤ S8.next := by have := g56.le; have := u7.le; omega
  refine ifS_mk (ld mA8 rfl) ⟨_, hc8.length, ifC_dec (fun hlt2 => ?_) (fun hge => ?_)⟩
  · have hjl : j < x.rest.length := by omega
    obtain ⟨z1, z2, z3⟩ := hs4 _ (List.getElem_mem hjl)
    have hR8 := hc8.reg hjl
    refine ifS_mk (ld mA8 rfl) (ifS_mk (hc8.idx hjl) ⟨_, _, _, _, _, _, hc8.all hjl, newS_mk g08.wf fun S9 g9 m9 n9 => st_mk g9.wf m9 rfl (by simp [V.cells]) (by simp only [V.cells]; exact regC_ones hR8) fun S10 u10 m10 n10 => ?_⟩)
    simp only [V.cells, over] at m10
    have g810 : Grow S8 S10 := g9.after u10 (fun i hi => by simp only [List.mem_singleton] at hi; exact .inl (by omega))
    have hR10 := hR8.grow g810
    refine ⟨_, ld m10 rfl, _, _, ldN m10 (by simp) rfl, newS_mk g810.wf fun S11 g11 m11 n11 => st_mk g11.wf m11 rfl (by simp [V.cells]) rfl fun S12 u12 m12 n12 => ?_⟩
    simp only [V.cells, over] at m12
    have g1012 : Grow S10 S12 := g11.after u12 (fun i hi => by simp only [List.mem_singleton] at hi; exact .inl (by omega))
    have g812 : Grow S8 S12 := Upd.trans g810 g1012
    have g012 : Grow S S12 := Upd.trans g08 g812
    have ma := g1012.get m10
    have hR12 := hR10.grow g1012
    have hT : S10.next < S12.next := by omega
    have hT8 : S8.next < S10.next := by omega
    refine ifS_mk (ld m12 rfl) (ifS_mk (ld ma rfl) (ints_app (BuiltI.nil (S0 := S) g012) hR12.lo (by simp; omega) fun w1 S13 hW1 u13 t13 => ?_))
    rw [List.nil_append] at hW1
    have g1213 : Grow S12 S13 := u13.mono (by simp [V.block])
    have t13 : ∀ i ∈ w1.block, S12.next ≤ i := fun i hi => by rcases t13 i hi with h | h; simp [V.block] at h; exact h
    refine st1 g1213.wf (g1213.get m12) hW1.acc.at_.cells1 hW1.one (by simp) fun S14 u14 m14 n14 => ?_
    simp only [over] at m14
    have hW14 : BuiltI S S14 w1 x.rest[j].lo := Built.upd hW1 u14 (fun i hi => by simp only [List.mem_singleton] at hi; have := g08.le; omega) (fun i hi => by have := t13 i hi; simp only [List.mem_singleton]; omega)
    have mb := u14.get (g1213.get ma) (by simp only [List.mem_singleton]; omega)
    have g814 : Grow S8 S14 := (Upd.trans g812 g1213).after u14 (fun i hi => by simp only [List.mem_singleton] at hi; exact .inl (by omega))
    refine ifS_mk (ld m14 rfl) (ifS_mk (ld mb rfl) (ints_app (BuiltI.nil (S0 := S) (Upd.trans g08 g814)) (hR8.hi.grow g814) (by simp; omega) fun w2 S15 hW2 u15 t15 => ?_))
    rw [List.nil_append] at hW2
    have g1415 : Grow S14 S15 := u15.mono (by simp [V.block])
    have t15 : ∀ i ∈ w2.block, S14.next ≤ i := fun i hi => by rcases t15 i hi with h | h; simp [V.block] at h; exact h
    have h1214 : S12.next ≤ S14.next := by have := g1213.le; omega
    refine st1 g1415.wf (g1415.get m14) hW2.acc.at_.cells1 hW2.one (by simp) fun S16 u16 m16 n16 => ?_
    simp only [over] at m16
    have hW16 : BuiltI S S16 w1 x.rest[j].lo := Built.upd (hW14.next g1415) u16 (fun i hi => by simp only [List.mem_singleton] at hi; have := g08.le; omega) (fun i hi => by have := t13 i hi; simp only [List.mem_singleton]; omega)
    have hV16 : BuiltI S S16 w2 x.rest[j].hi := Built.upd hW2 u16 (fun i hi => by simp only [List.mem_singleton] at hi; have := g08.le; omega) (fun i hi => by have := t15 i hi; simp only [List.mem_singleton]; omega)
    have mc := u16.get (g1415.get mb) (by simp only [List.mem_singleton]; omega)
    have g816 : Grow S8 S16 := (Upd.trans g814 g1415).after u16 (fun i hi => by simp only [List.mem_singleton] at hi; exact .inl (by omega))
    refine ifS_mk (ld m16 rfl) (ifS_mk (ld mc rfl) (ints_app (BuiltI.nil (S0 := S) (Upd.trans g08 g816)) (hR8.ids.grow g816) (by simp; omega) fun w3 S17 hW3 u17 t17 => ?_))
    rw [List.nil_append] at hW3
    have g1617 : Grow S16 S17 := u17.mono (by simp [V.block])
    have t17 : ∀ i ∈ w3.block, S16.next ≤ i := fun i hi => by rcases t17 i hi with h | h; simp [V.block] at h; exact h
    have h1416 : S14.next ≤ S16.next := by have := g1415.le; omega
    refine st1 g1617.wf (g1617.get m16) hW3.acc.at_.cells1 hW3.one (by simp) fun S18 u18 m18 n18 => ?_
    simp only [over] at m18
    have hW18 : BuiltI S S18 w1 x.rest[j].lo := Built.upd (hW16.next g1617) u18 (fun i hi => by simp only [List.mem_singleton] at hi; have := g08.le; omega) (fun i hi => by have := t13 i hi; simp only [List.mem_singleton]; omega)
    have hV18 : BuiltI S S18 w2 x.rest[j].hi := Built.upd (hV16.next g1617) u18 (fun i hi => by simp only [List.mem_singleton] at hi; have := g08.le; omega) (fun i hi => by have := t15 i hi; simp only [List.mem_singleton]; omega)
    have hU18 : BuiltI S S18 w3 x.rest[j].ids := Built.upd hW3 u18 (fun i hi => by simp only [List.mem_singleton] at hi; have := g08.le; omega) (fun i hi => by have := t17 i hi; simp only [List.mem_singleton]; omega)
    have g818 : Grow S8 S18 := (Upd.trans g816 g1617).after u18 (fun i hi => by simp only [List.mem_singleton] at hi; exact .inl (by omega))
    have h1618 : S16.next ≤ S18.next := by have := g1617.le; omega
    have hL18 : LentA S S18 S3.next v1 v2 c' ⟨x.hits, x.seen, x.rest.take j⟩ ps := hL8.upd g818 (by simp) (by simp)
    have mB18 := g818.get mB8
    have hR18 : RegAt S18 w1 w2 w3 _ _ x.rest[j] := ⟨BuiltI.at_ hW18, BuiltI.at_ hV18, BuiltI.at_ hU18, hR8.rad, hR8.radN⟩
    refine ifS_mk (ld mB18 rfl) ⟨_, _, _, _, _, _, ldN m18 (by simp) rfl, ?_⟩
    have hpl : (x.rest.take j).length = j := by rw [List.length_take]; omega
    have hcl : (regsC (x.rest.take j) ps).length = j := by rw [regsC_length hL18.rest.len, hpl]
    refine hL18.rest.sl.push (e := regC x.rest[j].shape w1 w2 _ _ w3) rfl (regC_ones hR18) (by rw [hcl]; omega) (by rw [hcl]; omega) fun c2 S20 hC20 u20 t20 => ?_
    have hlc : ∀ i ∈ c'.block, i < S18.next := fun i hi => hL18.rest.sl.lt i hi
    have hnB : S2.next ∉ c'.block := fun h => by have := hL18.lc _ h; omega
    refine st1 hC20.grow.wf (u20.get mB18 hnB) hC20.acc.at_.cells1 hC20.one (by simp) fun S21 u21 m21 n21 => setI_mk (wrap_succ (by omega)) ⟨n - 1, by omega, j + 1, c2, ps ++ [⟨w1, w2, w3, (ps0[j]'(hc0.ltw hjl)).h, (ps0[j]'(hc0.ltw hjl)).l⟩], rfl, by omega, ?_, ?_, ?_, ?_, ?_⟩
    · have := g818.le; have := u20.le; omega
    · have hL20 : LentA S S20 S3.next v1 v2 c2 ⟨x.hits, x.seen, x.rest.take (j + 1)⟩ (ps ++ [⟨w1, w2, w3, (ps0[j]'(hc0.ltw hjl)).h, (ps0[j]'(hc0.ltw hjl)).l⟩]) := by
        have a1 : ∀ i ∈ v1.block, i ∉ c'.block := hL18.dac
        have b1 : ∀ i ∈ v2.block, i ∉ c'.block := hL18.dbc
        have a2 : ∀ i ∈ v1.block, i < S18.next := fun i hi => hL18.hits.lt i hi
        have b2 : ∀ i ∈ v2.block, i < S18.next := fun i hi => hL18.seen.lt i hi
        have w1b : ∀ i ∈ w1.block, S12.next ≤ i ∧ i < S18.next := fun i hi => ⟨t13 i hi, hW18.lt i hi⟩
        have w2b : ∀ i ∈ w2.block, S12.next ≤ i ∧ i < S18.next := fun i hi => ⟨by have := t15 i hi; omega, hV18.lt i hi⟩
        have w3b : ∀ i ∈ w3.block, S12.next ≤ i ∧ i < S18.next := fun i hi => ⟨by have := t17 i hi; omega, hU18.lt i hi⟩
        have a8 : ∀ i ∈ v1.block, i < S8.next := fun i hi => hL8.hits.lt i hi
        have b8 : ∀ i ∈ v2.block, i < S8.next := fun i hi => hL8.seen.lt i hi
        have c8 : ∀ i ∈ c'.block, i < S8.next := fun i hi => hL8.rest.sl.lt i hi
        have wn : ∀ i, (i ∈ w1.block ∨ i ∈ w2.block ∨ i ∈ w3.block) → S12.next ≤ i ∧ i < S18.next := fun i hi => by
          rcases hi with h | h | h
          · exact w1b i h
          · exact w2b i h
          · exact w3b i h
        have hps : ps.length = j := by have := hL18.rest.len; simp only at this; rw [hpl] at this; exact this
        have tk : x.rest.take (j + 1) = x.rest.take j ++ [x.rest[j]] := by rw [List.take_add_one, List.getElem?_eq_getElem hjl]; rfl
        refine ⟨hL18.hits.upd u20 (fun i hi => hL18.rest.sl.from i hi) a1, Built.upd hL18.seen u20 (fun i hi => hL18.rest.sl.from i hi) b1, ⟨?_, ?_, ?_⟩, hL18.dab, ?_, ?_, hL18.la, hL18.lb, ?_, ?_⟩
        · simp only [tk]
          rw [regsC_snoc hL18.rest.len]
          exact hC20
        · simp only [tk, List.length_append, List.length_singleton]; rw [hL18.rest.len]
        · simp only [tk]
          intro m hm hw
          have hm' : m < j + 1 := by have h := hm; simp at h; omega
          rcases Nat.lt_or_ge m j with h1 | h1
          · have h2 : m < ps.length := by omega
            have h3 : m < (x.rest.take j).length := by omega
            simp only [List.getElem_append_left h2, List.getElem_append_left h3]
            exact (hL18.rest.at_ m (by rw [hpl]; exact h1) h2).upd u20 fun i hi => (hL18.parts _ (List.getElem_mem h2) i hi).2.2.2.2
          · have : m = j := by omega
            subst this
            have h2 : ps.length = m := hps
            simp only [List.getElem_append_right (Nat.le_of_eq h2), List.getElem_append_right (Nat.le_of_eq hpl), h2, hpl, Nat.sub_self, List.getElem_singleton]
            exact hR18.upd u20 fun i hi hc => by have := wn i hi; have := c8 i hc; have := g812.le; omega
        · intro i hi hc
          rcases t20 i hc with h | h
          · exact a1 i hi h
          · have := a2 i hi; omega
        · intro i hi hc
          rcases t20 i hc with h | h
          · exact b1 i hi h
          · have := b2 i hi; omega
        · intro i hi
          rcases t20 i hi with h | h
          · exact hL18.lc i h
          · have := g818.le; omega
        · intro p hp i hi
          rcases List.mem_append.mp hp with hp | hp
          · obtain ⟨q1, q2, q3, q4, q5⟩ := hL18.parts p hp i hi
            refine ⟨q1, Nat.lt_of_lt_of_le q2 u20.le, q3, q4, fun hc => ?_⟩
            rcases t20 i hc with h | h
            · exact q5 h
            · omega
          · simp only [List.mem_singleton] at hp
            subst hp
            obtain ⟨q1, q2⟩ := wn i hi
            have := g812.le
            refine ⟨by omega, Nat.lt_of_lt_of_le q2 u20.le, fun h => by have := a8 i h; omega, fun h => by have := b8 i h; omega, fun hc => ?_⟩
            rcases t20 i hc with h | h
            · have := c8 i h; omega
            · omega
      exact hL20.upd u21 (fun i hi => by simp only [List.mem_singleton] at hi; omega) (fun i hi => by simp only [List.mem_singleton] at hi; exact .inl (by omega))
    · exact u21.get (u20.get (g818.get mA8) (fun h => by have := hL18.lc _ h; omega)) (by simp only [List.mem_singleton]; omega)
    · exact u21.get (u20.get (g818.get mR8) (fun h => by have := hL18.lc _ h; omega)) (by simp only [List.mem_singleton]; omega)
    · simpa [over] using m21
  · have hjl : j = x.rest.length := by omega
    subst hjl
    rw [List.take_length] at hL8
    refine ⟨_, _, _, ldN mB8 (by simp) rfl, st_mk g08.wf mR8 rfl (by simp [V.cells]) (by simp only [V.cells, List.all_cons, List.all_nil, hL8.hits.one, Built.one hL8.seen, hL8.rest.sl.one]; rfl) fun S22 u22 m22 n22 => ?_⟩
    simp only [V.cells, over] at m22
    have hL22 := hL8.upd u22 (fun i hi => by simp only [List.mem_singleton] at hi; omega) (fun i hi => by simp only [List.mem_singleton] at hi; exact .inl (by omega))
    refine ⟨_, _, _, ldC m22 (by simp) rfl, hk _ _ _ ps S22 ?_⟩
    have h3 := g03.le
    exact ⟨hL22.hits, hL22.seen, hL22.rest, hL22.dab, hL22.dac, hL22.dbc, fun i hi => Nat.le_trans h3 (hL22.la i hi), fun i hi => Nat.le_trans h3 (hL22.lb i hi), fun i hi => Nat.le_trans h3 (hL22.lc i hi), fun p hp i hi => ⟨Nat.le_trans h3 (hL22.parts p hp i hi).1, (hL22.parts p hp i hi).2⟩⟩

end Go.Th.L
end

section
/- The laws of chapter 13: CertChecks. -/
set_option linter.unusedSimpArgs false
set_option linter.unusedVariables false
set_option maxHeartbeats 1000000
namespace Go.Th.L
open Go Go.Th Go.Th.Pure Go.Sort
variable {P : Program} {N : Nat → Nat}

theorem LookA.lens {q : List Int} {x : Ans} (h : LookA q x) : x.hits.length ≤ 16384 ∧ x.seen.length ≤ 16384 ∧ x.rest.length ≤ 16384 ∧ ∀ g ∈ x.rest, g.lo.length ≤ 16384 ∧ g.hi.length ≤ 16384 ∧ g.ids.length ≤ 16384 := by
  have := h.tot
  unfold totA at this
  rw [List.take_length] at this
  refine ⟨by omega, by omega, by omega, fun g hg => ?_⟩
  have := sizeG_mem hg
  omega

end Go.Th.L
end

section
/- The laws of chapter 13: CertSpoilt. -/
set_option linter.unusedSimpArgs false
set_option linter.unusedVariables false
set_option maxHeartbeats 1000000
namespace Go.Th.L
open Go Go.Th Go.Th.Pure Go.Sort
variable {P : Program} {N : Nat → Nat}

/-! ## what is written -/
theorem over_one {cs : List V} {a : Nat} {w : V} (h : a < cs.length) : over cs a [w] = cs.set a w := by
  rw [over_at (by simp; omega), List.set_eq_take_append_cons_drop, if_pos h]
  simp
theorem flat_set {k : Nat} : ∀ {es : List (List V)} (_ : ∀ e ∈ es, e.length = k) {t off : Nat} (ht : t < es.length) (_ : off < k) (w : V), es.flatten.set (t * k + off) w = (es.set t (es[t].set off w)).flatten
  | [], _, t, off, ht, _, _ => by simp at ht
  | e :: es, h, 0, off, ht, ho, w => by
    have he := h e (by simp)
    simp only [List.flatten_cons, Nat.zero_mul, Nat.zero_add, List.set_cons_zero, List.getElem_cons_zero]
    rw [List.set_append_left _ _ (by omega)]
  | e :: es, h, t + 1, off, ht, ho, w => by
    have he := h e (by simp)
    have ih := flat_set (es := es) (fun e he => h e (by simp [he])) (t := t) (off := off) (by simpa using ht) ho w
    simp only [List.flatten_cons, List.set_cons_succ, List.getElem_cons_succ]
    rw [List.set_append_right _ _ (by rw [he, Nat.add_mul]; omega), ← ih]
    congr 2
    rw [he, Nat.add_mul]; omega

theorem hits_lo {S0 S : St} {v : V} {l : List Hit} (h : Built S0 S 3 v (hitsE l)) {t : Nat} (ht : t < l.length) (y : Int) {K : St → Prop}
    (hk : ∀ S', Built S0 S' 3 v (hitsE (l.set t ⟨l[t].id, l[t].hi, y⟩)) → Upd v.block S S' → K S') : ifS (storeV S 1 (eltV 3 v t 2) (.int .u64 y)) K := by
  have hl : t < (hitsE l).length := by rw [hitsE_len]; exact ht
  obtain ⟨S', e1, a1, u1⟩ := h.acc.put h.grow.wf (m := t) (off := 2) (x := .int .u64 y) hl (by simp [V.cells]) rfl (by simp [V.cells])
  refine ifS_mk e1 (hk S' ⟨h.grow.after u1 (fun i hi => .inl (h.from i hi)), ?_, fun e he => hitsE_three e he⟩ u1)
  have hfl := flatten_len h.each
  have e2 : over (hitsE l).flatten (t * 3 + 2) (V.cells (.int .u64 y)) = (hitsE (l.set t ⟨l[t].id, l[t].hi, y⟩)).flatten := by
    have hlt : t * 3 + 2 < (hitsE l).flatten.length := by rw [hfl]; omega
    rw [show V.cells (.int .u64 y) = [.int .u64 y] from rfl, over_one hlt, flat_set h.each hl (by omega)]
    have e3 : (hitsE l)[t] = hcells l[t] := by simp [hitsE]
    rw [e3, show (hcells l[t]).set 2 (.int .u64 y) = hcells ⟨l[t].id, l[t].hi, y⟩ from rfl, hitsE_set]
  rw [e2] at a1
  have e4 : (hitsE (l.set t ⟨l[t].id, l[t].hi, y⟩)).length = (hitsE l).length := by simp [hitsE_len]
  rw [e4]; exact a1

/-- The first of what a call has built. -/
theorem ints_pre {S0 S : St} {v : V} {l : List Int} (h : BuiltI S0 S v l) {t : Nat} (ht : t < l.length) : ∃ v', sliceSlV 1 v none (some (.int .i64 (t : Int))) none = some v' ∧ BuiltI S0 S v' (l.take t) ∧ ∀ i ∈ v'.block, i ∈ v.block := by
  have hat := BuiltI.at_ h
  obtain ⟨va, ea, ha, hab⟩ := IntsAt.sub hat (lo := none) (hi := some (.int .i64 (t : Int))) (a := 0) (b := t) (fun cap hc => bnds_h (by omega)) (Nat.zero_le _) (by omega)
  rw [List.drop_zero, Nat.sub_zero] at ha
  refine ⟨va, ea, ⟨h.grow, ⟨?_, ?_, fun i hi => h.acc.own i (hab i hi), ?_⟩, fun e he => by obtain ⟨x, _, rfl⟩ := List.mem_map.mp he; rfl⟩, hab⟩
  · rw [intE_flat, intE_len]; exact ha
  · rw [intE_flat]; exact intsV_ones _ _
  · have hroom := h.acc.room
    rcases hat.2.2 with ⟨rfl, h0⟩ | ⟨i, o, c, tt, rfl, hc, hld⟩
    · omega
    · have : sliceSlV 1 (.slice i o l.length c 1 tt) none (some (.int .i64 (t : Int))) none = some (.slice i o t c 1 tt) := slice_ext (by omega)
      rw [this] at ea
      cases ea
      exact hroom

theorem xor_u64 {a b : Nat} (ha : a < 18446744073709551616) (hb : b < 18446744073709551616) : intBits .xor .u64 a b = ((a ^^^ b : Nat) : Int) := by
  have h : a ^^^ b < 18446744073709551616 := Nat.xor_lt_two_pow (n := 64) ha hb
  show IntKind.u64.wrap ((BitVec.ofInt 64 (a : Int) ^^^ BitVec.ofInt 64 (b : Int)).toNat : Int) = _
  rw [ofInt_nat, ofInt_nat, BitVec.toNat_xor, BitVec.toNat_ofNat, BitVec.toNat_ofNat]
  rw [Nat.mod_eq_of_lt (show a < 2 ^ 64 from ha), Nat.mod_eq_of_lt (show b < 2 ^ 64 from hb)]
  rw [IntKind.wrap_u64]; omega
theorem xor_one_ne {x : Int} (h0 : 0 ≤ x) (h1 : x < 18446744073709551616) : intBits .xor .u64 x 1 ≠ x := by
  obtain ⟨n, rfl⟩ := Int.eq_ofNat_of_zero_le h0
  have := xor_u64 (a := n) (b := 1) (by omega) (by omega)
  intro he
  rw [show ((1 : Nat) : Int) = 1 from rfl] at this
  rw [this] at he
  have h2 : n ^^^ 1 = n := by omega
  have h3 : n ^^^ (n ^^^ 1) = n ^^^ n := by rw [h2]
  rw [← Nat.xor_assoc, Nat.xor_self, Nat.zero_xor] at h3
  cases h3

theorem BuiltG.upd {D : List Nat} {S0 S S' : St} {v : V} {gs : List Reg} {ps : List RP} (h : BuiltG S0 S v gs ps) (u : Upd D S S') (h0 : ∀ i ∈ D, S0.next ≤ i) (hv : ∀ i ∈ v.block, i ∉ D) (hp : ∀ p ∈ ps, ∀ i, (i ∈ p.a.block ∨ i ∈ p.b.block ∨ i ∈ p.c.block) → i ∉ D) : BuiltG S0 S' v gs ps :=
  ⟨h.sl.upd u h0 hv, h.len, fun j hr hw => (h.at_ j hr hw).upd u (hp _ (List.getElem_mem hw))⟩

theorem law13_CertSpoilt.spec (hF : law13_CertSpoilt.Ok P N) (hL : law13_lent.Ok P N) (hO : Law13Ok P N) {S : St} (hw : S.Wf) {v u a b c : V} {rs : List Row} {q : List Int} {k n4 : Int} (hn4 : -9223372036854775808 ≤ n4 ∧ n4 ≤ 9223372036854775807) {x : Ans} (h : Given13 S v u a b c rs q x) {K : Bool → St → Prop} (hk : ∀ S', K true S') :
    CallA P (N Fn.law13_CertSpoilt) [v, u, .int .i64 k, ansV a b c, .int .i64 n4] S (retT [.one .bool] K) := by
  refine law13_CertSpoilt.run hF (newS_mk hw fun S1 g1 mA n1 => ?_)
  have h1 := h.grow g1
  refine ⟨_, _, _, ldN mA (by simp) rfl, law13_big.spec hO.big hO.vecs h1.rows h1.rl h1.rv h1.vec h1.ql h1.ans h1.sz (ifC_tt rfl (hk _)) (fun hl => ifC_ff rfl ⟨_, _, _, ldN mA (by simp) rfl, ?_⟩)⟩
  obtain ⟨l1, l2, l3, l4⟩ := hl.lens
  refine cert_Sound.spec hO.cert g1.wf h1.rows h1.vec h1.ans (fun hz S3 g3 => Join1.mid (fun b S' => b = true) (ifC_ndec (fun _ => rfl) (fun h' => absurd h' hz)) ?_) (fun hz sb S3 hsb g3 => Join1.mid (fun b S' => S' = S3 ∧ (b = false → SoundA rs q k.toNat x ∧ 0 ≤ n4)) (ifC_ndec (fun h' => absurd rfl h') (fun _ => ?_)) ?_)
  · rintro b S4 rfl
    exact ifC_tt rfl (hO.awake _ _ (hk _))
  · cases sb with
    | false => exact ifC_tt rfl ⟨rfl, fun h => by cases h⟩
    | true => exact ifC_ff rfl ⟨rfl, fun h => ⟨hsb.mp rfl, by have := of_decide_eq_false h; omega⟩⟩
  rintro bb S4 ⟨rfl, hbb⟩
  cases bb with
  | true => exact ifC_tt rfl (hO.awake _ _ (hk _))
  | false =>
  refine ifC_ff rfl ?_
  obtain ⟨hs, hn0⟩ := hbb rfl
  clear hbb
  obtain ⟨hask, hk1, hk64⟩ := errTop_zero hz
  obtain ⟨t, rfl⟩ := Int.eq_ofNat_of_zero_le hn0
  refine Loop1.ind (fun m z S' => ∃ i : Nat, z = i ∧ i + m = 4 ∧ Grow S1 S') 4 ⟨0, rfl, by omega, g3⟩ ?_
  rintro m _ S6 ⟨i, rfl, hi, g6⟩
  refine ifC_dec (fun hlt => ?_) (fun _ => hO.awake _ _ (hk _))
  have h6 := h1.grow g6
  have mA6 := g6.get mA
  refine ⟨_, _, _, ldN mA6 (by simp) rfl, law13_lent.spec hL g6.wf h6.ans l1 l2 l3 l4 fun a' b' c' ps S7 hL7 => ?_⟩
  have g67 := hL7.hits.grow
  refine newS_mk g67.wf fun S8 g8 m8 n8 => st_mk g8.wf m8 rfl (by simp [V.cells]) (by simp only [V.cells, List.all_cons, List.all_nil, hL7.hits.one, Built.one hL7.seen, hL7.rest.sl.one]; rfl) fun S9 u9 m9 n9 => ?_
  simp only [V.cells, over] at m9
  have g79 : Grow S7 S9 := g8.after u9 (fun i hi => by simp only [List.mem_singleton] at hi; exact .inl (by omega))
  have hL9 := hL7.upd g79 (by simp) (by simp)
  have g69 : Grow S6 S9 := Upd.trans g67 g79
  have h67 := g67.le
  have oa : S7.next ∉ a'.block := fun hm => by have := hL7.hits.lt _ hm; omega
  have ob : S7.next ∉ b'.block := fun hm => by have := Built.lt hL7.seen _ hm; omega
  have oc : S7.next ∉ c'.block := fun hm => by have := hL7.rest.sl.lt _ hm; omega
  have op : ∀ p ∈ ps, ∀ i, (i ∈ p.a.block ∨ i ∈ p.b.block ∨ i ∈ p.c.block) → i ∉ [S7.next] := fun p hp i hi => by
    have := (hL7.parts p hp i hi).2.1
    simp only [List.mem_singleton]; omega
  have h79 : S7.next < S9.next := by omega
  have next : ∀ (z : Int) (n : Int) (S' : St), n = (i : Int) + 1 → Grow S1 S' → ∃ m', m' < m ∧ ∃ i' : Nat, n = i' ∧ i' + m' = 4 ∧ Grow S1 S' := fun z n S' hn g => ⟨m - 1, by omega, i + 1, by omega, by omega, g⟩
  refine Join0.mid (fun S' => Grow S6 S' ∧ ∃ (a2 b2 c2 : V) (y : Ans), S'.get S7.next = some (.cells [a2, b2, c2] true) ∧ AnsAt S' a2 b2 c2 y ∧ ¬ SoundA rs q k.toNat y) ?_ ?_
  rotate_left
  · rintro S10 ⟨g10, a2, b2, c2, y, m10, hy, hns⟩
    have g110 : Grow S1 S10 := Upd.trans g6 g10
    have h10 := h1.grow g110
    refine ⟨_, _, _, ldN m10 (by simp) rfl, cert_Sound.spec hO.cert g10.wf h10.rows h10.vec hy (fun h => absurd hz h) fun _ sb S25 hsb g25 => ifC_ndec (fun h => absurd rfl h) (fun _ => ?_)⟩
    cases sb with
    | true => exact absurd (hsb.mp rfl) hns
    | false => exact ifC_ff rfl (setI_mk (n := (i : Int) + 1) (by rw [IntKind.wrap_i64]; omega) (next 0 _ _ rfl (Upd.trans g110 g25)))
  refine Join1.mid (fun bb S' => S' = S9 ∧ (bb = true → t < x.seen.length)) (ifC_dec (fun h0 => ifS_mk (ld m9 rfl) ⟨_, (BuiltI.at_ hL9.seen).len, rfl, fun h => by have := of_decide_eq_true h; omega⟩) (fun h0 => ⟨rfl, fun h => by cases h⟩)) ?_
  rintro bb S11 ⟨rfl, hb0⟩
  cases bb with
  | true =>
    have ht := hb0 rfl
    refine ifC_tt rfl (ifS_mk (ld m9 rfl) ?_)
    obtain ⟨v59, e59, hB59, hb59⟩ := ints_pre hL9.seen ht
    obtain ⟨v64, e64, h64, hb64⟩ := IntsAt.sub (BuiltI.at_ hL9.seen) (lo := some (.int .i64 ((t + 1 : Nat) : Int))) (hi := none) (a := t + 1) (b := x.seen.length) (fun cap hc => bnds_l (by omega)) (by omega) (Nat.le_refl _)
    have hsl := (BuiltI.at_ hL9.seen).le
    refine ifS_mk e59 (ifS_mk (ld m9 rfl) (setI_mk (n := ((t + 1 : Nat) : Int)) (by rw [IntKind.wrap_i64]; omega) (ifS_mk e64 (ints_app hB59 h64 ?_ fun v65 S12 hB65 u65 t65 => ?_))))
    · simp only [List.length_take, List.length_drop]; omega
    have d59 : ∀ i ∈ v59.block, S6.next ≤ i := fun i hi => hL9.lb i (hb59 i hi)
    have o59 : S7.next ∉ v59.block := fun hm => ob (hb59 _ hm)
    have o65 : S7.next ∉ v65.block := fun hm => by
      rcases t65 _ hm with h | h
      · exact o59 h
      · omega
    refine st1 hB65.grow.wf (u65.get m9 o59) hB65.acc.at_.cells1 hB65.one (by simp) fun S13 u13 m13 n13 => ?_
    simp only [over] at m13
    have w13 : ∀ i ∈ [S7.next], S6.next ≤ i := fun i hi => by simp only [List.mem_singleton] at hi; omega
    refine ⟨hB65.grow.after u13 (fun i hi => .inl (w13 i hi)), a', v65, c', { x with seen := x.seen.take t ++ (x.seen.drop (t + 1)).take (x.seen.length - (t + 1)) }, m13, ⟨?_, ?_, ?_⟩, ?_⟩
    · exact ((hL9.hits.upd u65 d59 (fun i hi hd => hL9.dab i hi (hb59 i hd))).upd u13 w13 (fun i hi hd => by simp only [List.mem_singleton] at hd; subst hd; exact oa hi)).hits
    · exact BuiltI.at_ (Built.upd hB65 u13 w13 (fun i hi hd => by simp only [List.mem_singleton] at hd; subst hd; exact o65 hi))
    · exact ((hL9.rest.upd u65 d59 (fun i hi hd => hL9.dbc i (hb59 i hd) hi) (fun p hp i hi hd => (hL9.parts p hp i hi).2.2.2.1 (hb59 i hd))).upd u13 w13 (fun i hi hd => by simp only [List.mem_singleton] at hd; subst hd; exact oc hi) op).regs
    · refine spoilt_told hs ?_
      simp only [toldA, List.length_append, List.length_take, List.length_drop]; omega
  | false =>
  refine ifC_ff rfl (Join1.mid (fun bb S' => S' = S11 ∧ (bb = true → t < x.hits.length)) (ifC_dec (fun h0 => ifS_mk (ld m9 rfl) ⟨_, hL9.hits.hits.len, rfl, fun h => by have := of_decide_eq_true h; omega⟩) (fun h0 => ⟨rfl, fun h => by cases h⟩)) ?_)
  rintro bb S14 ⟨rfl, hb1⟩
  have w1 : ∀ i ∈ [S7.next], S6.next ≤ i := fun i hi => by simp only [List.mem_singleton] at hi; omega
  have da : ∀ i ∈ a'.block, S6.next ≤ i := hL9.la
  cases bb with
  | true =>
    have ht := hb1 rfl
    have hH := hL9.hits.hits
    have hle := hH.at_.le
    have hlt3 : t < (hitsE x.hits).length := by rw [hitsE_len]; exact ht
    have ex : (hitsE x.hits)[t] = hcells x.hits[t] := by simp [hitsE]
    have e2 : loadV S14 (eltV 3 a' t 2) = some (.int .u64 x.hits[t].lo) := by
      rw [SlE.get hH.sl hlt3 (by omega), ex]; rfl
    have f1 : fieldAddrV 1 (eltV 3 a' t 1) = some (eltV 3 a' t 2) := SlAt.fld hH.at_ ht 1
    refine ifC_tt rfl (ifS_mk (ld m9 rfl) (ifS_mk (ld m9 rfl) (ifS_mk (hH.idx ht) (ifS_mk (hH.sl.fld hlt3 1) (ifS_mk f1 ⟨_, e2, setI_mk rfl (ifS_mk (hH.idx ht) (ifS_mk (hH.sl.fld hlt3 1) (ifS_mk f1 (hits_lo hL9.hits ht _ fun S15 hB15 u15 => ?_))))⟩)))))
    refine ⟨hB15.grow, a', b', c', { x with hits := x.hits.set t ⟨x.hits[t].id, x.hits[t].hi, intBits .xor .u64 x.hits[t].lo 1⟩ }, u15.get m9 oa, ⟨hB15.hits, ?_, ?_⟩, ?_⟩
    · exact BuiltI.at_ (Built.upd hL9.seen u15 da (fun i hi hd => hL9.dab i hd hi))
    · exact (hL9.rest.upd u15 da (fun i hi hd => hL9.dac i hd hi) (fun p hp i hi => (hL9.parts p hp i hi).2.2.1)).regs
    · refine spoilt_hits hs fun he => ?_
      have hwk := sound_hit hask hs (List.getElem_mem ht)
      have h2 : (x.hits.set t ⟨x.hits[t].id, x.hits[t].hi, intBits .xor .u64 x.hits[t].lo 1⟩)[t]? = x.hits[t]? := by rw [he]
      rw [List.getElem?_set_self ht, List.getElem?_eq_getElem ht] at h2
      have h3 := congrArg Hit.lo (Option.some.inj h2)
      exact xor_one_ne hwk.l0 hwk.l1 h3
  | false =>
  refine ifC_ff rfl (Join1.mid (fun bb S' => S' = S14 ∧ (bb = true → t < x.hits.length)) (ifC_dec (fun h0 => ifS_mk (ld m9 rfl) ⟨_, hL9.hits.hits.len, rfl, fun h => by have := of_decide_eq_true h; omega⟩) (fun h0 => ⟨rfl, fun h => by cases h⟩)) ?_)
  rintro bb S16 ⟨rfl, hb2⟩
  cases bb with
  | true =>
    have ht := hb2 rfl
    have hH := hL9.hits.hits
    refine ifC_tt rfl (ifS_mk (ld m9 rfl) (ifS_mk (ld m9 rfl) (ifS_mk (hH.idx ht) ⟨_, _, _, hH.get ht, newS_mk g69.wf fun S17 g17 m17 n17 => ⟨Same.of_grow g17 (by intro i hi; simp only [List.mem_cons, List.not_mem_nil, or_false, or_self] at hi; omega), ?_⟩⟩)))
    have hL17 := hL9.upd g17 (by simp) (by simp)
    have hsrc : srcV 3 S17 (.slice S16.next 0 1 1 3 true) = some ([hcells x.hits[t]].length, [hcells x.hits[t]].flatten) := by
      simp only [srcV, if_true]
      rw [St.loads_of m17 (by simp)]; rfl
    refine hL17.hits.app (ds := [hcells x.hits[t]]) hsrc (by simp) (by simp [V.one]) (by simp only [hitsE_len, List.length_singleton]; omega) (by simp only [hitsE_len, List.length_singleton]; omega) fun v109 S18 hB18 u18 t18 => ?_
    have e18 : hitsE x.hits ++ [hcells x.hits[t]] = hitsE (x.hits ++ [x.hits[t]]) := by simp [hitsE]
    rw [e18] at hB18
    have o109 : S7.next ∉ v109.block := fun hm => by
      rcases t18 _ hm with h | h
      · exact oa h
      · omega
    refine st1 hB18.grow.wf (u18.get (g17.get m9) oa) hB18.acc.at_.cells1 hB18.one (by simp) fun S19 u19 m19 n19 => ?_
    simp only [over] at m19
    refine ⟨hB18.grow.after u19 (fun i hi => .inl (w1 i hi)), v109, b', c', { x with hits := x.hits ++ [x.hits[t]] }, m19, ⟨?_, ?_, ?_⟩, ?_⟩
    · exact (hB18.upd u19 w1 (fun i hi hd => by simp only [List.mem_singleton] at hd; subst hd; exact o109 hi)).hits
    · exact BuiltI.at_ (Built.upd (Built.upd hL17.seen u18 da (fun i hi hd => hL9.dab i hd hi)) u19 w1 (fun i hi hd => by simp only [List.mem_singleton] at hd; subst hd; exact ob hi))
    · exact ((hL17.rest.upd u18 da (fun i hi hd => hL9.dac i hd hi) (fun p hp i hi => (hL9.parts p hp i hi).2.2.1)).upd u19 w1 (fun i hi hd => by simp only [List.mem_singleton] at hd; subst hd; exact oc hi) op).regs
    · refine spoilt_hits hs fun he => ?_
      have := congrArg List.length he
      simp at this
  | false =>
  have hrows9 := (h6.grow g69).rows
  obtain ⟨ws, hv9⟩ := hrows9
  refine ifC_ff rfl (Join1.mid (fun bb S' => S' = S16 ∧ (bb = true → t < rs.length)) (ifC_dec (fun h0 => ⟨_, hv9.length, rfl, fun h => by have := of_decide_eq_true h; omega⟩) (fun h0 => ⟨rfl, fun h => by cases h⟩)) ?_)
  rintro bb S20 ⟨rfl, hb3⟩
  cases bb with
  | true =>
    have ht := hb3 rfl
    obtain ⟨ws6, hv6⟩ := h6.rows
    have hblk : ∀ i ∈ V.block (eltV 2 v t 0), i < S6.next := by
      have hlt := hv6.sl.1.block_lt g6.wf (by rw [rowsC_length hv6.len]; omega)
      intro i hi
      refine hlt i ?_
      cases v <;> simp [eltV, V.block] at hi ⊢
      exact hi
    refine ifC_tt rfl (ifS_mk (ld m9 rfl) (ifS_mk (hv9.idx ht) (ifS_mk (hv9.fld ht 0) ⟨_, hv9.id ht, newS_mk g69.wf fun S21 g21 m21 n21 => ⟨Same.of_grow g21 (by intro i hi; simp only [List.mem_cons, List.not_mem_nil, or_false] at hi; omega), rfl, newS_mk g21.wf fun S22 g22 m22 n22 => sameK_mk (Same.of_grow g22 ?_) ?_⟩⟩)))
    · intro i hi
      rcases List.mem_append.mp hi with hi | hi
      · have := hblk i hi; have := g69.le; omega
      · simp only [List.mem_cons, List.not_mem_nil, or_false] at hi; omega
    have g2022 : Grow S20 S22 := g21.trans g22
    have hL22 := hL9.upd g2022 (by simp) (by simp)
    have hnr : RegAt S22 .nilSlice .nilSlice (.slice S20.next 0 1 1 1 true) 0 0 ⟨1, [], [], 0, [rs[t].1]⟩ := ⟨nil_ints S22, nil_ints S22, lit_ints [rs[t].1] (g22.get m21) (show 1 ≤ 4611686018427387904 by decide), ⟨by omega, by omega, by omega, by omega⟩, rfl⟩
    have hsrc : srcV 6 S22 (.slice S21.next 0 1 1 6 true) = some ([regC 1 .nilSlice .nilSlice 0 0 (.slice S20.next 0 1 1 1 true)].length, [regC 1 .nilSlice .nilSlice 0 0 (.slice S20.next 0 1 1 1 true)].flatten) := by
      simp only [srcV, if_true]
      rw [St.loads_of m22 (by simp)]; rfl
    have hcl : (regsC x.rest ps).length = x.rest.length := regsC_length hL22.rest.len
    refine hL22.rest.sl.app (ds := [regC 1 .nilSlice .nilSlice 0 0 (.slice S20.next 0 1 1 1 true)]) hsrc (by simp) rfl (by rw [hcl]; simp only [List.length_singleton]; omega) (by rw [hcl]; simp only [List.length_singleton]; omega) fun v130 S23 hB23 u23 t23 => ?_
    have o130 : S7.next ∉ v130.block := fun hm => by
      rcases t23 _ hm with h | h
      · exact oc h
      · have := g2022.le; omega
    have dc : ∀ i ∈ c'.block, S6.next ≤ i := hL9.lc
    refine st1 hB23.grow.wf (u23.get (g2022.get m9) oc) hB23.acc.at_.cells1 hB23.one (by simp) fun S24 u24 m24 n24 => ?_
    simp only [over] at m24
    refine ⟨hB23.grow.after u24 (fun i hi => .inl (w1 i hi)), a', b', v130, { x with rest := x.rest ++ [⟨1, [], [], 0, [rs[t].1]⟩] }, m24, ⟨?_, ?_, ?_⟩, ?_⟩
    · exact ((hL22.hits.upd u23 dc hL9.dac).upd u24 w1 (fun i hi hd => by simp only [List.mem_singleton] at hd; subst hd; exact oa hi)).hits
    · exact BuiltI.at_ (Built.upd (Built.upd hL22.seen u23 dc hL9.dbc) u24 w1 (fun i hi hd => by simp only [List.mem_singleton] at hd; subst hd; exact ob hi))
    · refine ⟨ps ++ [⟨.nilSlice, .nilSlice, .slice S20.next 0 1 1 1 true, 0, 0⟩], by simp [hL22.rest.len], ?_, ?_⟩
      · rw [regsC_snoc hL22.rest.len]
        exact (hB23.upd u24 w1 (fun i hi hd => by simp only [List.mem_singleton] at hd; subst hd; exact o130 hi)).sl
      · intro m hm hw'
        have hpl : ps.length = x.rest.length := hL22.rest.len
        have hm' : m < x.rest.length + 1 := by simpa using hm
        have hpart : ∀ p ∈ ps, ∀ i, (i ∈ p.a.block ∨ i ∈ p.b.block ∨ i ∈ p.c.block) → i ∉ c'.block := fun p hp i hi => (hL9.parts p hp i hi).2.2.2.2
        rcases Nat.lt_or_ge m x.rest.length with h1 | h1
        · have h2 : m < ps.length := by omega
          simp only [List.getElem_append_left h2, List.getElem_append_left h1]
          exact ((hL22.rest.at_ m h1 h2).upd u23 (hpart _ (List.getElem_mem h2))).upd u24 (op _ (List.getElem_mem h2))
        · have : m = x.rest.length := by omega
          subst this
          simp only [List.getElem_append_right (Nat.le_of_eq hpl), List.getElem_append_right (Nat.le_refl _), hpl, Nat.sub_self, List.getElem_singleton]
          refine (hnr.upd u23 ?_).upd u24 ?_
          · intro i hi hd
            simp only [V.block, List.not_mem_nil, List.mem_singleton, false_or] at hi
            subst hi
            have := hL9.rest.sl.lt _ hd; omega
          · intro i hi hd
            simp only [V.block, List.not_mem_nil, List.mem_singleton, false_or] at hi hd
            omega
    · refine spoilt_told hs ?_
      simp only [toldA, restIds_append, restIds_cons, List.length_append]
      simp [restIds]
  | false => exact ifC_ff rfl (setI_mk (n := (i : Int) + 1) (by rw [IntKind.wrap_i64]; omega) (next 0 _ _ rfl (Upd.trans g6 g69)))

end Go.Th.L
end
