/- What the row of one statement stands on: a store, abstract code, functions of the program and their laws (ThHcert8, ThHcert9, ThHcert10, ThHcert11). -/
import Derived.Test.YtdjocmcbibedhaaGreatThBHcert7
import Derived.Test.YtdjocmcbibedhaaGreatThBHlaw03c
import Derived.Test.YtdjocmcbibedhaaGreatThBGslicesInt

section
/- The laws of chapter 13: what is looked at, awake, CertTrue, CertAll. -/
set_option linter.unusedSimpArgs false
set_option linter.unusedVariables false
set_option maxHeartbeats 1000000
namespace Go.Th.L
open Go Go.Th Go.Th.Pure Go.Sort
variable {P : Program} {N : Nat → Nat}

structure SizedA (x : Ans) : Prop where
  hits : x.hits.length ≤ 17592186044416
  seen : x.seen.length ≤ 17592186044416
  rest : x.rest.length ≤ 17592186044416
  regs : ∀ g ∈ x.rest, g.lo.length ≤ 17592186044416 ∧ g.hi.length ≤ 17592186044416 ∧ g.ids.length ≤ 17592186044416
def sizeG (l : List Reg) : Nat := (l.map fun g => g.lo.length + g.hi.length + g.ids.length).sum
def totA (q : List Int) (x : Ans) (j : Nat) : Nat := q.length + x.hits.length + x.seen.length + x.rest.length + sizeG (x.rest.take j)
theorem sizeG_snoc {l : List Reg} {j : Nat} (h : j < l.length) : sizeG (l.take (j + 1)) = sizeG (l.take j) + (l[j].lo.length + l[j].hi.length + l[j].ids.length) := by
  unfold sizeG
  rw [List.take_add_one, List.getElem?_eq_getElem h, Option.toList_some, List.map_append, List.sum_append]
  simp
theorem restIds_size : ∀ (l : List Reg), (restIds l).length ≤ sizeG l
  | [] => by simp [restIds, sizeG]
  | g :: l => by
    have := restIds_size l
    rw [restIds_cons, List.length_append]
    simp only [sizeG, List.map_cons, List.sum_cons] at this ⊢
    omega
theorem sizeG_mem : ∀ {l : List Reg} {g : Reg}, g ∈ l → g.lo.length + g.hi.length + g.ids.length ≤ sizeG l
  | a :: l, g, h => by
    simp only [sizeG, List.map_cons, List.sum_cons]
    rcases List.mem_cons.mp h with rfl | h
    · omega
    · have := sizeG_mem h
      simp only [sizeG] at this; omega

structure LookA (q : List Int) (x : Ans) : Prop where
  tot : totA q x x.rest.length ≤ 16384

theorem LookA.small {q : List Int} {x : Ans} (h : LookA q x) : SmallA x := by
  have := h.tot
  unfold totA at this
  rw [List.take_length] at this
  have := restIds_size x.rest
  unfold SmallA; omega

theorem law13_big.spec (hF : law13_big.Ok P N) (hV : keep_Vectors.Spec P N) {v u a b c : V} {rs : List Row} {q : List Int} {x : Ans} {S : St} (hv : RowsAt S v rs) (hrl : rs.length ≤ 17592186044416) (hrv : ∀ r ∈ rs, r.2.length ≤ 17592186044416)
    (hu : IntsAt S u q) (hql : q.length ≤ 17592186044416) (hx : AnsAt S a b c x) (hz : SizedA x) {K : Bool → St → Prop} (h1 : K true S) (h0 : LookA q x → K false S) : CallA P (N Fn.law13_big) [v, u, ansV a b c] S (retT [.one .bool] K) := by
  refine CallA.gcT (ds := [.one .bool]) rfl (CallA.wfT fun hw => ?_)
  have hv := hv.ro
  have hx := hx.ro
  have hu := hu.ro
  obtain ⟨z1, z2, z3, z4⟩ := hz
  refine law13_big.run hF (newS_mk hw fun S1 g1 mA n1 => ?_)
  have hx := hx.grow g1
  have hu := hu.grow g1
  have hv := hv.grow g1
  obtain ⟨ps, hc⟩ := hx.rest
  refine ⟨_, hu.len, ifS_mk (ld mA rfl) ⟨_, hx.hits.at_.len, setI_mk (n := ((q.length + x.hits.length : Nat) : Int)) (by rw [IntKind.wrap_i64]; omega) (ifS_mk (ld mA rfl) ⟨_, hx.seen.len, setI_mk (n := ((q.length + x.hits.length + x.seen.length : Nat) : Int)) (by rw [IntKind.wrap_i64]; omega) (ifS_mk (ld mA rfl) ⟨_, hc.length, setI_mk (n := ((totA q x 0 : Nat) : Int)) (by rw [IntKind.wrap_i64]; simp only [totA, List.take_zero, sizeG, List.map_nil, List.sum_nil]; omega) ?_⟩)⟩)⟩⟩
  refine Join1.mid (fun t S' => S' = S1 ∧ (t ≤ 16384 → LookA q x)) ?_ ?_
  · refine Loop2.ind (fun n t z S' => S' = S1 ∧ ∃ j : Nat, z = j ∧ j + n = x.rest.length ∧ t = (totA q x j : Nat)) x.rest.length ⟨rfl, 0, rfl, by omega, rfl⟩ ?_
    rintro n _ _ S3 ⟨rfl, j, rfl, hj, rfl⟩
    refine Join0.mid (fun S' => S' = S3 ∧ j < x.rest.length ∧ totA q x j ≤ 16384) (ifS_mk (ld mA rfl) ⟨_, hc.length, ifC_dec (fun h2 => ifC_dec (fun h3 => ⟨rfl, by omega, by omega⟩) (fun h3 => ⟨rfl, fun h => absurd h h3⟩)) (fun h2 => ⟨rfl, fun h => ⟨?_⟩⟩)⟩) ?_
    · have : j = x.rest.length := by omega
      subst this; omega
    · rintro S4 ⟨rfl, hjl, ht⟩
      obtain ⟨b1, b2, b3⟩ := z4 _ (List.getElem_mem hjl)
      have hR := hc.reg hjl
      refine ifS_mk (ld mA rfl) (ifS_mk (hc.idx hjl) (ifS_mk (hc.fld hjl 1) (ifS_mk (hc.lo hjl) ⟨_, hR.lo.len, setI_mk (n := ((totA q x j + x.rest[j].lo.length : Nat) : Int)) (by rw [IntKind.wrap_i64]; omega) (ifS_mk (ld mA rfl) (ifS_mk (hc.idx hjl) (ifS_mk (hc.fld hjl 2) (ifS_mk (hc.hi hjl) ⟨_, hR.hi.len, setI_mk (n := ((totA q x j + x.rest[j].lo.length + x.rest[j].hi.length : Nat) : Int)) (by rw [IntKind.wrap_i64]; omega)
        (ifS_mk (ld mA rfl) (ifS_mk (hc.idx hjl) (ifS_mk (hc.fld hjl 5) (ifS_mk (hc.ids hjl) ⟨_, hR.ids.len, setI_mk (n := ((totA q x (j + 1) : Nat) : Int)) ?_ (setI_mk (wrap_succ (by omega)) ⟨n - 1, by omega, rfl, j + 1, rfl, by omega, rfl⟩)⟩))))⟩))))⟩)))
      rw [IntKind.wrap_i64]
      simp only [totA] at ht ⊢
      rw [sizeG_snoc hjl]
      omega
  · rintro t S2 ⟨rfl, ht⟩
    obtain ⟨ws, hv'⟩ := hv
    refine ifC_dec (fun _ => h1) (fun h2 => ⟨_, hv'.length, ifC_dec (fun _ => h1) (fun h3 => hV v rs 16384 _ _ ⟨ws, hv'⟩ hrl hrv (by omega) fun n hn => ?_)⟩)
    by_cases h4 : 16384 < n
    · rw [decide_eq_true h4]; exact h1
    · rw [decide_eq_false h4]; exact h0 (ht (by omega))

abbrev rows13 : List Row := [(1, [0]), (2, [5]), (3, [9])]
abbrev told13 (n : Int) : Ans := ⟨[⟨1, 0, 0⟩], [1], [⟨2, [n], [9], 0, [2, 3]⟩]⟩

theorem slAt_new {S : St} {i k n : Nat} {cs : List V} {own : Bool} (h : S.get i = some (.cells cs own)) (hl : cs.length = n * k) (hn : n ≤ 4611686018427387904) : SlAt S k (.slice i 0 n n k true) n cs :=
  ⟨hn, hl, .inr ⟨i, 0, n, true, rfl, Nat.le_refl _, by rw [St.loads_of h (by omega), List.drop_zero, List.take_of_length_le (by omega)]⟩⟩

theorem law13_rows.spec (hF : law13_rows.Ok P N) {S : St} (hw : S.Wf) {K : V → St → Prop} (hk : ∀ v S', Grow S S' → RowsAt S' v rows13 → K v S') : CallA P (N Fn.law13_rows) [] S (retT [.one .any] K) := by
  refine law13_rows.run hF (newS_mk hw fun S1 g1 m1 n1 => ⟨rfl, newS_mk g1.wf fun S2 g2 m2 n2 => ⟨rfl, newS_mk g2.wf fun S3 g3 m3 n3 => ⟨rfl, newS_mk g3.wf fun S4 g4 m4 n4 => hk _ _ (((g1.trans g2).trans g3).trans g4) ?_⟩⟩⟩)
  refine ⟨[.slice S.next 0 1 1 1 true, .slice S1.next 0 1 1 1 true, .slice S2.next 0 1 1 1 true], rfl, ⟨slAt_new m4 rfl (by decide), rowsC_two⟩, ?_⟩
  intro j h1 h2
  match j, h1, h2 with
  | 0, _, _ => exact lit_ints [0] (g4.get (g3.get (g2.get m1))) (by decide)
  | 1, _, _ => exact lit_ints [5] (g4.get (g3.get m2)) (by decide)
  | 2, _, _ => exact lit_ints [9] (g4.get m3) (by decide)

theorem law13_told.spec (hF : law13_told.Ok P N) {S : St} (hw : S.Wf) {n : Int} {K : V → V → V → St → Prop} (hk : ∀ a b c S', Grow S S' → AnsAt S' a b c (told13 n) → K a b c S') : CallA P (N Fn.law13_told) [.int .i64 n] S (retT [.agg [.any, .any, .any]] K) := by
  refine law13_told.run hF (newS_mk hw fun S1 g1 m1 n1 => newS_mk g1.wf fun S2 g2 m2 n2 => newS_mk g2.wf fun S3 g3 m3 n3 => newS_mk g3.wf fun S4 g4 m4 n4 => newS_mk g4.wf fun S5 g5 m5 n5 => newS_mk g5.wf fun S6 g6 m6 n6 => ⟨rfl, rfl, rfl, newS_mk g6.wf fun S7 g7 m7 n7 => ⟨rfl, rfl, rfl, ?_⟩⟩)
  have g17 : Grow S1 S7 := ((((g2.trans g3).trans g4).trans g5).trans g6).trans g7
  refine st_mk g7.wf (g17.get m1) rfl (by simp [V.cells]) rfl fun S8 u8 m8 n8 => ?_
  simp only [V.cells, over] at m8
  refine ⟨_, _, _, ldC m8 (by simp) rfl, hk _ _ _ _ ((g1.trans g17).after u8 (fun i hi => by simp only [List.mem_singleton] at hi; exact .inl (by omega))) ?_⟩
  have e : ∀ {i : Nat} {b : Blk}, S7.get i = some b → i ≠ S.next → S8.get i = some b := fun h hne => u8.get h (by simpa using hne)
  refine ⟨HitsAt.mk (slAt_new (e (g7.get (g6.get (g5.get (g4.get (g3.get m2))))) (by omega)) rfl (by decide)), lit_ints [1] (e (g7.get (g6.get (g5.get (g4.get m3)))) (by omega)) (by decide), ?_⟩
  refine ⟨[⟨.slice S3.next 0 1 1 1 true, .slice S4.next 0 1 1 1 true, .slice S5.next 0 2 2 1 true, 0, 0⟩], rfl, ⟨slAt_new (e m7 (by omega)) rfl (by decide), regsC_six⟩, ?_⟩
  have w0 : Wok 0 0 := ⟨by omega, by omega, by omega, by omega⟩
  have hreg : RegAt S8 (.slice S3.next 0 1 1 1 true) (.slice S4.next 0 1 1 1 true) (.slice S5.next 0 2 2 1 true) 0 0 ⟨2, [n], [9], 0, [2, 3]⟩ :=
    ⟨lit_ints [n] (e (g7.get (g6.get (g5.get m4))) (by omega)) (show 1 ≤ 4611686018427387904 by decide), lit_ints [9] (e (g7.get (g6.get m5)) (by omega)) (by decide), lit_ints [2, 3] (e (g7.get m6) (by omega)) (by decide), w0, rfl⟩
  intro j h1 h2
  match j, h1, h2 with
  | 0, _, _ => exact hreg

theorem top13 : errTop [0] rows13 1 = 0 := by decide +kernel
theorem told13_hits : [⟨1, 0, 0⟩] = best 1 (hitsOf [0] ([1].map (rowOf rows13))) := by decide +kernel
theorem told13_perm : ([1] ++ restIds [⟨2, [0], [9], 0, [2, 3]⟩]).Perm (idsOf rows13) := by decide +kernel
theorem sound13 {n : Int} (h : errReg ⟨2, [n], [9], 0, [2, 3]⟩ 1 = 0) (hn : n ≤ 5) : SoundA rows13 [0] 1 (told13 n) := by
  refine ⟨fun i h1 h2 => by simp at h2; omega, ?_, told13_perm, told13_hits⟩
  intro g hg
  simp only [List.mem_singleton] at hg
  subst hg
  refine ⟨by simp, h, ?_⟩
  intro i hi
  have e2 : rowOf rows13 2 = (2, [5]) := by decide +kernel
  have e3 : rowOf rows13 3 = (3, [9]) := by decide +kernel
  simp only [List.mem_cons, List.not_mem_nil, or_false] at hi
  unfold InReg
  rw [if_pos rfl]
  intro j hj
  rcases hi with rfl | rfl
  · rw [e2] at hj ⊢
    have : j = 0 := by simp at hj; omega
    subst this; simp; omega
  · rw [e3] at hj ⊢
    have : j = 0 := by simp at hj; omega
    subst this; simp; omega
theorem cert13_5 : CertA rows13 [0] 1 (told13 5) := by
  refine ⟨sound13 (by decide +kernel) (by omega), ?_⟩
  intro g hg
  simp only [List.mem_singleton] at hg
  subst hg
  exact ⟨by simp, 25, .inl ⟨rfl, by decide +kernel⟩, by decide +kernel⟩
theorem cert13_0 : ¬ CertA rows13 [0] 1 (told13 0) := by
  rintro ⟨_, h⟩
  obtain ⟨_, n, h1, h2⟩ := h _ (List.mem_singleton.mpr rfl)
  have := IsNear.unique h1 (m := 0) (.inl ⟨rfl, by decide +kernel⟩)
  subst this
  have : farH ((told13 0).hits.getD (1 - 1) default) = 0 := by decide +kernel
  omega
theorem sound13_6 : ¬ SoundA rows13 [0] 1 (told13 6) := by
  rintro ⟨_, h, _⟩
  have := (h _ (List.mem_singleton.mpr rfl)).2.2 2 (by simp)
  exact absurd this (by decide +kernel)

theorem law13_awake.spec (hF : law13_awake.Ok P N) (hR : law13_rows.Ok P N) (hT : law13_told.Ok P N) (hO : CertOk P N) : AwakeF P (N Fn.law13_awake) := by
  intro S K hk
  refine CallA.gcT (ds := [.one .bool]) rfl (CallA.wfT fun hw => ?_)
  refine law13_awake.run hF (law13_rows.spec hR hw fun v1 S1 g1 r1 => newS_mk g1.wf fun S2 g2 m2 n2 => law13_told.spec hT g2.wf fun a1 b1 c1 S3 g3 t1 => cert_Certain.spec hO g3.wf (r1.grow (g2.trans g3)) (lit_ints [0] (g3.get m2) (by decide)) t1 (fun h => absurd top13 h) fun _ d1 S4 i1 g4 => ?_)
  refine law13_rows.spec hR g4.wf fun v2 S5 g5 r2 => newS_mk g5.wf fun S6 g6 m6 n6 => law13_told.spec hT g6.wf fun a2 b2 c2 S7 g7 t2 => cert_Certain.spec hO g7.wf (r2.grow (g6.trans g7)) (lit_ints [0] (g7.get m6) (by decide)) t2 (fun h => absurd top13 h) fun _ d2 S8 i2 g8 => ?_
  refine law13_rows.spec hR g8.wf fun v3 S9 g9 r3 => newS_mk g9.wf fun S10 g10 m10 n10 => law13_told.spec hT g10.wf fun a3 b3 c3 S11 g11 t3 => cert_Sound.spec hO g11.wf (r3.grow (g10.trans g11)) (lit_ints [0] (g11.get m10) (by decide)) t3 (fun h => absurd top13 h) fun _ d3 S12 i3 g12 => ?_
  refine law13_rows.spec hR g12.wf fun v4 S13 g13 r4 => newS_mk g13.wf fun S14 g14 m14 n14 => law13_told.spec hT g14.wf fun a4 b4 c4 S15 g15 t4 => cert_Sound.spec hO g15.wf (r4.grow (g14.trans g15)) (lit_ints [0] (g15.get m14) (by decide)) t4 (fun h => absurd top13 h) fun _ d4 S16 i4 g16 => ?_
  have e1 : d1 = true := i1.mpr cert13_5
  have e2 : d2 = false := by cases d2 with | false => rfl | true => exact absurd (i2.mp rfl) cert13_0
  have e3 : d3 = true := i3.mpr (sound13 (by decide +kernel) (by omega))
  have e4 : d4 = false := by cases d4 with | false => rfl | true => exact absurd (i4.mp rfl) sound13_6
  subst e1; subst e2; subst e3; subst e4
  exact ifC_pos rfl (ifC_pos rfl (ifC_pos rfl (ifC_pos rfl (ifC_tt rfl (ifC_tt rfl (ifC_tt rfl hk))))))

theorem keep_Hits.spec (hF : keep_Hits.Ok P N) {S : St} {v u : V} {l m : List Hit} (hv : HitsAt S v l) (hu : HitsAt S u m) {K : Bool → St → Prop} (hk : K (decide (l = m)) S) : CallA P (N Fn.keep_Hits) [v, u] S (retT [.one .bool] K) := by
  have hle := hv.at_.le
  refine keep_Hits.run hF ⟨_, hv.at_.len, _, hu.at_.len, ifC_ndec (fun hne => ?_) (fun heq => ?_)⟩
  · have e : l ≠ m := fun e => hne (by rw [e])
    rwa [decide_eq_false e] at hk
  refine Loop1.ind (fun n x S' => S' = S ∧ ∃ j : Nat, x = j ∧ j + n = l.length ∧ l.take j = m.take j) l.length ⟨rfl, 0, rfl, by omega, by simp⟩ ?_
  rintro n _ _ ⟨rfl, j, rfl, hj, hab⟩
  refine ⟨_, hv.at_.len, ifC_dec (fun hlt => ?_) (fun hge => ?_)⟩
  · have hja : j < l.length := by omega
    have hjb : j < m.length := by omega
    refine ifS_mk (hv.idx hja) ⟨_, _, _, hv.get hja, ifS_mk (hu.idx hjb) ⟨_, _, _, hu.get hjb, _, eqH_mk _ _, ifC_ndec (fun hne => ?_) (fun heq => setI_mk (wrap_succ (by omega)) ⟨n - 1, by omega, rfl, j + 1, rfl, by omega, take_succ_eq hab hja hjb heq⟩)⟩⟩
    rwa [decide_eq_false (ne_of_get hja hjb hne)] at hk
  · have e : l = m := by
      rw [List.take_of_length_le (by omega), List.take_of_length_le (by omega)] at hab
      exact hab
    rwa [decide_eq_true e] at hk

structure Law13Ok (P : Program) (N : Nat → Nat) : Prop where
  cert : CertOk P N
  big : law13_big.Ok P N
  vecs : keep_Vectors.Spec P N
  awake : AwakeF P (N Fn.law13_awake)

structure Given13 (S : St) (v u a b c : V) (rs : List Row) (q : List Int) (x : Ans) : Prop where
  rows : RowsAt S v rs
  rl : rs.length ≤ 17592186044416
  rv : ∀ r ∈ rs, r.2.length ≤ 17592186044416
  vec : IntsAt S u q
  ql : q.length ≤ 17592186044416
  ans : AnsAt S a b c x
  sz : SizedA x
theorem Given13.grow {S S' : St} {v u a b c : V} {rs : List Row} {q : List Int} {x : Ans} (h : Given13 S v u a b c rs q x) (g : Grow S S') : Given13 S' v u a b c rs q x := ⟨h.rows.grow g, h.rl, h.rv, h.vec.grow g, h.ql, h.ans.grow g, h.sz⟩

end Go.Th.L
end

section
/- The laws of chapter 13: CertAll. -/
set_option linter.unusedSimpArgs false
set_option linter.unusedVariables false
set_option maxHeartbeats 1000000
namespace Go.Th.L
open Go Go.Th Go.Th.Pure Go.Sort
variable {P : Program} {N : Nat → Nat}

end Go.Th.L
end

section
/- An answer in memory of its own; answers compared; CertChecks. -/
set_option linter.unusedSimpArgs false
set_option linter.unusedVariables false
set_option maxHeartbeats 1000000
namespace Go.Th.L
open Go Go.Th Go.Th.Pure Go.Sort
variable {P : Program} {N : Nat → Nat}

theorem eqW2_mk (a b c d : Int) : eqV 6 [1, 1] (V.agg [(V.int .u64 a), (V.int .u64 b)]) (V.agg [(V.int .u64 c), (V.int .u64 d)]) = some (decide (a = c ∧ b = d)) := by
  simp [eqV, eqA, eqL, eqT]

theorem keep_Region.spec (hF : keep_Region.Ok P N) (hI : keep_Ints.Spec P N) {S : St} {a b c a' b' c' : V} {h l h' l' : Int} {r g : Reg} (hr : RegAt S a b c h l r) (hg : RegAt S a' b' c' h' l' g) {K : Bool → St → Prop} (hk : r = g → K true S) (hk0 : r ≠ g → K false S) :
    CallA P (N Fn.keep_Region) [regV r.shape a b h l c, regV g.shape a' b' h' l' c'] S (retT [.one .bool] K) := by
  refine CallA.gcT (ds := [.one .bool]) rfl (CallA.wfT fun hw => ?_)
  have hr := hr.ro
  have hg := hg.ro
  refine keep_Region.run hF (newS_mk hw fun S1 g1 m1 n1 => newS_mk g1.wf fun S2 g2 m2 n2 => ?_)
  have hr := (hr.grow g1).grow g2
  have hg := (hg.grow g1).grow g2
  have m1 := g2.get m1
  have no : r ≠ g → ∀ S', atS (flats [.one .bool]) K S false S' := fun h _ => hk0 h
  refine ⟨_, ld m1 rfl, _, ld m2 rfl, ifC_dec (fun h1 => ⟨_, _, ldN m1 (by simp) rfl, _, _, ldN m2 (by simp) rfl, _, eqW2_mk _ _ _ _, ifC_dec (fun h2 => ?_) (fun h2 => no (fun e => h2 ?_) _)⟩) (fun h1 => no (fun e => h1 (by rw [e])) _)⟩
  · refine ifS_mk (ld m1 rfl) (ifS_mk (ld m2 rfl) (hI _ _ _ _ _ _ hr.lo hg.lo (ifC_dec (fun h3 => ifS_mk (ld m1 rfl) (ifS_mk (ld m2 rfl) (hI _ _ _ _ _ _ hr.hi hg.hi (ifC_dec (fun h4 => ifS_mk (ld m1 rfl) (ifS_mk (ld m2 rfl) (hI _ _ _ _ _ _ hr.ids hg.ids ?_))) (fun h4 => no (fun e => h4 (by rw [e])) _))))) (fun h3 => no (fun e => h3 (by rw [e])) _))))
    by_cases h5 : r.ids = g.ids
    · rw [decide_eq_true h5]
      refine hk ?_
      have e1 := hr.radN
      have e2 := hg.radN
      rw [h2.1, h2.2, e2] at e1
      cases r; cases g
      simp only [Reg.mk.injEq] at *
      exact ⟨h1, h3, h4, e1.symm, h5⟩
    · rw [decide_eq_false h5]
      exact hk0 (fun e => h5 (by rw [e]))
  · have e1 := hr.radN
    have e2 := hg.radN
    rw [← e] at e2
    rw [← e1] at e2
    have w1 := wN_hi hr.rad
    have w2 := wN_hi hg.rad
    have w3 := wN_lo hr.rad
    have w4 := wN_lo hg.rad
    rw [e2] at w2 w4
    exact ⟨by omega, by omega⟩

theorem keep_Answer.spec (hF : keep_Answer.Ok P N) (hH : keep_Hits.Ok P N) (hI : keep_Ints.Spec P N) (hR : keep_Region.Ok P N) {S : St} {a b c a' b' c' : V} {x : Ans} (hx : AnsAt S a b c x) (hy : AnsAt S a' b' c' x) {K : Bool → St → Prop} (hk : K true S) :
    CallA P (N Fn.keep_Answer) [ansV a b c, ansV a' b' c'] S (retT [.one .bool] K) := by
  refine CallA.gcT (ds := [.one .bool]) rfl (CallA.wfT fun hw => ?_)
  have hx := hx.ro
  have hy := hy.ro
  refine keep_Answer.run hF (newS_mk hw fun S1 g1 m1 n1 => newS_mk g1.wf fun S2 g2 m2 n2 => ?_)
  have hx := (hx.grow g1).grow g2
  have hy := (hy.grow g1).grow g2
  have m1 := g2.get m1
  obtain ⟨ps, hc⟩ := hx.rest
  obtain ⟨ps', hc'⟩ := hy.rest
  have hle := hc.le
  refine Join0.mid (fun S' => S' = S2) (ifS_mk (ld m1 rfl) (ifS_mk (ld m2 rfl) (keep_Hits.spec hH hx.hits hy.hits (ifC_ndec (fun h => absurd rfl h) (fun _ => ifS_mk (ld m1 rfl) (ifS_mk (ld m2 rfl) (hI _ _ _ _ _ _ hx.seen hy.seen (ifC_ndec (fun h => absurd rfl h) (fun _ => ifS_mk (ld m1 rfl) ⟨_, hc.length, ifS_mk (ld m2 rfl) ⟨_, hc'.length, ifC_ndec (fun h => absurd rfl h) (fun _ => rfl)⟩⟩))))))))) ?_
  rintro S3 rfl
  refine Loop1.ind (fun n z S' => S' = S3 ∧ ∃ j : Nat, z = j ∧ j + n = x.rest.length) x.rest.length ⟨rfl, 0, rfl, by omega⟩ ?_
  rintro n _ S6 ⟨rfl, j, rfl, hj⟩
  refine ifS_mk (ld m1 rfl) ⟨_, hc.length, ifC_dec (fun hlt => ?_) (fun _ => hk)⟩
  have hjl : j < x.rest.length := by omega
  refine ifS_mk (ld m1 rfl) (ifS_mk (hc.idx hjl) ⟨_, _, _, _, _, _, hc.all hjl, ifS_mk (ld m2 rfl) (ifS_mk (hc'.idx hjl) ⟨_, _, _, _, _, _, hc'.all hjl, keep_Region.spec hR hI (hc.reg hjl) (hc'.reg hjl) (fun _ => ⟨Same.refl _ _, ifC_ff rfl (setI_mk (wrap_succ (by omega)) ⟨n - 1, by omega, rfl, j + 1, rfl, by omega⟩)⟩) (fun h => absurd rfl h)⟩)⟩)

structure BuiltG (S0 S : St) (v : V) (gs : List Reg) (ps : List RP) : Prop where
  sl : Built S0 S 6 v (regsC gs ps)
  len : ps.length = gs.length
  at_ : ∀ j (hr : j < gs.length) (hw : j < ps.length), RegAt S ps[j].a ps[j].b ps[j].c ps[j].h ps[j].l gs[j]
theorem BuiltG.regs {S0 S : St} {v : V} {gs : List Reg} {ps : List RP} (h : BuiltG S0 S v gs ps) : RegsAt S v gs := ⟨ps, h.len, h.sl.sl, h.at_⟩

theorem RegAt.upd {D : List Nat} {S S' : St} {a b c : V} {h l : Int} {r : Reg} (hr : RegAt S a b c h l r) (u : Upd D S S') (hd : ∀ i, (i ∈ a.block ∨ i ∈ b.block ∨ i ∈ c.block) → i ∉ D) : RegAt S' a b c h l r :=
  ⟨SlAt.upd hr.lo u (fun i hi => hd i (.inl hi)), SlAt.upd hr.hi u (fun i hi => hd i (.inr (.inl hi))), SlAt.upd hr.ids u (fun i hi => hd i (.inr (.inr hi))), hr.rad, hr.radN⟩
theorem regsC_snoc : ∀ {gs : List Reg} {ps : List RP} (_ : ps.length = gs.length) (g : Reg) (p : RP), regsC (gs ++ [g]) (ps ++ [p]) = regsC gs ps ++ [p.cells g.shape]
  | [], [], _, r, w => rfl
  | [], _ :: _, h, _, _ => by simp at h
  | _ :: _, [], h, _, _ => by simp at h
  | r :: rs, w :: ws, h, r', w' => by
    simp only [List.cons_append, regsC, regsC_snoc (gs := rs) (ps := ws) (by simpa using h)]

structure LentA (S0 S : St) (L : Nat) (a b c : V) (x : Ans) (ps : List RP) : Prop where
  hits : Built S0 S 3 a (hitsE x.hits)
  seen : BuiltI S0 S b x.seen
  rest : BuiltG S0 S c x.rest ps
  dab : ∀ i ∈ a.block, i ∉ b.block
  dac : ∀ i ∈ a.block, i ∉ c.block
  dbc : ∀ i ∈ b.block, i ∉ c.block
  la : ∀ i ∈ a.block, L ≤ i
  lb : ∀ i ∈ b.block, L ≤ i
  lc : ∀ i ∈ c.block, L ≤ i
  parts : ∀ p ∈ ps, ∀ i, (i ∈ p.a.block ∨ i ∈ p.b.block ∨ i ∈ p.c.block) → L ≤ i ∧ i < S.next ∧ i ∉ a.block ∧ i ∉ b.block ∧ i ∉ c.block
theorem LentA.upd {S0 S S' : St} {L : Nat} {a b c : V} {x : Ans} {ps : List RP} (h : LentA S0 S L a b c x ps) {D : List Nat} (u : Upd D S S') (h0 : ∀ i ∈ D, S0.next ≤ i) (hd : ∀ i ∈ D, i < L ∨ S.next ≤ i) : LentA S0 S' L a b c x ps := by
  have na : ∀ i ∈ a.block, i ∉ D := fun i hi hD => by
    have := h.la i hi; have := h.hits.lt i hi
    rcases hd i hD with h' | h' <;> omega
  have nb : ∀ i ∈ b.block, i ∉ D := fun i hi hD => by
    have := h.lb i hi; have := h.seen.lt i hi
    rcases hd i hD with h' | h' <;> omega
  have nc : ∀ i ∈ c.block, i ∉ D := fun i hi hD => by
    have := h.lc i hi; have := h.rest.sl.lt i hi
    rcases hd i hD with h' | h' <;> omega
  refine ⟨h.hits.upd u h0 na, Built.upd h.seen u h0 nb, ⟨h.rest.sl.upd u h0 nc, h.rest.len, fun j hr hw => (h.rest.at_ j hr hw).upd u fun i hi hD => ?_⟩, h.dab, h.dac, h.dbc, h.la, h.lb, h.lc, fun p hp i hi => ?_⟩
  · obtain ⟨q1, q2, _⟩ := h.parts _ (List.getElem_mem hw) i hi
    rcases hd i hD with h' | h' <;> omega
  · obtain ⟨q1, q2, q3⟩ := h.parts p hp i hi
    exact ⟨q1, Nat.lt_of_lt_of_le q2 u.le, q3⟩
theorem LentA.ans {S0 S : St} {L : Nat} {a b c : V} {x : Ans} {ps : List RP} (h : LentA S0 S L a b c x ps) : AnsAt S a b c x := ⟨h.hits.hits, BuiltI.at_ h.seen, h.rest.regs⟩

theorem st1 {S : St} (hw : S.Wf) {i o : Nat} {cs : List V} {v : V} {k : St → Prop} (h : S.get i = some (.cells cs true)) (hv : V.cells v = [v]) (ho : v.one = true) (hf : o < cs.length)
    (hk : ∀ S', Upd [i] S S' → S'.get i = some (.cells (over cs o [v]) true) → S'.next = S.next → k S') : ifS (storeV S 1 (.ptr i o) v) k :=
  st_mk hw h (by rw [hv]; rfl) (by rw [hv]; simp; omega) (by rw [hv]; simp [ho]) (fun S' u m n => hk S' u (by rw [hv] at m; exact m) n)

theorem law13_lent.spec (hF : law13_lent.Ok P N) {a b c : V} {x : Ans} {S : St} (hw : S.Wf) (hx : AnsAt S a b c x) (hs1 : x.hits.length ≤ 16384) (hs2 : x.seen.length ≤ 16384) (hs3 : x.rest.length ≤ 16384) (hs4 : ∀ g ∈ x.rest, g.lo.length ≤ 16384 ∧ g.hi.length ≤ 16384 ∧ g.ids.length ≤ 16384)
    {K : V → V → V → St → Prop} (hk : ∀ a' b' c' ps S', LentA S S' S.next a' b' c' x ps → K a' b' c' S') : CallA P (N Fn.law13_lent) [ansV a b c] S (retT [.agg [.any, .any, .any]] K) := by
  obtain ⟨ps0, hc0⟩ := hx.rest
  refine law13_lent.run hF (newS_mk hw fun S1 g1 mA n1 => newS_mk g1.wf fun S2 g2 mR n2 => newS_mk g2.wf fun S3 g3 mB n3 => ?_)
  have g03 : Grow S S3 := (Upd.trans g1 g2).trans g3
  have mA3 := g3.get (g2.get mA)
  have mR3 := g3.get mR
  refine ifS_mk (ld mB rfl) (ifS_mk (ld mA3 rfl) (hits_app (l := []) (by simpa using Built.nil (S0 := S) g03 3) (hx.hits.grow g03) (by simp; omega) fun v1 S4 hB1 u4 t4 => ?_))
  rw [List.nil_append] at hB1
  have g34 : Grow S3 S4 := u4.mono (by simp [V.block])
  have t4 : ∀ i ∈ v1.block, S3.next ≤ i := fun i hi => by rcases t4 i hi with h | h; simp [V.block] at h; exact h
  refine st1 g34.wf (g34.get mB) hB1.acc.at_.cells1 hB1.one (by simp) fun S5 u5 mB5 n5 => ?_
  have hB15 : Built S S5 3 v1 (hitsE x.hits) := hB1.upd u5 (fun i hi => by simp only [List.mem_singleton] at hi; omega) (fun i hi => by have := t4 i hi; simp only [List.mem_singleton]; omega)
  have mA5 : S5.get S.next = some (.cells [a, b, c] true) := u5.get (g34.get mA3) (by simp only [List.mem_singleton]; omega)
  have mR5 := u5.get (g34.get mR3) (by simp only [List.mem_singleton]; omega)
  have g05 := hB15.grow
  simp only [over] at mB5
  refine ifS_mk (ld mB5 rfl) (ifS_mk (ld mA5 rfl) (ints_app (BuiltI.nil g05) (hx.seen.grow g05) (by simp; omega) fun v2 S6 hB2 u6 t6 => ?_))
  rw [List.nil_append] at hB2
  have g56 : Grow S5 S6 := u6.mono (by simp [V.block])
  have t6 : ∀ i ∈ v2.block, S5.next ≤ i := fun i hi => by rcases t6 i hi with h | h; simp [V.block] at h; exact h
  refine st1 g56.wf (g56.get mB5) hB2.acc.at_.cells1 hB2.one (by simp) fun S7 u7 mB7 n7 => ?_
  simp only [over] at mB7
  have mA7 : S7.get S.next = some (.cells [a, b, c] true) := u7.get (g56.get mA5) (by simp only [List.mem_singleton]; omega)
  have mR7 := u7.get (g56.get mR5) (by simp only [List.mem_singleton]; omega)
  have h35 : S3.next ≤ S5.next := by have := g34.le; have := u5.le; omega
  have hL7 : LentA S S7 S3.next v1 v2 .nilSlice ⟨x.hits, x.seen, x.rest.take 0⟩ [] := by
    refine ⟨(hB15.next g56).upd u7 (fun i hi => by simp only [List.mem_singleton] at hi; omega) (fun i hi => by have := t4 i hi; simp only [List.mem_singleton]; omega), Built.upd hB2 u7 (fun i hi => by simp only [List.mem_singleton] at hi; omega) (fun i hi => by have := t6 i hi; simp only [List.mem_singleton]; omega), ⟨?_, rfl, fun j h => by simp at h⟩, ?_, by simp [V.block], by simp [V.block], t4, fun i hi => by have := t6 i hi; omega, by simp [V.block], by simp⟩
    · have g07 : Grow S S7 := (Upd.trans g05 g56).after u7 (fun i hi => by simp only [List.mem_singleton] at hi; exact .inl (by omega))
      simpa [regsC] using Built.nil (S0 := S) g07 6
    · intro i h1 h2
      have := t6 i h2; have := hB15.lt i h1; omega
  have hrl := hc0.le
  refine Loop1.ind (fun n z S' => ∃ (j : Nat) (c' : V) (ps : List RP), z = j ∧ j + n = x.rest.length ∧ S7.next ≤ S'.next ∧ LentA S S' S3.next v1 v2 c' ⟨x.hits, x.seen, x.rest.take j⟩ ps ∧ S'.get S.next = some (.cells [a, b, c] true) ∧ S'.get S1.next = some (.cells [.nilSlice, .nilSlice, .nilSlice] true) ∧ S'.get S2.next = some (.cells [v1, v2, c'] true)) x.rest.length
    ⟨0, .nilSlice, [], rfl, by omega, Nat.le_refl _, hL7, mA7, mR7, mB7⟩ ?_
  rintro n _ S8 ⟨j, c', ps, rfl, hj, hle8, hL8, mA8, mR8, mB8⟩
  have g08 := hL8.hits.grow
  have hc8 := hc0.grow g08
  have hlt : S3.next ≤ S8.next := by have := g56.le; have := u7.le; omega
  refine ifS_mk (ld mA8 rfl) ⟨_, hc8.length, ifC_dec (fun hlt2 => ?_) (fun hge => ?_)⟩
  · have hjl : j < x.rest.length := by omega
    obtain ⟨z1, z2, z3⟩ := hs4 _ (List.getElem_mem hjl)
    have hR8 := hc8.reg hjl
    refine ifS_mk (ld mA8 rfl) (ifS_mk (hc8.idx hjl) ⟨_, _, _, _, _, _, hc8.all hjl, newS_mk g08.wf fun S9 g9 m9 n9 => st_mk g9.wf m9 rfl (by simp [V.cells]) (by simp only [V.cells]; exact regC_ones hR8) fun S10 u10 m10 n10 => ?_⟩)
    simp only [V.cells, over] at m10
    have g810 : Grow S8 S10 := g9.after u10 (fun i hi => by simp only [List.mem_singleton] at hi; exact .inl (by omega))
    have hR10 := hR8.grow g810
    refine ⟨_, ld m10 rfl, _, _, ldN m10 (by simp) rfl, newS_mk g810.wf fun S11 g11 m11 n11 => st_mk g11.wf m11 rfl (by simp [V.cells]) rfl fun S12 u12 m12 n12 => ?_⟩
    simp only [V.cells, over] at m12
    have g1012 : Grow S10 S12 := g11.after u12 (fun i hi => by simp only [List.mem_singleton] at hi; exact .inl (by omega))
    have g812 : Grow S8 S12 := Upd.trans g810 g1012
    have g012 : Grow S S12 := Upd.trans g08 g812
    have ma := g1012.get m10
    have hR12 := hR10.grow g1012
    have hT : S10.next < S12.next := by omega
    have hT8 : S8.next < S10.next := by omega
    refine ifS_mk (ld m12 rfl) (ifS_mk (ld ma rfl) (ints_app (BuiltI.nil (S0 := S) g012) hR12.lo (by simp; omega) fun w1 S13 hW1 u13 t13 => ?_))
    rw [List.nil_append] at hW1
    have g1213 : Grow S12 S13 := u13.mono (by simp [V.block])
    have t13 : ∀ i ∈ w1.block, S12.next ≤ i := fun i hi => by rcases t13 i hi with h | h; simp [V.block] at h; exact h
    refine st1 g1213.wf (g1213.get m12) hW1.acc.at_.cells1 hW1.one (by simp) fun S14 u14 m14 n14 => ?_
    simp only [over] at m14
    have hW14 : BuiltI S S14 w1 x.rest[j].lo := Built.upd hW1 u14 (fun i hi => by simp only [List.mem_singleton] at hi; have := g08.le; omega) (fun i hi => by have := t13 i hi; simp only [List.mem_singleton]; omega)
    have mb := u14.get (g1213.get ma) (by simp only [List.mem_singleton]; omega)
    have g814 : Grow S8 S14 := (Upd.trans g812 g1213).after u14 (fun i hi => by simp only [List.mem_singleton] at hi; exact .inl (by omega))
    refine ifS_mk (ld m14 rfl) (ifS_mk (ld mb rfl) (ints_app (BuiltI.nil (S0 := S) (Upd.trans g08 g814)) (hR8.hi.grow g814) (by simp; omega) fun w2 S15 hW2 u15 t15 => ?_))
    rw [List.nil_append] at hW2
    have g1415 : Grow S14 S15 := u15.mono (by simp [V.block])
    have t15 : ∀ i ∈ w2.block, S14.next ≤ i := fun i hi => by rcases t15 i hi with h | h; simp [V.block] at h; exact h
    have h1214 : S12.next ≤ S14.next := by have := g1213.le; omega
    refine st1 g1415.wf (g1415.get m14) hW2.acc.at_.cells1 hW2.one (by simp) fun S16 u16 m16 n16 => ?_
    simp only [over] at m16
    have hW16 : BuiltI S S16 w1 x.rest[j].lo := Built.upd (hW14.next g1415) u16 (fun i hi => by simp only [List.mem_singleton] at hi; have := g08.le; omega) (fun i hi => by have := t13 i hi; simp only [List.mem_singleton]; omega)
    have hV16 : BuiltI S S16 w2 x.rest[j].hi := Built.upd hW2 u16 (fun i hi => by simp only [List.mem_singleton] at hi; have := g08.le; omega) (fun i hi => by have := t15 i hi; simp only [List.mem_singleton]; omega)
    have mc := u16.get (g1415.get mb) (by simp only [List.mem_singleton]; omega)
    have g816 : Grow S8 S16 := (Upd.trans g814 g1415).after u16 (fun i hi => by simp only [List.mem_singleton] at hi; exact .inl (by omega))
    refine ifS_mk (ld m16 rfl) (ifS_mk (ld mc rfl) (ints_app (BuiltI.nil (S0 := S) (Upd.trans g08 g816)) (hR8.ids.grow g816) (by simp; omega) fun w3 S17 hW3 u17 t17 => ?_))
    rw [List.nil_append] at hW3
    have g1617 : Grow S16 S17 := u17.mono (by simp [V.block])
    have t17 : ∀ i ∈ w3.block, S16.next ≤ i := fun i hi => by rcases t17 i hi with h | h; simp [V.block] at h; exact h
    have h1416 : S14.next ≤ S16.next := by have := g1415.le; omega
    refine st1 g1617.wf (g1617.get m16) hW3.acc.at_.cells1 hW3.one (by simp) fun S18 u18 m18 n18 => ?_
    simp only [over] at m18
    have hW18 : BuiltI S S18 w1 x.rest[j].lo := Built.upd (hW16.next g1617) u18 (fun i hi => by simp only [List.mem_singleton] at hi; have := g08.le; omega) (fun i hi => by have := t13 i hi; simp only [List.mem_singleton]; omega)
    have hV18 : BuiltI S S18 w2 x.rest[j].hi := Built.upd (hV16.next g1617) u18 (fun i hi => by simp only [List.mem_singleton] at hi; have := g08.le; omega) (fun i hi => by have := t15 i hi; simp only [List.mem_singleton]; omega)
    have hU18 : BuiltI S S18 w3 x.rest[j].ids := Built.upd hW3 u18 (fun i hi => by simp only [List.mem_singleton] at hi; have := g08.le; omega) (fun i hi => by have := t17 i hi; simp only [List.mem_singleton]; omega)
    have g818 : Grow S8 S18 := (Upd.trans g816 g1617).after u18 (fun i hi => by simp only [List.mem_singleton] at hi; exact .inl (by omega))
    have h1618 : S16.next ≤ S18.next := by have := g1617.le; omega
    have hL18 : LentA S S18 S3.next v1 v2 c' ⟨x.hits, x.seen, x.rest.take j⟩ ps := hL8.upd g818 (by simp) (by simp)
    have mB18 := g818.get mB8
    have hR18 : RegAt S18 w1 w2 w3 _ _ x.rest[j] := ⟨BuiltI.at_ hW18, BuiltI.at_ hV18, BuiltI.at_ hU18, hR8.rad, hR8.radN⟩
    refine ifS_mk (ld mB18 rfl) ⟨_, _, _, _, _, _, ldN m18 (by simp) rfl, ?_⟩
    have hpl : (x.rest.take j).length = j := by rw [List.length_take]; omega
    have hcl : (regsC (x.rest.take j) ps).length = j := by rw [regsC_length hL18.rest.len, hpl]
    refine hL18.rest.sl.push (e := regC x.rest[j].shape w1 w2 _ _ w3) rfl (regC_ones hR18) (by rw [hcl]; omega) (by rw [hcl]; omega) fun c2 S20 hC20 u20 t20 => ?_
    have hlc : ∀ i ∈ c'.block, i < S18.next := fun i hi => hL18.rest.sl.lt i hi
    have hnB : S2.next ∉ c'.block := fun h => by have := hL18.lc _ h; omega
    refine st1 hC20.grow.wf (u20.get mB18 hnB) hC20.acc.at_.cells1 hC20.one (by simp) fun S21 u21 m21 n21 => setI_mk (wrap_succ (by omega)) ⟨n - 1, by omega, j + 1, c2, ps ++ [⟨w1, w2, w3, (ps0[j]'(hc0.ltw hjl)).h, (ps0[j]'(hc0.ltw hjl)).l⟩], rfl, by omega, ?_, ?_, ?_, ?_, ?_⟩
    · have := g818.le; have := u20.le; omega
    · have hL20 : LentA S S20 S3.next v1 v2 c2 ⟨x.hits, x.seen, x.rest.take (j + 1)⟩ (ps ++ [⟨w1, w2, w3, (ps0[j]'(hc0.ltw hjl)).h, (ps0[j]'(hc0.ltw hjl)).l⟩]) := by
        have a1 : ∀ i ∈ v1.block, i ∉ c'.block := hL18.dac
        have b1 : ∀ i ∈ v2.block, i ∉ c'.block := hL18.dbc
        have a2 : ∀ i ∈ v1.block, i < S18.next := fun i hi => hL18.hits.lt i hi
        have b2 : ∀ i ∈ v2.block, i < S18.next := fun i hi => hL18.seen.lt i hi
        have w1b : ∀ i ∈ w1.block, S12.next ≤ i ∧ i < S18.next := fun i hi => ⟨t13 i hi, hW18.lt i hi⟩
        have w2b : ∀ i ∈ w2.block, S12.next ≤ i ∧ i < S18.next := fun i hi => ⟨by have := t15 i hi; omega, hV18.lt i hi⟩
        have w3b : ∀ i ∈ w3.block, S12.next ≤ i ∧ i < S18.next := fun i hi => ⟨by have := t17 i hi; omega, hU18.lt i hi⟩
        have a8 : ∀ i ∈ v1.block, i < S8.next := fun i hi => hL8.hits.lt i hi
        have b8 : ∀ i ∈ v2.block, i < S8.next := fun i hi => hL8.seen.lt i hi
        have c8 : ∀ i ∈ c'.block, i < S8.next := fun i hi => hL8.rest.sl.lt i hi
        have wn : ∀ i, (i ∈ w1.block ∨ i ∈ w2.block ∨ i ∈ w3.block) → S12.next ≤ i ∧ i < S18.next := fun i hi => by
          rcases hi with h | h | h
          · exact w1b i h
          · exact w2b i h
          · exact w3b i h
        have hps : ps.length = j := by have := hL18.rest.len; simp only at this; rw [hpl] at this; exact this
        have tk : x.rest.take (j + 1) = x.rest.take j ++ [x.rest[j]] := by rw [List.take_add_one, List.getElem?_eq_getElem hjl]; rfl
        refine ⟨hL18.hits.upd u20 (fun i hi => hL18.rest.sl.from i hi) a1, Built.upd hL18.seen u20 (fun i hi => hL18.rest.sl.from i hi) b1, ⟨?_, ?_, ?_⟩, hL18.dab, ?_, ?_, hL18.la, hL18.lb, ?_, ?_⟩
        · simp only [tk]
          rw [regsC_snoc hL18.rest.len]
          exact hC20
        · simp only [tk, List.length_append, List.length_singleton]; rw [hL18.rest.len]
        · simp only [tk]
          intro m hm hw
          have hm' : m < j + 1 := by have h := hm; simp at h; omega
          rcases Nat.lt_or_ge m j with h1 | h1
          · have h2 : m < ps.length := by omega
            have h3 : m < (x.rest.take j).length := by omega
            simp only [List.getElem_append_left h2, List.getElem_append_left h3]
            exact (hL18.rest.at_ m (by rw [hpl]; exact h1) h2).upd u20 fun i hi => (hL18.parts _ (List.getElem_mem h2) i hi).2.2.2.2
          · have : m = j := by omega
            subst this
            have h2 : ps.length = m := hps
            simp only [List.getElem_append_right (Nat.le_of_eq h2), List.getElem_append_right (Nat.le_of_eq hpl), h2, hpl, Nat.sub_self, List.getElem_singleton]
            exact hR18.upd u20 fun i hi hc => by have := wn i hi; have := c8 i hc; have := g812.le; omega
        · intro i hi hc
          rcases t20 i hc with h | h
          · exact a1 i hi h
          · have := a2 i hi; omega
        · intro i hi hc
          rcases t20 i hc with h | h
          · exact b1 i hi h
          · have := b2 i hi; omega
        · intro i hi
          rcases t20 i hi with h | h
          · exact hL18.lc i h
          · have := g818.le; omega
        · intro p hp i hi
          rcases List.mem_append.mp hp with hp | hp
          · obtain ⟨q1, q2, q3, q4, q5⟩ := hL18.parts p hp i hi
            refine ⟨q1, Nat.lt_of_lt_of_le q2 u20.le, q3, q4, fun hc => ?_⟩
            rcases t20 i hc with h | h
            · exact q5 h
            · omega
          · simp only [List.mem_singleton] at hp
            subst hp
            obtain ⟨q1, q2⟩ := wn i hi
            have := g812.le
            refine ⟨by omega, Nat.lt_of_lt_of_le q2 u20.le, fun h => by have := a8 i h; omega, fun h => by have := b8 i h; omega, fun hc => ?_⟩
            rcases t20 i hc with h | h
            · have := c8 i h; omega
            · omega
      exact hL20.upd u21 (fun i hi => by simp only [List.mem_singleton] at hi; omega) (fun i hi => by simp only [List.mem_singleton] at hi; exact .inl (by omega))
    · exact u21.get (u20.get (g818.get mA8) (fun h => by have := hL18.lc _ h; omega)) (by simp only [List.mem_singleton]; omega)
    · exact u21.get (u20.get (g818.get mR8) (fun h => by have := hL18.lc _ h; omega)) (by simp only [List.mem_singleton]; omega)
    · simpa [over] using m21
  · have hjl : j = x.rest.length := by omega
    subst hjl
    rw [List.take_length] at hL8
    refine ⟨_, _, _, ldN mB8 (by simp) rfl, st_mk g08.wf mR8 rfl (by simp [V.cells]) (by simp only [V.cells, List.all_cons, List.all_nil, hL8.hits.one, Built.one hL8.seen, hL8.rest.sl.one]; rfl) fun S22 u22 m22 n22 => ?_⟩
    simp only [V.cells, over] at m22
    have hL22 := hL8.upd u22 (fun i hi => by simp only [List.mem_singleton] at hi; omega) (fun i hi => by simp only [List.mem_singleton] at hi; exact .inl (by omega))
    refine ⟨_, _, _, ldC m22 (by simp) rfl, hk _ _ _ ps S22 ?_⟩
    have h3 := g03.le
    exact ⟨hL22.hits, hL22.seen, hL22.rest, hL22.dab, hL22.dac, hL22.dbc, fun i hi => Nat.le_trans h3 (hL22.la i hi), fun i hi => Nat.le_trans h3 (hL22.lb i hi), fun i hi => Nat.le_trans h3 (hL22.lc i hi), fun p hp i hi => ⟨Nat.le_trans h3 (hL22.parts p hp i hi).1, (hL22.parts p hp i hi).2⟩⟩

end Go.Th.L
end

section
/- The laws of chapter 13: CertChecks. -/
set_option linter.unusedSimpArgs false
set_option linter.unusedVariables false
set_option maxHeartbeats 1000000
namespace Go.Th.L
open Go Go.Th Go.Th.Pure Go.Sort
variable {P : Program} {N : Nat → Nat}

theorem LookA.lens {q : List Int} {x : Ans} (h : LookA q x) : x.hits.length ≤ 16384 ∧ x.seen.length ≤ 16384 ∧ x.rest.length ≤ 16384 ∧ ∀ g ∈ x.rest, g.lo.length ≤ 16384 ∧ g.hi.length ≤ 16384 ∧ g.ids.length ≤ 16384 := by
  have := h.tot
  unfold totA at this
  rw [List.take_length] at this
  refine ⟨by omega, by omega, by omega, fun g hg => ?_⟩
  have := sizeG_mem hg
  omega

theorem bool_iff {b c : Bool} {p : Prop} (h1 : b = true ↔ p) (h2 : c = true ↔ p) : (b == c) = true := by
  cases b <;> cases c
  · rfl
  · exact absurd (h1.mpr (h2.mp rfl)) (by simp)
  · exact absurd (h2.mpr (h1.mp rfl)) (by simp)
  · rfl

theorem law13_CertChecks.spec (hF : law13_CertChecks.Ok P N) (hL : law13_lent.Ok P N) (hA : keep_Answer.Ok P N) (hH : keep_Hits.Ok P N) (hI : keep_Ints.Spec P N) (hR : keep_Region.Ok P N) (hRef : RefOk P N) (hO : Law13Ok P N)
    {S : St} (hw : S.Wf) {v u a b c : V} {rs : List Row} {q : List Int} {k : Int} {x : Ans} (h : Given13 S v u a b c rs q x) {K : Bool → St → Prop} (hk : ∀ S', K true S') :
    CallA P (N Fn.law13_CertChecks) [v, u, .int .i64 k, ansV a b c] S (retT [.one .bool] K) := by
  refine law13_CertChecks.run hF (newS_mk hw fun S1 g1 mA n1 => ?_)
  have h1 := h.grow g1
  refine ⟨_, _, _, ldN mA (by simp) rfl, law13_big.spec hO.big hO.vecs h1.rows h1.rl h1.rv h1.vec h1.ql h1.ans h1.sz (ifC_tt rfl (hk _)) (fun hl => ifC_ff rfl ⟨_, _, _, ldN mA (by simp) rfl, ?_⟩)⟩
  obtain ⟨l1, l2, l3, l4⟩ := hl.lens
  refine law13_lent.spec hL g1.wf h1.ans l1 l2 l3 l4 fun a' b' c' ps S3 hLent => ?_
  have g3 := hLent.hits.grow
  have hown3 := hLent.ans
  refine newS_mk g3.wf fun S4 g4 m4 n4 => st_mk g4.wf m4 rfl (by simp [V.cells]) (by simp only [V.cells, List.all_cons, List.all_nil, hLent.hits.one, Built.one hLent.seen, hLent.rest.sl.one]; rfl) fun S5 u5 m5 n5 => ?_
  simp only [V.cells, over] at m5
  have g35 : Grow S3 S5 := g4.after u5 (fun i hi => by simp only [List.mem_singleton] at hi; exact .inl (by omega))
  have g15 : Grow S1 S5 := Upd.trans g3 g35
  have hown5 := hown3.grow g35
  have h5 := h1.grow g15
  have mA5 := g15.get mA
  by_cases hz : errTop q rs k = 0
  · refine ⟨_, _, _, ldN m5 (by simp) rfl, cert_Sound.spec hO.cert g15.wf h5.rows h5.vec hown5 (fun h => absurd hz h) fun _ s1 S6 i1 g6 => ?_⟩
    refine ⟨_, _, _, ldN (g6.get m5) (by simp) rfl, cert_Certain.spec hO.cert g6.wf (h5.grow g6).rows (h5.grow g6).vec (hown5.grow g6) (fun h => absurd hz h) fun _ s2 S7 i2 g7 => ?_⟩
    have g57 : Grow S5 S7 := Upd.trans g6 g7
    refine ⟨_, _, _, ldN (g57.get mA5) (by simp) rfl, ref13_Sound.spec hRef g57.wf hl.small (h5.grow g57).rows (h5.grow g57).vec (h5.grow g57).ans (fun h => absurd hz h) fun _ s3 S8 i3 g8 => ?_⟩
    have g58 : Grow S5 S8 := Upd.trans g57 g8
    refine ⟨_, _, _, ldN (g58.get mA5) (by simp) rfl, ref13_Certain.spec hRef g58.wf hl.small (h5.grow g58).rows (h5.grow g58).vec (h5.grow g58).ans (fun h => absurd hz h) fun _ s4 S9 i4 g9 => ?_⟩
    have g59 : Grow S5 S9 := Upd.trans g58 g9
    refine hO.awake _ _ (ifC_tt rfl (ifC_tt (bool_iff i1 i3) (ifC_pos rfl (ifC_tt (bool_iff i2 i4) (ifC_pos rfl ⟨_, _, _, ldN (g59.get m5) (by simp) rfl, _, _, _, ldN (g59.get mA5) (by simp) rfl, keep_Answer.spec hA hH hI hR (hown5.grow g59) (h5.grow g59).ans (hk _)⟩)))))
  · refine ⟨_, _, _, ldN m5 (by simp) rfl, cert_Sound.spec hO.cert g15.wf h5.rows h5.vec hown5 (fun _ S6 g6 => ?_) (fun h => absurd h hz)⟩
    refine ⟨_, _, _, ldN (g6.get m5) (by simp) rfl, cert_Certain.spec hO.cert g6.wf (h5.grow g6).rows (h5.grow g6).vec (hown5.grow g6) (fun _ S7 g7 => ?_) (fun h => absurd h hz)⟩
    have g57 : Grow S5 S7 := Upd.trans g6 g7
    refine ⟨_, _, _, ldN (g57.get mA5) (by simp) rfl, ref13_Sound.spec hRef g57.wf hl.small (h5.grow g57).rows (h5.grow g57).vec (h5.grow g57).ans (fun _ S8 g8 => ?_) (fun h => absurd h hz)⟩
    have g58 : Grow S5 S8 := Upd.trans g57 g8
    refine ⟨_, _, _, ldN (g58.get mA5) (by simp) rfl, ref13_Certain.spec hRef g58.wf hl.small (h5.grow g58).rows (h5.grow g58).vec (h5.grow g58).ans (fun _ S9 g9 => ?_) (fun h => absurd h hz)⟩
    have g59 : Grow S5 S9 := Upd.trans g58 g9
    refine hO.awake _ _ (ifC_tt rfl (ifC_tt rfl (ifC_tt (by simp) (ifC_tt rfl (ifC_tt (by simp) ⟨_, _, _, ldN (g59.get m5) (by simp) rfl, _, _, _, ldN (g59.get mA5) (by simp) rfl, keep_Answer.spec hA hH hI hR (hown5.grow g59) (h5.grow g59).ans (hk _)⟩)))))

end Go.Th.L
end
