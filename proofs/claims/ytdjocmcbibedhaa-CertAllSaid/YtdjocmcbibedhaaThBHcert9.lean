/- What the row of one statement stands on: a store, abstract code, functions of the program and their laws (ThHcert8, ThHcert9). -/
import Derived.Test.YtdjocmcbibedhaaThBHcert7
import Derived.Test.YtdjocmcbibedhaaThBHlaw03c
import Derived.Test.YtdjocmcbibedhaaThBGref13

section
/- The laws of chapter 13: what is looked at, awake, CertTrue, CertAll. -/
set_option linter.unusedSimpArgs false
set_option linter.unusedVariables false
set_option maxHeartbeats 1000000
namespace Go.Th.L
open Go Go.Th Go.Th.Pure Go.Sort
variable {P : Program} {N : Nat → Nat}

/-- Lengths that memory bounds. -/
structure SizedA (x : Ans) : Prop where
  hits : x.hits.length ≤ 17592186044416
  seen : x.seen.length ≤ 17592186044416
  rest : x.rest.length ≤ 17592186044416
  regs : ∀ g ∈ x.rest, g.lo.length ≤ 17592186044416 ∧ g.hi.length ≤ 17592186044416 ∧ g.ids.length ≤ 17592186044416
def sizeG (l : List Reg) : Nat := (l.map fun g => g.lo.length + g.hi.length + g.ids.length).sum
def totA (q : List Int) (x : Ans) (j : Nat) : Nat := q.length + x.hits.length + x.seen.length + x.rest.length + sizeG (x.rest.take j)
theorem sizeG_snoc {l : List Reg} {j : Nat} (h : j < l.length) : sizeG (l.take (j + 1)) = sizeG (l.take j) + (l[j].lo.length + l[j].hi.length + l[j].ids.length) := by
  unfold sizeG
  rw [List.take_add_one, List.getElem?_eq_getElem h, Option.toList_some, List.map_append, List.sum_append]
  simp
theorem restIds_size : ∀ (l : List Reg), (restIds l).length ≤ sizeG l
  | [] => by simp [restIds, sizeG]
  | g :: l => by
    have := restIds_size l
    rw [restIds_cons, List.length_append]
    simp only [sizeG, List.map_cons, List.sum_cons] at this ⊢
    omega
/-- What the laws look at. -/
structure LookA (q : List Int) (x : Ans) : Prop where
  tot : totA q x x.rest.length ≤ 16384

theorem LookA.small {q : List Int} {x : Ans} (h : LookA q x) : SmallA x := by
  have := h.tot
  unfold totA at this
  rw [List.take_length] at this
  have := restIds_size x.rest
  unfold SmallA; omega

theorem law13_big.spec (hF : law13_big.Ok P N) (hV : keep_Vectors.Spec P N) {v u a b c : V} {rs : List Row} {q : List Int} {x : Ans} {S : St} (hv : RowsAt S v rs) (hrl : rs.length ≤ 17592186044416) (hrv : ∀ r ∈ rs, r.2.length ≤ 17592186044416)
    (hu : IntsAt S u q) (hql : q.length ≤ 17592186044416) (hx : AnsAt S a b c x) (hz : SizedA x) {K : Bool → St → Prop} (h1 : K true S) (h0 : LookA q x → K false S) : CallA P (N Fn.law13_big) [v, u, ansV a b c] S (retT [.one .bool] K) := by
  refine CallA.gcT (ds := [.one .bool]) rfl (CallA.wfT fun hw => ?_)
  have hv := hv.ro
  have hx := hx.ro
  have hu := hu.ro
  obtain ⟨z1, z2, z3, z4⟩ := hz
  refine law13_big.run hF (newS_mk hw fun S1 g1 mA n1 => ?_)
  have hx := hx.grow g1
  have hu := hu.grow g1
  have hv := hv.grow g1
  obtain ⟨ps, hc⟩ := hx.rest
  refine ⟨_, hu.len, ifS_mk (ld mA rfl) ⟨_, hx.hits.at_.len, setI_mk (n := ((q.length + x.hits.length : Nat) : Int)) (by rw [IntKind.wrap_i64]; omega) (ifS_mk (ld mA rfl) ⟨_, hx.seen.len, setI_mk (n := ((q.length + x.hits.length + x.seen.length : Nat) : Int)) (by rw [IntKind.wrap_i64]; omega) (ifS_mk (ld mA rfl) ⟨_, hc.length, setI_mk (n := ((totA q x 0 : Nat) : Int)) (by rw [IntKind.wrap_i64]; simp only [totA, List.take_zero, sizeG, List.map_nil, List.sum_nil]; omega) ?_⟩)⟩)⟩⟩
  refine Join1.mid (fun t S' => S' = S1 ∧ (t ≤ 16384 → LookA q x)) ?_ ?_
  · refine Loop2.ind (fun n t z S' => S' = S1 ∧ ∃ j : Nat, z = j ∧ j + n = x.rest.length ∧ t = (totA q x j : Nat)) x.rest.length ⟨rfl, 0, rfl, by omega, rfl⟩ ?_
    rintro n _ _ S3 ⟨rfl, j, rfl, hj, rfl⟩
    refine Join0.mid (fun S' => S' = S3 ∧ j < x.rest.length ∧ totA q x j ≤ 16384) (ifS_mk (ld mA rfl) ⟨_, hc.length, ifC_dec (fun h2 => ifC_dec (fun h3 => ⟨rfl, by omega, by omega⟩) (fun h3 => ⟨rfl, fun h => absurd h h3⟩)) (fun h2 => ⟨rfl, fun h => ⟨?_⟩⟩)⟩) ?_
    · have : j = x.rest.length := by omega
      subst this; omega
    · rintro S4 ⟨rfl, hjl, ht⟩
      obtain ⟨b1, b2, b3⟩ := z4 _ (List.getElem_mem hjl)
      have hR := hc.reg hjl
      refine ifS_mk (ld mA rfl) (ifS_mk (hc.idx hjl) (ifS_mk (hc.fld hjl 1) (ifS_mk (hc.lo hjl) ⟨_, hR.lo.len, setI_mk (n := ((totA q x j + x.rest[j].lo.length : Nat) : Int)) (by rw [IntKind.wrap_i64]; omega) (ifS_mk (ld mA rfl) (ifS_mk (hc.idx hjl) (ifS_mk (hc.fld hjl 2) (ifS_mk (hc.hi hjl) ⟨_, hR.hi.len, setI_mk (n := ((totA q x j + x.rest[j].lo.length + x.rest[j].hi.length : Nat) : Int)) (by rw [IntKind.wrap_i64]; omega)
        (ifS_mk (ld mA rfl) (ifS_mk (hc.idx hjl) (ifS_mk (hc.fld hjl 5) (ifS_mk (hc.ids hjl) ⟨_, hR.ids.len, setI_mk (n := ((totA q x (j + 1) : Nat) : Int)) ?_ (setI_mk (wrap_succ (by omega)) ⟨n - 1, by omega, rfl, j + 1, rfl, by omega, rfl⟩)⟩))))⟩))))⟩)))
      rw [IntKind.wrap_i64]
      simp only [totA] at ht ⊢
      rw [sizeG_snoc hjl]
      omega
  · rintro t S2 ⟨rfl, ht⟩
    obtain ⟨ws, hv'⟩ := hv
    refine ifC_dec (fun _ => h1) (fun h2 => ⟨_, hv'.length, ifC_dec (fun _ => h1) (fun h3 => hV v rs 16384 _ _ ⟨ws, hv'⟩ hrl hrv (by omega) fun n hn => ?_)⟩)
    by_cases h4 : 16384 < n
    · rw [decide_eq_true h4]; exact h1
    · rw [decide_eq_false h4]; exact h0 (ht (by omega))

/-! ## the chapter's example -/
abbrev rows13 : List Row := [(1, [0]), (2, [5]), (3, [9])]
abbrev told13 (n : Int) : Ans := ⟨[⟨1, 0, 0⟩], [1], [⟨2, [n], [9], 0, [2, 3]⟩]⟩

theorem slAt_new {S : St} {i k n : Nat} {cs : List V} {own : Bool} (h : S.get i = some (.cells cs own)) (hl : cs.length = n * k) (hn : n ≤ 4611686018427387904) : SlAt S k (.slice i 0 n n k true) n cs :=
  ⟨hn, hl, .inr ⟨i, 0, n, true, rfl, Nat.le_refl _, by rw [St.loads_of h (by omega), List.drop_zero, List.take_of_length_le (by omega)]⟩⟩

theorem law13_rows.spec (hF : law13_rows.Ok P N) {S : St} (hw : S.Wf) {K : V → St → Prop} (hk : ∀ v S', Grow S S' → RowsAt S' v rows13 → K v S') : CallA P (N Fn.law13_rows) [] S (retT [.one .any] K) := by
  refine law13_rows.run hF (newS_mk hw fun S1 g1 m1 n1 => ⟨rfl, newS_mk g1.wf fun S2 g2 m2 n2 => ⟨rfl, newS_mk g2.wf fun S3 g3 m3 n3 => ⟨rfl, newS_mk g3.wf fun S4 g4 m4 n4 => hk _ _ (((g1.trans g2).trans g3).trans g4) ?_⟩⟩⟩)
  refine ⟨[.slice S.next 0 1 1 1 true, .slice S1.next 0 1 1 1 true, .slice S2.next 0 1 1 1 true], rfl, ⟨slAt_new m4 rfl (by decide), rowsC_two⟩, ?_⟩
  intro j h1 h2
  match j, h1, h2 with
  | 0, _, _ => exact lit_ints [0] (g4.get (g3.get (g2.get m1))) (by decide)
  | 1, _, _ => exact lit_ints [5] (g4.get (g3.get m2)) (by decide)
  | 2, _, _ => exact lit_ints [9] (g4.get m3) (by decide)

theorem law13_told.spec (hF : law13_told.Ok P N) {S : St} (hw : S.Wf) {n : Int} {K : V → V → V → St → Prop} (hk : ∀ a b c S', Grow S S' → AnsAt S' a b c (told13 n) → K a b c S') : CallA P (N Fn.law13_told) [.int .i64 n] S (retT [.agg [.any, .any, .any]] K) := by
  refine law13_told.run hF (newS_mk hw fun S1 g1 m1 n1 => newS_mk g1.wf fun S2 g2 m2 n2 => newS_mk g2.wf fun S3 g3 m3 n3 => newS_mk g3.wf fun S4 g4 m4 n4 => newS_mk g4.wf fun S5 g5 m5 n5 => newS_mk g5.wf fun S6 g6 m6 n6 => ⟨rfl, rfl, rfl, newS_mk g6.wf fun S7 g7 m7 n7 => ⟨rfl, rfl, rfl, ?_⟩⟩)
  have g17 : Grow S1 S7 := ((((g2.trans g3).trans g4).trans g5).trans g6).trans g7
  refine st_mk g7.wf (g17.get m1) rfl (by simp [V.cells]) rfl fun S8 u8 m8 n8 => ?_
  simp only [V.cells, over] at m8
  refine ⟨_, _, _, ldC m8 (by simp) rfl, hk _ _ _ _ ((g1.trans g17).after u8 (fun i hi => by simp only [List.mem_singleton] at hi; exact .inl (by omega))) ?_⟩
  have e : ∀ {i : Nat} {b : Blk}, S7.get i = some b → i ≠ S.next → S8.get i = some b := fun h hne => u8.get h (by simpa using hne)
  refine ⟨HitsAt.mk (slAt_new (e (g7.get (g6.get (g5.get (g4.get (g3.get m2))))) (by omega)) rfl (by decide)), lit_ints [1] (e (g7.get (g6.get (g5.get (g4.get m3)))) (by omega)) (by decide), ?_⟩
  refine ⟨[⟨.slice S3.next 0 1 1 1 true, .slice S4.next 0 1 1 1 true, .slice S5.next 0 2 2 1 true, 0, 0⟩], rfl, ⟨slAt_new (e m7 (by omega)) rfl (by decide), regsC_six⟩, ?_⟩
  have w0 : Wok 0 0 := ⟨by omega, by omega, by omega, by omega⟩
  have hreg : RegAt S8 (.slice S3.next 0 1 1 1 true) (.slice S4.next 0 1 1 1 true) (.slice S5.next 0 2 2 1 true) 0 0 ⟨2, [n], [9], 0, [2, 3]⟩ :=
    ⟨lit_ints [n] (e (g7.get (g6.get (g5.get m4))) (by omega)) (show 1 ≤ 4611686018427387904 by decide), lit_ints [9] (e (g7.get (g6.get m5)) (by omega)) (by decide), lit_ints [2, 3] (e (g7.get m6) (by omega)) (by decide), w0, rfl⟩
  intro j h1 h2
  match j, h1, h2 with
  | 0, _, _ => exact hreg

theorem top13 : errTop [0] rows13 1 = 0 := by decide +kernel
theorem told13_hits : [⟨1, 0, 0⟩] = best 1 (hitsOf [0] ([1].map (rowOf rows13))) := by decide +kernel
theorem told13_perm : ([1] ++ restIds [⟨2, [0], [9], 0, [2, 3]⟩]).Perm (idsOf rows13) := by decide +kernel
theorem sound13 {n : Int} (h : errReg ⟨2, [n], [9], 0, [2, 3]⟩ 1 = 0) (hn : n ≤ 5) : SoundA rows13 [0] 1 (told13 n) := by
  refine ⟨fun i h1 h2 => by simp at h2; omega, ?_, told13_perm, told13_hits⟩
  intro g hg
  simp only [List.mem_singleton] at hg
  subst hg
  refine ⟨by simp, h, ?_⟩
  intro i hi
  have e2 : rowOf rows13 2 = (2, [5]) := by decide +kernel
  have e3 : rowOf rows13 3 = (3, [9]) := by decide +kernel
  simp only [List.mem_cons, List.not_mem_nil, or_false] at hi
  unfold InReg
  rw [if_pos rfl]
  intro j hj
  rcases hi with rfl | rfl
  · rw [e2] at hj ⊢
    have : j = 0 := by simp at hj; omega
    subst this; simp; omega
  · rw [e3] at hj ⊢
    have : j = 0 := by simp at hj; omega
    subst this; simp; omega
theorem cert13_5 : CertA rows13 [0] 1 (told13 5) := by
  refine ⟨sound13 (by decide +kernel) (by omega), ?_⟩
  intro g hg
  simp only [List.mem_singleton] at hg
  subst hg
  exact ⟨by simp, 25, .inl ⟨rfl, by decide +kernel⟩, by decide +kernel⟩
theorem cert13_0 : ¬ CertA rows13 [0] 1 (told13 0) := by
  rintro ⟨_, h⟩
  obtain ⟨_, n, h1, h2⟩ := h _ (List.mem_singleton.mpr rfl)
  have := IsNear.unique h1 (m := 0) (.inl ⟨rfl, by decide +kernel⟩)
  subst this
  have : farH ((told13 0).hits.getD (1 - 1) default) = 0 := by decide +kernel
  omega
theorem sound13_6 : ¬ SoundA rows13 [0] 1 (told13 6) := by
  rintro ⟨_, h, _⟩
  have := (h _ (List.mem_singleton.mpr rfl)).2.2 2 (by simp)
  exact absurd this (by decide +kernel)

theorem law13_awake.spec (hF : law13_awake.Ok P N) (hR : law13_rows.Ok P N) (hT : law13_told.Ok P N) (hO : CertOk P N) : AwakeF P (N Fn.law13_awake) := by
  intro S K hk
  refine CallA.gcT (ds := [.one .bool]) rfl (CallA.wfT fun hw => ?_)
  refine law13_awake.run hF (law13_rows.spec hR hw fun v1 S1 g1 r1 => newS_mk g1.wf fun S2 g2 m2 n2 => law13_told.spec hT g2.wf fun a1 b1 c1 S3 g3 t1 => cert_Certain.spec hO g3.wf (r1.grow (g2.trans g3)) (lit_ints [0] (g3.get m2) (by decide)) t1 (fun h => absurd top13 h) fun _ d1 S4 i1 g4 => ?_)
  refine law13_rows.spec hR g4.wf fun v2 S5 g5 r2 => newS_mk g5.wf fun S6 g6 m6 n6 => law13_told.spec hT g6.wf fun a2 b2 c2 S7 g7 t2 => cert_Certain.spec hO g7.wf (r2.grow (g6.trans g7)) (lit_ints [0] (g7.get m6) (by decide)) t2 (fun h => absurd top13 h) fun _ d2 S8 i2 g8 => ?_
  refine law13_rows.spec hR g8.wf fun v3 S9 g9 r3 => newS_mk g9.wf fun S10 g10 m10 n10 => law13_told.spec hT g10.wf fun a3 b3 c3 S11 g11 t3 => cert_Sound.spec hO g11.wf (r3.grow (g10.trans g11)) (lit_ints [0] (g11.get m10) (by decide)) t3 (fun h => absurd top13 h) fun _ d3 S12 i3 g12 => ?_
  refine law13_rows.spec hR g12.wf fun v4 S13 g13 r4 => newS_mk g13.wf fun S14 g14 m14 n14 => law13_told.spec hT g14.wf fun a4 b4 c4 S15 g15 t4 => cert_Sound.spec hO g15.wf (r4.grow (g14.trans g15)) (lit_ints [0] (g15.get m14) (by decide)) t4 (fun h => absurd top13 h) fun _ d4 S16 i4 g16 => ?_
  have e1 : d1 = true := i1.mpr cert13_5
  have e2 : d2 = false := by cases d2 with | false => rfl | true => exact absurd (i2.mp rfl) cert13_0
  have e3 : d3 = true := i3.mpr (sound13 (by decide +kernel) (by omega))
  have e4 : d4 = false := by cases d4 with | false => rfl | true => exact absurd (i4.mp rfl) sound13_6
  subst e1; subst e2; subst e3; subst e4
  exact ifC_pos rfl (ifC_pos rfl (ifC_pos rfl (ifC_pos rfl (ifC_tt rfl (ifC_tt rfl (ifC_tt rfl hk))))))

/-- What the laws need. -/
structure Law13Ok (P : Program) (N : Nat → Nat) : Prop where
  cert : CertOk P N
  big : law13_big.Ok P N
  vecs : keep_Vectors.Spec P N
  awake : AwakeF P (N Fn.law13_awake)

/-- What a law is given. -/
structure Given13 (S : St) (v u a b c : V) (rs : List Row) (q : List Int) (x : Ans) : Prop where
  rows : RowsAt S v rs
  rl : rs.length ≤ 17592186044416
  rv : ∀ r ∈ rs, r.2.length ≤ 17592186044416
  vec : IntsAt S u q
  ql : q.length ≤ 17592186044416
  ans : AnsAt S a b c x
  sz : SizedA x
theorem Given13.grow {S S' : St} {v u a b c : V} {rs : List Row} {q : List Int} {x : Ans} (h : Given13 S v u a b c rs q x) (g : Grow S S') : Given13 S' v u a b c rs q x := ⟨h.rows.grow g, h.rl, h.rv, h.vec.grow g, h.ql, h.ans.grow g, h.sz⟩

end Go.Th.L
end

section
/- The laws of chapter 13: CertAll. -/
set_option linter.unusedSimpArgs false
set_option linter.unusedVariables false
set_option maxHeartbeats 1000000
namespace Go.Th.L
open Go Go.Th Go.Th.Pure Go.Sort
variable {P : Program} {N : Nat → Nat}

theorem nil_hits (S : St) : HitsAt S .nilSlice [] := HitsAt.mk ⟨by simp, rfl, .inl ⟨rfl, rfl⟩⟩
theorem nil_ints (S : St) : IntsAt S .nilSlice [] := ⟨by simp, rfl, .inl ⟨rfl, rfl⟩⟩
theorem nil_regs (S : St) : RegsAt S .nilSlice [] := ⟨[], rfl, ⟨⟨by simp [regsC], by simp [regsC], .inl ⟨rfl, rfl⟩⟩, by simp [regsC]⟩, fun j h => by simp at h⟩

theorem law13_CertAll.spec (hF : law13_CertAll.Ok P N) (hI : ref03_Ids.Spec P N) (hO : Law13Ok P N) {S : St} (hw : S.Wf) {v u : V} {rs : List Row} {q : List Int} {k : Int} (hv : RowsAt S v rs) (hrl : rs.length ≤ 17592186044416) (hrv : ∀ r ∈ rs, r.2.length ≤ 17592186044416)
    (hu : IntsAt S u q) (hql : q.length ≤ 17592186044416) {K : Bool → St → Prop} (hk : ∀ S', K true S') : CallA P (N Fn.law13_CertAll) [v, u, .int .i64 k] S (retT [.one .bool] K) := by
  refine law13_CertAll.run hF (law13_big.spec hO.big hO.vecs (x := ⟨[], [], []⟩) hv hrl hrv hu hql ⟨nil_hits S, nil_ints S, nil_regs S⟩ ⟨by simp, by simp, by simp, by simp⟩ (ifC_tt rfl (hk _)) (fun _ => ifC_ff rfl ?_))
  refine flat_TopK.spec hO.cert.top hw hv hu (fun hz S2 g2 => ifC_ndec (fun _ => hO.awake _ _ (hk _)) (fun h => absurd h hz)) (fun hz v' S2 hB => ifC_ndec (fun h => absurd rfl h) (fun _ => ?_))
  obtain ⟨hask, hk1, hk64⟩ := errTop_zero hz
  have g2 := hB.grow
  refine hI v rs S2 _ g2.wf (hv.grow g2) (errAsk_512 hask) fun ids S4 hBi => ⟨hB.acc.at_.cells1, hBi.acc.at_.cells1, ?_⟩
  have g4 : Grow S S4 := Upd.trans g2 hBi.grow
  have hids4 := BuiltI.at_ hBi
  refine cert_Certain.spec hO.cert g4.wf (hv.grow g4) (hu.grow g4) (x := ⟨best k.toNat (hitsOf q rs), idsR rs, []⟩) ⟨hB.hits.grow hBi.grow, hids4, nil_regs S4⟩ (fun h => absurd hz h) fun _ cb S5 hcb g5 => ?_
  have hc1 : cb = true := hcb.mpr (cert_all hask)
  subst hc1
  have g05 : Grow S S5 := Upd.trans g4 g5
  have hids5 := hids4.grow g5
  refine newS_mk g5.wf fun S6 g6 m6 n6 => st_mk g6.wf m6 rfl (by simp [V.cells]) rfl fun S7 u7 m7 n7 => ?_
  simp only [V.cells, over] at m7
  have g57 : Grow S5 S7 := g6.after u7 (fun i hi => by simp only [List.mem_singleton] at hi; exact .inl (by omega))
  have hids7 := hids5.grow g57
  refine Join0.mid (fun S' => Grow S5 S' ∧ ∃ c3, S'.get S5.next = some (.cells [.nilSlice, .nilSlice, c3] true) ∧ AnsAt S' .nilSlice .nilSlice c3 (noneA rs)) ⟨_, hids7.len, ifC_dec (fun h1 => ?_) (fun h1 => ?_)⟩ ?_
  · have hne : rs ≠ [] := fun h => by rw [idsR_nil.mpr h] at h1; simp at h1
    refine ⟨hids7.cells1, newS_mk g57.wf fun S9 g9 m9 n9 => st_mk g9.wf (g9.get m7) rfl (by simp [V.cells]) rfl fun S10 u10 m10 n10 => ?_⟩
    simp only [V.cells, over] at m10
    have g510 : Grow S5 S10 := (Upd.trans g57 g9).after u10 (fun i hi => by simp only [List.mem_singleton] at hi; exact .inl (by omega))
    refine ⟨g510, _, m10, nil_hits S10, nil_ints S10, ?_⟩
    have m9' : S10.get S7.next = some (.cells [.int .i64 1, .nilSlice, .nilSlice, .int .u64 0, .int .u64 0, ids] true) := u10.get m9 (by simp only [List.mem_singleton]; omega)
    have hreg : RegAt S10 .nilSlice .nilSlice ids 0 0 ⟨1, [], [], 0, idsR rs⟩ := ⟨nil_ints S10, nil_ints S10, hids5.grow g510, ⟨by omega, by omega, by omega, by omega⟩, rfl⟩
    simp only [noneA, if_neg hne]
    refine ⟨[⟨.nilSlice, .nilSlice, ids, 0, 0⟩], rfl, ⟨slAt_new m9' rfl (by decide), regsC_six⟩, ?_⟩
    intro j h2 h3
    match j, h2, h3 with
    | 0, _, _ => exact hreg
  · have he : rs = [] := idsR_nil.mp (List.length_eq_zero_iff.mp (by omega))
    refine ⟨g57, _, m7, nil_hits S7, nil_ints S7, ?_⟩
    simp only [noneA, if_pos he]
    exact nil_regs S7
  rintro S8 ⟨g58, c3, m8, hans8⟩
  have g08 : Grow S S8 := Upd.trans g05 g58
  refine ⟨_, _, _, ldN m8 (by simp) rfl, cert_Sound.spec hO.cert g58.wf (hv.grow g08) (hu.grow g08) hans8 (fun h => absurd hz h) fun _ sb S11 hsb g11 => ?_⟩
  have hs1 : sb = true := hsb.mpr (none_sound hask)
  subst hs1
  have g011 : Grow S S11 := Upd.trans g08 g11
  refine ⟨_, _, _, ldN (g11.get m8) (by simp) rfl, cert_Certain.spec hO.cert g11.wf (hv.grow g011) (hu.grow g011) (hans8.grow g11) (fun h => absurd hz h) fun _ db S12 hdb g12 => hO.awake _ _ (ifC_tt rfl (ifC_pos rfl (ifC_pos rfl (ifC_pos rfl (ifC_tt rfl (ifC_tt rfl ?_))))))⟩
  rw [none_cert hask (by omega)] at hdb
  have hlen := (hids5.grow (Upd.trans g58 (Upd.trans g11 g12))).len
  refine ⟨_, hlen, ?_⟩
  have e : (db == decide (((idsR rs).length : Int) = 0)) = true := by
    have h1 : (((idsR rs).length : Int) = 0) ↔ rs = [] := by
      rw [← idsR_nil, ← List.length_eq_zero_iff]; omega
    cases db with
    | true => have := hdb.mp rfl; simp [h1.mpr this]
    | false =>
      have : ¬ rs = [] := fun h => by have := hdb.mpr h; cases this
      have h2 : ¬ ((idsR rs).length : Int) = 0 := fun h => this (h1.mp h)
      rw [decide_eq_false h2]; rfl
  rw [e]; exact hk _

end Go.Th.L
end
