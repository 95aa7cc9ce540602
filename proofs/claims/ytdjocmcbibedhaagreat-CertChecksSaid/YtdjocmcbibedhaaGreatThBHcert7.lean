/- What the row of one statement stands on: a store, abstract code, functions of the program and their laws (ThHcert6, ThHcert7). -/
import Derived.Test.YtdjocmcbibedhaaGreatThBHcert5
import Derived.Test.YtdjocmcbibedhaaGreatThBGslicesInt

section
/- The reference's sound and certain answers. -/
set_option linter.unusedSimpArgs false
set_option linter.unusedVariables false
set_option maxHeartbeats 1000000
namespace Go.Th.L
open Go Go.Th Go.Th.Pure Go.Sort
variable {P : Program} {N : Nat → Nat}

theorem RegsAt'.ro {S : St} {v : V} {gs : List Reg} {ps : List RP} (h : RegsAt' S v gs ps) : RegsAt' S.ro v gs ps :=
  ⟨h.len, ⟨SlAt.ro h.sl.1, h.sl.2⟩, fun j hr hw => (h.at_ j hr hw).ro⟩
theorem AnsAt.ro {S : St} {a b c : V} {x : Ans} (h : AnsAt S a b c x) : AnsAt S.ro a b c x := ⟨h.hits.ro, h.seen.ro, let ⟨ps, h⟩ := h.rest; ⟨ps, h.ro⟩⟩

theorem ff_iff {p : Prop} (h : ¬ p) : (false = true ↔ p) := ⟨fun h1 => Bool.noConfusion h1, fun h' => absurd h' h⟩
theorem tt_iff {p : Prop} (h : p) : (true = true ↔ p) := ⟨fun _ => h, fun _ => rfl⟩

structure RefOk (P : Program) (N : Nat → Nat) : Prop where
  find : ref05_find.Ok P N
  region : ref05_region.Ok P N
  sound : ref05_Sound.Ok P N
  certain : ref05_Certain.Ok P N
  topk : ref05_TopK.Ok P N
  hits : ref05_Hits.Ok P N
  first : ref05_First.Ok P N
  asked : AsksOk P (N Fn.ref05_Asked)
  far : FarOk P (N Fn.ref03_Far)
  before : ref05_Before.Spec P N
  reg : ChecksReg P (N Fn.ref03_CheckRegion)
  inn : ref03_In.Ok P N
  less : ref01_Less.Spec P N
  near : ref03_Near.Spec P N
  wth : ref03_With.Spec P N
  ids : ref03_Ids.Spec P N
  ints : ref03_Ints.Spec P N
  sound13 : ref13_Sound.Ok P N
  certain13 : ref13_Certain.Ok P N
  asked13 : ref13_Asked.Ok P N

theorem ref05_region.spec (hO : RefOk P N) {S : St} {v : V} {rs : List Row} {q : List Int} (hask : errAsk q rs = 0) (hv : RowsAt S v rs) {a b c : V} {h l : Int} {g : Reg} (hr : RegAt S a b c h l g)
    {K : Bool → St → Prop} (hk : ∀ b : Bool, (b = true ↔ RegIn rs q g ∧ ∀ i ∈ g.ids, i ∈ idsOf rs) → K b S) : CallA P (N Fn.ref05_region) [v, regV g.shape a b h l c, .int .i64 q.length] S (retT [.one .bool] K) := by
  refine CallA.gcT (ds := [.one .bool]) rfl (CallA.wfT fun hw => ?_)
  obtain ⟨ws, hv0⟩ := hv
  have hv1 := hv0.ro
  have hr1 := hr.ro
  have hn := errAsk_nodup hask
  refine ref05_region.run hO.region (newS_mk hw fun S1 g1 m1 n1 => ?_)
  have hv1 := hv1.grow g1
  have hr1 := hr1.grow g1
  have no : ∀ S', ¬ (RegIn rs q g ∧ ∀ i ∈ g.ids, i ∈ idsOf rs) → atS (flats [.one .bool]) K S false S' := fun S' h => hk false (ff_iff h)
  have hidl := hr1.ids.le
  refine Join0.mid (fun S' => S' = S1 ∧ errReg g q.length = 0 ∧ g.ids ≠ []) ⟨_, _, _, _, _, _, ldN m1 (by simp) rfl, hO.reg g _ _ _ _ _ _ _ _ hr1 (ifC_ndec (fun h1 => no _ fun h => h1 h.1.2.1) (fun h1 => ifS_mk (ld m1 rfl) ⟨_, hr1.ids.len, ifC_dec (fun h2 => no _ fun h => h.1.1 (List.length_eq_zero_iff.mp (by omega))) (fun h2 => ⟨rfl, h1, fun h => by rw [h] at h2; simp at h2⟩)⟩))⟩ ?_
  rintro S2 ⟨rfl, hz, hne⟩
  refine Loop1.ind (fun m z S' => S' = S2 ∧ ∃ j : Nat, z = j ∧ j + m = g.ids.length ∧ ∀ i ∈ g.ids.take j, i ∈ idsOf rs ∧ InReg g (rowOf rs i).2) g.ids.length ⟨rfl, 0, rfl, by omega, by simp⟩ ?_
  rintro m _ S' ⟨rfl, j, rfl, hj, hall⟩
  refine ifS_mk (ld m1 rfl) ⟨_, hr1.ids.len, ifC_dec (fun hlt => ?_) (fun hge => ?_)⟩
  · have hjl : j < g.ids.length := by omega
    refine ifS_mk (ld m1 rfl) (ifS_mk (IntsAt.idx hr1.ids hjl) ⟨_, IntsAt.get hr1.ids hjl, ref05_find.spec hO.find hv1 (fun t ht he => ifC_neg (by omega) ?_) (fun h => ifC_pos (by omega) (no _ fun h' => h (h'.2 _ (List.getElem_mem hjl))))⟩)
    have hrow : rowOf rs g.ids[j] = rs[t] := by rw [← he]; exact rowOf_of hn (List.getElem_mem ht)
    have hin : g.ids[j] ∈ idsOf rs := by rw [← he]; exact List.mem_map.mpr ⟨_, List.getElem_mem ht, rfl⟩
    obtain ⟨d1, d2, d3⟩ := errAsk_row hask (List.getElem_mem ht)
    have hboth : errBoth g rs[t].2 = 0 := by
      unfold errBoth; rw [d1, hz, if_neg (by simp), ← d1]; exact d2
    refine ⟨_, _, _, _, _, _, ldN m1 (by simp) rfl, ifS_mk (hv1.idx ht) (ifS_mk (hv1.fld ht 1) (ifS_mk (hv1.vec ht) (ref03_In.spec hO.inn hO.far hO.less hr1 (hv1.at_ ht) hboth (ifC_ndec (fun h1 => no _ fun h => ?_) (fun h1 => setI_mk (wrap_succ (by omega)) ⟨m - 1, by omega, rfl, j + 1, rfl, by omega, ?_⟩)))))⟩
    · have := h.1.2.2 _ (List.getElem_mem hjl)
      rw [hrow] at this; exact h1 this
    · rw [List.take_add_one, List.getElem?_eq_getElem hjl, Option.toList_some]
      intro i hi
      rcases List.mem_append.mp hi with hi | hi
      · exact hall i hi
      · simp only [List.mem_singleton] at hi; subst hi; exact ⟨hin, by rw [hrow]; exact h1⟩
  · rw [List.take_of_length_le (by omega)] at hall
    exact hk true (tt_iff ⟨⟨hne, hz, fun i hi => (hall i hi).2⟩, fun i hi => (hall i hi).1⟩)

theorem ref05_Certain.spec (hO : RefOk P N) {S : St} {u a b c : V} {rs : List Row} {q : List Int} {k : Nat} {x : Ans} (hask : errAsk q rs = 0) (hk1 : 1 ≤ k) (hu : IntsAt S u q) (hx : AnsAt S a b c x) (hs : SoundA rs q k x)
    {K : Bool → St → Prop} (hk : ∀ b : Bool, (b = true ↔ CertA rs q k x) → K b S) : CallA P (N Fn.ref05_Certain) [u, .int .i64 k, ansV a b c] S (retT [.one .bool] K) := by
  refine CallA.gcT (ds := [.one .bool]) rfl (CallA.wfT fun hw => ?_)
  have hx1 := hx.ro
  obtain ⟨ps, hc1⟩ := hx1.rest
  refine ref05_Certain.run hO.certain (newS_mk hw fun S1 g1 mA n1 => ?_)
  have hu1 := hu.ro.grow g1
  have hc1 := hc1.grow g1
  have hh1 := hx1.hits.grow g1
  have hrl := hc1.le
  have hhl := hh1.at_.le
  have no : ∀ S', ¬ CertA rs q k x → atS (flats [.one .bool]) K S false S' := fun S' h => hk false (ff_iff h)
  refine ifS_mk (ld mA rfl) ⟨_, hc1.length, ifC_dec (fun h0 => ?_) (fun h0 => ?_)⟩
  · have : x.rest = [] := List.length_eq_zero_iff.mp (by omega)
    exact hk true (tt_iff ⟨hs, by rw [this]; simp⟩)
  have hr0 : 0 < x.rest.length := by omega
  refine ifS_mk (ld mA rfl) ⟨_, hh1.at_.len, ifC_dec (fun h1 => no _ fun h => ?_) (fun h1 => ?_)⟩
  · have := (h.2 _ (List.getElem_mem hr0)).1; omega
  have hkl : k - 1 < x.hits.length := by omega
  have hwk := sound_hit hask hs (List.getElem_mem hkl)
  have hfar : x.hits.getD (k - 1) default = x.hits[k - 1] := by simp [List.getD_eq_getElem?_getD, List.getElem?_eq_getElem hkl]
  refine Loop1.ind (fun m z S' => S' = S1 ∧ ∃ j : Nat, z = j ∧ j + m = x.rest.length ∧ ∀ g ∈ x.rest.take j, k ≤ x.hits.length ∧ ∃ n, IsNear g q n ∧ farH (x.hits.getD (k - 1) default) < n) x.rest.length ⟨rfl, 0, rfl, by omega, by simp⟩ ?_
  rintro m _ S2 ⟨rfl, j, rfl, hj, hall⟩
  refine ifS_mk (ld mA rfl) ⟨_, hc1.length, ifC_dec (fun hlt => ?_) (fun hge => ?_)⟩
  · have hjl : j < x.rest.length := by omega
    obtain ⟨b1, b2, b3⟩ := hs.2.1 _ (List.getElem_mem hjl)
    have hboth : errBoth x.rest[j] q = 0 := by
      unfold errBoth; rw [b2, if_neg (by simp)]; exact (errAsk_zero hask).1
    refine ifS_mk (ld mA rfl) (setI_mk (n := ((k - 1 : Nat) : Int)) (by rw [IntKind.wrap_i64]; omega) (ifS_mk (hh1.idx hkl) (ifS_mk (hh1.sl.fld (by rw [hitsE_len]; exact hkl) 1) ⟨_, _, HitsAt.far hh1 hkl, ifS_mk (ld mA rfl) (ifS_mk (hc1.idx hjl) ⟨_, _, _, _, _, _, hc1.all hjl, hO.near x.rest[j] _ _ _ _ _ _ _ _ _ (hc1.reg hjl) hu1 hboth fun nh nl hnw hnear => ⟨Same.refl _ _, hO.less _ _ _ _ _ _ hwk hnw (sameK_refl (ifC_ndec (fun h2 => no _ fun h => ?_) (fun h2 => setI_mk (wrap_succ (by omega)) ⟨m - 1, by omega, rfl, j + 1, rfl, by omega, ?_⟩)))⟩⟩)⟩)))
    · obtain ⟨_, t, ht1, ht2⟩ := h.2 _ (List.getElem_mem hjl)
      rw [hfar, IsNear.unique ht1 hnear] at ht2
      exact h2 ht2
    · rw [List.take_add_one, List.getElem?_eq_getElem hjl, Option.toList_some]
      intro g hg
      rcases List.mem_append.mp hg with hg | hg
      · exact hall g hg
      · simp only [List.mem_singleton] at hg; subst hg
        refine ⟨by omega, _, hnear, ?_⟩
        rw [hfar]; exact h2
  · rw [List.take_of_length_le (by omega)] at hall
    exact hk true (tt_iff ⟨hs, hall⟩)

end Go.Th.L
end

section
/- The reference's sound answers, whole; chapter 13's. -/
set_option linter.unusedSimpArgs false
set_option linter.unusedVariables false
set_option maxHeartbeats 1000000
namespace Go.Th.L
open Go Go.Th Go.Th.Pure Go.Sort
variable {P : Program} {N : Nat → Nat}

theorem sortI_perm_iff {l m : List Int} : sortI l = sortI m ↔ l.Perm m :=
  ⟨fun h => (sortI_perm l).symm.trans (h ▸ sortI_perm m), fun h => srtI_unique ((sortI_perm l).trans (h.trans (sortI_perm m).symm)) (sortI_srt l) (sortI_srt m)⟩

theorem BuiltI_nil {S : St} (hw : S.Wf) {l : List Int} : BuiltI S S .nilSlice (sortI (l.take 0)) := Built.nil (Upd.refl hw []) 1

def SmallA (x : Ans) : Prop := x.seen.length + (restIds x.rest).length ≤ 100000

theorem restIds_le {l : List Reg} {n : Nat} : (restIds (l.take n)).length ≤ (restIds l).length := by
  conv => rhs; rw [← List.take_append_drop n l, restIds_append, List.length_append]
  omega

theorem ref05_Sound.spec (hO : RefOk P N) {S : St} (hw0 : S.Wf) {v u a b c : V} {rs : List Row} {q : List Int} {k : Nat} {x : Ans} (hask : errAsk q rs = 0) (hk1 : 1 ≤ k) (hk64 : k ≤ 64) (hsm : SmallA x) (hv : RowsAt S v rs) (hu : IntsAt S u q) (hx : AnsAt S a b c x)
    {K : Bool → St → Prop} (hk : ∀ b : Bool, (b = true ↔ SoundA rs q k x) → ∀ S', Grow S S' → K b S') : CallA P (N Fn.ref05_Sound) [v, u, .int .i64 k, ansV a b c] S (retT [.one .bool] K) := by
  obtain ⟨ws, hv0⟩ := hv
  obtain ⟨ps, hc0⟩ := hx.rest
  have hn := errAsk_nodup hask
  have h512 := errAsk_512 hask
  unfold SmallA at hsm
  have hrl := hc0.le
  have no : ∀ S', ¬ SoundA rs q k x → Grow S S' → K false S' := fun S' h g => hk false (ff_iff h) S' g
  refine ref05_Sound.run hO.sound (newS_mk hw0 fun S1 g1 mA nA => ?_)
  refine Loop3.ind (fun n y z t S' => ∃ j : Nat, t = j ∧ j + n = x.seen.length ∧ Grow S1 S' ∧ BuiltI S1 S' y (sortI (x.seen.take j)) ∧ (∀ i ∈ x.seen.take j, i ∈ idsOf rs) ∧ (∀ i, 0 < i → i < j → x.seen.getD (i - 1) 0 < x.seen.getD i 0) ∧ (∀ i ∈ V.block y, i ∉ V.block z) ∧
      ∃ ws' : List V, ws'.length = j ∧ Built S1 S' 2 z (rowsC ((x.seen.take j).map (rowOf rs)) ws') ∧ ∀ t (h : t < ws'.length), IntsAt S ws'[t] (rowOf rs (x.seen.getD t 0)).2) x.seen.length
    ⟨0, rfl, by omega, Upd.refl g1.wf _, BuiltI_nil g1.wf, by simp, fun i h h' => by omega, by simp [V.block], [], rfl, by simpa [rowsC] using Built.nil (Upd.refl g1.wf []) 2, fun t h => by simp at h⟩ ?_
  rintro n y z _ S2 ⟨j, rfl, hj, g12, hBy, hsub, hup, hdis, ws', hwl, hBz, hint⟩
  have g02 : Grow S S2 := Upd.trans g1 g12
  have mA2 := g12.get mA
  have hs2 := hx.seen.grow g02
  have hv2 := hv0.grow g02
  refine ifS_mk (ld mA2 rfl) ⟨_, hs2.len, ifC_dec (fun hlt => ?_) (fun hge => ?_)⟩
  · have hjl : j < x.seen.length := by omega
    refine ifS_mk (ld mA2 rfl) (ifS_mk (IntsAt.idx hs2 hjl) ⟨_, IntsAt.get hs2 hjl, ref05_find.spec hO.find hv2 (fun t ht hte => ?_) (fun h => Join0.mid (fun _ => False) (ifC_pos (by omega) (no _ (fun hs => h (told_seen hs hjl).1) g02)) (fun _ h => h.elim))⟩)
    have hin : x.seen[j] ∈ idsOf rs := by rw [← hte]; exact List.mem_map.mpr ⟨_, List.getElem_mem ht, rfl⟩
    have hrow : rowOf rs x.seen[j] = rs[t] := by rw [← hte]; exact rowOf_of hn (List.getElem_mem ht)
    refine Join0.mid (fun S' => S' = S2 ∧ (0 < j → x.seen.getD (j - 1) 0 < x.seen.getD j 0)) (ifC_neg (by omega) (ifC_dec (fun h0 => ?_) (fun h0 => ⟨rfl, fun h => by omega⟩))) ?_
    · have h0 : 0 < j := by omega
      have hj1 : j - 1 < x.seen.length := by omega
      have := hx.seen.le
      refine ifS_mk (ld mA2 rfl) (setI_mk (n := ((j - 1 : Nat) : Int)) (by rw [IntKind.wrap_i64]; omega) (ifS_mk (IntsAt.idx hs2 hj1) ⟨_, IntsAt.get hs2 hj1, ifS_mk (ld mA2 rfl) (ifS_mk (IntsAt.idx hs2 hjl) ⟨_, IntsAt.get hs2 hjl, ifC_dec (fun h1 => ?_) (fun h1 => ⟨rfl, fun _ => ?_⟩)⟩)⟩))
      · refine no _ (fun hs => ?_) g02
        have := hs.1 j h0 hjl
        rw [getD_get hjl, getD_get hj1] at this
        omega
      · rw [getD_get hjl, getD_get hj1]; omega
    rintro S4 ⟨rfl, hupj⟩
    have hslen := hx.seen.le
    refine ifS_mk (ld mA2 rfl) (ifS_mk (IntsAt.idx hs2 hjl) ⟨_, IntsAt.get hs2 hjl, hO.wth y _ _ _ _ g12.wf (BuiltI.at_ hBy) (by rw [sortI_length, List.length_take]; omega) fun y' S5 hBy' => ?_⟩)
    have g45 : Grow S4 S5 := hBy'.grow
    have hv5 := hv2.grow g45
    have hmem := hv2.at_ ht
    have hml : ((x.seen.take j).map (rowOf rs)).length = j := by rw [List.length_map, List.length_take]; omega
    have hrl2 : (rowsC ((x.seen.take j).map (rowOf rs)) ws').length = j := by rw [rowsC_length (by omega), hml]
    refine ifS_mk (hv5.idx ht) ⟨_, _, hv5.both ht, (hBz.next g45).push (e := [.int .i64 rs[t].1, ws[t]'(hv0.ltw ht)]) rfl (by simp only [List.all_cons, List.all_nil, hmem.one1]; rfl) (by rw [hrl2]; omega) (by rw [hrl2]; omega) fun z' S7 hBz' u7 t7 => setI_mk (wrap_succ (by omega)) ⟨n - 1, by omega, j + 1, rfl, by omega, hBz'.grow, ?_, ?_, ?_, ?_, ws' ++ [ws[t]'(hv0.ltw ht)], by simp [hwl], ?_, ?_⟩⟩
    · rw [List.take_add_one, List.getElem?_eq_getElem hjl, Option.toList_some, sortI_snoc]
      refine Built.upd (BuiltI.rebase hBy' g12) u7 (fun i hi => hBz.from i hi) (fun i hi hz => ?_)
      have := hBy'.from i hi
      have := hBz.lt i hz
      omega
    · rw [List.take_add_one, List.getElem?_eq_getElem hjl, Option.toList_some]
      intro i hi
      rcases List.mem_append.mp hi with hi | hi
      · exact hsub i hi
      · simp only [List.mem_singleton] at hi; subst hi; exact hin
    · intro i h1 h2
      by_cases e : i = j
      · subst e; exact hupj h1
      · exact hup i h1 (by omega)
    · intro i hi hz
      have h1 := hBy'.from i hi
      have h3 := hBy'.lt i hi
      rcases t7 i hz with h2 | h2
      · have := hBz.lt i h2; omega
      · omega
    · rw [List.take_add_one, List.getElem?_eq_getElem hjl, Option.toList_some, List.map_append, List.map_cons, List.map_nil, rowsC_snoc (by omega)]
      have : rowC (rowOf rs x.seen[j]) (ws[t]'(hv0.ltw ht)) = [.int .i64 rs[t].1, ws[t]'(hv0.ltw ht)] := by rw [rowC, hrow]
      rw [this]; exact hBz'
    · intro s hs
      rw [List.length_append, List.length_singleton, hwl] at hs
      by_cases e : s = j
      · subst e
        rw [List.getElem_append_right (by omega), getD_get hjl]
        simp only [hwl, Nat.sub_self, List.getElem_singleton]
        rw [hrow]; exact hv0.at_ ht
      · rw [List.getElem_append_left (by omega)]
        exact hint s (by omega)
  have hjl : j = x.seen.length := by omega
  subst hjl
  rw [List.take_length] at hBy hsub hBz
  have hupT : UpTo x.seen := fun i h1 h2 => hup i h1 h2
  refine Loop2.ind (fun n y t S' => ∃ j : Nat, t = j ∧ j + n = x.rest.length ∧ Grow S1 S' ∧ BuiltI S1 S' y (sortI (x.seen ++ restIds (x.rest.take j))) ∧ (∀ g ∈ x.rest.take j, RegIn rs q g) ∧ Built S1 S' 2 z (rowsC (x.seen.map (rowOf rs)) ws')) x.rest.length
    ⟨0, rfl, by omega, g12, by simpa [restIds] using hBy, by simp, hBz⟩ ?_
  rintro n y2 _ S8 ⟨j, rfl, hj3, g18, hB8, hreg8, hBz8⟩
  have g08 : Grow S S8 := Upd.trans g1 g18
  have mA8 := g18.get mA
  have hc8 := hc0.grow g08
  refine ifS_mk (ld mA8 rfl) ⟨_, hc8.length, ifC_dec (fun hlt => ?_) (fun hge => ?_)⟩
  · have hjl : j < x.rest.length := by omega
    refine ifS_mk (ld mA8 rfl) (ifS_mk (hc8.idx hjl) ⟨_, _, _, _, _, _, hc8.all hjl, _, (hu.grow g08).len, ref05_region.spec hO hask ⟨ws, hv0.grow g08⟩ (hc8.reg hjl) fun rb hrb => ?_⟩)
    cases rb with
    | false =>
      refine ifC_tt rfl (no _ (fun hs => ?_) g08)
      have := hrb.mpr ⟨hs.2.1 _ (List.getElem_mem hjl), fun i hi => ?_⟩
      · cases this
      · obtain ⟨m, hm, rfl⟩ := List.getElem_of_mem hi
        exact (told_rest hn hs hjl hm).1
    | true =>
      obtain ⟨hrin, hsubj⟩ := hrb.mp rfl
      refine ifC_ff rfl ?_
      have hidl : x.rest[j].ids.length ≤ 4611686018427387904 := (hc8.reg hjl).ids.le
      have hle1 := restIds_le (l := x.rest) (n := j + 1)
      rw [restIds_snoc hjl, List.length_append] at hle1
      refine Loop2.ind (fun m y t S' => ∃ i : Nat, t = i ∧ i + m = x.rest[j].ids.length ∧ Grow S1 S' ∧ BuiltI S1 S' y (sortI (x.seen ++ restIds (x.rest.take j) ++ x.rest[j].ids.take i)) ∧ Built S1 S' 2 z (rowsC (x.seen.map (rowOf rs)) ws')) x.rest[j].ids.length
        ⟨0, rfl, by omega, g18, by simpa using hB8, hBz8⟩ ?_
      rintro m y3 _ S10 ⟨i, rfl, hi4, g110, hB10, hBz10⟩
      have g010 : Grow S S10 := Upd.trans g1 g110
      have mA10 := g110.get mA
      have hc10 := hc0.grow g010
      have hR10 := hc10.reg hjl
      refine ifS_mk (ld mA10 rfl) (ifS_mk (hc10.idx hjl) (ifS_mk (hc10.fld hjl 5) (ifS_mk (hc10.ids hjl) ⟨_, hR10.ids.len, ifC_dec (fun hlt => ?_) (fun hge => ?_)⟩)))
      · have hil : i < x.rest[j].ids.length := by omega
        refine ifS_mk (ld mA10 rfl) (ifS_mk (hc10.idx hjl) (ifS_mk (hc10.fld hjl 5) (ifS_mk (hc10.ids hjl) (ifS_mk (IntsAt.idx hR10.ids hil) ⟨_, IntsAt.get hR10.ids hil, hO.wth y3 _ _ _ _ g110.wf (BuiltI.at_ hB10) ?_ fun y4 S11 hB11 => setI_mk (wrap_succ (by omega)) ⟨m - 1, by omega, i + 1, rfl, by omega, Upd.trans g110 hB11.grow, ?_, hBz10.next hB11.grow⟩⟩))))
        · rw [sortI_length, List.length_append, List.length_append, List.length_take]; omega
        · rw [List.take_add_one, List.getElem?_eq_getElem hil, Option.toList_some, ← List.append_assoc, sortI_snoc]
          exact BuiltI.rebase hB11 g110
      · have hil : i = x.rest[j].ids.length := by omega
        subst hil
        rw [List.take_length] at hB10
        refine setI_mk (wrap_succ (by omega)) ⟨n - 1, by omega, j + 1, rfl, by omega, g110, by rw [restIds_snoc hjl, ← List.append_assoc]; exact hB10, ?_, hBz10⟩
        rw [List.take_add_one, List.getElem?_eq_getElem hjl, Option.toList_some]
        intro g hg
        rcases List.mem_append.mp hg with hg | hg
        · exact hreg8 g hg
        · simp only [List.mem_singleton] at hg; subst hg; exact hrin
  rw [List.take_of_length_le (by omega)] at hB8 hreg8
  have hml : (x.seen.map (rowOf rs)).length = x.seen.length := by rw [List.length_map]
  have hrows : RowsAt S8 z (x.seen.map (rowOf rs)) := ⟨ws', by rw [hml]; exact hwl, hBz8.sl, fun t hr hw' => by
    have := (hint t hw').grow g08
    have ht : t < x.seen.length := by omega
    rw [getD_get ht] at this
    simpa using this⟩
  have hdist : ∀ r ∈ x.seen.map (rowOf rs), distE r.2 q = 0 := by
    intro r hr
    obtain ⟨i, hi, rfl⟩ := List.mem_map.mp hr
    exact errAsk_dist hask _ (rowOf_mem (hsub i hi)).1
  have hndS : x.seen.Nodup := by
    rw [List.nodup_iff_pairwise_ne, List.pairwise_iff_getElem]
    intro i m hi hm him e
    have := upTo_lt hupT m i him hm
    rw [getD_get hi, getD_get hm] at this
    omega
  have hslen : x.seen.length ≤ 512 := by
    have := nodup_le hndS hsub
    rw [idsOf, List.length_map] at this; omega
  refine ref05_Hits.spec hO.hits hO.far hO.before g18.wf hrows (hu.grow g08) hdist (by rw [hml]; exact hslen) fun w S12 hB12 => ref05_First.spec hO.first hB12.hits fun w' hw' => ?_
  have g112 : Grow S1 S12 := Upd.trans g18 hB12.grow
  have g012 : Grow S S12 := Upd.trans g1 g112
  have mA12 := g112.get mA
  have hh12 := hx.hits.grow g012
  have hw'' : HitsAt S12 w' (best k (hitsOf q (x.seen.map (rowOf rs)))) := hw'
  generalize hbest : best k (hitsOf q (x.seen.map (rowOf rs))) = B at hw''
  have iffS : SoundA rs q k x ↔ sortI (x.seen ++ restIds x.rest) = idsR rs ∧ B = x.hits := by
    unfold idsR
    rw [sortI_perm_iff, ← hbest]
    constructor
    · rintro ⟨_, _, h3, h4⟩
      exact ⟨h3, h4.symm⟩
    · rintro ⟨h3, h4⟩
      exact ⟨hupT, hreg8, h3, h4.symm⟩
  have hBl := hw''.at_.le
  refine ⟨_, hw''.len, ifS_mk (ld mA12 rfl) ⟨_, hh12.len, ifC_ndec (fun h1 => no _ (fun hs => h1 (by rw [(iffS.mp hs).2])) g012) (fun h1 => ?_)⟩⟩
  refine Loop1.ind (fun m t S' => S' = S12 ∧ ∃ j : Nat, t = j ∧ j + m = B.length ∧ B.take j = x.hits.take j) B.length ⟨rfl, 0, rfl, by omega, by simp⟩ ?_
  rintro m _ S14 ⟨rfl, j, rfl, hj, heq⟩
  refine ⟨_, hw''.len, ifC_dec (fun hlt => ?_) (fun hge => ?_)⟩
  · have hjl : j < B.length := by omega
    have hjl2 : j < x.hits.length := by omega
    refine ifS_mk (hw''.idx hjl) ⟨_, _, _, hw''.get hjl, ifS_mk (ld mA12 rfl) (ifS_mk (hh12.idx hjl2) ⟨_, _, _, hh12.get hjl2, _, eqH_mk _ _, ifC_ndec (fun h2 => no _ (fun hs => ne_of_get hjl hjl2 h2 (iffS.mp hs).2) g012) (fun h2 => setI_mk (wrap_succ (by omega)) ⟨m - 1, by omega, rfl, j + 1, rfl, by omega, take_succ_eq heq hjl hjl2 h2⟩)⟩)⟩
  · have heqB : B = x.hits := by
      rw [List.take_of_length_le (by omega), List.take_of_length_le (by omega)] at heq
      exact heq
    refine hO.ids v rs S14 _ g112.wf ⟨ws, hv0.grow g012⟩ h512 fun w3 S15 hB15 => hO.ints _ _ _ _ _ _ (BuiltI.at_ ((hB8.next hB12.grow).next hB15.grow)) (BuiltI.at_ hB15) (hk _ ?_ _ (Upd.trans g012 hB15.grow))
    rw [decide_eq_true_eq, iffS]
    exact ⟨fun h => ⟨h, heqB⟩, fun h => h.1⟩

theorem ref13_Asked.spec (hO : RefOk P N) {S : St} (hw : S.Wf) {v u : V} {rs : List Row} {q : List Int} {k : Int} (hv : RowsAt S v rs) (hu : IntsAt S u q) {K : Int → St → Prop} (hk : ∀ S', Grow S S' → K (errTop q rs k) S') :
    CallA P (N Fn.ref13_Asked) [v, u, .int .i64 k] S (retT [.one (.int .i64)] K) := by
  refine ref13_Asked.run hO.asked13 (ref05_TopK.spec hO.topk hO.asked hO.hits hO.first hO.far hO.before hw hv hu (fun _ => hk _ (Upd.refl hw _)) (fun h v' S' g _ => by have := hk _ g; rwa [h] at this))

theorem ref13_Sound.spec (hO : RefOk P N) {v u a b c : V} {rs : List Row} {q : List Int} {k : Int} {x : Ans} {S : St} (hw : S.Wf) (hsm : SmallA x) (hv : RowsAt S v rs) (hu : IntsAt S u q) (hx : AnsAt S a b c x) {K : Bool → Int → St → Prop}
    (he : errTop q rs k ≠ 0 → ∀ S', Grow S S' → K false (errTop q rs k) S')
    (hk : errTop q rs k = 0 → ∀ (b : Bool) S', (b = true ↔ SoundA rs q k.toNat x) → Grow S S' → K b 0 S') :
    CallA P (N Fn.ref13_Sound) [v, u, .int .i64 k, ansV a b c] S (retT [.one .bool, .one (.int .i64)] K) := by
  refine ref13_Sound.run hO.sound13 (newS_mk hw fun S1 g1 mA nA => ref13_Asked.spec hO g1.wf (hv.grow g1) (hu.grow g1) fun S2 g2 => ifC_ndec (fun h => he h _ (Upd.trans g1 g2)) (fun h => ?_))
  obtain ⟨hask, h1, h2⟩ := errTop_zero h
  have g02 : Grow S S2 := Upd.trans g1 g2
  obtain ⟨kn, rfl⟩ := Int.eq_ofNat_of_zero_le (show 0 ≤ k by omega)
  exact ⟨_, _, _, ldN (g2.get mA) (by simp) rfl, ref05_Sound.spec hO g2.wf hask (by omega) (by omega) hsm (hv.grow g02) (hu.grow g02) (hx.grow g02) fun rb hrb S3 g3 => hk h rb S3 hrb (Upd.trans g02 g3)⟩

theorem ref13_Certain.spec (hO : RefOk P N) {v u a b c : V} {rs : List Row} {q : List Int} {k : Int} {x : Ans} {S : St} (hw : S.Wf) (hsm : SmallA x) (hv : RowsAt S v rs) (hu : IntsAt S u q) (hx : AnsAt S a b c x) {K : Bool → Int → St → Prop}
    (he : errTop q rs k ≠ 0 → ∀ S', Grow S S' → K false (errTop q rs k) S')
    (hk : errTop q rs k = 0 → ∀ (b : Bool) S', (b = true ↔ CertA rs q k.toNat x) → Grow S S' → K b 0 S') :
    CallA P (N Fn.ref13_Certain) [v, u, .int .i64 k, ansV a b c] S (retT [.one .bool, .one (.int .i64)] K) := by
  refine ref13_Certain.run hO.certain13 (newS_mk hw fun S1 g1 mA nA => ref13_Asked.spec hO g1.wf (hv.grow g1) (hu.grow g1) fun S2 g2 => ifC_ndec (fun h => he h _ (Upd.trans g1 g2)) (fun h => ?_))
  obtain ⟨hask, h1, h2⟩ := errTop_zero h
  have g02 : Grow S S2 := Upd.trans g1 g2
  obtain ⟨kn, rfl⟩ := Int.eq_ofNat_of_zero_le (show 0 ≤ k by omega)
  refine ⟨_, _, _, ldN (g2.get mA) (by simp) rfl, ref05_Sound.spec hO g2.wf hask (by omega) (by omega) hsm (hv.grow g02) (hu.grow g02) (hx.grow g02) fun rb hrb S3 g3 => ?_⟩
  have g03 : Grow S S3 := Upd.trans g02 g3
  cases rb with
  | true => exact ifC_tt rfl ⟨_, _, _, ldN (g3.get (g2.get mA)) (by simp) rfl, ref05_Certain.spec hO hask (by omega) (hu.grow g03) (hx.grow g03) (hrb.mp rfl) fun cb hcb => hk h cb S3 hcb g03⟩
  | false => exact ifC_ff rfl (hk h false S3 (ff_iff fun hc => by have := hrb.mpr hc.1; cases this) g03)

end Go.Th.L
end
