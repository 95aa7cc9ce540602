/- What the row of one statement stands on: a store, abstract code, functions of the program and their laws (ThHref17a, ThHref17b, ThHref17c, ThHref17d, ThHref17e, ThHref17f). -/
import Derived.Test.YtcdbfhamhcaclaaThBHdiskR
import Derived.Test.YtcdbfhamhcaclaaThBGslicesStr

section
/- The document's disk: its small functions. -/
set_option linter.unusedSimpArgs false
set_option linter.unusedVariables false
set_option maxHeartbeats 1000000
namespace Go.Th.L
open Go Go.Th Go.Th.Pure
variable {P : Program} {N : Nat → Nat}

def nmE (l : List (Nm × Nat)) : List (List V) := l.map fun p => [.str p.1, .int .i64 (p.2 : Nat)]
theorem nmE_len (l : List (Nm × Nat)) : (nmE l).length = l.length := by simp [nmE]
abbrev NsAt (S : St) (v : V) (l : List (Nm × Nat)) : Prop := SlE S 2 v (nmE l)
theorem nmE_get {l : List (Nm × Nat)} {j : Nat} (h : j < (nmE l).length) : (nmE l)[j] = [.str (l[j]'(by simpa [nmE] using h)).1, .int .i64 ((l[j]'(by simpa [nmE] using h)).2 : Nat)] := by simp [nmE]
section
variable {S : St} {v : V} {l : List (Nm × Nat)} (h : NsAt S v l) {j : Nat} (hj : j < l.length)
include h
theorem NsAt.length : lenV S 2 v = some (.int .i64 l.length) := by rw [SlE.len h, nmE_len]
include hj
theorem NsAt.ix : idxAddrV 2 v (.int .i64 (j : Int)) = some (eltV 2 v j 0) := SlE.idx h (by rw [nmE_len]; exact hj)
theorem NsAt.fd (f : Nat) : fieldAddrV f (eltV 2 v j 0) = some (eltV 2 v j f) := SlE.fld h (by rw [nmE_len]; exact hj) f
theorem NsAt.name : loadV S (eltV 2 v j 0) = some (.str l[j].1) := by
  rw [SlE.get h (by rw [nmE_len]; exact hj) (by omega), nmE_get]; rfl
theorem NsAt.file : loadV S (eltV 2 v j 1) = some (.int .i64 (l[j].2 : Nat)) := by
  rw [SlE.get h (by rw [nmE_len]; exact hj) (by omega), nmE_get]; rfl
theorem NsAt.both : loadNV S 2 (eltV 2 v j 0) = some (.agg [.str l[j].1, .int .i64 (l[j].2 : Nat)]) := by
  rw [SlE.getN h (by rw [nmE_len]; exact hj) (by omega), nmE_get]
end

theorem SlE.from {S : St} {k : Nat} {v : V} {es : List (List V)} (h : SlE S k v es) {m : Nat} (hm : m ≤ es.length) : ∃ v', sliceSlV k v (some (.int .i64 (m : Nat))) none none = some v' ∧ SlE S k v' (es.drop m) ∧ ∀ i ∈ v'.block, i ∈ v.block := by
  obtain ⟨v', e, a, b⟩ := SlAt.sub h.1 (lo := some (.int .i64 (m : Nat))) (hi := none) (l := m) (h := es.length) (c := 0) (fun cap hc => bnds_l (l := m) (by omega)) (by omega) (Nat.le_refl _)
  refine ⟨v', e, ⟨?_, fun x hx => h.2 x (List.mem_of_mem_drop hx)⟩, b⟩
  have hf := flatten_len h.2
  have e2 : (es.flatten.drop (m * k)).take ((es.length - m) * k) = (es.drop m).flatten := by
    have h1 := flatten_takeN h.2 m
    have h2 : es.flatten = (es.take m).flatten ++ (es.drop m).flatten := by rw [← List.flatten_append, List.take_append_drop]
    have h3 : (es.take m).flatten.length = m * k := by
      rw [flatten_len (fun x hx => h.2 x (List.mem_of_mem_take hx)), List.length_take]
      congr 1; omega
    have h4 : (es.drop m).flatten.length = (es.length - m) * k := by
      rw [flatten_len (fun x hx => h.2 x (List.mem_of_mem_drop hx)), List.length_drop]
    rw [h2, List.drop_append, List.drop_of_length_le (by omega), h3, Nat.sub_self, List.drop_zero, List.nil_append, List.take_of_length_le (by omega)]
  rw [e2] at a
  rw [List.length_drop]; exact a

theorem ref17_Name.spec (hF : ref17_Name.Ok P N) {S : St} {n : Nm} {K : Bool → St → Prop} (hk : K (goodN n) S) : CallA P (N Fn.ref17_Name) [.str n] S (retT [.one .bool] K) := by
  refine ref17_Name.run hF (Join0.mid (fun S' => S' = S ∧ n ≠ [] ∧ n.length ≤ 32) (ifC_dec (fun h => ?_) (fun h => ifC_dec (fun h2 => ?_) (fun h2 => ⟨rfl, ?_, by omega⟩))) ?_)
  · have : n = [] := List.length_eq_zero_iff.mp (by omega)
    subst this
    exact hk
  · have : goodN n = false := by
      have h3 : decide (n.length ≤ 32) = false := by
        rw [decide_eq_false_iff_not]; omega
      simp [goodN, h3]
    rw [this] at hk; exact hk
  · rintro rfl
    simp at h
  rintro S1 ⟨rfl, hne, hle⟩
  have hgn : goodN n = n.all goodB := by simp [goodN, hne, hle]
  rw [hgn] at hk
  refine Loop1.ind (fun m z S' => ∃ i : Nat, z = i ∧ i + m = n.length ∧ S' = S1 ∧ (n.take i).all goodB = true) n.length ⟨0, rfl, by omega, rfl, rfl⟩ ?_
  rintro m z S2 ⟨i, rfl, hi, rfl, hg⟩
  refine ifC_dec (fun hlt => ?_) (fun hge => ?_)
  · have hin : i < n.length := by omega
    refine ⟨_, idx_str hin, ?_⟩
    have nxt : goodB n[i] = true → ∃ m', m' < m ∧ ∃ i' : Nat, ((i : Int) + 1) = i' ∧ i' + m' = n.length ∧ S2 = S2 ∧ (n.take i').all goodB = true := fun hgi => by
      refine ⟨m - 1, by omega, i + 1, by omega, by omega, rfl, ?_⟩
      rw [List.take_add_one, List.all_append, hg, List.getElem?_eq_getElem hin]
      simp [hgi]
    have bad : goodB n[i] = false → K false S2 := fun hb => by
      have h2 : n.all goodB = false := by
        rw [List.all_eq_false]
        exact ⟨n[i], List.getElem_mem hin, by simp [hb]⟩
      rw [h2] at hk; exact hk
    have w : IntKind.i64.wrap ((i : Int) + 1) = (i : Int) + 1 := by rw [IntKind.wrap_i64]; omega
    have yes : goodB n[i] = true → setI (IntKind.i64.wrap ((i : Int) + 1)) fun x => ∃ k, k < m ∧ ∃ i' : Nat, x = i' ∧ i' + k = n.length ∧ S2 = S2 ∧ (n.take i').all goodB = true := fun hgi => setI_mk w (nxt hgi)
    have dec : ∀ p : Prop, (goodB n[i] = true ↔ p) → (p → goodB n[i] = true) ∧ (¬ p → goodB n[i] = false) := fun p hp => ⟨hp.2, fun h => by
      cases hx : goodB n[i] with
      | true => exact absurd (hp.1 hx) h
      | false => rfl⟩
    obtain ⟨d1, d2⟩ := dec _ (goodB_iff n[i])
    repeat' first
      | refine ifC_dec (fun _ => ?_) (fun _ => ?_)
      | refine ifC_ndec (fun _ => ?_) (fun _ => ?_)
    all_goals first
      | exact bad (d2 (by omega))
      | exact yes (d1 (by omega))
  · have : i = n.length := by omega
    subst this
    rw [List.take_length] at hg
    rw [hg] at hk; exact hk

theorem ref17_find.spec (hF : ref17_find.Ok P N) {S : St} {v : V} {l : List (Nm × Nat)} (h : NsAt S v l) (hl : l.length ≤ 1000000) {n : Nm} {K : Int → St → Prop} (h1 : lkK l n = none → K (-1) S) (h2 : ∀ j (hj : j < l.length), lkK l n = some l[j].2 → K j S) :
    CallA P (N Fn.ref17_find) [v, .str n] S (retT [.one (.int .i64)] K) := by
  refine ref17_find.run hF (Loop1.ind (fun m z S' => ∃ i : Nat, z = i ∧ i + m = l.length ∧ S' = S ∧ lkK l n = lkK (l.drop i) n) l.length ⟨0, rfl, by omega, rfl, rfl⟩ ?_)
  rintro m z S2 ⟨i, rfl, hi, rfl, hg⟩
  refine ⟨_, h.length, ifC_dec (fun hlt => ?_) (fun hge => ?_)⟩
  · have hin : i < l.length := by omega
    rw [List.drop_eq_getElem_cons hin, lkK_cons] at hg
    refine ifS_mk (h.ix hin) (ifS_mk (h.fd hin 0) ⟨_, h.name hin, ifC_dec (fun he => ?_) (fun he => ?_)⟩)
    · rw [if_pos he] at hg
      exact h2 i hin hg
    · rw [if_neg he] at hg
      exact setI_mk (n := ((i + 1 : Nat) : Int)) (by rw [IntKind.wrap_i64]; omega) ⟨m - 1, by omega, i + 1, rfl, by omega, rfl, hg⟩
  · have : i = l.length := by omega
    subst this
    rw [List.drop_length] at hg
    exact h1 hg

theorem ref17_without.spec (hF : ref17_without.Ok P N) {S : St} (hw : S.Wf) {v : V} {l : List (Nm × Nat)} (h : NsAt S v l) (hl : l.length ≤ 1000000) {n : Nm} {K : V → St → Prop} (hk : ∀ v' S', Built S S' 2 v' (nmE (dropK l n)) → K v' S') :
    CallA P (N Fn.ref17_without) [v, .str n] S (retT [.one .any] K) := by
  refine ref17_without.run hF (Loop2.ind (fun m x z S' => ∃ i : Nat, z = i ∧ i + m = l.length ∧ Built S S' 2 x (nmE (dropK (l.take i) n))) l.length ⟨0, rfl, by omega, Built.nil (Upd.refl hw []) 2⟩ ?_)
  rintro m x z S2 ⟨i, rfl, hi, hb⟩
  have h2 := SlE.grow h hb.grow
  refine ⟨_, NsAt.length h2, ifC_dec (fun hlt => ?_) (fun hge => ?_)⟩
  · have hin : i < l.length := by omega
    have et : dropK (l.take (i + 1)) n = dropK (l.take i) n ++ dropK [l[i]] n := by
      rw [List.take_add_one, List.getElem?_eq_getElem hin, Option.toList_some]
      exact List.filter_append _ _
    refine ifS_mk (NsAt.ix h2 hin) (ifS_mk (NsAt.fd h2 hin 0) ⟨_, NsAt.name h2 hin, ifC_ndec (fun he => ?_) (fun he => ?_)⟩)
    · have e1 : dropK [l[i]] n = [l[i]] := by simp [dropK, he]
      have hle : (nmE (dropK (l.take i) n)).length ≤ l.length := by
        rw [nmE_len]
        have : (dropK (l.take i) n).length ≤ (l.take i).length := List.length_filter_le _ _
        simp only [List.length_take] at this; omega
      refine ifS_mk (NsAt.ix h2 hin) ⟨_, _, NsAt.both h2 hin, hb.push (e := [.str l[i].1, .int .i64 (l[i].2 : Nat)]) rfl rfl (by omega) (by omega) fun v' S' b' _ _ => setI_mk (n := ((i + 1 : Nat) : Int)) (by rw [IntKind.wrap_i64]; omega) ⟨m - 1, by omega, i + 1, rfl, by omega, ?_⟩⟩
      rw [et, e1]
      simpa [nmE] using b'
    · have e1 : dropK [l[i]] n = [] := by simp [dropK, he]
      refine setI_mk (n := ((i + 1 : Nat) : Int)) (by rw [IntKind.wrap_i64]; omega) ⟨m - 1, by omega, i + 1, rfl, by omega, ?_⟩
      rw [et, e1, List.append_nil]; exact hb
  · have : i = l.length := by omega
    subst this
    rw [List.take_length] at hb
    exact hk _ _ hb

theorem ref17_with.spec (hF : ref17_with.Ok P N) {S : St} (hw : S.Wf) {v : V} {l : List (Nm × Nat)} (h : NsAt S v l) (hl : l.length ≤ 1000000) {n : Nm} {k : Nat} {K : V → St → Prop} (hk : ∀ v' S', Built S S' 2 v' (nmE (withR l (n, k))) → K v' S') :
    CallA P (N Fn.ref17_with) [v, .agg [.str n, .int .i64 (k : Nat)]] S (retT [.one .any] K) := by
  refine ref17_with.run hF (newS_mk hw fun S1 g1 m1 n1 => Join1.mid (fun z S' => ∃ i : Nat, z = i ∧ i ≤ l.length ∧ S' = S1 ∧ withR l (n, k) = l.take i ++ (n, k) :: l.drop i) ?_ ?_)
  · have h1 := SlE.grow h g1
    refine Loop1.ind (fun m z S' => ∃ i : Nat, z = i ∧ i + m = l.length ∧ S' = S1 ∧ withR l (n, k) = l.take i ++ withR (l.drop i) (n, k)) l.length ⟨0, rfl, by omega, rfl, rfl⟩ ?_
    rintro m z S2 ⟨i, rfl, hi, rfl, hg⟩
    refine ⟨_, NsAt.length h1, ifC_dec (fun hlt => ?_) (fun hge => ?_)⟩
    · have hin : i < l.length := by omega
      rw [List.drop_eq_getElem_cons hin] at hg
      refine ifS_mk (NsAt.ix h1 hin) (ifS_mk (NsAt.fd h1 hin 0) ⟨_, NsAt.name h1 hin, n, ld m1 rfl, ?_⟩)
      rw [bytesLess_lt]
      refine ifC_dec (fun he => ?_) (fun he => ?_)
      · rw [withR, if_pos he] at hg
        refine setI_mk (n := ((i + 1 : Nat) : Int)) (by rw [IntKind.wrap_i64]; omega) ⟨m - 1, by omega, i + 1, rfl, by omega, rfl, ?_⟩
        rw [hg, List.take_add_one, List.getElem?_eq_getElem hin, List.append_assoc]
        rfl
      · rw [withR, if_neg he] at hg
        refine ⟨i, rfl, by omega, rfl, ?_⟩
        rw [hg, List.drop_eq_getElem_cons hin]
    · have : i = l.length := by omega
      subst this
      refine ⟨l.length, rfl, Nat.le_refl _, rfl, ?_⟩
      rw [hg, List.drop_length, withR]
  · rintro z S2 ⟨i, rfl, hi, rfl, hg⟩
    have h1 := SlE.grow h g1
    obtain ⟨v1, e1, a1, b1⟩ := SlE.first h1 (m := i) (by rw [nmE_len]; exact hi)
    have hlt : ((nmE l).take i).length ≤ l.length := by rw [List.length_take, nmE_len]; omega
    have hld : ((nmE l).drop i).length ≤ l.length := by rw [List.length_drop, nmE_len]; omega
    have ones : ∀ es : List (Nm × Nat), (nmE es).flatten.all V.one = true := fun es => by
      induction es with
      | nil => rfl
      | cons p es ih => simp only [nmE, List.map_cons, List.flatten_cons, List.all_append] at ih ⊢; rw [ih]; rfl
    have two : ∀ es : List (Nm × Nat), ∀ e ∈ nmE es, e.length = 2 := fun es e he => by
      simp only [nmE, List.mem_map] at he
      obtain ⟨_, _, rfl⟩ := he
      rfl
    have et : (nmE l).take i = nmE (l.take i) := by simp [nmE, List.map_take]
    have ed : (nmE l).drop i = nmE (l.drop i) := by simp [nmE, List.map_drop]
    rw [et] at a1 hlt
    rw [ed] at hld
    refine ifS_mk e1 (Built.app (es := []) (Built.nil g1 2) (ds := nmE (l.take i)) (by exact SlAt.src a1.1) (two _) (ones _) (bytes := 24) (by simp only [List.length_nil]; omega) (by simp only [List.length_nil]; omega) fun v4 S4 b4 u4 t4 => ?_)
    have m4 : S4.get S.next = some (.cells [.str n, .int .i64 (k : Nat)] true) := u4.get m1 (by simp [V.block])
    refine ⟨n, k, ldN m4 (by simp) rfl, b4.push (e := [.str n, .int .i64 (k : Nat)]) rfl rfl (by simp only [List.nil_append]; omega) (by simp only [List.nil_append]; omega) fun v6 S6 b6 u6 t6 => ?_⟩
    have h6 : NsAt S6 v l := SlE.grow h b6.grow
    obtain ⟨v7, e7, a7, b7⟩ := SlE.from h6 (m := i) (by rw [nmE_len]; exact hi)
    rw [ed] at a7
    refine ifS_mk e7 (b6.app (ds := nmE (l.drop i)) (SlAt.src a7.1) (two _) (ones _) (bytes := 24) (by simp only [List.nil_append, List.length_append, List.length_singleton]; omega) (by simp only [List.nil_append, List.length_append, List.length_singleton]; omega) fun v8 S8 b8 _ _ => hk v8 S8 ?_)
    rw [hg]
    simpa [nmE] using b8

structure RefF (P : Program) (N : Nat → Nat) : Prop where
  without : ref17_without.Ok P N
  with_ : ref17_with.Ok P N
  apply : ref17_apply.Ok P N
  find : ref17_find.Ok P N
  file : ref17_Disk_file.Ok P N
  name : ref17_Name.Ok P N
  down : ref17_Disk_Down.Ok P N
  step : ref17_Disk_step.Ok P N
  change : ref17_Disk_change.Ok P N
  says : ref17_says.Ok P N
  choice : ref17_choice.Ok P N
  used : ref17_Disk_Used.Ok P N
  names : ref17_Disk_Names.Ok P N
  read : ref17_Disk_Read.Ok P N
  create : ref17_Disk_Create.Ok P N
  append : ref17_Disk_Append.Ok P N
  sync : ref17_Disk_Sync.Ok P N
  rename : ref17_Disk_Rename.Ok P N
  remove : ref17_Disk_Remove.Ok P N
  syncDir : ref17_Disk_SyncDir.Ok P N
  stop : ref17_Disk_Stop.Ok P N
  crash : ref17_Disk_Crash.Ok P N
  clone : ref17_Disk_Clone.Ok P N
  new : ref17_New.Ok P N

def chE (c : ChR) : List V := [.int .i64 (c.kind : Nat), .str c.fr, .str c.to, .int .i64 (c.file : Nat)]

theorem dropK_le (l : List (Nm × Nat)) (n : Nm) : (dropK l n).length ≤ l.length := List.length_filter_le _ _

theorem ref17_apply.spec (hO : RefF P N) {S : St} (hw : S.Wf) {v : V} {l : List (Nm × Nat)} (h : NsAt S v l) (hl : l.length ≤ 1000) {c : ChR} (hc : ∃ nf, ChOk nf c) {K : V → St → Prop} (hk : ∀ v' S', Built S S' 2 v' (nmE (applyR l c)) → K v' S') :
    CallA P (N Fn.ref17_apply) [v, .agg (chE c)] S (retT [.one .any] K) := by
  refine ref17_apply.run hO.apply (newS_mk hw fun S1 g1 m1 n1 => ⟨_, ld m1 rfl, ?_⟩)
  have h1 := SlE.grow h g1
  obtain ⟨nf, hc⟩ := hc
  have hs : ∀ {S' : St}, Grow S1 S' → ∀ R : List Nat, (∀ i ∈ R, i = S.next) → Same R S1 S' := fun u R hR => Same.of_grow u fun i hi => by rw [hR i hi]; omega
  rcases hc with ⟨e, h2, h3, _⟩ | ⟨e, h2, h3, _⟩ | ⟨e, h2, h3⟩
  · refine ifC_tt (by rw [e]; rfl) ⟨_, ld m1 rfl, _, ld m1 rfl, _, ld m1 rfl, ref17_without.spec hO.without g1.wf h1 (by omega) fun v2 S2 b2 => ⟨hs b2.grow _ (by simp), ?_⟩⟩
    have hd := dropK_le l c.to
    refine ref17_with.spec hO.with_ b2.grow.wf b2.sl (by omega) fun v3 S3 b3 => ⟨Same.of_grow b3.grow fun i hi => by simp at hi; have := b2.grow.le; omega, hk v3 S3 ?_⟩
    have ea : applyR l c = withR (dropK l c.to) (c.to, c.file) := by simp [applyR, e]
    rw [ea]
    exact ⟨(g1.trans b2.grow).trans b3.grow, b3.acc.below (by have := b2.grow.le; have := g1.le; omega), b3.each⟩
  · refine ifC_ff (by rw [e]; rfl) (ifC_tt (by rw [e]; rfl) ⟨_, ld m1 rfl, _, ld m1 rfl, _, ld m1 rfl, _, ld m1 rfl, ref17_without.spec hO.without g1.wf h1 (by omega) fun v2 S2 b2 => ⟨hs b2.grow _ (by simp), ?_⟩⟩)
    have hd := dropK_le l c.fr
    have hd2 := dropK_le (dropK l c.fr) c.to
    refine ref17_without.spec hO.without b2.grow.wf b2.sl (by omega) fun v3 S3 b3 => ⟨Same.of_grow b3.grow fun i hi => by simp at hi; have := b2.grow.le; omega, ?_⟩
    refine ref17_with.spec hO.with_ b3.grow.wf b3.sl (by omega) fun v4 S4 b4 => ⟨Same.of_grow b4.grow fun i hi => by simp at hi; have := b2.grow.le; have := b3.grow.le; omega, hk v4 S4 ?_⟩
    have ea : applyR l c = withR (dropK (dropK l c.fr) c.to) (c.to, c.file) := by simp [applyR, e]
    rw [ea]
    exact ⟨((g1.trans b2.grow).trans b3.grow).trans b4.grow, b4.acc.below (by have := b2.grow.le; have := b3.grow.le; have := g1.le; omega), b4.each⟩
  · refine ifC_ff (by rw [e]; rfl) (ifC_ff (by rw [e]; rfl) ⟨_, ld m1 rfl, ref17_without.spec hO.without g1.wf h1 (by omega) fun v2 S2 b2 => hk v2 S2 ?_⟩)
    have ea : applyR l c = dropK l c.fr := by simp [applyR, e]
    rw [ea]
    exact ⟨g1.trans b2.grow, b2.acc.below (by have := g1.le; omega), b2.each⟩

theorem ref17_says.spec (hF : ref17_says.Ok P N) {S : St} {c : Int} (hc : -9223372036854775808 ≤ c ∧ c ≤ 9223372036854775807) {n : Nat} (hn : n < 4611686018427387904) {K : Int → St → Prop} (hk : K (saysR c n : Nat) S) : CallA P (N Fn.ref17_says) [.int .i64 c, .int .i64 n] S (retT [.one (.int .i64)] K) := by
  refine ref17_says.run hF (Join1.mid (fun x S' => x = (if c < 0 then -(c + 1) else c) ∧ S' = S) (ifC_dec (fun h => ?_) (fun h => ⟨by rw [if_neg h], rfl⟩)) ?_)
  · refine setI_mk (n := c + 1) (by rw [IntKind.wrap_i64]; omega) (setI_mk (n := -(c + 1)) (by rw [IntKind.wrap_i64]; omega) ⟨by rw [if_pos h], rfl⟩)
  · rintro x S' ⟨rfl, rfl⟩
    refine setI_mk (n := ((n + 1 : Nat) : Int)) (by rw [IntKind.wrap_i64]; omega) ⟨by omega, setI_mk (n := ((saysR c n : Nat) : Int)) ?_ hk⟩
    have h0 : 0 ≤ (if c < 0 then -(c + 1) else c) := by split <;> omega
    obtain ⟨m, hm⟩ := Int.eq_ofNat_of_zero_le h0
    unfold saysR
    rw [hm, Int.toNat_natCast]
    exact rfl

theorem ref17_choice.spec (hF : ref17_choice.Ok P N) {S : St} {v : V} {l : List Int} (h : IntsAt S v l) {i : Nat} {K : Int → St → Prop} (hk : K (choiceR l i) S) : CallA P (N Fn.ref17_choice) [v, .int .i64 (i : Nat)] S (retT [.one (.int .i64)] K) := by
  refine ref17_choice.run hF ⟨_, h.length, ifC_dec (fun hlt => ?_) (fun hge => ?_)⟩
  · have hin : i < l.length := by omega
    have e : choiceR l i = l[i] := by simp [choiceR, List.getD_eq_getElem?_getD, hin]
    rw [e] at hk
    exact ifS_mk (h.idx hin) ⟨_, h.get hin, hk⟩
  · have e : choiceR l i = 0 := by simp [choiceR, List.getD_eq_getElem?_getD, List.getElem?_eq_none (show l.length ≤ i by omega)]
    rw [e] at hk; exact hk

end Go.Th.L
end

section
/- The document's disk in the store; its calls that change names. -/
set_option linter.unusedSimpArgs false
set_option linter.unusedVariables false
set_option maxHeartbeats 1000000
namespace Go.Th.L
open Go Go.Th Go.Th.Pure
variable {P : Program} {N : Nat → Nat}

theorem flat_set {α : Type} {k : Nat} : ∀ {es : List (List α)} (_ : ∀ e ∈ es, e.length = k) {j off : Nat} (hj : j < es.length) (_ : off < k) (x : α), es.flatten.set (j * k + off) x = (es.set j (es[j].set off x)).flatten
  | a :: es, h, 0, off, hj, ho, x => by
    have ha := h a (by simp)
    simp only [List.flatten_cons, List.set_cons_zero, List.getElem_cons_zero, Nat.zero_mul, Nat.zero_add]
    rw [List.set_append_left _ _ (by omega)]
  | a :: es, h, j + 1, off, hj, ho, x => by
    have ha := h a (by simp)
    simp only [List.flatten_cons, List.set_cons_succ, List.getElem_cons_succ]
    have hle : a.length ≤ (j + 1) * k + off := by rw [ha, Nat.succ_mul]; omega
    rw [List.set_append_right _ _ hle]
    have : (j + 1) * k + off - a.length = j * k + off := by rw [ha, Nat.succ_mul]; omega
    rw [this, flat_set (fun e he => h e (by simp [he])) (by simpa using hj) ho x]
theorem over_set1 {cs : List V} {a : Nat} {w : V} (h : a < cs.length) : over cs a [w] = cs.set a w := by
  rw [over_at (by simp; omega)]
  rw [List.set_eq_take_append_cons_drop, if_pos h]
  simp

structure RP where
  e : Nat
  vf : V
  vn : V
  vs : V
  vc : V
  bv : Nat → V
def fileE (bv : Nat → V) (fs : List FileR) : List (List V) := fs.mapIdx fun k f => [bv k, .int .i64 (f.safe : Nat)]
theorem fileE_len (bv : Nat → V) (fs : List FileR) : (fileE bv fs).length = fs.length := by simp [fileE]
theorem fileE_two (bv : Nat → V) (fs : List FileR) : ∀ e ∈ fileE bv fs, e.length = 2 := fun e he => by
  simp only [fileE, List.mem_mapIdx] at he
  obtain ⟨i, hi, rfl⟩ := he
  rfl
theorem fileE_get {bv : Nat → V} {fs : List FileR} {j : Nat} (h : j < (fileE bv fs).length) : (fileE bv fs)[j] = [bv j, .int .i64 ((fs[j]'(by rw [fileE_len] at h; exact h)).safe : Nat)] := by simp [fileE]
theorem fileE_add {bv bv' : Nat → V} {fs : List FileR} {f : FileR} (h1 : ∀ k, k < fs.length → bv' k = bv k) : fileE bv' (fs ++ [f]) = fileE bv fs ++ [[bv' fs.length, .int .i64 (f.safe : Nat)]] := by
  simp only [fileE, List.mapIdx_append, List.mapIdx_cons, List.mapIdx_nil, Nat.zero_add]
  congr 1
  apply List.ext_getElem (by simp)
  intro i h2 h3
  simp only [List.length_mapIdx] at h2
  simp [h1 i h2]
theorem fileE_set {bv bv' : Nat → V} {fs : List FileR} {k : Nat} {f : FileR} (h1 : ∀ j, j ≠ k → bv' j = bv j) : fileE bv' (fs.set k f) = (fileE bv fs).set k [bv' k, .int .i64 (f.safe : Nat)] := by
  apply List.ext_getElem (by simp [fileE])
  intro i h2 h3
  simp only [fileE, List.getElem_mapIdx, List.getElem_set]
  by_cases e : k = i
  · subst e; simp
  · simp only [if_neg e]
    rw [h1 i (fun e' => e e'.symm)]

def robj (q : RP) (r : DiskR) : List V := [.int .i64 r.room, q.vf, q.vn, q.vs, q.vc, .int .i64 r.steps, .int .i64 r.left]

structure RefIn (S : St) (D B : List Nat) (q : RP) (r : DiskR) : Prop where
  obj : S.get q.e = some (.cells (robj q r) true)
  files : Acc S 0 2 q.vf r.files.length (fileE q.bv r.files).flatten
  now : NsAt S q.vn r.now
  safe : NsAt S q.vs r.safe
  chs : Acc S 0 4 q.vc r.chs.length (r.chs.map chE).flatten
  fl : ∀ k, k < r.files.length → BytesAt S (q.bv k) (r.fl k).b
  dE : q.e ∈ D
  dF : ∀ i ∈ q.vf.block, i ∈ D
  dC : ∀ i ∈ q.vc.block, i ∈ D
  bN : ∀ i ∈ q.vn.block, i ∈ B
  bS : ∀ i ∈ q.vs.block, i ∈ B
  bB : ∀ k, k < r.files.length → ∀ i ∈ (q.bv k).block, i ∈ B
  ltD : ∀ i ∈ D, i < S.next
  ltB : ∀ i ∈ B, i < S.next
  apart : ∀ i ∈ D, i ∉ B
  neF : q.e ∉ q.vf.block
  neC : q.e ∉ q.vc.block
  neFC : ∀ i ∈ q.vf.block, i ∉ q.vc.block

section
variable {S S' : St} {D B : List Nat} {q q' : RP} {r r' : DiskR} {X : List Nat}
theorem RefIn.upd (h : RefIn S D B q r) (u : Upd X S S') (h1 : ∀ i ∈ X, i ∉ D) (h2 : ∀ i ∈ X, i ∉ B) : RefIn S' D B q r := by
  have nd : ∀ i ∈ D, i ∉ X := fun i hi hx => h1 i hx hi
  have nb : ∀ i ∈ B, i ∉ X := fun i hi hx => h2 i hx hi
  exact { h with obj := u.get h.obj (nd _ h.dE), files := h.files.upd u fun i hi => nd i (h.dF i hi), now := SlE.upd h.now u fun i hi => nb i (h.bN i hi), safe := SlE.upd h.safe u fun i hi => nb i (h.bS i hi), chs := h.chs.upd u fun i hi => nd i (h.dC i hi), fl := fun k hk => SlAt.upd (h.fl k hk) u fun i hi => nb i (h.bB k hk i hi), ltD := fun i hi => Nat.lt_of_lt_of_le (h.ltD i hi) u.le, ltB := fun i hi => Nat.lt_of_lt_of_le (h.ltB i hi) u.le }
theorem RefIn.grow (h : RefIn S D B q r) (u : Grow S S') : RefIn S' D B q r := h.upd u (by simp) (by simp)
theorem RefIn.flE (h : RefIn S D B q r) : SlE S 2 q.vf (fileE q.bv r.files) := ⟨by rw [fileE_len]; exact h.files.at_, fileE_two _ _⟩
theorem RefIn.nE (h : RefIn S D B q r) : q.e < S.next := h.ltD _ h.dE

theorem RefIn.re {Dn Bn : List Nat} (h : RefIn S D B q r) (u : Upd X S S') (hDn : ∀ i ∈ Dn, S.next ≤ i ∧ i < S'.next) (hBn : ∀ i ∈ Bn, S.next ≤ i ∧ i < S'.next) (hDB : ∀ i ∈ Dn, i ∉ Bn)
    (obj : S'.get q.e = some (.cells (robj q' r') true)) (e : q'.e = q.e) (files : Acc S' 0 2 q'.vf r'.files.length (fileE q'.bv r'.files).flatten) (now : NsAt S' q'.vn r'.now) (safe : NsAt S' q'.vs r'.safe)
    (chs : Acc S' 0 4 q'.vc r'.chs.length (r'.chs.map chE).flatten) (fl : ∀ k, k < r'.files.length → BytesAt S' (q'.bv k) (r'.fl k).b) (dF : ∀ i ∈ q'.vf.block, i ∈ D ++ Dn) (dC : ∀ i ∈ q'.vc.block, i ∈ D ++ Dn)
    (bN : ∀ i ∈ q'.vn.block, i ∈ B ++ Bn) (bS : ∀ i ∈ q'.vs.block, i ∈ B ++ Bn) (bB : ∀ k, k < r'.files.length → ∀ i ∈ (q'.bv k).block, i ∈ B ++ Bn) (neF : q.e ∉ q'.vf.block) (neC : q.e ∉ q'.vc.block) (neFC : ∀ i ∈ q'.vf.block, i ∉ q'.vc.block) :
    RefIn S' (D ++ Dn) (B ++ Bn) q' r' := by
  refine ⟨by rw [e]; exact obj, files, now, safe, chs, fl, by rw [e]; exact List.mem_append_left _ h.dE, dF, dC, bN, bS, bB, fun i hi => ?_, fun i hi => ?_, fun i hi hB => ?_, by rw [e]; exact neF, by rw [e]; exact neC, neFC⟩
  · rcases List.mem_append.mp hi with hi | hi
    · exact Nat.lt_of_lt_of_le (h.ltD i hi) u.le
    · exact (hDn i hi).2
  · rcases List.mem_append.mp hi with hi | hi
    · exact Nat.lt_of_lt_of_le (h.ltB i hi) u.le
    · exact (hBn i hi).2
  · rcases List.mem_append.mp hi with hi | hi
    · rcases List.mem_append.mp hB with hB | hB
      · exact h.apart i hi hB
      · have := h.ltD i hi; have := (hBn i hB).1; omega
    · rcases List.mem_append.mp hB with hB | hB
      · have := h.ltB i hB; have := (hDn i hi).1; omega
      · exact hDB i hi hB

theorem RefIn.names {Bn : List Nat} (h : RefIn S D B q r) (u : Upd [q.e] S S') (hBn : ∀ i ∈ Bn, S.next ≤ i ∧ i < S'.next) (obj : S'.get q.e = some (.cells (robj q' r') true)) (e : q'.e = q.e) (evf : q'.vf = q.vf) (ebv : q'.bv = q.bv) (ef : r'.files = r.files)
    (now : NsAt S' q'.vn r'.now) (safe : NsAt S' q'.vs r'.safe) (hc : (q'.vc = q.vc ∧ r'.chs = r.chs) ∨ (q'.vc = .nilSlice ∧ r'.chs = [])) (bN : ∀ i ∈ q'.vn.block, i ∈ B ++ Bn) (bS : ∀ i ∈ q'.vs.block, i ∈ B ++ Bn) : RefIn S' D (B ++ Bn) q' r' := by
  have nB : ∀ i ∈ B, i ∉ [q.e] := fun i hi hx => by
    simp only [List.mem_singleton] at hx
    subst hx
    exact h.apart _ h.dE hi
  have hf : ∀ k, r'.fl k = r.fl k := fun k => by simp only [DiskR.fl, ef]
  have nF : ∀ i ∈ q.vf.block, i ∉ [q.e] := fun i hi hx => by
    simp only [List.mem_singleton] at hx
    subst hx
    exact h.neF hi
  have nC : ∀ i ∈ q.vc.block, i ∉ [q.e] := fun i hi hx => by
    simp only [List.mem_singleton] at hx
    subst hx
    exact h.neC hi
  have k1 : Acc S' 0 2 q'.vf r'.files.length (fileE q'.bv r'.files).flatten := by
    rw [evf, ebv, ef]; exact h.files.upd u nF
  have k2 : Acc S' 0 4 q'.vc r'.chs.length (r'.chs.map chE).flatten := by
    rcases hc with ⟨e1, e2⟩ | ⟨e1, e2⟩
    · rw [e1, e2]; exact h.chs.upd u nC
    · rw [e1, e2]; exact Acc.nil _ _ _
  have k3 : ∀ k, k < r'.files.length → BytesAt S' (q'.bv k) (r'.fl k).b := by
    rw [ef, ebv]
    intro k hk
    rw [hf]
    exact SlAt.upd (h.fl k hk) u fun i hi => nB i (h.bB k hk i hi)
  have k4 : ∀ i ∈ q'.vc.block, i ∈ q.vc.block := by
    rcases hc with ⟨e1, _⟩ | ⟨e1, _⟩
    · rw [e1]; exact fun i hi => hi
    · rw [e1]; simp [V.block]
  have := h.re (Dn := []) u (by simp) hBn (by simp) obj e k1 now safe k2 k3 (by rw [evf]; exact fun i hi => List.mem_append_left _ (h.dF i hi)) (fun i hi => List.mem_append_left _ (h.dC i (k4 i hi))) bN bS (by rw [ef, ebv]; exact fun k hk i hi => List.mem_append_left _ (h.bB k hk i hi)) (by rw [evf]; exact h.neF) (fun hi => h.neC (k4 _ hi)) (by rw [evf]; exact fun i hi hi' => h.neFC i hi (k4 i hi'))
  rwa [List.append_nil] at this
end

def RH (S : St) (D B : List Nat) (e : Nat) (r : DiskR) : Prop := ∃ q : RP, q.e = e ∧ RefIn S D B q r
section
variable (hO : RefF P N) {S : St} (hw : S.Wf) {D B : List Nat} {q : RP} {r r' : DiskR} (h : RefIn S D B q r)
include hO h
theorem RefIn.down {K : Bool → St → Prop} (hk : K (downR r) S) : CallA P (N Fn.ref17_Disk_Down) [.ptr q.e 0] S (retT [.one .bool] K) :=
  ref17_Disk_Down.run hO.down ⟨rfl, ifS_mk (a := .ptr q.e 6) rfl ⟨_, ld h.obj rfl, hk⟩⟩
theorem RefIn.file {n : Nm} (hl : r.now.length ≤ 1000) {K : Int → St → Prop} (h1 : lkK r.now n = none → K (-1) S) (h2 : ∀ k : Nat, lkK r.now n = some k → K (k : Nat) S) : CallA P (N Fn.ref17_Disk_file) [.ptr q.e 0, .str n] S (retT [.one (.int .i64)] K) := by
  refine ref17_Disk_file.run hO.file ⟨rfl, ifS_mk (a := .ptr q.e 2) rfl (ifS_mk (ld h.obj rfl) (ref17_find.spec hO.find h.now (by omega) (fun hn => ifC_dec (fun _ => h1 hn) (fun h' => absurd (by omega) h')) (fun j hj hn => ifC_dec (fun h' => absurd h' (by omega)) (fun _ => ?_))))⟩
  exact ⟨rfl, ifS_mk (a := .ptr q.e 2) rfl (ifS_mk (ld h.obj rfl) (ifS_mk (h.now.ix hj) (ifS_mk (h.now.fd hj 1) ⟨_, h.now.file hj, h2 _ hn⟩)))⟩
include hw
theorem RefIn.step {M : Nat} (hM : M ≤ 1000000) (h3 : 0 ≤ r.steps ∧ r.steps ≤ M) (hl : -1 ≤ r.left ∧ r.left ≤ 9223372036854775807) {K : Int → St → Prop} (hk : ∀ S', RefIn S' D B q (stepR r) → Upd [q.e] S S' → K 0 S') : CallA P (N Fn.ref17_Disk_step) [.ptr q.e 0] S (retT [.one (.int .i64)] K) := by
  have fields : ∀ {S' : St}, Upd [q.e] S S' → S'.get q.e = some (.cells (robj q (stepR r)) true) → RefIn S' D B q (stepR r) := fun u g => by
    have nB : ∀ i ∈ B, i ∉ [q.e] := fun i hi hx => by
      simp only [List.mem_singleton] at hx
      subst hx
      exact h.apart _ h.dE hi
    have := h.names (q' := q) (r' := stepR r) (Bn := []) u (by simp) g rfl rfl rfl rfl (SlE.upd h.now u fun i hi => nB i (h.bN i hi)) (SlE.upd h.safe u fun i hi => nB i (h.bS i hi)) (.inl ⟨rfl, rfl⟩) (fun i hi => List.mem_append_left _ (h.bN i hi)) (fun i hi => List.mem_append_left _ (h.bS i hi))
    rwa [List.append_nil] at this
  have oF := h.files.at_.cells1
  refine ref17_Disk_step.run hO.step ⟨rfl, ifS_mk (a := .ptr q.e 5) rfl ⟨_, ld h.obj rfl, setI_mk (n := r.steps + 1) (by rw [IntKind.wrap_i64]; omega) ⟨rfl, ifS_mk (a := .ptr q.e 5) rfl (st_mk hw h.obj rfl (by simp [robj, V.cells]) (by simp [V.cells, V.one]) fun S1 u1 m1 n1 => ?_)⟩⟩⟩
  simp only [robj, over, V.cells] at m1
  refine ⟨rfl, ifS_mk (a := .ptr q.e 6) rfl ⟨_, ld m1 rfl, ifC_dec (fun hp => ?_) (fun hp => ?_)⟩⟩
  · refine ⟨rfl, ifS_mk (a := .ptr q.e 6) rfl ⟨_, ld m1 rfl, setI_mk (n := r.left - 1) (by rw [IntKind.wrap_i64]; omega) ⟨rfl, ifS_mk (a := .ptr q.e 6) rfl (st_mk u1.wf m1 rfl (by simp [V.cells]) (by simp [V.cells, V.one]) fun S2 u2 m2 n2 => hk S2 (fields (u1.trans u2) ?_) (u1.trans u2))⟩⟩⟩
    simp only [over, V.cells] at m2
    rw [m2]
    simp only [robj, stepR, if_pos hp]
  · refine hk S1 (fields u1 ?_) u1
    rw [m1]
    simp only [robj, stepR, if_neg hp]

theorem RefIn.change {M : Nat} (hM : M ≤ 1000000) (h3 : 0 ≤ r.steps ∧ r.steps ≤ M) (hl : -1 ≤ r.left ∧ r.left ≤ 9223372036854775807) (hc : r.chs.length ≤ M) (hn : r.now.length ≤ 1000) {c : ChR} (hco : ∃ nf, ChOk nf c) {K : Int → St → Prop}
    (hk : ∀ S' D' B', RH S' D' B' q.e (changeR r c) → Foot D B S D' B' S' → K 0 S') : CallA P (N Fn.ref17_Disk_change) [.ptr q.e 0, .agg (chE c)] S (retT [.one (.int .i64)] K) := by
  refine ref17_Disk_change.run hO.change (newS_mk hw fun S1 g1 m1 n1 => ⟨rfl, ifS_mk (a := .ptr q.e 2) rfl ?_⟩)
  have h1 := h.grow g1
  refine ifS_mk (ld h1.obj rfl) ⟨_, _, _, _, ldN m1 (by simp) rfl, ref17_apply.spec hO g1.wf h1.now hn hco fun v2 S2 b2 => ⟨rfl, ifS_mk (a := .ptr q.e 2) rfl ?_⟩⟩
  have h2 := h1.grow b2.grow
  have m2 := b2.grow.get m1
  have hb2 := b2.lt
  have hbf := b2.from
  have oN := b2.sl.1.cells1
  refine st_mk b2.grow.wf h2.obj (by rw [oN]; rfl) (by rw [oN]; simp [robj]) (by rw [oN]; simp [b2.one]) fun S3 u3 m3 n3 => ⟨rfl, ifS_mk (a := .ptr q.e 4) rfl ?_⟩
  rw [oN] at m3
  simp only [robj, over] at m3
  have u13 : Upd [q.e] S1 S3 := (b2.grow.mono (by simp)).after u3 fun i hi => .inr hi
  have l12 := b2.grow.le
  have h3' : RefIn S3 D (B ++ v2.block) { q with vn := v2 } { r with now := applyR r.now c } := by
    refine h1.names u13 (Bn := v2.block) (fun i hi => ⟨hbf i hi, by have := hb2 i hi; omega⟩) m3 rfl rfl rfl rfl (SlE.upd b2.sl u3 fun i hi hx => ?_) (SlE.upd h1.safe u13 fun i hi hx => ?_) (.inl ⟨rfl, rfl⟩) (fun i hi => List.mem_append_right _ hi) (fun i hi => List.mem_append_left _ (h.bS i hi))
    · simp only [List.mem_singleton] at hx
      subst hx
      have := hbf _ hi; have := h1.nE; omega
    · simp only [List.mem_singleton] at hx
      subst hx
      exact h.apart _ h.dE (h.bS _ hi)
  have f3 : Foot D B S D (B ++ v2.block) S3 := by
    have hl1 := g1.le
    have := Foot.of (D := D) (B := B) (Dn := []) (Bn := v2.block) ((g1.mono (by simp)).after u13 fun i hi => .inr hi) (fun i hi => by simp only [List.mem_singleton] at hi; subst hi; exact .inl h.dE) (by simp) (fun i hi => by have := hbf i hi; omega)
    rwa [List.append_nil] at this
  have hSn : S.next < S2.next := by have := b2.grow.le; omega
  have m3c : S3.get S.next = some (.cells (chE c) true) := u3.get m2 (by simp only [List.mem_singleton]; have := h.nE; omega)
  refine ifS_mk (ld m3 rfl) ⟨_, _, _, _, ldN m3c (by simp [chE]) rfl, newS_mk u3.wf fun S4 g4 m4 n4 => sameK_mk (Same.of_grow g4 ?_) ?_⟩
  · intro i hi
    simp only [V.block, List.append_nil, List.mem_singleton] at hi
    subst hi
    exact h3'.nE
  have h4 := h3'.grow g4
  have hs : srcV 4 S4 (.slice S3.next 0 1 1 4 true) = some (1, chE c) := by
    simp only [srcV, if_true]
    rw [St.loads_of m4 (by simp)]; rfl
  obtain ⟨v5, S5, e5, a5, u5, t5⟩ := h4.chs.app g4.wf (by omega) hs rfl (by simp [chE, V.one]) (bytes := 48) (by simp only; omega) (by simp only; omega)
  have l5 := u5.le
  have l4 := g4.le
  have o5 := u5.get h4.obj h4.neC
  have e0 : q.e < S4.next := h4.nE
  have hv5 : ∀ i ∈ v5.block, i < S5.next := fun i hi => by
    obtain ⟨_, vs, hg⟩ := a5.own i hi
    exact u5.wf.lt hg
  have hne5 : q.e ∉ v5.block := fun hi => by
    rcases t5 _ hi with h' | h'
    · exact h.neC h'
    · omega
  refine ifP_mk e5 ⟨rfl, ifS_mk (a := .ptr q.e 4) rfl (st_mk u5.wf o5 (by rw [a5.at_.cells1]; rfl) (by rw [a5.at_.cells1]; simp [robj]) (by rw [a5.at_.cells1]; simp [a5.at_.one1]) fun S6 u6 m6 n6 => ?_)⟩
  rw [a5.at_.cells1] at m6
  simp only [robj, over] at m6
  have u46 : Upd (q.e :: q.vc.block) S4 S6 := (u5.mono fun i hi => .inl (List.mem_cons_of_mem _ hi)).after u6 fun i hi => .inr (by simp only [List.mem_singleton] at hi; simp [hi])
  have nB : ∀ i ∈ B ++ v2.block, i ∉ q.e :: q.vc.block := fun i hi hx => by
    rcases List.mem_cons.mp hx with hx | hx
    · subst hx; exact h4.apart _ h4.dE hi
    · exact h4.apart _ (h4.dC i hx) hi
  have h6 := h4.re (Dn := v5.block.filter fun i => decide (S4.next ≤ i)) (Bn := []) (q' := { q with vn := v2, vc := v5 }) (r' := { r with now := applyR r.now c, chs := r.chs ++ [c] }) u46 (fun i hi => by
      simp only [List.mem_filter, decide_eq_true_eq] at hi
      exact ⟨hi.2, by have := hv5 i hi.1; omega⟩) (by simp) (by simp) m6 rfl
    (h4.files.upd u46 fun i hi hx => by
      rcases List.mem_cons.mp hx with hx | hx
      · subst hx; exact h.neF hi
      · exact h.neFC i hi hx)
    (SlE.upd h4.now u46 fun i hi => nB i (h4.bN i hi)) (SlE.upd h4.safe u46 fun i hi => nB i (h4.bS i hi)) (by
      have := a5.upd u6 fun i hi => by
        simp only [List.mem_singleton]
        rintro rfl
        exact hne5 hi
      simpa [chE] using this) (fun k hk => SlAt.upd (h4.fl k hk) u46 fun i hi => nB i (h4.bB k hk i hi)) (fun i hi => List.mem_append_left _ (h.dF i hi)) (fun i hi => by
      rcases t5 i hi with h' | h'
      · exact List.mem_append_left _ (h.dC i h')
      · refine List.mem_append_right _ ?_
        simp only [List.mem_filter, decide_eq_true_eq]
        exact ⟨hi, h'⟩) (fun i hi => List.mem_append_left _ (h4.bN i hi)) (fun i hi => List.mem_append_left _ (h4.bS i hi)) (fun k hk i hi => List.mem_append_left _ (h4.bB k hk i hi)) h.neF hne5 (fun i hi hx => by
      rcases t5 i hx with h' | h'
      · exact h.neFC i hi h'
      · have := h4.ltD i (h.dF i hi); omega)
  have f6 : Foot D (B ++ v2.block) S4 (D ++ v5.block.filter fun i => decide (S4.next ≤ i)) (B ++ v2.block ++ []) S6 := Foot.of u46 (fun i hi => by
    rcases List.mem_cons.mp hi with hi | hi
    · subst hi; exact .inl h.dE
    · exact .inl (h.dC i hi)) (fun i hi => by
      simp only [List.mem_filter, decide_eq_true_eq] at hi
      exact hi.2) (by simp)
  refine RefIn.step hO u6.wf h6 hM h3 hl fun S7 h7 u7 => hk S7 _ _ ⟨{ q with vn := v2, vc := v5 }, rfl, h7⟩ (((f3.trans (Foot.grow g4)).trans f6).trans ⟨fun i hi => .inl hi, fun i hi => .inl hi, u7.mono fun i hi => .inl ?_⟩)
  simp only [List.mem_singleton] at hi
  subst hi
  exact h6.dE
end

end Go.Th.L
end

section
/- The document's disk: its calls. -/
set_option linter.unusedSimpArgs false
set_option linter.unusedVariables false
set_option maxHeartbeats 1000000
namespace Go.Th.L
open Go Go.Th Go.Th.Pure
variable {P : Program} {N : Nat → Nat}

theorem ref17_New.spec (hF : ref17_New.Ok P N) {S : St} (hw : S.Wf) {room : Int} {K : V → St → Prop} (hk : ∀ S' D e, Grow S S' → RH S' D [] e (newR room) → (∀ i ∈ D, S.next ≤ i) → K (.ptr e 0) S') : CallA P (N Fn.ref17_New) [.int .i64 room] S (retT [.one .any] K) := by
  refine ref17_New.run hF (newS_mk hw fun S1 g1 m1 n1 => hk S1 [S.next] S.next g1 ⟨⟨S.next, .nilSlice, .nilSlice, .nilSlice, .nilSlice, fun _ => .nilSlice⟩, rfl, ?_⟩ (by simp))
  have nil2 : NsAt S1 .nilSlice [] := ⟨⟨by simp [nmE], by simp [nmE], .inl ⟨rfl, rfl⟩⟩, by simp [nmE]⟩
  exact ⟨m1, Acc.nil _ _ _, nil2, nil2, Acc.nil _ _ _, by simp [newR], by simp, by simp [V.block], by simp [V.block], by simp [V.block], by simp [V.block], by simp [newR], by simp only [List.mem_singleton]; omega, by simp, by simp, by simp [V.block], by simp [V.block], by simp [V.block]⟩

section
variable (hO : RefF P N) {S : St} {D B : List Nat} {q : RP} {r : DiskR} (h : RefIn S D B q r)
include h
theorem RefIn.fileB {k : Nat} (hk : k < r.files.length) : loadV S (eltV 2 q.vf k 0) = some (q.bv k) := by
  rw [SlE.get h.flE (by rw [fileE_len]; exact hk) (by omega), fileE_get]; rfl
theorem RefIn.fileN {k : Nat} (hk : k < r.files.length) : loadNV S 2 (eltV 2 q.vf k 0) = some (.agg [q.bv k, .int .i64 ((r.fl k).safe : Nat)]) := by
  have e : r.fl k = r.files[k] := by simp [DiskR.fl, List.getD_eq_getElem?_getD, hk]
  rw [SlE.getN h.flE (by rw [fileE_len]; exact hk) (by omega), fileE_get, e]

include hO
theorem RefIn.used {M : Nat} (hok : OkR M r) {K : Int → St → Prop} (hk : K (usedR r : Nat) S) : CallA P (N Fn.ref17_Disk_Used) [.ptr q.e 0] S (retT [.one (.int .i64)] K) := by
  have hst := hok.stNow
  have hlen := hst.len
  refine ref17_Disk_Used.run hO.used (Loop2.ind (fun m x z S' => ∃ i : Nat, z = i ∧ i + m = r.now.length ∧ S' = S ∧ x = (((r.now.take i).map fun p => (r.fl p.2).b.length).sum : Nat) ∧ (0 < i → downR r = false)) r.now.length ⟨0, rfl, by omega, rfl, rfl, by omega⟩ ?_)
  rintro m x z S1 ⟨i, rfl, hi, rfl, rfl, hd0⟩
  refine Join0.mid (fun S' => S' = S1 ∧ i < r.now.length ∧ downR r = false) ⟨rfl, ifS_mk (a := .ptr q.e 2) rfl (ifS_mk (ld h.obj rfl) ⟨_, h.now.length, ifC_dec (fun hlt => h.down hO ?_) (fun hge => ?_)⟩)⟩ ?_
  · cases hd : downR r with
    | true =>
      refine ifC_ff rfl ?_
      have : i = 0 := by
        rcases Nat.eq_zero_or_pos i with h0 | h0
        · exact h0
        · rw [hd0 h0] at hd; cases hd
      subst this
      have : usedR r = 0 := by simp [usedR, hd]
      rw [this] at hk; exact hk
    | false => exact ifC_tt rfl ⟨rfl, by omega, rfl⟩
  · have hii : i = r.now.length := by omega
    cases hd : downR r with
    | true =>
      have : i = 0 := by
        rcases Nat.eq_zero_or_pos i with h0 | h0
        · exact h0
        · rw [hd0 h0] at hd; cases hd
      subst this
      have : usedR r = 0 := by simp [usedR, hd]
      rw [this] at hk; exact hk
    | false =>
      have : usedR r = ((r.now.take i).map fun p => (r.fl p.2).b.length).sum := by simp [usedR, hd, hii]
      rw [this] at hk; exact hk
  · rintro S2 ⟨rfl, hin, hd⟩
    have hpk := hst.idx _ (List.getElem_mem hin)
    have hb := h.fl _ hpk
    have hs : ((r.now.take (i + 1)).map fun p => (r.fl p.2).b.length).sum = ((r.now.take i).map fun p => (r.fl p.2).b.length).sum + (r.fl r.now[i].2).b.length := by
      rw [List.take_add_one, List.getElem?_eq_getElem hin, Option.toList_some, List.map_append, List.sum_append_nat]
      simp only [List.map_cons, List.map_nil, List.sum_cons, List.sum_nil, Nat.add_zero]
    have hbd := used_sum (fun k => (r.fl k).b.length) (r.now.take (i + 1)) fun p _ => (hok.fl p.2).2
    have hl2 : (r.now.take (i + 1)).length ≤ 64 := by rw [List.length_take]; omega
    have hix : idxAddrV 2 q.vf (.int .i64 ((r.now[i].2 : Nat) : Int)) = some (eltV 2 q.vf r.now[i].2 0) := SlE.idx h.flE (by rw [fileE_len]; exact hpk)
    have hfd : fieldAddrV 0 (eltV 2 q.vf r.now[i].2 0) = some (eltV 2 q.vf r.now[i].2 0) := SlE.fld h.flE (by rw [fileE_len]; exact hpk) 0
    refine ⟨rfl, ifS_mk (a := .ptr q.e 1) rfl (ifS_mk (ld h.obj rfl) ⟨rfl, ifS_mk (a := .ptr q.e 2) rfl (ifS_mk (ld h.obj rfl) (ifS_mk (h.now.ix hin) (ifS_mk (h.now.fd hin 1) ⟨_, h.now.file hin, ifS_mk hix (ifS_mk hfd (ifS_mk (h.fileB hpk) ⟨_, SlAt.len hb, setI_mk (n := (((r.now.take (i + 1)).map fun p => (r.fl p.2).b.length).sum : Nat)) ?_ (setI_mk (n := ((i + 1 : Nat) : Int)) ?_ ⟨m - 1, by omega, i + 1, rfl, by omega, rfl, rfl, fun _ => hd⟩)⟩))⟩)))⟩)⟩
    · rw [hs] at hbd ⊢
      rw [IntKind.wrap_i64]; omega
    · rw [IntKind.wrap_i64]; omega

theorem RefIn.namesV {M : Nat} (hw : S.Wf) (hok : OkR M r) {K : V → St → Prop} (hk : ∀ v S', Built S S' 1 v (strE (namesR r)) → K v S') : CallA P (N Fn.ref17_Disk_Names) [.ptr q.e 0] S (retT [.one .any] K) := by
  have hlen := hok.stNow.len
  refine ref17_Disk_Names.run hO.names (Loop2.ind (fun m x z S' => ∃ i : Nat, z = i ∧ i + m = r.now.length ∧ Built S S' 1 x (strE ((r.now.take i).map (·.1))) ∧ (0 < i → downR r = false)) r.now.length ⟨0, rfl, by omega, Built.nil (Upd.refl hw []) 1, by omega⟩ ?_)
  rintro m x z S1 ⟨i, rfl, hi, hb, hd0⟩
  have h1 := h.grow hb.grow
  refine Join0.mid (fun S' => S' = S1 ∧ i < r.now.length ∧ downR r = false) ⟨rfl, ifS_mk (a := .ptr q.e 2) rfl (ifS_mk (ld h1.obj rfl) ⟨_, h1.now.length, ifC_dec (fun hlt => h1.down hO ?_) (fun hge => ?_)⟩)⟩ ?_
  · cases hd : downR r with
    | true =>
      refine ifC_ff rfl ?_
      have : i = 0 := by
        rcases Nat.eq_zero_or_pos i with h0 | h0
        · exact h0
        · rw [hd0 h0] at hd; cases hd
      subst this
      have : namesR r = [] := by simp [namesR, hd]
      rw [this] at hk; exact hk _ _ hb
    | false => exact ifC_tt rfl ⟨rfl, by omega, rfl⟩
  · have hii : i = r.now.length := by omega
    cases hd : downR r with
    | true =>
      have : i = 0 := by
        rcases Nat.eq_zero_or_pos i with h0 | h0
        · exact h0
        · rw [hd0 h0] at hd; cases hd
      subst this
      have : namesR r = [] := by simp [namesR, hd]
      rw [this] at hk; exact hk _ _ hb
    | false =>
      have : namesR r = (r.now.take i).map (·.1) := by simp [namesR, hd, hii]
      rw [this] at hk; exact hk _ _ hb
  · rintro S2 ⟨rfl, hin, hd⟩
    refine ⟨rfl, ifS_mk (a := .ptr q.e 2) rfl (ifS_mk (ld h1.obj rfl) (ifS_mk (h1.now.ix hin) (ifS_mk (h1.now.fd hin 0) ⟨_, h1.now.name hin, ?_⟩)))⟩
    have hle : (strE ((r.now.take i).map (·.1))).length ≤ 64 := by
      rw [strE_len, List.length_map, List.length_take]; omega
    refine hb.push (e := [.str r.now[i].1]) rfl rfl (by omega) (by omega) fun v' S' b' _ _ => setI_mk (n := ((i + 1 : Nat) : Int)) (by rw [IntKind.wrap_i64]; omega) ⟨m - 1, by omega, i + 1, rfl, by omega, ?_, fun _ => hd⟩
    have : strE ((r.now.take (i + 1)).map (·.1)) = strE ((r.now.take i).map (·.1)) ++ [[.str r.now[i].1]] := by
      rw [List.take_add_one, List.getElem?_eq_getElem hin, Option.toList_some, List.map_append]
      exact List.map_append
    rw [this]; exact b'

theorem RefIn.read {M : Nat} (hok : OkR M r) {n : Nm} {b : List UInt8} {v : Int} (e : readR r n = (b, v)) {K : V → Int → St → Prop} (hk : ∀ x, BytesAt S x b → K x v S) : CallA P (N Fn.ref17_Disk_Read) [.ptr q.e 0, .str n] S (retT [.one .any, .one (.int .i64)] K) := by
  have hnil : BytesAt S .nilSlice [] := ⟨by simp, by simp [bytesV], .inl ⟨rfl, rfl⟩⟩
  refine ref17_Disk_Read.run hO.read (h.down hO ?_)
  cases hd : downR r with
  | true =>
    simp only [readR, hd, if_true, Prod.mk.injEq] at e
    obtain ⟨rfl, rfl⟩ := e
    exact ifC_tt rfl (hk _ hnil)
  | false =>
    refine ifC_ff rfl (h.file hO (by have := hok.stNow.len; omega) (fun hn => ?_) (fun k hn => ?_))
    · simp only [readR, hd, hn, Bool.false_eq_true, if_false, Prod.mk.injEq] at e
      obtain ⟨rfl, rfl⟩ := e
      exact ifC_tt rfl (hk _ hnil)
    · simp only [readR, hd, hn, Bool.false_eq_true, if_false, Prod.mk.injEq] at e
      obtain ⟨rfl, rfl⟩ := e
      have hpk : k < r.files.length := hok.stNow.idx _ ((lkK_some hok.stNow.sorted.nod).1 hn)
      refine ifC_ff (by simp) ⟨rfl, ifS_mk (a := .ptr q.e 1) rfl (ifS_mk (ld h.obj rfl) (ifS_mk (SlE.idx h.flE (by rw [fileE_len]; exact hpk)) (ifS_mk (SlE.fld h.flE (by rw [fileE_len]; exact hpk) 0) (ifS_mk (h.fileB hpk) (hk _ (h.fl k hpk))))))⟩

variable (hw : S.Wf) {M : Nat} (hok : OkR M r) (hM : M ≤ 1000000)
include hw hok hM

theorem RefIn.remove {n : Nm} {v : Int} {r' : DiskR} (e : removeR r n = (v, r')) {K : Int → St → Prop} (hk : ∀ S' D' B', RH S' D' B' q.e r' → Foot D B S D' B' S' → K v S') : CallA P (N Fn.ref17_Disk_Remove) [.ptr q.e 0, .str n] S (retT [.one (.int .i64)] K) := by
  have stay := hk S D B
  have hlen := hok.stNow.len
  refine ref17_Disk_Remove.run hO.remove (h.down hO ?_)
  cases hd : downR r with
  | true =>
    simp only [removeR, hd, if_true, Prod.mk.injEq] at e
    obtain ⟨rfl, rfl⟩ := e
    exact ifC_tt rfl (stay ⟨q, rfl, h⟩ (Foot.refl hw _ _))
  | false =>
    refine ifC_ff rfl (h.file hO (by omega) (fun hn => ?_) (fun k hn => ?_))
    · simp only [removeR, hd, hn, Bool.false_eq_true, if_false, Prod.mk.injEq] at e
      obtain ⟨rfl, rfl⟩ := e
      exact ifC_tt rfl (stay ⟨q, rfl, h⟩ (Foot.refl hw _ _))
    · simp only [removeR, hd, hn, Bool.false_eq_true, if_false, Prod.mk.injEq] at e
      obtain ⟨rfl, rfl⟩ := e
      have hm := hok.stNow.ne _ ((lkK_some hok.stNow.sorted.nod).1 hn)
      exact ifC_ff (by simp) (RefIn.change hO hw h hM hok.n3 hok.left hok.n1 (by omega) (c := ⟨3, n, [], 0⟩) ⟨0, .inr (.inr ⟨rfl, hm, rfl⟩)⟩ hk)

theorem RefIn.rename {n t : Nm} {v : Int} {r' : DiskR} (e : renameR r n t = (v, r')) {K : Int → St → Prop} (hk : ∀ S' D' B', RH S' D' B' q.e r' → Foot D B S D' B' S' → K v S') : CallA P (N Fn.ref17_Disk_Rename) [.ptr q.e 0, .str n, .str t] S (retT [.one (.int .i64)] K) := by
  have stay := hk S D B
  have hlen := hok.stNow.len
  refine ref17_Disk_Rename.run hO.rename (h.down hO ?_)
  cases hd : downR r with
  | true =>
    simp only [renameR, hd, if_true, Prod.mk.injEq] at e
    obtain ⟨rfl, rfl⟩ := e
    exact ifC_tt rfl (stay ⟨q, rfl, h⟩ (Foot.refl hw _ _))
  | false =>
    refine ifC_ff rfl (h.file hO (by omega) (fun hn => ?_) (fun k hn => ?_))
    · simp only [renameR, hd, hn, Bool.false_eq_true, if_false, Prod.mk.injEq] at e
      obtain ⟨rfl, rfl⟩ := e
      exact ifC_tt rfl (stay ⟨q, rfl, h⟩ (Foot.refl hw _ _))
    · refine ifC_ff (by simp) (ref17_Name.spec hO.name ?_)
      cases hg : goodN t with
      | false =>
        simp only [renameR, hd, hn, hg, Bool.false_eq_true, if_false, Bool.not_false, if_true, Prod.mk.injEq] at e
        obtain ⟨rfl, rfl⟩ := e
        exact ifC_tt rfl (stay ⟨q, rfl, h⟩ (Foot.refl hw _ _))
      | true =>
        simp only [renameR, hd, hn, hg, Bool.false_eq_true, if_false, Bool.not_true, Prod.mk.injEq] at e
        obtain ⟨rfl, rfl⟩ := e
        have hm := (lkK_some hok.stNow.sorted.nod).1 hn
        have hne : t ≠ [] := by
          simp only [goodN, Bool.and_eq_true, decide_eq_true_eq] at hg
          exact hg.1.2
        exact ifC_ff rfl (RefIn.change hO hw h hM hok.n3 hok.left hok.n1 (by omega) (c := ⟨2, n, t, k⟩) ⟨k + 1, .inr (.inl ⟨rfl, hok.stNow.ne _ hm, hne, Nat.lt_succ_self k⟩)⟩ hk)

theorem RefIn.syncDir {v : Int} {r' : DiskR} (e : syncDirR r = (v, r')) {K : Int → St → Prop} (hk : ∀ S' D' B', RH S' D' B' q.e r' → Foot D B S D' B' S' → K v S') : CallA P (N Fn.ref17_Disk_SyncDir) [.ptr q.e 0] S (retT [.one (.int .i64)] K) := by
  have stay := hk S D B
  have hlen := hok.stNow.len
  refine ref17_Disk_SyncDir.run hO.syncDir (h.down hO ?_)
  cases hd : downR r with
  | true =>
    simp only [syncDirR, hd, if_true, Prod.mk.injEq] at e
    obtain ⟨rfl, rfl⟩ := e
    exact ifC_tt rfl (stay ⟨q, rfl, h⟩ (Foot.refl hw _ _))
  | false =>
    simp only [syncDirR, hd, Bool.false_eq_true, if_false, Prod.mk.injEq] at e
    obtain ⟨rfl, rfl⟩ := e
    refine ifC_ff rfl ⟨rfl, ifS_mk (a := .ptr q.e 2) rfl (ifS_mk (ld h.obj rfl) (ref17_without.spec hO.without hw h.now (by omega) fun v2 S2 b2 => ⟨rfl, ifS_mk (a := .ptr q.e 3) rfl ?_⟩))⟩
    rw [dropK_id (fun p hp => hok.stNow.ne p hp)] at b2
    have o2 := (h.grow b2.grow).obj
    have oN := b2.sl.1.cells1
    have hne : q.e ∉ v2.block := fun hi => by have := b2.from _ hi; have := h.nE; omega
    refine st_mk b2.grow.wf o2 (by rw [oN]; rfl) (by rw [oN]; simp [robj]) (by rw [oN]; simp [b2.one]) fun S3 u3 m3 n3 => ⟨rfl, ifS_mk (a := .ptr q.e 4) rfl ?_⟩
    rw [oN] at m3
    simp only [robj, over] at m3
    refine st_mk u3.wf m3 rfl (by simp [V.cells]) (by simp [V.cells, V.one]) fun S4 u4 m4 n4 => ?_
    simp only [over, V.cells] at m4
    have u : Upd [q.e] S S4 := ((b2.grow.mono (by simp)).after u3 fun i hi => .inr hi).after u4 fun i hi => .inr hi
    have u24 : Upd [q.e] S2 S4 := u3.trans u4
    have l2 := b2.grow.le
    have nv : ∀ i ∈ v2.block, i ∉ [q.e] := fun i hi hx => by
      simp only [List.mem_singleton] at hx
      subst hx; exact hne hi
    have h4 : RefIn S4 D (B ++ v2.block) { q with vs := v2, vc := .nilSlice } { r with safe := r.now, chs := [] } :=
      h.names u (Bn := v2.block) (fun i hi => ⟨b2.from i hi, by have := b2.lt i hi; omega⟩) m4 rfl rfl rfl rfl (SlE.upd h.now u fun i hi hx => by
        simp only [List.mem_singleton] at hx
        subst hx; exact h.apart _ h.dE (h.bN _ hi)) (SlE.upd b2.sl u24 nv) (.inr ⟨rfl, rfl⟩) (fun i hi => List.mem_append_left _ (h.bN i hi)) (fun i hi => List.mem_append_right _ hi)
    have f4 : Foot D B S D (B ++ v2.block) S4 := by
      have := Foot.of (D := D) (B := B) (Dn := []) (Bn := v2.block) u (fun i hi => by simp only [List.mem_singleton] at hi; subst hi; exact .inl h.dE) (by simp) (fun i hi => b2.from i hi)
      rwa [List.append_nil] at this
    refine RefIn.step hO u.wf h4 hM hok.n3 hok.left fun S5 h5 u5 => hk S5 _ _ ⟨{ q with vs := v2, vc := .nilSlice }, rfl, h5⟩ (f4.trans ⟨fun i hi => .inl hi, fun i hi => .inl hi, u5.mono fun i hi => .inl ?_⟩)
    simp only [List.mem_singleton] at hi
    subst hi
    exact h.dE
end

end Go.Th.L
end

section
/- The document's disk: calls that change files. -/
set_option linter.unusedSimpArgs false
set_option linter.unusedVariables false
set_option maxHeartbeats 1000000
namespace Go.Th.L
open Go Go.Th Go.Th.Pure
variable {P : Program} {N : Nat → Nat}

theorem RefIn.setF {S S' : St} {D B Bn : List Nat} {q : RP} {r : DiskR} (h : RefIn S D B q r) {k : Nat} (hk : k < r.files.length) {v : V} {f : FileR} {cs : List V} (u : Upd q.vf.block S S') (a : Acc S' 0 2 q.vf r.files.length cs)
    (hcs : cs = ((fileE q.bv r.files).set k [v, .int .i64 (f.safe : Nat)]).flatten) (hv : BytesAt S' v f.b) (hBn : ∀ i ∈ Bn, S.next ≤ i ∧ i < S'.next) (hvB : ∀ i ∈ v.block, i ∈ B ++ Bn) :
    RefIn S' D (B ++ Bn) { q with bv := fun j => if j = k then v else q.bv j } (setFl r k f) := by
  have nB : ∀ i ∈ B, i ∉ q.vf.block := fun i hi hx => h.apart i (h.dF i hx) hi
  have hl : (setFl r k f).files.length = r.files.length := by simp [setFl]
  have := h.re (Dn := []) (Bn := Bn) (q' := { q with bv := fun j => if j = k then v else q.bv j }) (r' := setFl r k f) u (by simp) hBn (by simp) (u.get h.obj h.neF) rfl
    (by
      rw [hl]
      have e : fileE (fun j => if j = k then v else q.bv j) (setFl r k f).files = (fileE q.bv r.files).set k [v, .int .i64 (f.safe : Nat)] := by
        have := fileE_set (bv := q.bv) (bv' := fun j => if j = k then v else q.bv j) (fs := r.files) (k := k) (f := f) (fun j hj => by simp [hj])
        simpa [setFl] using this
      simp only
      rw [e, ← hcs]; exact a)
    (SlE.upd h.now u fun i hi => nB i (h.bN i hi)) (SlE.upd h.safe u fun i hi => nB i (h.bS i hi)) (h.chs.upd u fun i hi hx => h.neFC i hx hi)
    (by
      intro j hj
      rw [hl] at hj
      rw [fl_set hk]
      by_cases e : j = k
      · subst e; simp only [if_true]; exact hv
      · simp only [if_neg e]; exact SlAt.upd (h.fl j hj) u fun i hi => nB i (h.bB j hj i hi))
    (fun i hi => List.mem_append_left _ (h.dF i hi)) (fun i hi => List.mem_append_left _ (h.dC i hi)) (fun i hi => List.mem_append_left _ (h.bN i hi)) (fun i hi => List.mem_append_left _ (h.bS i hi))
    (by
      intro j hj i hi
      rw [hl] at hj
      by_cases e : j = k
      · subst e; simp only [if_true] at hi; exact hvB i hi
      · simp only [if_neg e] at hi; exact List.mem_append_left _ (h.bB j hj i hi))
    h.neF h.neC h.neFC
  rwa [List.append_nil] at this

section
variable (hO : RefF P N) {S : St} {D B : List Nat} {q : RP} {r : DiskR} (h : RefIn S D B q r) (hw : S.Wf)
include hO h hw

theorem RefIn.stop {n : Int} {v : Int} {r' : DiskR} (e : stopR r n = (v, r')) {K : Int → St → Prop} (hk : ∀ S' D' B', RH S' D' B' q.e r' → Foot D B S D' B' S' → K v S') : CallA P (N Fn.ref17_Disk_Stop) [.ptr q.e 0, .int .i64 n] S (retT [.one (.int .i64)] K) := by
  have stay := hk S D B
  refine ref17_Disk_Stop.run hO.stop (h.down hO ?_)
  cases hd : downR r with
  | true =>
    simp only [stopR, hd, if_true, Prod.mk.injEq] at e
    obtain ⟨rfl, rfl⟩ := e
    exact ifC_tt rfl (stay ⟨q, rfl, h⟩ (Foot.refl hw _ _))
  | false =>
    refine ifC_ff rfl (ifC_dec (fun hn => ?_) (fun hn => ?_))
    · simp only [stopR, hd, Bool.false_eq_true, if_false, if_pos hn, Prod.mk.injEq] at e
      obtain ⟨rfl, rfl⟩ := e
      exact stay ⟨q, rfl, h⟩ (Foot.refl hw _ _)
    · simp only [stopR, hd, Bool.false_eq_true, if_false, if_neg hn, Prod.mk.injEq] at e
      obtain ⟨rfl, rfl⟩ := e
      refine ⟨rfl, ifS_mk (a := .ptr q.e 6) rfl (st_mk hw h.obj rfl (by simp [robj, V.cells]) (by simp [V.cells, V.one]) fun S1 u1 m1 n1 => ?_)⟩
      simp only [robj, over, V.cells] at m1
      have nB : ∀ i ∈ B, i ∉ [q.e] := fun i hi hx => by
        simp only [List.mem_singleton] at hx
        subst hx
        exact h.apart _ h.dE hi
      have := h.names (q' := q) (r' := { r with left := n }) (Bn := []) u1 (by simp) m1 rfl rfl rfl rfl (SlE.upd h.now u1 fun i hi => nB i (h.bN i hi)) (SlE.upd h.safe u1 fun i hi => nB i (h.bS i hi)) (.inl ⟨rfl, rfl⟩) (fun i hi => List.mem_append_left _ (h.bN i hi)) (fun i hi => List.mem_append_left _ (h.bS i hi))
      rw [List.append_nil] at this
      refine hk S1 D B ⟨q, rfl, this⟩ ⟨fun i hi => .inl hi, fun i hi => .inl hi, u1.mono fun i hi => .inl ?_⟩
      simp only [List.mem_singleton] at hi
      subst hi; exact h.dE

variable {M : Nat} (hok : OkR M r) (hM : M ≤ 1000000)
include hok hM

theorem RefIn.sync {n : Nm} {v : Int} {r' : DiskR} (e : syncR r n = (v, r')) {K : Int → St → Prop} (hk : ∀ S' D' B', RH S' D' B' q.e r' → Foot D B S D' B' S' → K v S') : CallA P (N Fn.ref17_Disk_Sync) [.ptr q.e 0, .str n] S (retT [.one (.int .i64)] K) := by
  have stay := hk S D B
  have hlen := hok.stNow.len
  refine ref17_Disk_Sync.run hO.sync (h.down hO ?_)
  cases hd : downR r with
  | true =>
    simp only [syncR, hd, if_true, Prod.mk.injEq] at e
    obtain ⟨rfl, rfl⟩ := e
    exact ifC_tt rfl (stay ⟨q, rfl, h⟩ (Foot.refl hw _ _))
  | false =>
    refine ifC_ff rfl (h.file hO (by omega) (fun hn => ?_) (fun k hn => ?_))
    · simp only [syncR, hd, hn, Bool.false_eq_true, if_false, Prod.mk.injEq] at e
      obtain ⟨rfl, rfl⟩ := e
      exact ifC_tt rfl (stay ⟨q, rfl, h⟩ (Foot.refl hw _ _))
    · simp only [syncR, hd, hn, Bool.false_eq_true, if_false, Prod.mk.injEq] at e
      obtain ⟨rfl, rfl⟩ := e
      have hpk : k < r.files.length := hok.stNow.idx _ ((lkK_some hok.stNow.sorted.nod).1 hn)
      have hix : idxAddrV 2 q.vf (.int .i64 ((k : Nat) : Int)) = some (eltV 2 q.vf k 0) := SlE.idx h.flE (by rw [fileE_len]; exact hpk)
      have hfd : ∀ f, fieldAddrV f (eltV 2 q.vf k 0) = some (eltV 2 q.vf k f) := SlE.fld h.flE (by rw [fileE_len]; exact hpk)
      obtain ⟨S1, e1, a1, u1⟩ := h.files.put hw (m := k) (off := 1) (x := .int .i64 ((r.fl k).b.length : Nat)) hpk (by simp [V.cells]) (by simp [V.cells, V.one]) (by simp [V.cells])
      refine ifC_ff (by simp) ⟨rfl, ifS_mk (a := .ptr q.e 1) rfl (ifS_mk (ld h.obj rfl) ⟨rfl, ifS_mk (a := .ptr q.e 1) rfl (ifS_mk (ld h.obj rfl) (ifS_mk hix (ifS_mk (hfd 0) (ifS_mk (h.fileB hpk) ⟨_, SlAt.len (h.fl k hpk), ifS_mk hix (ifS_mk (hfd 1) (ifS_mk e1 ?_))⟩))))⟩)⟩
      have hfe : (fileE q.bv r.files).length = r.files.length := fileE_len _ _
      have h1 := h.setF hpk (v := q.bv k) (f := ⟨(r.fl k).b, (r.fl k).b.length⟩) (Bn := []) u1 a1 (by
        simp only [V.cells]
        rw [over_set1 (by rw [flatten_len (fileE_two _ _), hfe]; have : (k + 1) * 2 ≤ r.files.length * 2 := Nat.mul_le_mul_right _ hpk; omega), flat_set (fileE_two _ _) (by rw [hfe]; exact hpk) (by omega), fileE_get]
        rfl) (SlAt.upd (h.fl k hpk) u1 fun i hi hx => h.apart i (h.dF i hx) (h.bB k hpk i hi)) (by simp) (fun i hi => List.mem_append_left _ (h.bB k hpk i hi))
      rw [List.append_nil] at h1
      have f1 : Foot D B S D B S1 := ⟨fun i hi => .inl hi, fun i hi => .inl hi, u1.mono fun i hi => .inl (h.dF i hi)⟩
      refine RefIn.step hO u1.wf h1 hM hok.n3 hok.left fun S2 h2 u2 => hk S2 _ _ ⟨{ q with bv := fun j => if j = k then q.bv k else q.bv j }, rfl, h2⟩ (f1.trans ⟨fun i hi => .inl hi, fun i hi => .inl hi, u2.mono fun i hi => .inl ?_⟩)
      simp only [List.mem_singleton] at hi
      subst hi; exact h.dE

theorem RefIn.append {n : Nm} {x : V} {bs : List UInt8} (hx : BytesAt S x bs) (hxl : bs.length ≤ 1000000000) {v : Int} {r' : DiskR} (e : appendR r n bs = (v, r')) {K : Int → St → Prop} (hk : ∀ S' D' B', RH S' D' B' q.e r' → Foot D B S D' B' S' → K v S') :
    CallA P (N Fn.ref17_Disk_Append) [.ptr q.e 0, .str n, x] S (retT [.one (.int .i64)] K) := by
  have stay := hk S D B
  have hlen := hok.stNow.len
  refine ref17_Disk_Append.run hO.append (h.down hO ?_)
  cases hd : downR r with
  | true =>
    simp only [appendR, hd, if_true, Prod.mk.injEq] at e
    obtain ⟨rfl, rfl⟩ := e
    exact ifC_tt rfl (stay ⟨q, rfl, h⟩ (Foot.refl hw _ _))
  | false =>
    refine ifC_ff rfl (h.file hO (by omega) (fun hn => ?_) (fun k hn => ?_))
    · simp only [appendR, hd, hn, Bool.false_eq_true, if_false, Prod.mk.injEq] at e
      obtain ⟨rfl, rfl⟩ := e
      exact ifC_tt rfl (stay ⟨q, rfl, h⟩ (Foot.refl hw _ _))
    · have hroom := hok.room
      have hus : usedR r ≤ 268435456 := by
        have e1 : usedR r = (r.now.map fun p => (r.fl p.2).b.length).sum := by simp [usedR, hd]
        have e2 := used_sum (fun k => (r.fl k).b.length) r.now fun p _ => (hok.fl p.2).2
        omega
      refine ifC_ff (by simp) ⟨_, SlAt.len hx, rfl, ifS_mk (a := .ptr q.e 0) rfl ⟨_, ld h.obj rfl, h.used hO hok (sameK_mk (Same.refl _ _) (setI_mk (n := r.room - (usedR r : Nat)) (by rw [IntKind.wrap_i64]; omega) (ifC_dec (fun hlt => ?_) (fun hge => ?_))))⟩⟩
      · have hlt' : r.room - (usedR r : Int) < (bs.length : Int) := by omega
        simp only [appendR, hd, hn, Bool.false_eq_true, if_false, if_pos hlt', Prod.mk.injEq] at e
        obtain ⟨rfl, rfl⟩ := e
        exact stay ⟨q, rfl, h⟩ (Foot.refl hw _ _)
      · have hge' : ¬ r.room - (usedR r : Int) < (bs.length : Int) := by omega
        simp only [appendR, hd, hn, Bool.false_eq_true, if_false, if_neg hge', Prod.mk.injEq] at e
        obtain ⟨rfl, rfl⟩ := e
        have hpk : k < r.files.length := hok.stNow.idx _ ((lkK_some hok.stNow.sorted.nod).1 hn)
        have hix : idxAddrV 2 q.vf (.int .i64 ((k : Nat) : Int)) = some (eltV 2 q.vf k 0) := SlE.idx h.flE (by rw [fileE_len]; exact hpk)
        have hfd : ∀ f, fieldAddrV f (eltV 2 q.vf k 0) = some (eltV 2 q.vf k f) := SlE.fld h.flE (by rw [fileE_len]; exact hpk)
        have hfl := (hok.fl k).2
        refine ⟨rfl, ifS_mk (a := .ptr q.e 1) rfl (ifS_mk (ld h.obj rfl) (ifS_mk hix (ifS_mk (hfd 0) (ifS_mk (h.fileB hpk) ?_))))⟩
        refine BuiltB.app (bs := []) (Built.nil (Upd.refl hw []) 1) (ds := (r.fl k).b) (SlAt.src (h.fl k hpk)) (by simp only [List.length_nil]; omega) fun v4 S4 b4 u4 t4 => ?_
        have b4' : BuiltB S S4 v4 (r.fl k).b := b4
        have h4 := h.grow b4'.grow
        refine ⟨rfl, ifS_mk (a := .ptr q.e 1) rfl (ifS_mk (ld h4.obj rfl) (BuiltB.app b4' (ds := bs) (SlAt.src (SlAt.grow hx b4'.grow)) (by omega) fun v5 S5 b5 u5 t5 => sameK_mk (same_upd u5 ?_) ?_))⟩
        · intro i hi
          simp only [V.block, List.append_nil, List.mem_singleton] at hi
          subst hi
          exact ⟨h4.nE, fun hi => by have := b4'.from _ hi; have := h.nE; omega⟩
        have h5 := h.grow b5.grow
        obtain ⟨S6, e6, a6, u6⟩ := h5.files.put b5.grow.wf (m := k) (off := 0) (x := v5) hpk (by rw [b5.acc.at_.cells1]; simp) (by rw [b5.acc.at_.cells1]; simp [b5.one]) (by rw [b5.acc.at_.cells1]; simp)
        rw [b5.acc.at_.cells1] at e6 a6
        refine ifS_mk hix (ifS_mk (hfd 0) (ifS_mk e6 ?_))
        have hfe : (fileE q.bv r.files).length = r.files.length := fileE_len _ _
        have u06 : Upd q.vf.block S S6 := (b5.grow.mono (by simp)).after u6 fun i hi => .inr hi
        have ef : r.fl k = r.files[k] := by simp [DiskR.fl, List.getD_eq_getElem?_getD, hpk]
        have h6 := h.setF hpk (v := v5) (f := ⟨(r.fl k).b ++ bs, (r.fl k).safe⟩) (Bn := v5.block) u06 a6 (by
          rw [over_set1 (by rw [flatten_len (fileE_two _ _), hfe]; have : (k + 1) * 2 ≤ r.files.length * 2 := Nat.mul_le_mul_right _ hpk; omega), flat_set (fileE_two _ _) (by rw [hfe]; exact hpk) (by omega), fileE_get, ← ef]
          rfl) (SlAt.upd b5.at_ u6 fun i hi hx => by have := b5.from i hi; have := h.ltD i (h.dF i hx); omega) (fun i hi => ⟨b5.from i hi, by have := b5.lt i hi; have := u6.le; omega⟩) (fun i hi => List.mem_append_right _ hi)
        have f6 : Foot D B S D (B ++ v5.block) S6 := by
          have := Foot.of (D := D) (B := B) (Dn := []) (Bn := v5.block) u06 (fun i hi => .inl (h.dF i hi)) (by simp) (fun i hi => b5.from i hi)
          rwa [List.append_nil] at this
        refine RefIn.step hO u06.wf h6 hM hok.n3 hok.left fun S7 h7 u7 => hk S7 _ _ ⟨{ q with bv := fun j => if j = k then v5 else q.bv j }, rfl, h7⟩ (f6.trans ⟨fun i hi => .inl hi, fun i hi => .inl hi, u7.mono fun i hi => .inl ?_⟩)
        simp only [List.mem_singleton] at hi
        subst hi; exact h.dE

theorem RefIn.create {n : Nm} {v : Int} {r' : DiskR} (e : createR r n = (v, r')) {K : Int → St → Prop} (hk : ∀ S' D' B', RH S' D' B' q.e r' → Foot D B S D' B' S' → K v S') : CallA P (N Fn.ref17_Disk_Create) [.ptr q.e 0, .str n] S (retT [.one (.int .i64)] K) := by
  have stay := hk S D B
  have hlen := hok.stNow.len
  refine ref17_Disk_Create.run hO.create (h.down hO ?_)
  cases hd : downR r with
  | true =>
    simp only [createR, hd, if_true, Prod.mk.injEq] at e
    obtain ⟨rfl, rfl⟩ := e
    exact ifC_tt rfl (stay ⟨q, rfl, h⟩ (Foot.refl hw _ _))
  | false =>
    refine ifC_ff rfl (ref17_Name.spec hO.name ?_)
    cases hg : goodN n with
    | false =>
      simp only [createR, hd, hg, Bool.false_eq_true, if_false, Bool.not_false, if_true, Prod.mk.injEq] at e
      obtain ⟨rfl, rfl⟩ := e
      exact ifC_tt rfl (stay ⟨q, rfl, h⟩ (Foot.refl hw _ _))
    | true =>
      refine ifC_ff rfl ⟨rfl, ifS_mk (a := .ptr q.e 2) rfl (ifS_mk (ld h.obj rfl) (ref17_find.spec hO.find h.now (by omega) (fun hn => ?_) (fun j hj hn => ?_)))⟩
      · refine ifC_ff rfl ⟨rfl, ifS_mk (a := .ptr q.e 2) rfl (ifS_mk (ld h.obj rfl) ⟨_, h.now.length, ifC_dec (fun hm => ?_) (fun hm => ?_)⟩)⟩
        · have hm' : 64 ≤ r.now.length := by omega
          simp only [createR, hd, hg, hn, Bool.false_eq_true, if_false, Bool.not_true, Option.isSome_none, if_pos hm', Prod.mk.injEq] at e
          obtain ⟨rfl, rfl⟩ := e
          exact stay ⟨q, rfl, h⟩ (Foot.refl hw _ _)
        · have hm' : ¬ 64 ≤ r.now.length := by omega
          simp only [createR, hd, hg, hn, Bool.false_eq_true, if_false, Bool.not_true, Option.isSome_none, if_neg hm', Prod.mk.injEq] at e
          obtain ⟨rfl, rfl⟩ := e
          have hnf := hok.n2
          have hne : n ≠ [] := by
            simp only [goodN, Bool.and_eq_true, decide_eq_true_eq] at hg
            exact hg.1.2
          refine ⟨rfl, ifS_mk (a := .ptr q.e 1) rfl (ifS_mk (ld h.obj rfl) (newS_mk hw fun S4 g4 m4 n4 => ?_))⟩
          have h4 := h.grow g4
          have hs : srcV 2 S4 (.slice S.next 0 1 1 2 true) = some (1, [.nilSlice, .int .i64 0]) := by
            simp only [srcV, if_true]
            rw [St.loads_of m4 (by simp)]; rfl
          obtain ⟨v5, S5, e5, a5, u5, t5⟩ := h4.files.app g4.wf (by omega) hs rfl (by simp [V.one]) (bytes := 32) (by omega) (by omega)
          have l5 := u5.le
          have l4 := g4.le
          have o5 := u5.get h4.obj h4.neF
          have e0 : q.e < S4.next := h4.nE
          have hv5 : ∀ i ∈ v5.block, i < S5.next := fun i hi => by
            obtain ⟨_, vs, hg⟩ := a5.own i hi
            exact u5.wf.lt hg
          have hne5 : q.e ∉ v5.block := fun hi => by
            rcases t5 _ hi with h' | h'
            · exact h.neF h'
            · omega
          refine ifP_mk e5 ⟨rfl, ifS_mk (a := .ptr q.e 1) rfl (st_mk u5.wf o5 (by rw [a5.at_.cells1]; rfl) (by rw [a5.at_.cells1]; simp [robj]) (by rw [a5.at_.cells1]; simp [a5.at_.one1]) fun S6 u6 m6 n6 => ⟨rfl, ifS_mk (a := .ptr q.e 1) rfl ?_⟩)⟩
          rw [a5.at_.cells1] at m6
          simp only [robj, over] at m6
          have u46 : Upd (q.e :: q.vf.block) S4 S6 := (u5.mono fun i hi => .inl (List.mem_cons_of_mem _ hi)).after u6 fun i hi => .inr (by simp only [List.mem_singleton] at hi; simp [hi])
          have nB : ∀ i ∈ B, i ∉ q.e :: q.vf.block := fun i hi hx => by
            rcases List.mem_cons.mp hx with hx | hx
            · subst hx; exact h.apart _ h.dE hi
            · exact h.apart _ (h.dF i hx) hi
          have a6 := a5.upd u6 fun i hi => by
            simp only [List.mem_singleton]
            rintro rfl
            exact hne5 hi
          have h6 := h4.re (Dn := v5.block.filter fun i => decide (S4.next ≤ i)) (Bn := []) (q' := { q with vf := v5, bv := fun j => if j = r.files.length then .nilSlice else q.bv j }) (r' := { r with files := r.files ++ [⟨[], 0⟩] }) u46 (fun i hi => by
              simp only [List.mem_filter, decide_eq_true_eq] at hi
              exact ⟨hi.2, by have := hv5 i hi.1; omega⟩) (by simp) (by simp) m6 rfl
            (by
              have ea := fileE_add (bv := q.bv) (bv' := fun j => if j = r.files.length then .nilSlice else q.bv j) (fs := r.files) (f := ⟨[], 0⟩) (fun j hj => by
                have : ¬ j = r.files.length := by omega
                simp [this])
              simp only [ea, List.flatten_append, List.length_append, List.length_singleton]
              simpa using a6)
            (SlE.upd h4.now u46 fun i hi => nB i (h4.bN i hi)) (SlE.upd h4.safe u46 fun i hi => nB i (h4.bS i hi)) (h4.chs.upd u46 fun i hi hx => by
              rcases List.mem_cons.mp hx with hx | hx
              · subst hx; exact h.neC hi
              · exact h.neFC i hx hi)
            (by
              intro j hj
              simp only [List.length_append, List.length_singleton] at hj
              by_cases ej : j = r.files.length
              · subst ej
                have : DiskR.fl { r with files := r.files ++ [⟨[], 0⟩] } r.files.length = ⟨[], 0⟩ := by simp [DiskR.fl, List.getD_eq_getElem?_getD]
                rw [this]
                simp only [if_true]
                exact ⟨by simp, by simp [bytesV], .inl ⟨rfl, rfl⟩⟩
              · have : DiskR.fl { r with files := r.files ++ [⟨[], 0⟩] } j = r.fl j := by
                  simp only [DiskR.fl, List.getD_eq_getElem?_getD]
                  rw [List.getElem?_append_left (by omega)]
                rw [this]
                simp only [if_neg ej]
                exact SlAt.upd (h4.fl j (by omega)) u46 fun i hi => nB i (h4.bB j (by omega) i hi))
            (fun i hi => by
              rcases t5 i hi with h' | h'
              · exact List.mem_append_left _ (h.dF i h')
              · refine List.mem_append_right _ ?_
                simp only [List.mem_filter, decide_eq_true_eq]
                exact ⟨hi, h'⟩) (fun i hi => List.mem_append_left _ (h4.dC i hi)) (fun i hi => List.mem_append_left _ (h4.bN i hi)) (fun i hi => List.mem_append_left _ (h4.bS i hi))
            (by
              intro j hj i hi
              simp only [List.length_append, List.length_singleton] at hj
              by_cases ej : j = r.files.length
              · simp only [if_pos ej, V.block] at hi
                cases hi
              · simp only [if_neg ej] at hi
                exact List.mem_append_left _ (h4.bB j (by omega) i hi)) hne5 h.neC (fun i hi hx => by
              rcases t5 i hi with h' | h'
              · exact h.neFC i h' hx
              · have := h4.ltD i (h.dC i hx); omega)
          have f6 : Foot D B S (D ++ v5.block.filter fun i => decide (S4.next ≤ i)) (B ++ []) S6 := (Foot.grow g4).trans (Foot.of u46 (fun i hi => by
            rcases List.mem_cons.mp hi with hi | hi
            · subst hi; exact .inl h.dE
            · exact .inl (h.dF i hi)) (fun i hi => by
              simp only [List.mem_filter, decide_eq_true_eq] at hi
              exact hi.2) (by simp))
          refine ifS_mk (ld m6 rfl) ⟨_, a6.at_.len, setI_mk (n := ((r.files.length : Nat) : Int)) (by rw [IntKind.wrap_i64]; omega) ?_⟩
          refine RefIn.change hO u46.wf h6 hM hok.n3 hok.left hok.n1 (by simp only; omega) (c := ⟨1, [], n, r.files.length⟩) ⟨r.files.length + 1, .inl ⟨rfl, rfl, hne, by simp⟩⟩ fun S7 D7 B7 h7 f7 => hk S7 D7 B7 h7 (f6.trans f7)
      · refine ifC_tt (by simp) ?_
        simp only [createR, hd, hg, hn, Bool.false_eq_true, if_false, Bool.not_true, Option.isSome_some, if_true, Prod.mk.injEq] at e
        obtain ⟨rfl, rfl⟩ := e
        exact stay ⟨q, rfl, h⟩ (Foot.refl hw _ _)
end

end Go.Th.L
end

section
/- The document's disk: a crash. -/
set_option linter.unusedSimpArgs false
set_option linter.unusedVariables false
set_option maxHeartbeats 1000000
namespace Go.Th.L
open Go Go.Th Go.Th.Pure
variable {P : Program} {N : Nat → Nat}

theorem RefIn.chE_ {S : St} {D B : List Nat} {q : RP} {r : DiskR} (h : RefIn S D B q r) : SlE S 4 q.vc (r.chs.map chE) := ⟨by
  have e : (r.chs.map chE).length = r.chs.length := by simp
  rw [e]; exact h.chs.at_, fun e he => by
  obtain ⟨c, _, rfl⟩ := List.mem_map.1 he; rfl⟩

theorem byteE_set (bs : List UInt8) (j : Nat) : (byteE bs).set j [V.int .u8 0] = byteE (bs.set j 0) := by
  simp [byteE, List.map_set]

theorem cutF_of (c : Int) (f : FileR) {b0 bs : List UInt8} (hb : b0 = f.b.take (f.safe + saysR c (f.b.length - f.safe))) (hs : f.safe ≤ b0.length) (hc : c < 0) (hl : bs.length = b0.length) (hg : ∀ i, i < b0.length → bs[i]? = if f.safe ≤ i ∧ i < b0.length then some 0 else b0[i]?) : cutF c f = ⟨bs, bs.length⟩ := by
  have e1 : (cutF c f).b = b0.take f.safe ++ List.replicate (b0.length - f.safe) 0 := by
    rw [cutF_b, if_pos hc, ← hb]
  have e2 : bs = b0.take f.safe ++ List.replicate (b0.length - f.safe) 0 := by
    apply List.ext_getElem?
    intro i
    rcases Nat.lt_or_ge i b0.length with hi | hi
    · rw [hg i hi]
      by_cases h1 : f.safe ≤ i
      · rw [if_pos ⟨h1, hi⟩, List.getElem?_append_right (by rw [List.length_take]; omega), List.getElem?_replicate, if_pos (by rw [List.length_take]; omega)]
      · rw [if_neg (by omega), List.getElem?_append_left (by rw [List.length_take]; omega), List.getElem?_take, if_pos (by omega)]
    · rw [List.getElem?_eq_none (by omega), List.getElem?_eq_none (by rw [List.length_append, List.length_take, List.length_replicate]; omega)]
  have e3 : cutF c f = ⟨(cutF c f).b, (cutF c f).b.length⟩ := rfl
  rw [e3, e1, ← e2]
theorem cutF_pos (c : Int) (f : FileR) (hc : ¬ c < 0) : cutF c f = ⟨f.b.take (f.safe + saysR c (f.b.length - f.safe)), (f.b.take (f.safe + saysR c (f.b.length - f.safe))).length⟩ := by
  have e3 : cutF c f = ⟨(cutF c f).b, (cutF c f).b.length⟩ := rfl
  rw [e3, cutF_b, if_neg hc]

def midR (cs : List Int) (r : DiskR) (i : Nat) : DiskR := { r with left := -1, now := crashN cs r, files := crashFs cs ((crashN cs r).take i) 0 r.files }

section
variable (hO : RefF P N) {S : St} {D B : List Nat} {q : RP} {r : DiskR} (h : RefIn S D B q r) (hw : S.Wf) {M : Nat} (hok : OkR M r) (hM : M ≤ 1000000)
include hO h hw hok hM

theorem RefIn.crash {x : V} {cs : List Int} (hx : IntsAt S x cs) (hxD : cs ≠ [] → ∀ i ∈ x.block, i ∉ D) (hcs : ∀ c ∈ cs, -9223372036854775808 ≤ c ∧ c ≤ 9223372036854775807) {K : St → Prop}
    (hk : ∀ S' D' B', RH S' D' B' q.e (crashR cs r) → Foot D B S D' B' S' → K S') : CallA P (N Fn.ref17_Disk_Crash) [.ptr q.e 0, x] S (retT [] K) := by
  have hchI : ∀ i, -9223372036854775808 ≤ choiceR cs i ∧ choiceR cs i ≤ 9223372036854775807 := fun i => by
    unfold choiceR
    rw [List.getD_eq_getElem?_getD]
    cases hi : cs[i]? with
    | none => simp
    | some c => exact hcs c (List.mem_of_getElem? hi)
  have hn1 := hok.n1
  have nBe : ∀ i ∈ B, i ∉ [q.e] := fun i hi hx => by
    simp only [List.mem_singleton] at hx
    subst hx
    exact h.apart _ h.dE hi
  refine ref17_Disk_Crash.run hO.crash ⟨rfl, ifS_mk (a := .ptr q.e 6) rfl (st_mk hw h.obj rfl (by simp [robj, V.cells]) (by simp [V.cells, V.one]) fun S1 u1 m1 n1 => ?_)⟩
  simp only [robj, over, V.cells] at m1
  have h1 : RefIn S1 D B q { r with left := -1 } := by
    have := h.names (q' := q) (r' := { r with left := -1 }) (Bn := []) u1 (by simp) m1 rfl rfl rfl rfl (SlE.upd h.now u1 fun i hi => nBe i (h.bN i hi)) (SlE.upd h.safe u1 fun i hi => nBe i (h.bS i hi)) (.inl ⟨rfl, rfl⟩) (fun i hi => List.mem_append_left _ (h.bN i hi)) (fun i hi => List.mem_append_left _ (h.bS i hi))
    rwa [List.append_nil] at this
  have hxU : ∀ {S' : St}, Upd D S S' → IntsAt S' x cs := fun u => by
    by_cases h0 : cs = []
    · subst h0; exact ints_none hx
    · exact SlAt.upd hx u (hxD h0)
  have hx1 : IntsAt S1 x cs := hxU (u1.mono fun i hi => by
    simp only [List.mem_singleton] at hi
    subst hi; exact .inl h.dE)
  have hcl : (r.chs.map chE).length = r.chs.length := by simp
  refine ⟨rfl, ifS_mk (a := .ptr q.e 3) rfl (ifS_mk (ld m1 rfl) ⟨rfl, ifS_mk (a := .ptr q.e 4) rfl (ifS_mk (ld m1 rfl) ⟨_, h1.chE_.len, ref17_choice.spec hO.choice (i := 0) hx1 (sameK_mk (Same.refl _ _) ?_)⟩)⟩)⟩
  simp only [hcl]
  refine ref17_says.spec hO.says (hchI 0) (by omega) (sameK_mk (Same.refl _ _) ?_)
  have hmany := saysR_le (choiceR cs 0) r.chs.length
  refine Loop2.ind (fun m y z S' => ∃ i : Nat, z = i ∧ i + m = saysR (choiceR cs 0) r.chs.length ∧ Grow S1 S' ∧ NsAt S' y (stsR r i)) (saysR (choiceR cs 0) r.chs.length) ⟨0, rfl, by omega, Upd.refl u1.wf [], h1.safe⟩ ?_
  rintro m y z S4 ⟨i, rfl, hi, g4, hy⟩
  have h4 := h1.grow g4
  refine ifC_dec (fun hlt => ?_) (fun hge => ?_)
  · have hic : i < r.chs.length := by omega
    have hst := (hok.sts i (by omega)).len
    have hge : (r.chs.map chE)[i]'(by rw [hcl]; exact hic) = chE r.chs[i] := by simp
    refine ⟨rfl, ifS_mk (a := .ptr q.e 4) rfl (ifS_mk (ld h4.obj rfl) (ifS_mk (h4.chE_.idx (by rw [hcl]; exact hic)) ⟨_, _, _, _, by rw [h4.chE_.getN (by rw [hcl]; exact hic) (by omega), hge]; rfl, ref17_apply.spec hO g4.wf hy (by omega) (c := r.chs[i]) ⟨_, hok.chs _ (List.getElem_mem hic)⟩ fun v5 S5 b5 => setI_mk (n := ((i + 1 : Nat) : Int)) (by rw [IntKind.wrap_i64]; omega) ⟨m - 1, by omega, i + 1, rfl, by omega, g4.trans b5.grow, ?_⟩⟩))⟩
    rw [stsR_succ hic]
    exact b5.sl
  have hi' : i = saysR (choiceR cs 0) r.chs.length := by omega
  subst hi'
  have hcn : stsR r (saysR (choiceR cs 0) r.chs.length) = crashN cs r := rfl
  have hN := crashN_ok hok cs
  rw [hcn] at hy
  have hNl := hN.len
  refine ref17_without.spec hO.without g4.wf hy (by omega) fun v6 S6 b6 => ⟨rfl, ifS_mk (a := .ptr q.e 2) rfl ?_⟩
  rw [dropK_id (fun p hp => hN.ne p hp)] at b6
  have g16 : Grow S1 S6 := g4.trans b6.grow
  have oN := b6.sl.1.cells1
  refine st_mk b6.grow.wf (g16.get h1.obj) (by rw [oN]; rfl) (by rw [oN]; simp [robj]) (by rw [oN]; simp [b6.one]) fun S7 u7 m7 n7 => ?_
  rw [oN] at m7
  simp only [robj, over] at m7
  have u17 : Upd [q.e] S1 S7 := (g16.mono (by simp)).after u7 fun i hi => .inr hi
  have l14 := g4.le
  have l46 := b6.grow.le
  have hne : q.e ∉ v6.block := fun hi => by have := b6.from _ hi; have := h1.nE; omega
  have h7 : RefIn S7 D (B ++ v6.block) { q with vn := v6 } (midR cs r 0) :=
    h1.names u17 (Bn := v6.block) (fun i hi => ⟨by have := b6.from i hi; omega, by have := b6.lt i hi; omega⟩) m7 rfl rfl rfl (by simp [midR, crashFs]) (SlE.upd b6.sl u7 fun i hi hx => by
      simp only [List.mem_singleton] at hx
      subst hx; exact hne hi) (SlE.upd h1.safe u17 fun i hi => nBe i (h1.bS i hi)) (.inl ⟨rfl, rfl⟩) (fun i hi => List.mem_append_right _ hi) (fun i hi => List.mem_append_left _ (h1.bS i hi))
  have f7 : Foot D B S D (B ++ v6.block) S7 := by
    have hl1 := u1.le
    have := Foot.of (D := D) (B := B) (Dn := []) (Bn := v6.block) (u1.after u17 fun i hi => .inr hi) (fun i hi => by simp only [List.mem_singleton] at hi; subst hi; exact .inl h.dE) (by simp) (fun i hi => by have := b6.from i hi; omega)
    rwa [List.append_nil] at this
  refine Loop1.ind (fun m z S' => ∃ (i : Nat) (B' : List Nat) (q' : RP), z = i ∧ i + m = (crashN cs r).length ∧ q'.e = q.e ∧ RefIn S' D B' q' (midR cs r i) ∧ Foot D B S D B' S') (crashN cs r).length ⟨0, _, { q with vn := v6 }, rfl, by omega, rfl, h7, f7⟩ ?_
  rintro m z S8 ⟨i, B8, q8, rfl, hi, e8, h8, f8⟩
  rw [← e8]
  have now8 : (midR cs r i).now = crashN cs r := rfl
  have fl8 : (midR cs r i).files.length = r.files.length := crashFs_len _ _ _ _
  have hnow := h8.now
  rw [now8] at hnow
  have w8 := f8.2.2.wf
  refine ⟨rfl, ifS_mk (a := .ptr q8.e 2) rfl (ifS_mk (ld h8.obj rfl) ⟨_, hnow.length, ifC_dec (fun hlt => ?_) (fun hge => ?_)⟩)⟩
  · have hin : i < (crashN cs r).length := by omega
    have hpk : (crashN cs r)[i].2 < (midR cs r i).files.length := by rw [fl8]; exact hN.idx _ (List.getElem_mem hin)
    generalize hk0 : (crashN cs r)[i].2 = k at hpk
    have hix : ∀ {S' : St} {B' : List Nat} {q' : RP} (h' : RefIn S' D B' q' (midR cs r i)), idxAddrV 2 q'.vf (.int .i64 ((k : Nat) : Int)) = some (eltV 2 q'.vf k 0) := fun h' => SlE.idx h'.flE (by rw [fileE_len]; exact hpk)
    have hsz : ((midR cs r i).fl k).safe ≤ ((midR cs r i).fl k).b.length ∧ ((midR cs r i).fl k).b.length ≤ 4194304 := by
      have := crashFs_sz cs ((crashN cs r).take i) 0 r.files hok.fsz
      unfold DiskR.fl
      rw [List.getD_eq_getElem?_getD, List.getElem?_eq_getElem hpk, Option.getD_some]
      exact this _ (List.getElem_mem hpk)
    generalize hf : (midR cs r i).fl k = f at hsz
    have hN2 := h8.fileN hpk
    rw [hf] at hN2
    have hfile := hnow.file hin
    rw [hk0] at hfile
    refine ⟨rfl, ifS_mk (a := .ptr q8.e 1) rfl (ifS_mk (ld h8.obj rfl) ⟨rfl, ifS_mk (a := .ptr q8.e 2) rfl (ifS_mk (ld h8.obj rfl) (ifS_mk (hnow.ix hin) (ifS_mk (hnow.fd hin 1) ⟨_, hfile, ifS_mk (hix h8) ⟨_, _, hN2, newS_mk w8 fun S9 g9 m9 n9 => sameK_mk (Same.of_grow g9 ?_) ?_⟩⟩)))⟩)⟩
    · intro j hj
      simp only [List.mem_append, List.append_nil] at hj
      rcases hj with hj | hj | hj | hj
      · exact h8.ltD _ (h8.dF j (eltV_block j hj))
      · exact h8.ltB _ (h8.bN j (eltV_block j hj))
      · simp only [V.block, List.mem_singleton] at hj; subst hj; exact h8.nE
      · simp only [V.block, List.mem_singleton] at hj; subst hj; exact h8.nE
    have hbk := h8.fl k hpk
    rw [hf] at hbk
    have c1 := SlAt.cells1 hbk
    have o1 := SlAt.one1 hbk
    refine st_mk g9.wf m9 rfl (by simp [V.cells]) (by simp only [V.cells, List.all_cons, List.all_nil, o1]; rfl) fun S10 u10 m10 n10 => ?_
    simp only [V.cells, over] at m10
    have g10 : Grow S8 S10 := g9.after u10 fun j hj => .inl (by simp only [List.mem_singleton] at hj; omega)
    have hx10 : IntsAt S10 x cs := SlAt.grow (hxU f8.2.2) g10
    have hb10 := SlAt.grow hbk g10
    refine setI_mk (n := ((i + 1 : Nat) : Int)) (by rw [IntKind.wrap_i64]; omega) (ref17_choice.spec hO.choice hx10 (ifS_mk (ld m10 rfl) ⟨_, SlAt.len hb10, _, ld m10 rfl, setI_mk (n := ((f.b.length - f.safe : Nat) : Int)) (by rw [IntKind.wrap_i64]; omega) (ref17_says.spec hO.says (hchI _) (by omega) (ifS_mk (ld m10 rfl) ⟨_, ld m10 rfl, ?_⟩))⟩))
    have hsle := saysR_le (choiceR cs (i + 1)) (f.b.length - f.safe)
    generalize hc : choiceR cs (i + 1) = c at hsle
    obtain ⟨v1, e1, a1, _⟩ := bytes_first hb10 (m := f.safe + saysR c (f.b.length - f.safe)) (by omega)
    refine setI_mk (n := ((f.safe + saysR c (f.b.length - f.safe) : Nat) : Int)) (by rw [IntKind.wrap_i64]; omega) (ifS_mk e1 ?_)
    generalize hb0 : f.b.take (f.safe + saysR c (f.b.length - f.safe)) = b0 at a1
    have hb0l : b0.length = f.safe + saysR c (f.b.length - f.safe) := by rw [← hb0, List.length_take]; omega
    refine BuiltB.app (bs := []) (Built.nil (Upd.refl g10.wf []) 1) (ds := b0) (SlAt.src a1) (by simp only [List.length_nil]; omega) fun v13 S13 b13 u13 t13 => ?_
    have b13' : BuiltB S10 S13 v13 b0 := b13
    have m13 := u13.get m10 (by simp [V.block])
    refine Join0.mid (fun S' => ∃ bs, BuiltB S10 S' v13 bs ∧ cutF c f = ⟨bs, bs.length⟩) ⟨_, ld m13 rfl, ?_⟩ ?_
    · refine Loop1.ind (fun m2 z2 S' => ∃ (j : Nat) (bs : List UInt8), z2 = j ∧ j + m2 = b0.length ∧ f.safe ≤ j ∧ BuiltB S10 S' v13 bs ∧ bs.length = b0.length ∧ (c < 0 ∨ (j = f.safe ∧ bs = b0)) ∧ ∀ a, a < b0.length → bs[a]? = if f.safe ≤ a ∧ a < j then some 0 else b0[a]?) (b0.length - f.safe) ⟨f.safe, b0, rfl, by omega, Nat.le_refl _, b13', rfl, .inr ⟨rfl, rfl⟩, fun a ha => by rw [if_neg (by omega)]⟩ ?_
      rintro m2 z2 S15 ⟨j, bs, rfl, hj, hjs, b15, hbl, hcd, hg⟩
      refine Join0.mid (fun S' => S' = S15 ∧ j < b0.length ∧ c < 0) ⟨_, SlAt.len b15.at_, ifC_dec (fun h1 => ifC_dec (fun h2 => ⟨rfl, by omega, h2⟩) (fun h2 => ?_)) (fun h1 => ?_)⟩ ?_
      · rcases hcd with hcd | ⟨rfl, rfl⟩
        · exact absurd hcd h2
        · exact ⟨bs, b15, by rw [cutF_pos c f h2, hb0]⟩
      · have hjl : j = b0.length := by omega
        subst hjl
        by_cases h2 : c < 0
        · exact ⟨bs, b15, cutF_of c f hb0.symm (by omega) h2 hbl hg⟩
        · rcases hcd with hcd | ⟨h3, rfl⟩
          · exact absurd hcd h2
          · exact ⟨bs, b15, by rw [cutF_pos c f h2, hb0]⟩
      · rintro S16 ⟨rfl, hjl, hcn⟩
        refine ifS_mk (SlAt.idx b15.at_ (by omega)) (b15.set (j := j) (by rw [byteE_len]; omega) (by omega) (x := .int .u8 0) (by simp [V.cells]) (by simp [V.cells, V.one]) fun S17 b17 u17 => setI_mk (n := ((j + 1 : Nat) : Int)) (by rw [IntKind.wrap_i64]; omega) ⟨m2 - 1, by omega, j + 1, bs.set j 0, rfl, by omega, by omega, ?_, by simp [hbl], .inl hcn, fun a ha => ?_⟩)
        · have : V.cells (.int .u8 0) = [V.int .u8 0] := by simp [V.cells]
          rw [this, byteE_set] at b17
          exact b17
        · rw [List.getElem?_set]
          by_cases haj : j = a
          · subst haj
            rw [if_pos rfl, if_pos (by omega), if_pos (by omega)]
          · rw [if_neg haj, hg a ha]
            by_cases h5 : f.safe ≤ a ∧ a < j
            · rw [if_pos h5, if_pos (by omega)]
            · rw [if_neg h5, if_neg (by omega)]
    · rintro S14 ⟨bs, b14, hcut⟩
      have g14 : Grow S8 S14 := g10.trans b14.grow
      have h14 := h8.grow g14
      have hnow14 := h14.now
      rw [now8] at hnow14
      have hfile14 := hnow14.file hin
      rw [hk0] at hfile14
      have hcells : V.cells (.agg [v13, .int .i64 ((bs.length : Nat) : Int)]) = [v13, .int .i64 ((bs.length : Nat) : Int)] := by simp [V.cells]
      obtain ⟨S18, e18, a18, u18⟩ := h14.files.put b14.grow.wf (m := k) (off := 0) (x := .agg [v13, .int .i64 ((bs.length : Nat) : Int)]) hpk (by rw [hcells]; simp) (by rw [hcells]; simp only [List.all_cons, List.all_nil, b14.one]; rfl) (by rw [hcells]; simp)
      rw [hcells] at e18 a18
      have hfe : (fileE q8.bv (midR cs r i).files).length = (midR cs r i).files.length := fileE_len _ _
      rw [Nat.add_zero, over_row (fileE_two _ _) (by rw [hfe]; exact hpk) _ rfl] at a18
      have u818 : Upd q8.vf.block S8 S18 := (g14.mono (by simp)).after u18 fun j hj => .inr hj
      have g810 := g10.le
      have h18 := h8.setF hpk (v := v13) (f := ⟨bs, bs.length⟩) (Bn := v13.block) u818 a18 rfl (SlAt.upd b14.at_ u18 fun j hj hx => by have := b14.from j hj; have := h8.ltD j (h8.dF j hx); omega) (fun j hj => ⟨by have := b14.from j hj; omega, by have := b14.lt j hj; have := u18.le; omega⟩) (fun j hj => List.mem_append_right _ hj)
      refine ⟨rfl, ifS_mk (a := .ptr q8.e 1) rfl (ifS_mk (ld h14.obj rfl) ⟨rfl, ifS_mk (a := .ptr q8.e 2) rfl (ifS_mk (ld h14.obj rfl) (ifS_mk (hnow14.ix hin) (ifS_mk (hnow14.fd hin 1) ⟨_, hfile14, _, SlAt.len b14.at_, b14.acc.at_.cells1, ifS_mk (hix h14) (ifS_mk e18 (setI_mk (n := ((i + 1 : Nat) : Int)) (by rw [IntKind.wrap_i64]; omega) ⟨m - 1, by omega, i + 1, B8 ++ v13.block, { q8 with bv := fun j => if j = k then v13 else q8.bv j }, rfl, by omega, rfl, ?_, ?_⟩))⟩)))⟩)⟩
      · have er : setFl (midR cs r i) k ⟨bs, bs.length⟩ = midR cs r (i + 1) := by
          have e1 : (crashN cs r).take (i + 1) = (crashN cs r).take i ++ [(crashN cs r)[i]] := by
            rw [List.take_add_one, List.getElem?_eq_getElem hin, Option.toList_some]
          have e2 : ((crashN cs r).take i).length = i := by rw [List.length_take]; omega
          have e3 : (crashFs cs ((crashN cs r).take i) 0 r.files).getD k ⟨[], 0⟩ = f := hf
          simp only [setFl, midR]
          rw [e1, crashFs_snoc, e2, hk0, Nat.zero_add, hc, e3, hcut]
        rw [← er]
        exact h18
      · refine f8.trans ⟨fun j hj => .inl hj, fun j hj => ?_, u818.mono fun j hj => .inl (h8.dF j hj)⟩
        rcases List.mem_append.mp hj with hj | hj
        · exact .inl hj
        · exact .inr (by have := b14.from j hj; omega)
  · have hil : i = (crashN cs r).length := by omega
    refine ⟨rfl, ifS_mk (a := .ptr q8.e 2) rfl (ifS_mk (ld h8.obj rfl) (ref17_without.spec hO.without w8 hnow (by omega) fun v9 S9 b9 => ⟨rfl, ifS_mk (a := .ptr q8.e 3) rfl ?_⟩))⟩
    rw [dropK_id (fun p hp => hN.ne p hp)] at b9
    have o9 := (h8.grow b9.grow).obj
    have oN9 := b9.sl.1.cells1
    have hne9 : q8.e ∉ v9.block := fun hi => by have := b9.from _ hi; have := h8.nE; omega
    refine st_mk b9.grow.wf o9 (by rw [oN9]; rfl) (by rw [oN9]; simp [robj]) (by rw [oN9]; simp [b9.one]) fun S10 u10 m10 n10 => ⟨rfl, ifS_mk (a := .ptr q8.e 4) rfl ?_⟩
    rw [oN9] at m10
    simp only [robj, over] at m10
    refine st_mk u10.wf m10 rfl (by simp [V.cells]) (by simp [V.cells, V.one]) fun S11 u11 m11 n11 => ?_
    simp only [over, V.cells] at m11
    have u : Upd [q8.e] S8 S11 := ((b9.grow.mono (by simp)).after u10 fun i hi => .inr hi).after u11 fun i hi => .inr hi
    have u24 : Upd [q8.e] S9 S11 := u10.trans u11
    have l2 := b9.grow.le
    have h11 : RefIn S11 D (B8 ++ v9.block) { q8 with vs := v9, vc := .nilSlice } (crashR cs r) := by
      refine h8.names u (Bn := v9.block) (fun i hi => ⟨b9.from i hi, by have := b9.lt i hi; omega⟩) ?_ rfl rfl rfl (by simp only [midR, crashR]; rw [hil, List.take_length]) (SlE.upd hnow u fun i hi hx => ?_) (SlE.upd b9.sl u24 fun i hi hx => ?_) (.inr ⟨rfl, rfl⟩) (fun i hi => List.mem_append_left _ (h8.bN i hi)) (fun i hi => List.mem_append_right _ hi)
      · rw [m11]; rfl
      · simp only [List.mem_singleton] at hx
        subst hx; exact h8.apart _ h8.dE (h8.bN _ hi)
      · simp only [List.mem_singleton] at hx
        subst hx; exact hne9 hi
    refine hk S11 D (B8 ++ v9.block) ⟨{ q8 with vs := v9, vc := .nilSlice }, e8, h11⟩ (f8.trans ⟨fun j hj => .inl hj, fun j hj => ?_, u.mono fun j hj => .inl ?_⟩)
    · rcases List.mem_append.mp hj with hj | hj
      · exact .inl hj
      · exact .inr (b9.from j hj)
    · simp only [List.mem_singleton] at hj
      subst hj; exact h8.dE
end

end Go.Th.L
end

section
/- The document's disk: a copy. -/
set_option linter.unusedSimpArgs false
set_option linter.unusedVariables false
set_option maxHeartbeats 1000000
namespace Go.Th.L
open Go Go.Th Go.Th.Pure
variable {P : Program} {N : Nat → Nat}

section
variable (hO : RefF P N) {S : St} {D B : List Nat} {q : RP} {r : DiskR} (h : RefIn S D B q r) (hw : S.Wf) {M : Nat} (hok : OkR M r) (hM : M ≤ 1000000)
include hO h hw hok hM

theorem RefIn.clone {K : V → St → Prop} (hk : ∀ S' D' B' e', Grow S S' → RH S' D' B' e' r → (∀ i ∈ D', S.next ≤ i) → (∀ i ∈ B', i ∈ B ∨ S.next ≤ i) → e' = S.next → K (.ptr e' 0) S') : CallA P (N Fn.ref17_Disk_Clone) [.ptr q.e 0] S (retT [.one .any] K) := by
  have hn1 := hok.n1
  have hn2 := hok.n2
  have hNl := hok.stNow.len
  have hSl := hok.stSafe.len
  have cF := h.files.at_.cells1
  have cN := h.now.1.cells1
  have cS := h.safe.1.cells1
  have cC := h.chs.at_.cells1
  have oF := h.files.at_.one1
  have oN := h.now.1.one1
  have oS := h.safe.1.one1
  have oC := h.chs.at_.one1
  refine ref17_Disk_Clone.run hO.clone ⟨rfl, r.room, q.vf, q.vn, q.vs, q.vc, r.steps, r.left, ldN h.obj (by simp [robj]) rfl, newS_mk hw fun S1 g1 m1 n1 => st_mk g1.wf m1 rfl (by simp [V.cells]) (by simp only [V.cells, List.all_cons, List.all_nil, oF, oN, oS, oC]; rfl) fun S2 u2 m2 n2 => ?_⟩
  simp only [V.cells, over] at m2
  refine st_mk u2.wf m2 rfl (by simp [V.cells]) (by simp [V.cells, V.one]) fun S3 u3 m3 n3 => ?_
  simp only [V.cells, over] at m3
  have eS : S3.next = S.next + 1 := by omega
  have g3 : Grow S S3 := (g1.after u2 fun i hi => .inl (by simp only [List.mem_singleton] at hi; omega)).after u3 fun i hi => .inl (by simp only [List.mem_singleton] at hi; omega)
  refine Loop1.ind (fun m z S' => ∃ (i : Nat) (v : V), z = i ∧ i + m = r.files.length ∧ Grow S S' ∧ S.next + 1 ≤ S'.next ∧ S'.get S.next = some (.cells [.int .i64 r.room, v, q.vn, q.vs, q.vc, .int .i64 r.steps, .int .i64 r.left] true) ∧ Acc S' (S.next + 1) 2 v i (fileE q.bv (r.files.take i)).flatten) r.files.length ⟨0, .nilSlice, rfl, by omega, g3, by omega, m3, by simpa [fileE] using Acc.nil _ _ _⟩ ?_
  rintro m z S4 ⟨i, v, rfl, hi, g4, l4, m4, a4⟩
  have h4 := h.grow g4
  have f4 := h4.flE
  have hfe : (fileE q.bv r.files).length = r.files.length := fileE_len _ _
  refine ⟨rfl, ifS_mk (a := .ptr q.e 1) rfl (ifS_mk (ld h4.obj rfl) ⟨_, f4.len, ifC_dec (fun hlt => ?_) (fun hge => ?_)⟩)⟩
  · have hin : i < r.files.length := by rw [hfe] at hlt; omega
    have ef : r.fl i = r.files[i] := by simp [DiskR.fl, List.getD_eq_getElem?_getD, hin]
    refine ifS_mk (ld m4 rfl) ⟨rfl, ifS_mk (a := .ptr q.e 1) rfl (ifS_mk (ld h4.obj rfl) (ifS_mk (f4.idx (by rw [hfe]; exact hin)) ⟨_, _, h4.fileN hin, newS_mk g4.wf fun S5 g5 m5 n5 => sameK_mk (Same.of_grow g5 ?_) ?_⟩))⟩
    · intro j hj
      simp only [V.block, List.mem_append, List.mem_singleton] at hj
      rcases hj with hj | hj
      · subst hj; exact h4.nE
      · omega
    have cb := SlAt.cells1 (h.fl i hin)
    have ob := SlAt.one1 (h.fl i hin)
    have hs : srcV 2 S5 (.slice S4.next 0 1 1 2 true) = some (1, [q.bv i, .int .i64 ((r.fl i).safe : Nat)]) := by
      simp only [srcV, if_true]
      rw [St.loads_of m5 (by simp)]; rfl
    obtain ⟨v6, S6, e6, a6, u6, t6⟩ := (a4.grow g5).app g5.wf (by omega) hs rfl (by simp only [List.all_cons, List.all_nil, ob]; rfl) (bytes := 32) (by omega) (by omega)
    have l5 := g5.le
    have l6 := u6.le
    have hvn : ∀ j ∈ v.block, j ≠ S.next := fun j hj e => by have := (a4.own j hj).1; omega
    have hv6 : ∀ j ∈ v6.block, j ≠ S.next := fun j hj e => by have := (a6.own j hj).1; omega
    have m6 := u6.get (g5.get m4) (fun hj => hvn _ hj rfl)
    refine ifP_mk e6 (st_mk u6.wf m6 (by rw [a6.at_.cells1]; rfl) (by rw [a6.at_.cells1]; simp) (by rw [a6.at_.cells1]; simp [a6.at_.one1]) fun S7 u7 m7 n7 => setI_mk (n := ((i + 1 : Nat) : Int)) (by rw [IntKind.wrap_i64]; omega) ⟨m - 1, by omega, i + 1, v6, rfl, by omega, ?_, by omega, ?_, ?_⟩)
    · refine ((g4.trans g5).after u6 fun j hj => .inl ?_).after u7 fun j hj => .inl ?_
      · have := (a4.own j hj).1; omega
      · simp only [List.mem_singleton] at hj; omega
    · rw [a6.at_.cells1] at m7
      exact m7
    · have e1 : r.files.take (i + 1) = r.files.take i ++ [r.files[i]] := by rw [List.take_add_one, List.getElem?_eq_getElem hin, Option.toList_some]
      have e2 : (r.files.take i).length = i := by rw [List.length_take]; omega
      have := a6.upd u7 fun j hj => by
        simp only [List.mem_singleton]
        exact hv6 j hj
      rw [e1, fileE_add (bv := q.bv) (bv' := q.bv) (fun _ _ => rfl), e2, ← ef]
      simpa using this
  · have hii : i = r.files.length := by rw [hfe] at hge; omega
    subst hii
    rw [List.take_length] at a4
    refine ⟨rfl, ifS_mk (a := .ptr q.e 2) rfl (ifS_mk (ld h4.obj rfl) (ref17_without.spec hO.without g4.wf h4.now (by omega) fun v8 S8 b8 => ?_))⟩
    rw [dropK_id (fun p hp => hok.stNow.ne p hp)] at b8
    have c8 := b8.sl.1.cells1
    have l8 := b8.grow.le
    refine st_mk b8.grow.wf (b8.grow.get m4) (by rw [c8]; rfl) (by rw [c8]; simp) (by rw [c8]; simp [b8.one]) fun S9 u9 m9 n9 => ?_
    rw [c8] at m9
    simp only [over] at m9
    have g9 : Grow S S9 := (g4.trans b8.grow).after u9 fun j hj => .inl (by simp only [List.mem_singleton] at hj; omega)
    have h9 := h.grow g9
    refine ⟨rfl, ifS_mk (a := .ptr q.e 3) rfl (ifS_mk (ld h9.obj rfl) (ref17_without.spec hO.without g9.wf h9.safe (by omega) fun v10 S10 b10 => ?_))⟩
    rw [dropK_id (fun p hp => hok.stSafe.ne p hp)] at b10
    have c10 := b10.sl.1.cells1
    have l10 := b10.grow.le
    refine st_mk b10.grow.wf (b10.grow.get m9) (by rw [c10]; rfl) (by rw [c10]; simp) (by rw [c10]; simp [b10.one]) fun S11 u11 m11 n11 => ?_
    rw [c10] at m11
    simp only [over] at m11
    refine st_mk u11.wf m11 rfl (by simp [V.cells]) (by simp [V.cells, V.one]) fun S12 u12 m12 n12 => ?_
    simp only [V.cells, over] at m12
    have u1012 : Upd [S.next] S10 S12 := u11.trans u12
    have g12 : Grow S S12 := (g9.trans b10.grow).after u1012 fun j hj => .inl (by simp only [List.mem_singleton] at hj; omega)
    have hvf : ∀ j ∈ v.block, j ≠ S.next ∧ j < S4.next := fun j hj => by
      obtain ⟨h1, vs, hg⟩ := a4.own j hj
      exact ⟨by omega, g4.wf.lt hg⟩
    have hv8 : ∀ j ∈ v8.block, S4.next ≤ j ∧ j < S8.next := fun j hj => ⟨b8.from j hj, b8.lt j hj⟩
    have hv10 : ∀ j ∈ v10.block, S9.next ≤ j ∧ j < S10.next := fun j hj => ⟨b10.from j hj, b10.lt j hj⟩
    have u412 : Upd [S.next] S4 S12 := (((b8.grow.mono (by simp)).after u9 fun j hj => .inr hj).after b10.grow (by simp)).after u1012 fun j hj => .inr hj
    have u812 : Upd [S.next] S8 S12 := ((u9.after b10.grow (by simp)).after u1012 fun j hj => .inr hj)
    have a12 := a4.upd u412 fun j hj => by simp only [List.mem_singleton]; exact (hvf j hj).1
    have b12n : NsAt S12 v8 r.now := SlE.upd b8.sl u812 fun j hj => by simp only [List.mem_singleton]; have := (hv8 j hj).1; omega
    have b12s : NsAt S12 v10 r.safe := SlE.upd b10.sl u1012 fun j hj => by simp only [List.mem_singleton]; have := (hv10 j hj).1; omega
    have hcl : (r.chs.map chE).length = r.chs.length := by simp
    refine Loop1.ind (fun m z S' => ∃ (i : Nat) (w : V), z = i ∧ i + m = r.chs.length ∧ Upd [S.next] S12 S' ∧ S'.get S.next = some (.cells [.int .i64 r.room, v, v8, v10, w, .int .i64 r.steps, .int .i64 r.left] true) ∧ Acc S' S12.next 4 w i ((r.chs.take i).map chE).flatten) r.chs.length ⟨0, .nilSlice, rfl, by omega, Upd.refl u12.wf _, m12, by simpa using Acc.nil _ _ _⟩ ?_
    rintro m' z S13 ⟨i, w, rfl, hi', u13, m13, a13⟩
    have l13 := u13.le
    have g13 : Grow S S13 := g12.after u13 fun j hj => .inl (by simp only [List.mem_singleton] at hj; omega)
    have h13 := h.grow g13
    have f13 := h13.chE_
    refine ⟨rfl, ifS_mk (a := .ptr q.e 4) rfl (ifS_mk (ld h13.obj rfl) ⟨_, f13.len, ifC_dec (fun hlt => ?_) (fun hge => ?_)⟩)⟩
    · have hin : i < r.chs.length := by rw [hcl] at hlt; omega
      have hge' : (r.chs.map chE)[i]'(by rw [hcl]; exact hin) = chE r.chs[i] := by simp
      refine ifS_mk (ld m13 rfl) ⟨rfl, ifS_mk (a := .ptr q.e 4) rfl (ifS_mk (ld h13.obj rfl) (ifS_mk (f13.idx (by rw [hcl]; exact hin)) ⟨_, _, _, _, by rw [f13.getN (by rw [hcl]; exact hin) (by omega), hge']; rfl, newS_mk u13.wf fun S14 g14 m14 n14 => sameK_mk (Same.of_grow g14 ?_) ?_⟩))⟩
      · intro j hj
        simp only [V.block, List.mem_append, List.mem_singleton] at hj
        rcases hj with hj | hj
        · subst hj; exact h13.nE
        · omega
      have hs : srcV 4 S14 (.slice S13.next 0 1 1 4 true) = some (1, chE r.chs[i]) := by
        simp only [srcV, if_true]
        rw [St.loads_of m14 (by simp)]; rfl
      obtain ⟨v6, S15, e6, a6, u6, t6⟩ := (a13.grow g14).app g14.wf (by omega) hs rfl (by simp [chE, V.one]) (bytes := 48) (by omega) (by omega)
      have l5 := g14.le
      have l6 := u6.le
      have hvn : ∀ j ∈ w.block, j ≠ S.next := fun j hj e => by have := (a13.own j hj).1; omega
      have hv6 : ∀ j ∈ v6.block, j ≠ S.next := fun j hj e => by have := (a6.own j hj).1; omega
      have m6 := u6.get (g14.get m13) (fun hj => hvn _ hj rfl)
      refine ifP_mk e6 (st_mk u6.wf m6 (by rw [a6.at_.cells1]; rfl) (by rw [a6.at_.cells1]; simp) (by rw [a6.at_.cells1]; simp [a6.at_.one1]) fun S16 u7 m7 n7 => setI_mk (n := ((i + 1 : Nat) : Int)) (by rw [IntKind.wrap_i64]; omega) ⟨m' - 1, by omega, i + 1, v6, rfl, by omega, ?_, ?_, ?_⟩)
      · refine ((u13.after g14 (by simp)).after u6 fun j hj => .inl (a13.own j hj).1).after u7 fun j hj => .inr hj
      · rw [a6.at_.cells1] at m7
        exact m7
      · have := a6.upd u7 fun j hj => by
          simp only [List.mem_singleton]
          exact hv6 j hj
        rw [List.take_add_one, List.getElem?_eq_getElem hin, Option.toList_some, List.map_append, List.flatten_append]
        simpa using this
    · have hii : i = r.chs.length := by rw [hcl] at hge; omega
      subst hii
      rw [List.take_length] at a13
      have hw13 : ∀ j ∈ w.block, S12.next ≤ j ∧ j < S13.next := fun j hj => by
        obtain ⟨h1, vs, hg⟩ := a13.own j hj
        exact ⟨h1, u13.wf.lt hg⟩
      have a13f := a12.upd u13 fun j hj => by simp only [List.mem_singleton]; exact (hvf j hj).1
      refine hk S13 (S.next :: (v.block ++ w.block)) (B ++ (v8.block ++ v10.block)) S.next g13 ⟨⟨S.next, v, v8, v10, w, q.bv⟩, rfl, ?_⟩ ?_ ?_ rfl
      · refine ⟨m13, a13f.below (by omega), SlE.upd b12n u13 fun j hj => by simp only [List.mem_singleton]; have := (hv8 j hj).1; omega, SlE.upd b12s u13 fun j hj => by simp only [List.mem_singleton]; have := (hv10 j hj).1; omega, a13.below (by omega), fun k hk => h13.fl k hk, by simp, fun j hj => by simp [hj], fun j hj => by simp [hj], fun j hj => by simp [hj], fun j hj => by simp [hj], fun k hk j hj => List.mem_append_left _ (h.bB k hk j hj), fun j hj => ?_, fun j hj => ?_, fun j hj hB => ?_, fun hj => (hvf _ hj).1 rfl, fun hj => by have := (hw13 S.next hj).1; omega, fun j hj hx => by have := (hvf j hj).2; have := (hw13 j hx).1; omega⟩
        · rcases List.mem_cons.mp hj with rfl | hj
          · omega
          · rcases List.mem_append.mp hj with hj | hj
            · have := (hvf j hj).2; omega
            · exact (hw13 j hj).2
        · rcases List.mem_append.mp hj with hj | hj
          · have := h.ltB j hj; have := g13.le; omega
          · rcases List.mem_append.mp hj with hj | hj
            · have := (hv8 j hj).2; omega
            · have := (hv10 j hj).2; omega
        · have hlo : S.next ≤ j := by
            rcases List.mem_cons.mp hj with rfl | hj
            · omega
            · rcases List.mem_append.mp hj with hj | hj
              · have := (a4.own j hj).1; omega
              · have := (hw13 j hj).1; omega
          rcases List.mem_append.mp hB with hB | hB
          · have := h.ltB j hB; omega
          · have hB2 : S4.next ≤ j ∧ j < S10.next := by
              rcases List.mem_append.mp hB with hB | hB
              · have := hv8 j hB; omega
              · have := hv10 j hB; omega
            rcases List.mem_cons.mp hj with rfl | hj
            · omega
            · rcases List.mem_append.mp hj with hj | hj
              · have := (hvf j hj).2; omega
              · have := (hw13 j hj).1; omega
      · intro j hj
        rcases List.mem_cons.mp hj with rfl | hj
        · omega
        · rcases List.mem_append.mp hj with hj | hj
          · have := (a4.own j hj).1; omega
          · have := (hw13 j hj).1; omega
      · intro j hj
        rcases List.mem_append.mp hj with hj | hj
        · exact .inl hj
        · rcases List.mem_append.mp hj with hj | hj
          · have := (hv8 j hj).1; exact .inr (by omega)
          · have := (hv10 j hj).1; exact .inr (by omega)
end

end Go.Th.L
end
