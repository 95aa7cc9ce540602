/- What the row of one statement stands on: a store, abstract code, functions of the program and their laws (ThHhttp1). -/
import Derived.Test.YtkmmkfiekamgpaaGreatDoorThBHhttp0
import Derived.Test.YtkmmkfiekamgpaaGreatDoorThBGref22
import Derived.Test.YtkmmkfiekamgpaaGreatDoorThBHkeep
import Derived.Test.YtkmmkfiekamgpaaGreatDoorThBPhttp1

section
/- http and its reference: texts split, fields. -/
set_option linter.unusedSimpArgs false
set_option linter.unusedVariables false
namespace Go.Th.L
open Go Go.Th Go.Th.Pure
variable {P : Program} {N : Nat → Nat}

/-! ## lists of texts -/
abbrev StrsAt (S : St) (v : V) (l : List Bs) : Prop := SlAt S 1 v l.length (strsV l)
theorem StrsAt.nil (S : St) : StrsAt S .nilSlice [] := ⟨by simp, rfl, .inl ⟨rfl, rfl⟩⟩
theorem StrsAt.get {S : St} {v : V} {l : List Bs} (h : StrsAt S v l) {j : Nat} (hj : j < l.length) : loadV S (eltV 1 v j 0) = some (.str l[j]) := by
  have := SlAt.load h (m := j) (off := 0) hj (by omega)
  rw [Nat.mul_one, Nat.add_zero] at this
  rw [this]
  simp [strsV, hj]
def strE (l : List Bs) : List (List V) := l.map fun s => [V.str s]
theorem strE_flat (l : List Bs) : (strE l).flatten = strsV l := by
  induction l with
  | nil => rfl
  | cons b bs ih => simp only [strE, strsV, List.map_cons, List.flatten_cons] at ih ⊢; rw [ih]; rfl
theorem strE_len (l : List Bs) : (strE l).length = l.length := by simp [strE]
abbrev BuiltS (S0 S : St) (v : V) (l : List Bs) : Prop := Built S0 S 1 v (strE l)
theorem BuiltS.at_ {S0 S : St} {v : V} {l : List Bs} (h : BuiltS S0 S v l) : StrsAt S v l := by
  have := h.acc.at_
  rwa [strE_flat, strE_len] at this
theorem BuiltS.push {S0 S : St} {v : V} {l : List Bs} (h : BuiltS S0 S v l) (x : Bs) (hl : (l.length + 1) * 16 ≤ 140737488355328) {K : V → St → Prop}
    (hk : ∀ v' S', BuiltS S0 S' v' (l ++ [x]) → Upd v.block S S' → (∀ i ∈ v'.block, i ∈ v.block ∨ S.next ≤ i) → K v' S') :
    newS S (.cells [V.str x] true) fun S1 => ifP (appV S1 1 16 v (.slice S.next 0 1 1 1 true)) K := by
  refine Built.push h rfl rfl (by simp only [strE_len]; omega) (by simp only [strE_len]; omega) fun v' S' b => hk v' S' ?_
  simpa [BuiltS, strE] using b

def keep_Texts.Spec (P : Program) (N : Nat → Nat) : Prop := ∀ (x y : V) (a b : List Bs) (S : St) (K : Bool → St → Prop), StrsAt S x a → StrsAt S y b → K (decide (a = b)) S → CallA P (N Fn.keep_Texts) [x, y] S (retT [.one .bool] K)
theorem keep_Texts.spec (hF : keep_Texts.Ok P N) : keep_Texts.Spec P N := by
  intro x y a b S K hx hy h
  have hle := hx.le
  refine keep_Texts.run hF ⟨_, hx.len, _, hy.len, ifC_ndec (fun hne => ?_) (fun heq => ?_)⟩
  · have e : a ≠ b := fun e => hne (by rw [e])
    rwa [decide_eq_false e] at h
  · refine Loop1.ind (fun n x S' => S' = S ∧ ∃ j : Nat, x = j ∧ j + n = a.length ∧ a.take j = b.take j) a.length ⟨rfl, 0, rfl, by omega, by simp⟩ ?_
    rintro n _ _ ⟨rfl, j, rfl, hj, hab⟩
    refine ⟨_, hx.len, ifC_dec (fun hlt => ?_) (fun hge => ?_)⟩
    · have hja : j < a.length := by omega
      have hjb : j < b.length := by omega
      refine ifS_mk (hx.idx hja) ⟨_, StrsAt.get hx hja, ifS_mk (hy.idx hjb) ⟨_, StrsAt.get hy hjb, ifC_ndec (fun hne => ?_) (fun heq => ?_)⟩⟩
      · rwa [decide_eq_false (ne_of_get hja hjb hne)] at h
      · exact setI_mk (wrap_succ (by omega)) ⟨n - 1, by omega, rfl, j + 1, rfl, by omega, take_succ_eq hab hja hjb heq⟩
    · have : a = b := by
        rw [List.take_of_length_le (by omega), List.take_of_length_le (by omega)] at hab
        exact hab
      rwa [decide_eq_true this] at h

/-! ## the reference -/
def ref22_find.Spec (P : Program) (N : Nat → Nat) : Prop := ∀ (s : Bs) (b : UInt8) (S : St) (K : Int → St → Prop), s.length ≤ 4611686018427387904 → K (fndI b s) S → CallA P (N Fn.ref22_find) [.str s, .int .u8 (b.toNat : Nat)] S (retT [.one (.int .i64)] K)
theorem ref22_find.spec (hF : ref22_find.Ok P N) : ref22_find.Spec P N := by
  intro s b S K hl hk
  refine ref22_find.run hF (Loop1.ind (fun n x S' => S' = S ∧ ∃ j : Nat, x = j ∧ j + n = s.length ∧ ∀ i (hi : i < s.length), i < j → s[i] ≠ b) s.length ⟨rfl, 0, rfl, by omega, fun i hi h => by omega⟩ ?_)
  rintro n _ _ ⟨rfl, j, rfl, hj, hall⟩
  refine ifC_dec (fun hlt => ?_) (fun hge => ?_)
  · have hjl : j < s.length := by omega
    refine ⟨_, idx_str hjl, ifC_dec (fun he => ?_) (fun hne => ?_)⟩
    · have e : s[j] = b := UInt8.toNat_inj.mp (by omega)
      have := fndB_hit hjl hall e
      rw [fndI, this] at hk
      exact hk
    · have e : s[j] ≠ b := fun e => hne (by rw [e])
      refine setI_mk (wrap_succ (by omega)) ⟨n - 1, by omega, rfl, j + 1, rfl, by omega, fun i hi hij => ?_⟩
      by_cases e2 : i = j
      · subst e2; exact e
      · exact hall i hi (by omega)
  · have := fndB_none (b := b) (s := s) (fun i hi => hall i hi (by omega))
    rw [fndI, this] at hk
    exact hk

def ref22_parts.Spec (P : Program) (N : Nat → Nat) : Prop := ∀ (s : Bs) (b : UInt8) (S : St) (K : V → St → Prop), S.Wf → s.length ≤ 1099511627776 → (∀ v S', Grow S S' → StrsAt S' v (splitL s [b]) → K v S') → CallA P (N Fn.ref22_parts) [.str s, .int .u8 (b.toNat : Nat)] S (retT [.one .any] K)
theorem ref22_parts.spec (hF : ref22_parts.Ok P N) (hf : ref22_find.Spec P N) : ref22_parts.Spec P N := by
  intro s b S K hw hl hk
  refine ref22_parts.run hF (Loop2.ind (fun n t v S' => t.length = n ∧ ∃ l, BuiltS S S' v l ∧ l ++ splitL t [b] = splitL s [b] ∧ l.length + t.length ≤ s.length) s.length ⟨rfl, [], Built.nil (Upd.refl hw []) 1, rfl, by simp⟩ ?_)
  rintro n t v S1 ⟨rfl, l, hb, he, hle⟩
  refine hf t b _ _ (by omega) ?_
  rw [splitL_one] at he
  unfold fndI
  cases h : fndB b t with
  | none =>
    rw [h] at he
    refine ifC_pos (by decide) (hb.push t (by omega) fun v' S' hb' u tt => hk v' S' hb'.grow ?_)
    rw [← he]; exact hb'.at_
  | some k =>
    rw [h] at he
    have hkl := fndB_lt h
    refine ifC_neg (by simp) ⟨_, sliceStr_to (by omega), hb.push (t.take k) (by omega) fun v' S' hb' u tt => setI_mk (wrap_succ (by omega)) ⟨_, sliceStr_from (by omega), ?_⟩⟩
    refine ⟨_, ?_, rfl, _, hb', ?_, ?_⟩
    · rw [List.length_drop]; omega
    · rw [← he]; simp
    · simp only [List.length_append, List.length_drop, List.length_cons, List.length_nil]; omega

/-! ## fields -/
def FieldsSpec (P : Program) (f : Nat) : Prop := ∀ (q : Bs) (S : St) (K : V → V → Int → St → Prop), S.Wf → HG S → q.length ≤ 131072 →
  (∀ v u S', Grow S S' → StrsAt S' v (fieldsOf q).1 → StrsAt S' u (fieldsOf q).2.1 → K v u (fieldsOf q).2.2 S') → CallA P f [.str q] S (retT [.one .any, .one .any, .one (.int .i64)] K)

theorem fields_len : ∀ (ps ns vs : List Bs) {a b : List Bs}, fieldsF ns vs ps = some (a, b) → a.length = ns.length + ps.length ∧ b.length = vs.length + ps.length
  | [], ns, vs, a, b, h => by cases h; simp
  | p :: r, ns, vs, a, b, h => by
    simp only [fieldsF] at h
    split at h
    · cases h
    · split at h
      · cases h
      · have := fields_len r _ _ h
        simp only [List.length_append, List.length_cons, List.length_nil] at this ⊢
        omega

/-- Two lists that grow side by side. -/
structure Two (S0 S : St) (v u : V) (ns vs : List Bs) : Prop where
  a : BuiltS S0 S v ns
  b : BuiltS S0 S u vs
  apart : ∀ i ∈ v.block, i ∉ u.block
theorem Two.nil {S : St} (hw : S.Wf) : Two S S .nilSlice .nilSlice [] [] := ⟨Built.nil (Upd.refl hw []) 1, Built.nil (Upd.refl hw []) 1, by simp [V.block]⟩
theorem Two.push {S0 S : St} {v u : V} {ns vs : List Bs} (h : Two S0 S v u ns vs) (x y : Bs) (h1 : ns.length ≤ 1000000) (h2 : vs.length ≤ 1000000) {K : V → V → St → Prop}
    (hk : ∀ v' u' S', Two S0 S' v' u' (ns ++ [x]) (vs ++ [y]) → K v' u' S') :
    newS S (.cells [V.str x] true) fun S1 => ifP (appV S1 1 16 v (.slice S.next 0 1 1 1 true)) fun v' S2 => newS S2 (.cells [V.str y] true) fun S3 => ifP (appV S3 1 16 u (.slice S2.next 0 1 1 1 true)) fun u' S4 => K v' u' S4 := by
  refine h.a.push x (by omega) fun v' S2 b2 u2 t2 => ?_
  have hb := h.b.upd u2 h.a.from (fun i hi hv => h.apart i hv hi)
  have hub : ∀ i ∈ u.block, i ∉ v'.block := fun i hi hv => by
    rcases t2 i hv with h' | h'
    · exact h.apart i h' hi
    · have := h.b.lt i hi; omega
  refine BuiltS.push hb y (by omega) fun u' S4 b4 u4 t4 => hk v' u' S4 ⟨b2.upd u4 (fun i hi => hb.from i hi) (fun i hi hu => hub i hu hi), b4, fun i hi hu => ?_⟩
  rcases t4 i hu with h' | h'
  · exact hub i h' hi
  · have := b2.lt i hi; omega

theorem http_Fields.spec (hF : http_Fields.Ok P N) (hs : SplitS P (N Fn.strings_Split)) (hc : CutS P (N Fn.strings_Cut)) (hn : ContainsS P (N Fn.slices_Contains_Lstring)) : FieldsSpec P (N Fn.http_Fields) := by
  intro q S K hw hg hl hk
  refine http_Fields.run hF (ifC_dec (fun h0 => ?_) (fun h0 => ?_))
  · rw [fieldsOf, if_pos h0] at hk
    exact hk _ _ S (Upd.refl hw []) (StrsAt.nil S) (StrsAt.nil S)
  refine hs q [38] S _ hg (by omega) (by simp) ⟨_, rfl, ?_⟩
  rw [fieldsOf, if_neg h0] at hk
  have hlen := splitL_len 38 _ q (Nat.le_refl _)
  have hmem := splitL_mem 38 _ q (Nat.le_refl _)
  generalize splitL q [38] = l at hk hlen hmem
  have g1 : Grow S (S.new (.cells (strsV l) true)) := (Upd.refl hw []).new _
  generalize hS1 : S.new (.cells (strsV l) true) = S1 at g1
  have m1 : S1.get S.next = some (.cells (strsV l) true) := by rw [← hS1]; simp
  have hx : StrsAt S1 (.slice S.next 0 l.length l.length 1 true) l := ⟨by omega, by simp [strsV], .inr ⟨_, _, _, _, rfl, Nat.le_refl _, by rw [Nat.mul_one, St.loads_of m1 (by simp [strsV]), List.drop_zero, List.take_of_length_le (by simp [strsV])]⟩⟩
  refine ⟨_, hx.len, ifC_dec (fun h32 => ?_) (fun h32 => ?_)⟩
  · rw [if_pos (by omega)] at hk
    exact hk _ _ S1 g1 (StrsAt.nil S1) (StrsAt.nil S1)
  rw [if_neg (by omega)] at hk
  have bad : fieldsF [] [] l = none → ∀ S', Grow S1 S' → K V.nilSlice V.nilSlice 220 S' := fun hn S' g => by
    rw [hn] at hk
    exact hk _ _ S' (g1.trans g) (StrsAt.nil S') (StrsAt.nil S')
  refine ⟨_, hx.len, Loop3.ind (fun n v u x S2 => ∃ (j : Nat) (ns vs : List Bs), x = j ∧ j + n = l.length ∧ ns.length = j ∧ vs.length = j ∧ Two S1 S2 v u ns vs ∧ fieldsF [] [] l = fieldsF ns vs (l.drop j)) l.length
    ⟨0, [], [], rfl, by omega, rfl, rfl, Two.nil g1.wf, rfl⟩ ?_⟩
  rintro n v u _ S2 ⟨j, ns, vs, rfl, hj, hns, hvs, ht, he⟩
  refine ifC_dec (fun hlt => ?_) (fun hge => ?_)
  · have hjl : j < l.length := by omega
    have hx2 : StrsAt S2 _ l := hx.grow ht.a.grow
    refine ifS_mk (hx2.idx hjl) ⟨_, StrsAt.get hx2 hjl, ?_⟩
    have hdrop : l.drop j = l[j] :: l.drop (j + 1) := List.drop_eq_getElem_cons hjl
    rw [hdrop] at he
    simp only [fieldsF] at he
    have hpl : l[j].length < 4294967281 := by have := hmem l[j] (List.getElem_mem hjl); omega
    · refine hc l[j] [61] S2 _ (hg.grow (g1.trans ht.a.grow)) hpl ⟨_, _, _, rfl, ?_⟩
      rw [cutL_one]
      cases hf : fndB 61 l[j] with
      | none =>
        rw [hf] at he
        exact Join0.all (ifC_tt rfl (bad he S2 ht.a.grow))
      | some k =>
        rw [hf] at he
        simp only at he
        have hkl := fndB_lt hf
        refine Join0.mid (fun S' => S' = S2 ∧ ¬ (k = 0 ∨ l[j].take k ∈ ns)) ?_ ?_
        · refine ifC_ff rfl (ifC_dec (fun h1 => ?_) (fun h1 => ?_))
          · have h3 : k = 0 := by
              have := congrArg List.length h1
              rw [List.length_take] at this
              simp only [List.length_nil] at this
              omega
            rw [if_pos (.inl h3)] at he
            exact bad he S2 ht.a.grow
          · refine hn v ns (l[j].take k) S2 _ ht.a.at_ ⟨_, rfl, ifC_tt_ff (fun h2 => ?_) (fun h2 => ?_)⟩
            · rw [if_pos (.inr (by simpa using h2))] at he
              exact bad he S2 ht.a.grow
            · refine ⟨rfl, fun h3 => ?_⟩
              rcases h3 with h3 | h3
              · subst h3; exact h1 (by simp)
              · rw [List.contains_iff_mem.mpr h3] at h2; cases h2
        · rintro _ ⟨rfl, hno⟩
          rw [if_neg hno] at he
          refine ht.push _ _ (by omega) (by omega) fun v' u' S' t' => ?_
          exact setI_mk (wrap_succ (by omega)) ⟨n - 1, by omega, j + 1, _, _, rfl, by omega, by simp [hns], by simp [hvs], t', he⟩
  · have : l.drop j = [] := List.drop_of_length_le (by omega)
    rw [this] at he
    rw [he] at hk
    exact hk v u S2 (g1.trans ht.a.grow) ht.a.at_ ht.b.at_

theorem ref22_Fields.spec (hF : ref22_Fields.Ok P N) (hp : ref22_parts.Spec P N) (hf : ref22_find.Spec P N) : FieldsSpec P (N Fn.ref22_Fields) := by
  intro q S K hw hg hl hk
  refine ref22_Fields.run hF (ifC_dec (fun h0 => ?_) (fun h0 => ?_))
  · rw [fieldsOf, if_pos h0] at hk
    exact hk _ _ S (Upd.refl hw []) (StrsAt.nil S) (StrsAt.nil S)
  refine hp q 38 S _ hw (by omega) fun x S1 g1 hx => ?_
  rw [fieldsOf, if_neg h0] at hk
  have hlen := splitL_len 38 _ q (Nat.le_refl _)
  have hmem := splitL_mem 38 _ q (Nat.le_refl _)
  generalize splitL q [38] = l at hk hlen hmem hx
  refine ⟨_, hx.len, ifC_dec (fun h32 => ?_) (fun h32 => ?_)⟩
  · rw [if_pos (by omega)] at hk
    exact hk _ _ S1 g1 (StrsAt.nil S1) (StrsAt.nil S1)
  rw [if_neg (by omega)] at hk
  have bad : fieldsF [] [] l = none → ∀ S', Grow S1 S' → K V.nilSlice V.nilSlice 220 S' := fun hn S' g => by
    rw [hn] at hk
    exact hk _ _ S' (g1.trans g) (StrsAt.nil S') (StrsAt.nil S')
  refine Loop3.ind (fun n v u x S2 => ∃ (j : Nat) (ns vs : List Bs), x = j ∧ j + n = l.length ∧ ns.length = j ∧ vs.length = j ∧ Two S1 S2 v u ns vs ∧ fieldsF [] [] l = fieldsF ns vs (l.drop j)) l.length
    ⟨0, [], [], rfl, by omega, rfl, rfl, Two.nil g1.wf, rfl⟩ ?_
  rintro n v u _ S2 ⟨j, ns, vs, rfl, hj, hns, hvs, ht, he⟩
  have hx2 : StrsAt S2 _ l := hx.grow ht.a.grow
  refine ⟨_, hx2.len, ifC_dec (fun hlt => ?_) (fun hge => ?_)⟩
  · have hjl : j < l.length := by omega
    refine ifS_mk (hx2.idx hjl) ⟨_, StrsAt.get hx2 hjl, ?_⟩
    have hdrop : l.drop j = l[j] :: l.drop (j + 1) := List.drop_eq_getElem_cons hjl
    rw [hdrop] at he
    simp only [fieldsF] at he
    have hpl : l[j].length ≤ 131072 := by have := hmem l[j] (List.getElem_mem hjl); omega
    refine hf l[j] 61 S2 _ (by omega) ?_
    unfold fndI
    cases hfn : fndB 61 l[j] with
    | none =>
      rw [hfn] at he
      exact ifC_pos (by decide) (bad he S2 ht.a.grow)
    | some k =>
      rw [hfn] at he
      simp only at he
      have hkl := fndB_lt hfn
      dsimp only
      refine ifC_dec (fun h1 => ?_) (fun h1 => ?_)
      · rw [if_pos (.inl (by omega))] at he
        exact bad he S2 ht.a.grow
      have hv : StrsAt S2 v ns := ht.a.at_
      refine Loop1.ind (fun m y S4 => S4 = S2 ∧ ∃ i : Nat, y = i ∧ i + m = ns.length ∧ ∀ r (hr : r < ns.length), r < i → ns[r] ≠ l[j].take k) ns.length ⟨rfl, 0, rfl, by omega, fun r hr h => by omega⟩ ?_
      rintro m _ _ ⟨rfl, i, rfl, hi, hall⟩
      refine ⟨_, hv.len, ifC_dec (fun hlt => ?_) (fun hge => ?_)⟩
      · have hin : i < ns.length := by omega
        refine ifS_mk (hv.idx hin) ⟨_, StrsAt.get hv hin, ifS_mk (hx2.idx hjl) ⟨_, StrsAt.get hx2 hjl, _, sliceStr_to (by omega), ifC_dec (fun e => ?_) (fun e => ?_)⟩⟩
        · rw [if_pos (.inr (by rw [← e]; exact List.getElem_mem hin))] at he
          exact bad he _ ht.a.grow
        · refine setI_mk (wrap_succ (by omega)) ⟨m - 1, by omega, rfl, i + 1, rfl, by omega, fun r hr hri => ?_⟩
          by_cases e2 : r = i
          · subst e2; exact e
          · exact hall r hr (by omega)
      · have hno : ¬ (k = 0 ∨ l[j].take k ∈ ns) := by
          rintro (h | h)
          · omega
          · obtain ⟨r, hr, e⟩ := List.getElem_of_mem h
            exact hall r hr (by omega) e
        rw [if_neg hno] at he
        refine ifS_mk (hx2.idx hjl) ⟨_, StrsAt.get hx2 hjl, _, sliceStr_to (by omega), ?_⟩
        refine BuiltS.push ht.a _ (by omega) fun v' S' b2 u2 t2 => ?_
        have hb : BuiltS S1 S' u vs := ht.b.upd u2 ht.a.from (fun i hi hv => ht.apart i hv hi)
        have hub : ∀ i ∈ u.block, i ∉ v'.block := fun i hi hv => by
          rcases t2 i hv with h' | h'
          · exact ht.apart i h' hi
          · have := ht.b.lt i hi; omega
        have hx3 : StrsAt S' _ l := hx.grow b2.grow
        refine ifS_mk (hx3.idx hjl) ⟨_, StrsAt.get hx3 hjl, setI_mk (wrap_succ (by omega)) ⟨_, sliceStr_from (by omega), ?_⟩⟩
        refine BuiltS.push hb _ (by omega) fun u' S5 b4 u4 t4 => ?_
        refine setI_mk (wrap_succ (by omega)) ⟨n - 1, by omega, j + 1, _, _, rfl, by omega, by simp [hns], by simp [hvs], ⟨b2.upd u4 (fun i hi => hb.from i hi) (fun i hi hu => hub i hu hi), b4, fun i hi hu => ?_⟩, he⟩
        rcases t4 i hu with h' | h'
        · exact hub i h' hi
        · have := b2.lt i hi; omega
  · have : l.drop j = [] := List.drop_of_length_le (by omega)
    rw [this] at he
    rw [he] at hk
    exact hk v u S2 (g1.trans ht.a.grow) ht.a.at_ ht.b.at_

theorem law22_HttpFields.spec (hF : law22_HttpFields.Ok P N) (h1 : FieldsSpec P (N Fn.http_Fields)) (h2 : FieldsSpec P (N Fn.ref22_Fields)) (ht : keep_Texts.Spec P N) (ha : AwakeG P (N Fn.law22_awake)) {q : Bs} {S : St} {K : Bool → St → Prop} (hw : S.Wf) (hg : HG S) (hk : ∀ S', K true S') :
    CallA P (N Fn.law22_HttpFields) [.str q] S (retT [.one .bool] K) := by
  refine law22_HttpFields.run hF (ifC_dec (fun _ => hk _) (fun hl => ?_))
  refine h1 q S _ hw hg (by omega) fun a b S1 g1 ha1 hb1 => h2 q S1 _ g1.wf (hg.grow g1) (by omega) fun c d S2 g2 hc2 hd2 => ?_
  refine ha S2 _ (hg.grow (g1.trans g2)) (ifC_tt rfl ?_)
  refine ht a c _ _ S2 _ (ha1.grow g2) hc2 (ifC_pos rfl (ht b d _ _ S2 _ (hb1.grow g2) hd2 (ifC_pos rfl ?_)))
  rw [decide_eq_true rfl]
  exact hk _
end Go.Th.L
end
