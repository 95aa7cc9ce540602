/- What the row of one statement stands on: a store, abstract code, functions of the program and their laws (ThHfact2, ThO2). -/
import Derived.Test.YtbkhbdjfklcmlaaDoorThBPfact3
import Derived.Test.YtbkhbdjfklcmlaaDoorThBHfact
import Derived.Test.YtbkhbdjfklcmlaaDoorThBGinternal
import Derived.Test.YtbkhbdjfklcmlaaDoorThBQ2

section
/- factory, the document: Parse. -/
set_option linter.unusedSimpArgs false
set_option linter.unusedVariables false
namespace Go.Th.L
open Go Go.Th Go.Th.Pure
variable {P : Program} {N : Nat → Nat}

theorem HasPrefix.spec (hF : internal_stringslite_HasPrefix.Ok P N) {s w : Bs} {S : St} {K : Bool → St → Prop} (hk : K (frontF s w).2 S) : CallA P (N Fn.internal_stringslite_HasPrefix) [.str s, .str w] S (retT [.one .bool] K) := by
  have e : (frontF s w).2 = decide (s.take w.length = w) := by unfold frontF; split <;> simp [*]
  rw [e] at hk
  refine internal_stringslite_HasPrefix.run hF (ifC_dec (fun h => ⟨_, sliceStr_to (by omega), hk⟩) (fun h => ?_))
  have : s.take w.length ≠ w := fun e => by have := congrArg List.length e; rw [List.length_take] at this; omega
  rw [decide_eq_false this] at hk; exact hk
def CutOk (P : Program) (f : Nat) : Prop := ∀ (s w : Bs) (S : St) (K : Bs → Bool → St → Prop), K (frontF s w).1 (frontF s w).2 S → CallA P f [.str s, .str w] S (retT [.one .str, .one .bool] K)
theorem CutPrefix.spec (hF : internal_stringslite_CutPrefix.Ok P N) (hH : internal_stringslite_HasPrefix.Ok P N) : CutOk P (N Fn.internal_stringslite_CutPrefix) := by
  intro s w S K hk
  refine internal_stringslite_CutPrefix.run hF (HasPrefix.spec hH (ifC_tt_ff (fun h => ?_) (fun h => ?_)))
  · have h : (frontF s w).2 = false := by simpa using h
    have e : (frontF s w).1 = s := by
      unfold frontF at h ⊢; split <;> rename_i h1
      · rw [if_pos h1] at h; cases h
      · rfl
    rw [e, h] at hk; exact hk
  · have h : (frontF s w).2 = true := by simpa using h
    have e := front_inv (t := s) (w := w) (r := (frontF s w).1) (by rw [← h])
    have hl : w.length ≤ s.length := by have := congrArg List.length e; rw [List.length_append] at this; omega
    have e2 : (frontF s w).1 = s.drop w.length := by
      unfold frontF at h ⊢; split <;> rename_i h1
      · rfl
      · rw [if_neg h1] at h; cases h
    refine ⟨_, sliceStr_from hl, ?_⟩
    rw [e2, h] at hk; exact hk
theorem strings_CutPrefix.spec (hF : strings_CutPrefix.Ok P N) (h : CutOk P (N Fn.internal_stringslite_CutPrefix)) : CutOk P (N Fn.strings_CutPrefix) :=
  fun s w S K hk => strings_CutPrefix.run hF (h s w S _ hk)

/-- Package variables that hold an error. -/
def GV (gs : List Nat) (S : St) : Prop := ∀ g ∈ gs, ∃ t, S.get g = some (.glob g [.iface t .junk])
theorem GV.ro {gs : List Nat} {S : St} (h : GV gs S) : GV gs S.ro := fun g hg => by
  obtain ⟨t, ht⟩ := h g hg
  exact ⟨t, by rw [St.get_ro, ht]; rfl⟩
theorem GV.upd {gs D : List Nat} {S S' : St} (h : GV gs S) (u : Upd D S S') (hD : ∀ i ∈ D, (∃ cs, S.get i = some (.cells cs true)) ∨ S.next ≤ i) : GV gs S' := fun g hg => by
  obtain ⟨t, ht⟩ := h g hg
  refine ⟨t, u.get ht fun hi => ?_⟩
  rcases hD g hi with ⟨cs, h1⟩ | h1
  · rw [ht] at h1; cases h1
  · have := u.wf0.lt ht; omega
theorem GV.grow {gs : List Nat} {S S' : St} (h : GV gs S) (g : Grow S S') : GV gs S' := h.upd g (by simp)

def WordOk (P : Program) (f : Nat) : Prop := ∀ (i : Nat) (t w : Bs) (S : St) (K : Bool → St → Prop), S.Wf → S.get i = some (.cells [.str t] true) → (∀ S', Upd [i] S S' → S'.get i = some (.cells [.str (frontF t w).1] true) → K (frontF t w).2 S') →
  CallA P f [.str w, .ptr i 0] S (retT [.one .bool] K)
theorem factory_Parse_1.spec (hF : factory_Parse_1.Ok P N) (hC : CutOk P (N Fn.strings_CutPrefix)) : WordOk P (N Fn.factory_Parse_1) := by
  intro i t w S K hw hi hk
  exact factory_Parse_1.run hF ⟨_, ld hi rfl, hC t w _ _ (st_mk hw hi rfl (by simp [V.cells]) rfl fun S' u m n => hk S' u (by simpa [over, V.cells] using m))⟩

def AtoiOk (P : Program) (f : Nat) (gs : List Nat) : Prop := ∀ (s : Bs) (S : St) (K : Int → V → St → Prop), s.length ≤ 65536 → GV gs S → (∀ v, Lib.atoiAll s = .ok v → K v .nilIface S) → ((∀ v, Lib.atoiAll s ≠ .ok v) → ∀ n t, K n (.iface t .junk) S) →
  CallA P f [.str s] S (retT [.one (.int .i64), .one .any] K)

def NumberOk (P : Program) (f : Nat) (gs : List Nat) : Prop := ∀ (i j : Nat) (t : Bs) (b : Bool) (S : St) (K : Int → St → Prop), S.Wf → i ≠ j → S.get i = some (.cells [.str t] true) → S.get j = some (.cells [.bool b] true) → t.length ≤ 65536 → GV gs S →
  (∀ n S', Upd [i, j] S S' → S'.get i = some (.cells [.str (numR t)] true) → S'.get j = some (.cells [.bool (b && numOk t)] true) → (numOk t = true → n = numV t) → K n S') → CallA P f [.ptr i 0, .ptr j 0] S (retT [.one (.int .i64)] K)
theorem factory_Parse_2.spec (hF : factory_Parse_2.Ok P N) {gs : List Nat} (hA : AtoiOk P (N Fn.strconv_Atoi) gs) : NumberOk P (N Fn.factory_Parse_2) gs := by
  intro i j t b S K hw hij hi hj hl hg hk
  have hle := nd_le t
  refine factory_Parse_2.run hF (Join1.mid (fun x S' => S = S' ∧ x = nd t) ?_ ?_)
  · refine Loop1.ind (fun m x S' => S = S' ∧ ∃ q : Nat, x = q ∧ m = t.length - q ∧ q ≤ t.length ∧ ∀ i (hi : i < t.length), i < q → isDig t[i] = true) t.length ⟨rfl, 0, rfl, rfl, Nat.zero_le _, fun i _ h => by omega⟩ ?_
    rintro m _ _ ⟨rfl, q, rfl, rfl, hq, h⟩
    refine ⟨_, ld hi rfl, ifC_dec (fun h1 => ?_) (fun h1 => ⟨rfl, ?_⟩)⟩
    · have hql : q < t.length := by omega
      refine ⟨_, ld hi rfl, _, idx_str hql, ifC_dec (fun h2 => ⟨_, ld hi rfl, _, idx_str hql, ifC_dec (fun h3 => setI_mk (wrap_nat (by omega)) ⟨t.length - (q + 1), by omega, rfl, q + 1, rfl, rfl, hql, dig_step hql h (isDig_iff.mpr (by omega))⟩) (fun h3 => ⟨rfl, ?_⟩)⟩) (fun h2 => ⟨rfl, ?_⟩)⟩
      · rw [nd_stop hql h (isDig_no (by omega))]
      · rw [nd_stop hql h (isDig_no (by omega))]
    · have e : q = t.length := by omega
      subst e
      rw [nd_end fun i hi _ => h i hi hi]
  · rintro _ _ ⟨rfl, rfl⟩
    refine ⟨_, ld hi rfl, _, sliceStr_to hle, _, ld hi rfl, _, sliceStr_from hle, st_mk hw hi rfl (by simp [V.cells]) rfl fun S3 u3 m3 n3 => ?_⟩
    simp only [over, V.cells] at m3
    have hj3 := u3.get hj (by simpa using fun e => hij e.symm)
    have hg3 := hg.upd u3 (fun k hk' => by simp at hk'; subst hk'; exact .inl ⟨_, hi⟩)
    -- what is told of the flag
    have fin : ∀ (n : Int) (b' : Bool), b' = (b && numOk t) → (numOk t = true → n = numV t) → ifS (storeV S3 1 (V.ptr j 0) (V.bool b')) fun S5 => K n S5 := fun n b' e hn =>
      st_mk u3.wf hj3 rfl (by simp [V.cells]) rfl fun S5 u5 m5 n5 => hk n S5 ((u3.mono (by simp)).trans (u5.mono (by simp))) (u5.get m3 (by simpa using hij)) (by rw [← e]; simpa [over, V.cells] using m5) hn
    have hall := nd_all t
    have hlen : (t.take (nd t)).length = nd t := by rw [List.length_take]; omega
    refine hA _ _ _ (by rw [hlen]; omega) hg3 (fun v hv => ⟨_, ld hj3 rfl, ifC_tt_ff (fun hb => ⟨true, rfl, ifC_tt rfl (ifC_dec (fun h9 => ?_) (fun h9 => ?_))⟩) (fun hb => ?_)⟩) (fun hv n te => ⟨_, ld hj3 rfl, ifC_tt_ff (fun hb => ⟨false, rfl, ifC_ff rfl ?_⟩) (fun hb => ?_)⟩)
    · have hne : t.take (nd t) ≠ [] := fun e => by rw [e] at hv; cases hv
      have h1 : 1 ≤ nd t := by
        rcases Nat.eq_zero_or_pos (nd t) with h | h
        · rw [h] at hne; exact absurd rfl hne
        · exact h
      have hv' := atoi_digits hne hall (by omega)
      rw [hv] at hv'
      have hvv : v = numV t := by injection hv'
      have h0 : 0 < t.length := by omega
      have hh : t.head? = some t[0] := by rw [List.head?_eq_getElem?, List.getElem?_eq_getElem h0]
      have ht0 : (t.take (nd t))[0]'(by omega) = t[0] := by rw [List.getElem_take]
      refine ifC_dec (fun h2 => fin v true ?_ fun _ => hvv) (fun h2 => ⟨_, idx_str (s := t.take (nd t)) (j := 0) (by omega), fin v _ ?_ fun _ => hvv⟩)
      · have : numOk t = true := decide_eq_true ⟨h1, by omega, .inl (by omega)⟩
        rw [hb, this]; rfl
      · rw [hb, Bool.true_and, ht0]
        have h48 : (48 : UInt8).toNat = 48 := rfl
        by_cases h3 : t[0] = 48
        · have : numOk t = false := decide_eq_false (by rintro ⟨_, _, h5 | h5⟩; omega; exact h5 (by rw [hh, h3]))
          rw [this, h3]; rfl
        · have : numOk t = true := decide_eq_true ⟨h1, by omega, .inr (by rw [hh]; exact fun e => h3 (Option.some.inj e))⟩
          rw [this]
          have : ¬ ((t[0].toNat : Int) = 48) := fun e => h3 (UInt8.toNat_inj.mp (by omega))
          simp [this]
    · have : numOk t = false := decide_eq_false (by omega)
      exact fin v false (by rw [this, Bool.and_false]) (fun h => by rw [this] at h; cases h)
    · refine fin v false (by rw [hb]; rfl) (fun h => ?_)
      have hk9 := of_decide_eq_true h
      have hne : t.take (nd t) ≠ [] := fun e => by rw [e] at hv; cases hv
      have hv' := atoi_digits hne hall (by omega)
      rw [hv] at hv'
      injection hv'
    · have : numOk t = false := by
        cases h : numOk t with
        | false => rfl
        | true =>
          have hk9 := of_decide_eq_true h
          have hne : t.take (nd t) ≠ [] := fun e => by have := congrArg List.length e; rw [hlen] at this; simp at this; omega
          exact absurd (atoi_digits hne hall (by omega)) (hv _)
      exact fin n false (by rw [this, Bool.and_false]) (fun h => by rw [this] at h; cases h)
    · have : numOk t = false := by
        cases h : numOk t with
        | false => rfl
        | true =>
          have hk9 := of_decide_eq_true h
          have hne : t.take (nd t) ≠ [] := fun e => by have := congrArg List.length e; rw [hlen] at this; simp at this; omega
          exact absurd (atoi_digits hne hall (by omega)) (hv _)
      exact fin n false (by rw [this, Bool.and_false]) (fun h => by rw [this] at h; cases h)

end Go.Th.L
end

section
/- A law over its arguments, where package variables are read: the rows of 'door' seats. -/
set_option linter.unusedSimpArgs false
set_option linter.unusedVariables false
namespace Go.Th
open Go Go.RowKit Go.ChangeShapes Go.WideShapes Go.ChangeAt Go.Th.L

theorem RoS.glob {m : LM} {S : St} {W : World} (h : RoS m S W) {vs : List V} (hb : S.next < W.heap.size) (hc : ∀ j v, vs[j]? = some v → ∃ u, W.cell? ⟨S.next, j, none⟩ = some u ∧ VR m v u) :
    RoS (m.put S.next ⟨S.next, 0, 0, false⟩) (S.new (.glob S.next vs)) W := by
  have hx : Ext m (m.put S.next ⟨S.next, 0, 0, false⟩) := LM.ext_put _ (h.sim.freshM _ (Nat.le_refl _))
  refine ⟨⟨h.sim.below, h.sim.base_le, ?_, ?_, ?_, ?_⟩, ?_⟩
  · intro i hi
    rw [St.next_new] at hi
    rw [St.get_new, if_neg (by omega)]; exact h.sim.freshS i (by omega)
  · intro i hi
    rw [St.next_new] at hi
    rw [LM.put_other m _ (by omega)]; exact h.sim.freshM i (by omega)
  · intro i b hi
    rw [St.get_new] at hi
    by_cases e : i = S.next
    · rw [if_pos e] at hi
      cases hi; subst e
      refine ⟨_, LM.put_same m _ _, ⟨rfl, hb, fun j v hj => ?_⟩, fun e => by cases e⟩
      obtain ⟨u, h1, h2⟩ := hc j v hj
      exact ⟨u, h1, VR.mono hx _ _ h2⟩
    · rw [if_neg e] at hi
      obtain ⟨L, h1, h2, h3⟩ := h.sim.blk i b hi
      exact ⟨L, hx _ _ h1, h2.keep hx (Nat.le_refl _) rfl, h3⟩
  · intro i j b b' L L' hij h1 h2 ho
    rw [St.get_new] at h1
    by_cases e : i = S.next
    · rw [if_pos e] at h1; cases h1; cases ho
    · rw [if_neg e] at h1
      have := h.ro i b h1
      rw [this] at ho; cases ho
  · intro i b hi
    rw [St.get_new] at hi
    by_cases e : i = S.next
    · rw [if_pos e] at hi; cases hi; rfl
    · rw [if_neg e] at hi; exact h.ro i b hi

theorem RoS.start {gs : List Nat} {W : World} (hg : ∀ g ∈ gs, ∃ t v, W.cell? ⟨g, 0, none⟩ = some (.iface t v) ∧ v.oneCell' = true) : ∀ n, ∃ m S, RoS m S W ∧ S.next = n ∧ ∀ g ∈ gs, g < n → ∃ t, S.get g = some (.glob g [.iface t .junk])
  | 0 => ⟨_, _, RoS.empty W, rfl, fun g _ h => by omega⟩
  | n + 1 => by
    obtain ⟨m, S, h1, h2, h3⟩ := RoS.start hg n
    by_cases hn : n ∈ gs
    · obtain ⟨t, v, hc, hv⟩ := hg n hn
      subst h2
      have hlt : S.next < W.heap.size := by
        rcases Nat.lt_or_ge S.next W.heap.size with h | h
        · exact h
        · simp [World.cell?, Array.getElem?_eq_none h] at hc
      refine ⟨_, _, RoS.glob h1 (vs := [.iface t .junk]) hlt fun j x hj => ?_, rfl, fun g hg' hlt' => ?_⟩
      · rcases j with _ | j
        · simp at hj; subst hj
          exact ⟨_, hc, by simp only [VR]; exact ⟨v, rfl, hv⟩⟩
        · simp at hj
      · rw [St.get_new]
        by_cases e : g = S.next
        · rw [if_pos e]; exact ⟨t, by rw [e]⟩
        · rw [if_neg e]; exact h3 g hg' (by omega)
    · exact ⟨_, _, RoS.place h1 ⟨0, 0, 0, false⟩, by simp [h2], fun g hg' hlt' => by
        obtain ⟨t, ht⟩ := h3 g hg' (by have : g ≠ n := fun e => hn (e ▸ hg'); omega)
        exact ⟨t, ht⟩⟩

section
variable {H : Type} {enc : TypeId × Value → H} {P : Program} {W : World}

/-- A law over its arguments, where some variables hold errors. -/
theorem law_contractG {fn : Func} {f : FuncId} {s : ChangeSpec} {g : Nat} {shs : List Sh} {rt : TypeId} {gs0 : List Nat}
    (hl : laidOutB P = true) (hr : (fn.params.toList.all fun t => P.readableRec t && decide (t < P.types.size)) = true) (hsh : shsOf P g fn.params.toList = some shs)
    (hres : fn.resultTypes = #[rt]) (hrt : P.underlying rt = some .bool) (hvars : s.vars = [])
    (hfn : ∀ (ds : List (DataW H)), ds.length = fn.params.size → s.fn H ds = { results := [.lit (.bool true)], args := ds })
    (spec : ∀ (S : St) (as : List V), S.Wf → GV gs0 S → HasAs S shs as → CallA P f as S (fun r _ => r = .ret (.bool true)))
    (hgl : ∀ g ∈ gs0, ∃ t v, W.cell? ⟨g, 0, none⟩ = some (.iface t v) ∧ v.oneCell' = true)
    {base : Nat} {args : Array Value} {ds gs : List (DataW H)} {before : List MemPlace}
    (hval : ∀ (j : Nat) t v, fn.params[j]? = some t → args[j]? = some v → Value.okWide P W .any base t v)
    (hW : DataW.Whole enc P fn.params.toList s.vars false W args.toList ds gs before)
    (hsz : (DataW.weightsEach P (fn.params.toList ++ s.plain.varTypes P) (ds ++ gs)).all (· ≤ reachBytes) = true) :
    Calls P f args W fun e W' => ∃ v, e = .returned v ∧ s.post enc P fn false true false false W args v W' := by
  have hW' := hW
  obtain ⟨p, q, hA, hV, rfl, hfz, hnd⟩ := hW
  rw [hvars] at hV
  obtain ⟨rfl, rfl⟩ := trodVars_none hV
  have hlen : ds.length = fn.params.size := by
    have : ∀ {ts : List TypeId} {vs : List Value} {ds : List (DataW H)} {ps : List MemPlace}, DataW.TrodAll enc P W 0 (fun _ => true) true ts vs ds ps → ds.length = ts.length := by
      intro ts
      induction ts with
      | nil => intro vs ds ps h; obtain ⟨_, rfl, _⟩ := trodAll_nil h; rfl
      | cons t ts ih =>
        intro vs ds ps h
        obtain ⟨v, vs', d, ds', p, q, rfl, rfl, rfl, _, h2⟩ := trodAll_cons h
        simp [ih h2]
    rw [this hA, Array.length_toList]
  have hw : ∀ z ∈ DataW.weightsEach P fn.params.toList ds, z ≤ reachBytes := by
    intro z hz
    have := List.all_eq_true.mp hsz z (by
      rw [List.append_nil]
      have : ∀ (ts us : List TypeId) (ds : List (DataW H)), ∀ z ∈ DataW.weightsEach P ts ds, z ∈ DataW.weightsEach P (ts ++ us) ds := by
        intro ts
        induction ts with
        | nil => intro us ds z hz; simp [DataW.weightsEach] at hz
        | cons t ts ih =>
          intro us ds z hz
          cases ds with
          | nil => simp [DataW.weightsEach] at hz
          | cons d ds =>
            simp only [List.cons_append, DataW.weightsEach, List.mem_append] at hz ⊢
            rcases hz with h | h
            · exact .inl h
            · exact .inr (ih us ds z h)
      exact this _ _ _ z hz)
    simpa using this
  obtain ⟨m0, S0, hR0, _, hG0⟩ := RoS.start hgl (gs0.foldl (fun a b => max a b) 0 + 1)
  have hmax : ∀ (l : List Nat) (a : Nat), a ≤ l.foldl (fun a b => max a b) a ∧ ∀ g ∈ l, g ≤ l.foldl (fun a b => max a b) a := by
    intro l
    induction l with
    | nil => intro a; exact ⟨Nat.le_refl _, fun g h => by simp at h⟩
    | cons b l ih =>
      intro a
      obtain ⟨h1, h2⟩ := ih (max a b)
      refine ⟨Nat.le_trans (Nat.le_max_left _ _) h1, fun g hg => ?_⟩
      rcases List.mem_cons.mp hg with rfl | hg
      · exact Nat.le_trans (Nat.le_max_right _ _) h1
      · exact h2 g hg
  obtain ⟨m, S, as, hR, _, hk, hv, hh⟩ := reads_ok (g := g) (base := base) hR0 hA hsh hw (fun j t v ht hv => hval j t v (by simpa using ht) (by simpa using hv))
  have hGV : GV gs0 S := fun g hg => by
    obtain ⟨t, ht⟩ := hG0 g hg (by have := (hmax gs0 0).2 g hg; omega)
    exact ⟨t, hk _ _ ht⟩
  refine (spec S as hR.sim.freshS hGV hh m _ W W args hR.sim hv).mono ?_
  rintro e W' ⟨r, S', m', rfl, _, hS', hres'⟩
  obtain ⟨u, rfl, hu⟩ := hres'
  simp only [VR] at hu
  subst hu
  have hb := hS'.below
  refine ⟨_, rfl, ds, [], p ++ [], [], p, [], hW', ?_, ?_, ?_, hb.frame _, fun h => by cases h⟩
  · rw [hfn _ (by simpa using hlen), hres]
    exact trodAll_mk1 (shut_bool hrt _)
  · rw [hfn _ (by simpa using hlen), List.append_nil]
    exact Below.trodAll hl hb hr hA
  · rw [hfn _ (by simpa using hlen), hvars]
    exact rfl
end

end Go.Th
end
