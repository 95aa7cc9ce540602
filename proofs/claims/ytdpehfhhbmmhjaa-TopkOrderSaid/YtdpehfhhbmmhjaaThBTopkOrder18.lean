/- What the row of one statement stands on: a store, abstract code, functions of the program and their laws (ThO). -/
import Derived.Test.YtdpehfhhbmmhjaaThBTopkOrder17
import Derived.WalkKit
import Derived.ProofKit
import Derived.OpenShut
import Derived.ShutString
import Derived.ChangeOld
import Derived.Carry

section
/- From what a law does over a store to what its row says. -/
set_option linter.unusedSimpArgs false
set_option linter.unusedVariables false
namespace Go.Th
open Go.RowKit Go.Lib Go.ChangeShapes Go.WideShapes Go.ChangeAt

def shsOf (P : Program) (g : Nat) : List TypeId → Option (List Sh)
  | [] => some []
  | t :: ts => obind (shOf P g t) fun s => obind (shsOf P g ts) fun ss => some (s :: ss)

/-- An argument that reads as a shape says. -/
def HasA (S : St) : Sh → V → Prop
  | .agg fs, a => ∃ cs, a = .agg cs ∧ HasF S fs cs
  | s, a => Has S s [a]

def HasAs (S : St) : List Sh → List V → Prop
  | [], as => as = []
  | s :: ss, as => ∃ a as', as = a :: as' ∧ HasA S s a ∧ HasAs S ss as'

theorem HasA.keep {S S' : St} (g : Keep S S') {s : Sh} {a : V} (h : HasA S s a) : HasA S' s a := by
  cases s with
  | agg fs =>
    obtain ⟨cs, rfl, h⟩ := h
    exact ⟨cs, rfl, HasF.keep g fs cs h⟩
  | bool => exact Has.keep g _ _ h
  | int k => exact Has.keep g _ _ h
  | str => exact Has.keep g _ _ h
  | slice k b e => exact Has.keep g _ _ h

theorem HasAs.keep {S S' : St} (g : Keep S S') : ∀ {ss : List Sh} {as : List V}, HasAs S ss as → HasAs S' ss as
  | [], _, h => h
  | s :: ss, _, h => by
    obtain ⟨a, as', rfl, h1, h2⟩ := h
    exact ⟨a, as', rfl, h1.keep g, h2.keep g⟩

theorem shOf_agg {P : Program} {g : Nat} {t : TypeId} {sh : Sh} (h : shOf P g t = some sh) :
    (∃ fs q, P.underlying t = some (.struct fs) ∧ sh = .agg q) ∨ ((∀ q, sh ≠ .agg q) ∧ (P.underlying t = some .bool ∨ (∃ k, P.underlying t = some (.int k)) ∨ P.underlying t = some .string ∨ ∃ e, P.underlying t = some (.slice e))) := by
  cases g with
  | zero => cases h
  | succ g =>
    simp only [shOf] at h
    split at h
    · rename_i ht; cases h; exact .inr ⟨fun q => (by intro e; cases e), .inl ht⟩
    · rename_i k ht; cases h; exact .inr ⟨fun q => (by intro e; cases e), .inr (.inl ⟨k, ht⟩)⟩
    · rename_i ht; cases h; exact .inr ⟨fun q => (by intro e; cases e), .inr (.inr (.inl ht))⟩
    · rename_i e ht
      split at h
      · obtain ⟨s, _, h⟩ := obind_some h
        cases h
        exact .inr ⟨fun q => (by intro e; cases e), .inr (.inr (.inr ⟨e, ht⟩))⟩
      · cases h
    · rename_i fs ht
      obtain ⟨q, _, h⟩ := obind_some h
      cases h
      exact .inl ⟨fs, q, ht, rfl⟩
    · cases h

theorem okWide_cells {P : Program} {W : World} {base : Nat} {t : TypeId} {v : Value} (ht : P.underlying t = some .bool ∨ (∃ k, P.underlying t = some (.int k)) ∨ P.underlying t = some .string ∨ ∃ e, P.underlying t = some (.slice e)) (h : Value.okWide P W .any base t v) : v.cells = #[v] := by
  rcases ht with ht | ⟨k, ht⟩ | ht | ⟨e, ht⟩ <;> simp only [Value.okWide, ht, Cell.okWide] at h <;> cases v <;> simp_all [Cell.ok, Value.cells]

theorem okWide_agg {P : Program} {W : World} {base : Nat} {t : TypeId} {v : Value} {fs : Array Field} (ht : P.underlying t = some (.struct fs)) (h : Value.okWide P W .any base t v) : ∃ cs, v = .agg cs := by
  simp only [Value.okWide, ht] at h
  obtain ⟨cs, rfl, _⟩ := h
  exact ⟨cs, rfl⟩

section
variable {H : Type} {enc : TypeId × Value → H} {P : Program} {W : World}

theorem reads_ok {g base : Nat} : ∀ {ts : List TypeId} {args : List Value} {ds : List (DataW H)} {ps : List MemPlace} {shs : List Sh} {m : LM} {S : St}, RoS m S W → DataW.TrodAll enc P W 0 (fun _ => true) true ts args ds ps →
    shsOf P g ts = some shs → (∀ z ∈ DataW.weightsEach P ts ds, z ≤ reachBytes) → (∀ (j : Nat) t v, ts[j]? = some t → args[j]? = some v → Value.okWide P W .any base t v) →
    ∃ m' S' as, RoS m' S' W ∧ Ext m m' ∧ Keep S S' ∧ VRs m' as args ∧ HasAs S' shs as
  | [], args, ds, ps, shs, m, S, hR, h, hs, hw, hv => by
    obtain ⟨rfl, rfl, rfl⟩ := trodAll_nil h
    cases hs
    exact ⟨m, S, [], hR, Ext.refl m, Keep.refl S, rfl, rfl⟩
  | t :: ts, args, ds, ps, shs, m, S, hR, h, hs, hw, hv => by
    obtain ⟨v, vs, d, ds', p, q, rfl, rfl, rfl, ⟨n, htr⟩, hr⟩ := trodAll_cons h
    simp only [shsOf] at hs
    obtain ⟨s, hs1, hs⟩ := obind_some hs
    obtain ⟨ss, hs2, hs⟩ := obind_some hs
    cases hs
    obtain ⟨m1, S1, vs1, hR1, hx1, hk1, hv1, hh1⟩ := read_ok n g t _ _ s m S hR htr hs1 (fun z hz => hw z (by simp only [DataW.weightsEach, List.mem_append]; exact .inl hz))
    obtain ⟨m2, S2, as2, hR2, hx2, hk2, hv2, hh2⟩ := reads_ok hR1 hr hs2 (fun z hz => hw z (by simp only [DataW.weightsEach, List.mem_append]; exact .inr hz)) (fun j t' v' ht' hv' => hv (j + 1) t' v' (by simpa using ht') (by simpa using hv'))
    have hok := hv 0 t v rfl rfl
    have hone : ∃ a, VR m1 a v ∧ HasA S1 s a := by
      rcases shOf_agg hs1 with ⟨fs, q', ht, rfl⟩ | ⟨hne, ht⟩
      · obtain ⟨cs, rfl⟩ := okWide_agg ht hok
        refine ⟨.agg vs1, by simp only [VR]; exact ⟨cs, rfl, hv1⟩, ?_⟩
        simp only [Has] at hh1
        exact ⟨vs1, rfl, hh1⟩
      · have hc := okWide_cells ht hok
        rw [hc] at hv1
        cases vs1 with
        | nil => simp [VRs] at hv1
        | cons a r =>
          simp only [VRs] at hv1
          obtain ⟨u, us', he, ha, hr'⟩ := hv1
          simp only [List.cons.injEq] at he
          obtain ⟨rfl, rfl⟩ := he
          cases r with
          | cons b r => simp [VRs] at hr'
          | nil =>
            refine ⟨a, ha, ?_⟩
            cases s with
            | agg q => exact absurd rfl (hne q)
            | bool => exact hh1
            | int k => exact hh1
            | str => exact hh1
            | slice k b e => exact hh1
    obtain ⟨a, ha, hh⟩ := hone
    exact ⟨m2, S2, a :: as2, hR2, hx1.trans hx2, hk1.trans hk2, by simp only [VRs]; exact ⟨v, vs, rfl, VR.mono hx2 _ _ ha, hv2⟩, a, as2, rfl, hh.keep hk2, hh2⟩

theorem Below.trodAll (hl : laidOutB P = true) {W' : World} (hb : Below W.heap.size W W') : ∀ {ts : List TypeId} {args : List Value} {ds : List (DataW H)} {ps : List MemPlace},
    (ts.all fun t => P.readableRec t && decide (t < P.types.size)) = true → DataW.TrodAll enc P W 0 (fun _ => true) true ts args ds ps → DataW.TrodAll enc P W' 0 (fun b => decide (b < W.heap.size)) true ts args ds ps
  | [], args, ds, ps, _, h => by
    obtain ⟨rfl, rfl, rfl⟩ := trodAll_nil h
    exact trodAll_mk0
  | t :: ts, args, ds, ps, hr, h => by
    obtain ⟨v, vs, d, ds', p, q, rfl, rfl, rfl, h1, h2⟩ := trodAll_cons h
    simp only [List.all_cons, Bool.and_eq_true, decide_eq_true_eq] at hr
    refine trodAll_cons_mk (Below.trod hl hr.1.1 hr.1.2 h1 hb ?_) (Below.trodAll hl hb (by simpa using hr.2) h2)
    obtain ⟨m, hm⟩ := h1
    exact DataW.trod_lt m _ _ _ hm

/-- A law over its arguments. -/
theorem law_contract {fn : Func} {f : FuncId} {s : ChangeSpec} {g : Nat} {shs : List Sh} {rt : TypeId}
    (hl : laidOutB P = true) (hr : (fn.params.toList.all fun t => P.readableRec t && decide (t < P.types.size)) = true) (hsh : shsOf P g fn.params.toList = some shs)
    (hres : fn.resultTypes = #[rt]) (hrt : P.underlying rt = some .bool) (hvars : s.vars = [])
    (hfn : ∀ (ds : List (DataW H)), ds.length = fn.params.size → s.fn H ds = { results := [.lit (.bool true)], args := ds })
    (spec : ∀ (S : St) (as : List V), S.Wf → HasAs S shs as → CallA P f as S (fun r _ => r = .ret (.bool true)))
    {base : Nat} {args : Array Value} {ds gs : List (DataW H)} {before : List MemPlace}
    (hval : ∀ (j : Nat) t v, fn.params[j]? = some t → args[j]? = some v → Value.okWide P W .any base t v)
    (hW : DataW.Whole enc P fn.params.toList s.vars false W args.toList ds gs before)
    (hsz : (DataW.weightsEach P (fn.params.toList ++ s.plain.varTypes P) (ds ++ gs)).all (· ≤ reachBytes) = true) :
    Calls P f args W fun e W' => ∃ v, e = .returned v ∧ s.post enc P fn false true false false W args v W' := by
  have hW' := hW
  obtain ⟨p, q, hA, hV, rfl, hfz, hnd⟩ := hW
  rw [hvars] at hV
  obtain ⟨rfl, rfl⟩ := trodVars_none hV
  have hlen : ds.length = fn.params.size := by
    have : ∀ {ts : List TypeId} {vs : List Value} {ds : List (DataW H)} {ps : List MemPlace}, DataW.TrodAll enc P W 0 (fun _ => true) true ts vs ds ps → ds.length = ts.length := by
      intro ts
      induction ts with
      | nil => intro vs ds ps h; obtain ⟨_, rfl, _⟩ := trodAll_nil h; rfl
      | cons t ts ih =>
        intro vs ds ps h
        obtain ⟨v, vs', d, ds', p, q, rfl, rfl, rfl, _, h2⟩ := trodAll_cons h
        simp [ih h2]
    rw [this hA, Array.length_toList]
  have hw : ∀ z ∈ DataW.weightsEach P fn.params.toList ds, z ≤ reachBytes := by
    intro z hz
    have := List.all_eq_true.mp hsz z (by
      rw [List.append_nil]
      have : ∀ (ts us : List TypeId) (ds : List (DataW H)), ∀ z ∈ DataW.weightsEach P ts ds, z ∈ DataW.weightsEach P (ts ++ us) ds := by
        intro ts
        induction ts with
        | nil => intro us ds z hz; simp [DataW.weightsEach] at hz
        | cons t ts ih =>
          intro us ds z hz
          cases ds with
          | nil => simp [DataW.weightsEach] at hz
          | cons d ds =>
            simp only [List.cons_append, DataW.weightsEach, List.mem_append] at hz ⊢
            rcases hz with h | h
            · exact .inl h
            · exact .inr (ih us ds z h)
      exact this _ _ _ z hz)
    simpa using this
  obtain ⟨m, S, as, hR, _, _, hv, hh⟩ := reads_ok (g := g) (base := base) (RoS.empty W) hA hsh hw (fun j t v ht hv => hval j t v (by simpa using ht) (by simpa using hv))
  refine (spec S as hR.sim.freshS hh m _ W W args hR.sim hv).mono ?_
  rintro e W' ⟨r, S', m', rfl, _, hS', hres'⟩
  obtain ⟨u, rfl, hu⟩ := hres'
  simp only [VR] at hu
  subst hu
  have hb := hS'.below
  refine ⟨_, rfl, ds, [], p ++ [], [], p, [], hW', ?_, ?_, ?_, hb.frame _, fun h => by cases h⟩
  · rw [hfn _ (by simpa using hlen), hres]
    exact trodAll_mk1 (shut_bool hrt _)
  · rw [hfn _ (by simpa using hlen), List.append_nil]
    exact Below.trodAll hl hb hr hA
  · rw [hfn _ (by simpa using hlen), hvars]
    exact rfl
end

end Go.Th
end
