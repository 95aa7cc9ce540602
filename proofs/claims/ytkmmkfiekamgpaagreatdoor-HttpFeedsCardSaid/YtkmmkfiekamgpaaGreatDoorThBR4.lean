/- What the row of one statement stands on: a store, abstract code, functions of the program and their laws (ThR3, ThR4). -/
import Derived.Test.YtkmmkfiekamgpaaGreatDoorThBM

section
/- Closed runs with an oracle: library functions that are not read, told as plain functions over values. -/
set_option linter.unusedSimpArgs false
set_option linter.unusedVariables false
namespace Go.Th
open Go.RowKit Go.Lib

/-- What functions that are not read answer, and the store behind them. -/
abbrev Orc := Nat → List V → St → Option (V × St)
def OrcOk (P : Program) (orc : Orc) : Prop := ∀ f args S v S' (Q : Post), orc f args S = some (v, S') → Q (.ret v) S' → CallA P f args S Q

mutual
def evFO (ok : Env) (orc : Orc) (tab : Nat → Option AF) : Nat → CallE
  | 0, _, _, _ => none
  | n + 1, f, args, S =>
    match tab f with
    | none => match orc f args S with
      | some (v, S') => some (.ret v, S')
      | none => none
    | some F => match evC ok (evFO ok orc tab n) (evLO ok orc tab n) F.body (args ++ List.replicate (F.nt - args.length) .undef) S with
      | some (.normal, fr, S') | some (.ret, fr, S') => match ARes.gets fr S' F.results with
        | some vs => some (.ret (tupled vs), S')
        | none => none
      | some (.panic v, _, S') => some (.panic v, S')
      | _ => none
def evLO (ok : Env) (orc : Orc) (tab : Nat → Option AF) : Nat → LoopE
  | 0, _, _, _ => none
  | n + 1, a, fr, S =>
    match evC ok (evFO ok orc tab n) (evLO ok orc tab n) a fr S with
    | some (.normal, fr', S') => evLO ok orc tab n a fr' S'
    | x => x
end

theorem evO_ok {P : Program} {ok : Env} (hok : EnvOk P ok) {orc : Orc} (horc : OrcOk P orc) {tab : Nat → Option AF} (htab : ∀ f F, tab f = some F → afun P f = some F) : ∀ (n : Nat),
    (∀ f args S r S' (Q : Post), evFO ok orc tab n f args S = some (r, S') → Q r S' → CallA P f args S Q) ∧
    (∀ ac fr S e fr' S' (Q : PostC), evLO ok orc tab n ac fr S = some (e, fr', S') → Q e fr' S' → LoopA P ac Q fr S)
  | 0 => ⟨fun f args S r S' Q h _ => by simp [evFO] at h, fun ac fr S e fr' S' Q h _ => by simp [evLO] at h⟩
  | n + 1 => by
    obtain ⟨ihF, ihL⟩ := evO_ok hok horc htab n
    constructor
    · intro f args S r S' Q h hq
      simp only [evFO] at h
      split at h
      · split at h
        · rename_i v S1 hv
          simp only [Option.some.injEq, Prod.mk.injEq] at h
          obtain ⟨rfl, rfl⟩ := h
          exact horc _ _ _ _ _ _ hv hq
        · cases h
      · rename_i F hF
        refine CallA.of_body hok (htab f F hF) ?_
        split at h
        · rename_i fr S1 h1
          refine evC_ok ihF ihL _ _ _ _ _ _ _ h1 ?_
          simp only [endQ]
          split at h
          · rename_i vs hvs
            simp only [Option.some.injEq, Prod.mk.injEq] at h
            obtain ⟨rfl, rfl⟩ := h
            simp only [hvs]; exact hq
          · cases h
        · rename_i fr S1 h1
          refine evC_ok ihF ihL _ _ _ _ _ _ _ h1 ?_
          simp only [endQ]
          split at h
          · rename_i vs hvs
            simp only [Option.some.injEq, Prod.mk.injEq] at h
            obtain ⟨rfl, rfl⟩ := h
            simp only [hvs]; exact hq
          · cases h
        · rename_i v fr S1 h1
          simp only [Option.some.injEq, Prod.mk.injEq] at h
          obtain ⟨rfl, rfl⟩ := h
          exact evC_ok ihF ihL _ _ _ _ _ _ _ h1 hq
        · cases h
    · intro ac fr S e fr' S' Q h hq
      simp only [evLO] at h
      refine LoopA.round hok ?_
      split at h
      · rename_i fr1 S1 h1
        exact evC_ok ihF ihL _ _ _ _ _ _ _ h1 (ihL _ _ _ _ _ _ Q h hq)
      · rename_i hn
        refine evC_ok ihF ihL _ _ _ _ _ _ _ h ?_
        cases e with
        | normal => exact absurd h (hn _ _)
        | exit j => exact hq
        | ret => exact hq
        | panic v => exact hq


/-- A closed run, by the evaluator, with an oracle. -/
theorem CallA.runO {P : Program} {ok : Env} (hok : EnvOk P ok) {orc : Orc} (horc : OrcOk P orc) {tab : Nat → Option AF} (htab : ∀ f F, tab f = some F → afun P f = some F) (n : Nat) {f : FuncId} {args : List V} {S : St} {Q : Post} (r : Res)
    (h : (match evFO ok orc tab n f args St.empty with
      | some (.ret v, _) => v.eqb (match r with | .ret u => u | .panic u => u) && (match r with | .ret _ => true | .panic _ => false)
      | _ => false) = true) (ha : V.plains args = true) (hr : r.plain = true) (hq : Q r S) : CallA P f args S Q := by
  refine CallA.closed ha ?_
  split at h
  · rename_i v S1 h1
    simp only [Bool.and_eq_true] at h
    cases r with
    | ret u =>
      have := V.eqb_eq _ _ h.1
      subst this
      exact (evO_ok hok horc htab n).1 _ _ _ _ _ _ h1 ⟨hr, hq⟩
    | panic u => simp at h
  · cases h

end Go.Th
end

section
/- Closed calls that read package variables. -/
set_option linter.unusedSimpArgs false
set_option linter.unusedVariables false
namespace Go.Th
open Go.RowKit Go.Lib

/-- A store that holds one package variable. -/
def St.one (g : Nat) (vs : List V) : St := St.put { St.empty with next := g + 1 } g (some (.glob g vs))
theorem St.one_get (g : Nat) (vs : List V) (i : Nat) : (St.one g vs).get i = if i = g then some (.glob g vs) else none := by
  unfold St.one
  rw [St.get_put]
  rfl

theorem plains_get : ∀ {vs : List V} {j : Nat} {v : V}, V.plains vs = true → vs[j]? = some v → v.plain = true
  | [], _, _, _, h => by simp at h
  | x :: xs, 0, v, hp, h => by
    simp only [V.plains, Bool.and_eq_true] at hp
    simp at h; subst h; exact hp.1
  | x :: xs, j + 1, v, hp, h => by
    simp only [V.plains, Bool.and_eq_true] at hp
    exact plains_get hp.2 (by simpa using h)

/-- A store of package variables only, which are also in the other. -/
def GlobsIn (S0 S : St) : Prop := (∀ i, S0.next ≤ i → S0.get i = none) ∧ ∀ i b, S0.get i = some b → ∃ vs, b = .glob i vs ∧ V.plains vs = true ∧ S.get i = some (.glob i vs)

/-- A store that holds these package variables. -/
def St.globs (gs : List (Nat × List V)) : St := gs.foldl (fun S p => { St.put S p.1 (some (.glob p.1 p.2)) with next := max S.next (p.1 + 1) }) St.empty
theorem globs_step {S S0 : St} {g : Nat} {vs : List V} (h : GlobsIn S0 S) (hg : S.get g = some (.glob g vs)) (hp : V.plains vs = true) :
    GlobsIn { St.put S0 g (some (.glob g vs)) with next := max S0.next (g + 1) } S := by
  have hget : ∀ i, St.get { St.put S0 g (some (.glob g vs)) with next := max S0.next (g + 1) } i = (St.put S0 g (some (.glob g vs))).get i := fun _ => rfl
  refine ⟨fun i hi => ?_, fun i b hi => ?_⟩
  · rw [hget, St.get_put]
    have hi : max S0.next (g + 1) ≤ i := hi
    rw [if_neg (by omega)]
    exact h.1 i (by omega)
  · rw [hget, St.get_put] at hi
    split at hi
    · rename_i e; subst e
      cases hi
      exact ⟨vs, rfl, hp, hg⟩
    · exact h.2 i b hi
theorem globs_fold {S : St} : ∀ (gs : List (Nat × List V)) (S0 : St), GlobsIn S0 S → (∀ p ∈ gs, S.get p.1 = some (.glob p.1 p.2) ∧ V.plains p.2 = true) →
    GlobsIn (gs.foldl (fun S p => { St.put S p.1 (some (.glob p.1 p.2)) with next := max S.next (p.1 + 1) }) S0) S
  | [], S0, h, _ => h
  | p :: gs, S0, h, hp => globs_fold gs _ (globs_step h (hp p (by simp)).1 (hp p (by simp)).2) (fun q hq => hp q (by simp [hq]))
theorem globs_in {S : St} {gs : List (Nat × List V)} (hp : ∀ p ∈ gs, S.get p.1 = some (.glob p.1 p.2) ∧ V.plains p.2 = true) : GlobsIn (St.globs gs) S :=
  globs_fold gs _ ⟨fun _ _ => rfl, fun _ _ h => by cases h⟩ hp

theorem CallA.closedG {P : Program} {f : FuncId} {args : List V} {S S0 : St} {Q : Post} (hg : GlobsIn S0 S) (ha : V.plains args = true)
    (h : CallA P f args S0 (fun r _ => r.plain = true ∧ Q r S)) : CallA P f args S Q := by
  intro m base w0 w args' hS hv
  have hS0 : Sim (fun i => if (S0.get i).isSome then m i else none) S0 w.heap.size w w := by
    refine ⟨Below.refl _ _, Nat.le_refl _, hg.1, fun i hi => ?_, fun i b hi => ?_, fun i j b b' L1 L2 hij hi hj ho => ?_⟩
    · simp [hg.1 i hi]
    · obtain ⟨vs, rfl, hp, hs⟩ := hg.2 i b hi
      obtain ⟨L, hL, hb, _⟩ := hS.blk i _ hs
      obtain ⟨h0, h1, cs, t, fz, h2, h3⟩ := hb
      exact ⟨L, by simp [hi, hL], ⟨h0, h1, cs, t, fz, h2, VRs.plain _ _ hp h3⟩, fun ho => by cases ho⟩
    · obtain ⟨vs, rfl, _⟩ := hg.2 i b hi
      cases ho
  refine (h _ _ w w args' hS0 (VRs.plain _ _ ha hv)).mono ?_
  rintro e w' ⟨r, S', m', ⟨hp, hq⟩, hx, hS', hr⟩
  exact ⟨r, S, m, hq, Ext.refl m, hS.later hS'.below, hr.plain hp⟩

/-- A closed run that may read variables, by the evaluator, with an oracle. -/
theorem CallA.runG {P : Program} {ok : Env} (hok : EnvOk P ok) {orc : Orc} (horc : OrcOk P orc) {tab : Nat → Option AF} (htab : ∀ f F, tab f = some F → afun P f = some F) (n : Nat) {f : FuncId} {args : List V} {S S0 : St} {Q : Post} (r : Res)
    (hg : GlobsIn S0 S)
    (h : (match evFO ok orc tab n f args S0 with
      | some (.ret v, _) => v.eqb (match r with | .ret u => u | .panic u => u) && (match r with | .ret _ => true | .panic _ => false)
      | _ => false) = true) (ha : V.plains args = true) (hr : r.plain = true) (hq : Q r S) : CallA P f args S Q := by
  refine CallA.closedG hg ha ?_
  split at h
  · rename_i v S1 h1
    simp only [Bool.and_eq_true] at h
    cases r with
    | ret u =>
      have := V.eqb_eq _ _ h.1
      subst this
      exact (evO_ok hok horc htab n).1 _ _ _ _ _ _ h1 ⟨hr, hq⟩
    | panic u => simp at h
  · cases h

end Go.Th
end
