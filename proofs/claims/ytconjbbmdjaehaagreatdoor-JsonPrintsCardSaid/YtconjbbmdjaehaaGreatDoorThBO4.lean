/- What the row of one statement stands on: a store, abstract code, functions of the program and their laws (ThO3, ThO4). -/
import Derived.Test.YtconjbbmdjaehaaGreatDoorThBHstd
import Derived.Handed
import Derived.Shelf.Vars

section
/- A law over its arguments, where the library reads its package variables. -/
set_option linter.unusedSimpArgs false
set_option linter.unusedVariables false
namespace Go.Th
open Go Go.RowKit Go.ChangeShapes Go.WideShapes Go.ChangeAt

theorem RoS.globE {m : LM} {S : St} {W : World} (h : RoS m S W) {vs : List V} (hv : V.plains vs = true) (hc : ∃ cs t fz, W.heap[S.next]? = some (.cells cs t fz) ∧ VRs (fun _ => none) vs cs.toList) :
    RoS (m.put S.next ⟨S.next, 0, 0, false⟩) (S.new (.glob S.next vs)) W := by
  have hx : Ext m (m.put S.next ⟨S.next, 0, 0, false⟩) := LM.ext_put _ (h.sim.freshM _ (Nat.le_refl _))
  refine ⟨⟨h.sim.below, h.sim.base_le, ?_, ?_, ?_, ?_⟩, ?_⟩
  · intro i hi
    rw [St.next_new] at hi
    rw [St.get_new, if_neg (by omega)]; exact h.sim.freshS i (by omega)
  · intro i hi
    rw [St.next_new] at hi
    rw [LM.put_other m _ (by omega)]; exact h.sim.freshM i (by omega)
  · intro i b hi
    rw [St.get_new] at hi
    by_cases e : i = S.next
    · rw [if_pos e] at hi
      cases hi; subst e
      obtain ⟨cs, t, fz, h1, h2⟩ := hc
      refine ⟨_, LM.put_same m _ _, ⟨rfl, ?_, cs, t, fz, h1, VRs.plain _ _ hv h2⟩, fun e => by cases e⟩
      rcases Nat.lt_or_ge S.next W.heap.size with h' | h'
      · exact h'
      · simp [Array.getElem?_eq_none h'] at h1
    · rw [if_neg e] at hi
      obtain ⟨L, h1, h2, h3⟩ := h.sim.blk i b hi
      exact ⟨L, hx _ _ h1, h2.keep hx (Nat.le_refl _) rfl, h3⟩
  · intro i j b b' L L' hij h1 h2 ho
    rw [St.get_new] at h1
    by_cases e : i = S.next
    · rw [if_pos e] at h1; cases h1; cases ho
    · rw [if_neg e] at h1
      have := h.ro i b h1
      rw [this] at ho; cases ho
  · intro i b hi
    rw [St.get_new] at hi
    by_cases e : i = S.next
    · rw [if_pos e] at hi; cases hi; rfl
    · rw [if_neg e] at hi; exact h.ro i b hi

theorem tab_plain : ∀ (l : List Int), V.plains (l.map (V.int .u64)) = true
  | [] => rfl
  | z :: l => by simp only [List.map_cons, V.plains, V.plain, tab_plain l, Bool.and_self]
theorem tab_vrs (m : LM) : ∀ (l : List Int), VRs m (l.map (V.int .u64)) (l.map (Value.int .u64))
  | [] => rfl
  | z :: l => ⟨_, _, rfl, by simp only [VR], tab_vrs m l⟩

section
variable {H : Type} {enc : TypeId × Value → H} {P : Program} {W : World}

end


variable {H : Type} {enc : TypeId × Value → H}
theorem returnsInHanded_laid {a : Assume} {C : Checked} {os : Os} {f : FuncId} {fn : Func} {s : ChangeSpec} {conds : List PathCond} {apart fresh handsOn again : Bool} {X : World → Array Value → Prop}
    (hX : ∀ (w w' : World) (args : Array Value), w.heap = w'.heap → X w args → X w' args)
    (own : ownKnob C.prog.godebug = none) (started : os.Started) (noInit : C.prog.inits.idxOf? f = none) (hfn : C.prog.funcs[f]? = some fn)
    (witness : ∃ (w : World) (tape : Tape) (i : Input), w.os = os ∧ (w.forCall tape i).Shaped C.prog ∧ i.vars = [] ∧ Input.okWide C.prog (w.forCall tape i) .any w.heap.size f i ∧
      ((s.pre enc C.prog fn conds apart (w.forCall tape i).memory i.args ∧ X (w.forCall tape i).memory i.args) ∧ sizedMet enc C.prog fn (OpenSpec.ofChange s) apart (w.forCall tape i).memory i.args) ∧ a.holds C.prog (lone (Frame.enter C.prog f i.args .normal) [] (w.forCall tape i)))
    (contract : ∀ (W : World) (base : Nat) (args : Array Value) (ds gs : List (DataW H)) (before : List MemPlace),
      (∀ (j : Nat) t v, fn.params[j]? = some t → args[j]? = some v → Value.okWide C.prog W .any base t v) →
      DataW.Whole enc C.prog fn.params.toList s.vars apart W args.toList ds gs before →
      conds.all (PathCond.test C.prog ⟨fn.params.toList, ds, s.plain.varTypes C.prog, gs⟩) = true →
      (DataW.weightsEach C.prog (fn.params.toList ++ s.plain.varTypes C.prog) (ds ++ gs)).all (· ≤ reachBytes) = true → X W args → W.ShapedOpen C.prog →
      Calls C.prog f args W fun e W' => ∃ v, e = .returned v ∧ s.post enc C.prog fn apart fresh handsOn again W args v W') :
    ReturnsInHanded a C os f .any (fun w args => (s.pre enc C.prog fn conds apart w args ∧ X w args) ∧ sizedMet enc C.prog fn (OpenSpec.ofChange s) apart w args) (s.post enc C.prog fn apart fresh handsOn again) := by
  refine returnsInHanded_of_calls own started noInit witness ?_
  intro w tape i _ hsh _ hok hpre hholds
  obtain ⟨_, _, _, fn', hfn', _, _, _, _, hval⟩ := hok
  have e : fn' = fn := Option.some.inj (hfn'.symm.trans hfn)
  subst e
  obtain ⟨⟨⟨ds, gs, before, hw, hc⟩, hx⟩, hz⟩ := hpre
  have hw' := DataW.Whole.of_heap (w' := w.forCall tape i) (by rfl) hw
  refine (contract (w.forCall tape i) w.heap.size i.args ds gs before hval hw' hc (hz.weights hw) (hX _ _ _ (by rfl) hx) hsh).mono fun e W' ⟨v, he, hp⟩ => ?_
  subst he
  exact ChangeSpec.post_blind hp

end Go.Th
end

section
/- A law over its arguments, over a store that begins with what is known of the variables; the table of powers of ten. -/
set_option linter.unusedSimpArgs false
set_option linter.unusedVariables false
namespace Go.Th
open Go Go.RowKit Go.ChangeShapes Go.WideShapes Go.ChangeAt

def TabG (n : Nat) (S : St) : Prop := S.get n = some (.glob n (Lib.pow10Tab.map (V.int .u64)))
theorem TabG.grow {n : Nat} {S S' : St} (h : TabG n S) (g : Grow S S') : TabG n S' := glob_upd g (by simp) h
section
variable {H : Type} {enc : TypeId × Value → H} {P : Program} {W : World}

end


end Go.Th
end
