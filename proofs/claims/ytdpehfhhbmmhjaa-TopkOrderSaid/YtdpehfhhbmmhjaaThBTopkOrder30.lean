/- What the row of one statement stands on: a store, abstract code, functions of the program and their laws (ThQ8). -/
import Derived.Test.YtdpehfhhbmmhjaaThBTopkOrder29

section
/- Calls of plain results, their store kept. -/
set_option linter.unusedVariables false
namespace Go.Th
open Go

theorem CallA.gc1 {P : Program} {f : FuncId} {args : List V} {S : St} {t : Ty} (ht : t.flat = true) {K : t.den → St → Prop} (x : t.den) (hK : K x S)
    (h : ∀ K' : t.den → St → Prop, S.ro.Wf → (∀ S', K' x S') → CallA P f args S.ro (retT [.one t] K')) : CallA P f args S (retT [.one t] K) := by
  refine CallA.gcT (ds := [.one t]) (by simp [flats, DT.tys, ht]) (CallA.wfT fun hw => ?_)
  exact h (fun x _ => K x S) hw fun _ => hK

theorem CallA.gc2 {P : Program} {f : FuncId} {args : List V} {S : St} {t u : Ty} (ht : t.flat = true) (hu : u.flat = true) {K : t.den → u.den → St → Prop} (x : t.den) (y : u.den) (hK : K x y S)
    (h : ∀ K' : t.den → u.den → St → Prop, S.ro.Wf → (∀ S', K' x y S') → CallA P f args S.ro (retT [.one t, .one u] K')) : CallA P f args S (retT [.one t, .one u] K) := by
  refine CallA.gcT (ds := [.one t, .one u]) (by simp [flats, DT.tys, ht, hu]) (CallA.wfT fun hw => ?_)
  exact h (fun x y _ => K x y S) hw fun _ => hK

theorem CallA.gc4 {P : Program} {f : FuncId} {args : List V} {S : St} {t u v w : Ty} (ht : t.flat = true) (hu : u.flat = true) (hv : v.flat = true) (hw : w.flat = true) {K : t.den → u.den → v.den → w.den → St → Prop} (a : t.den) (b : u.den) (c : v.den) (d : w.den) (hK : K a b c d S)
    (h : ∀ K' : t.den → u.den → v.den → w.den → St → Prop, S.ro.Wf → (∀ S', K' a b c d S') → CallA P f args S.ro (retT [.one t, .one u, .one v, .one w] K')) : CallA P f args S (retT [.one t, .one u, .one v, .one w] K) := by
  refine CallA.gcT (ds := [.one t, .one u, .one v, .one w]) (by simp [flats, DT.tys, ht, hu, hv, hw]) (CallA.wfT fun hwf => ?_)
  exact h (fun x y z w _ => K x y z w S) hwf fun _ => hK

theorem Same.of_grow {S S' : St} (g : Grow S S') {R : List Nat} (h : ∀ i ∈ R, i < S.next) : Same R S S' := fun i hi => g.keep i (h i hi) (by simp)
theorem Same.refl (R : List Nat) (S : St) : Same R S S := fun _ _ => rfl

end Go.Th
end
