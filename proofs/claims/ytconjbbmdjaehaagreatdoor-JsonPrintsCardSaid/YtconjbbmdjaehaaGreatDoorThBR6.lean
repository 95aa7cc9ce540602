/- What the row of one statement stands on: a store, abstract code, functions of the program and their laws (ThR5, ThR6). -/
import Derived.Test.YtconjbbmdjaehaaGreatDoorThBR4
import Derived.RangeFuncRecord
import Derived.RangeFuncLeaves

section
/- Ranges over functions: a round is called like a function; the statement; the return of a function that holds one. -/
set_option linter.unusedSimpArgs false
set_option linter.unusedVariables false
namespace Go.Th
open Go.RowKit Go.Lib Go

section
variable {P : Program} {ok : Env} (hok : EnvOk P ok)
include hok

end

abbrev PostW := List Deferred → PostC
def leaveD : List Deferred → St → (St → Prop) → Prop
  | [], S, K => K S
  | d :: ds, S, K => ∃ D i, d = { target := .collected D, args := #[] } ∧ S.get i = some (.odd D (.deferred (some [])) []) ∧ leaveD ds (S.put i (some (.odd D (.deferred none) []))) K

def endW (rs : List ARes) (Q : Post) : PostW := fun ds e fr S => match e with
  | .ret | .normal => leaveD ds S fun S' => match ARes.gets fr S' rs with | some vs => Q (.ret (tupled vs)) S' | none => False
  | _ => False

theorem fin_ok {P : Program} {fn : Func} {rs : List ARes} (hrs : ARes.ofs P fn.results.toList = some rs) {m m' : LM} {S' : St} {base : Nat} {w0 w' : World} {fr' : List V} {tmps : Array Value} {Q : Post}
    (hS' : Sim m' S' base w0 w') (hf' : VRs m' fr' tmps.toList) (hx : Ext m m')
    (hq : match ARes.gets fr' S' rs with | some vs => Q (.ret (tupled vs)) S' | none => False) :
    ∃ v, (results fn tmps).run P w' = .ok v w' ∧ ∃ r S'' m'', Q r S'' ∧ Ext m m'' ∧ Sim m'' S'' base w0 w' ∧ ResR m'' r (.returned v) := by
  split at hq
  · rename_i vs hvs
    obtain ⟨us, h1, h2⟩ := run_results (P := P) hS' hf' fn.results.toList rs vs hrs hvs
    have hlen := h2.length
    have hrun : (results fn tmps).run P w' = .ok (if h : us.toArray.size = 1 then us.toArray[0] else .tuple us.toArray) w' := by
      rw [results_eq, Sem.run_bind, Array.mapM_eq_mapM_toList, Sem.run_map, h1]
      rfl
    refine ⟨_, hrun, .ret (tupled vs), S', m', hq, hx, hS', _, rfl, ?_⟩
    match vs, us, h2, hlen with
    | [], [], h2, _ => simp only [tupled, VR]; exact ⟨#[], by simp, by simp [VRs]⟩
    | [v], [u], h2, _ =>
      simp only [VRs] at h2
      obtain ⟨u', us', he, h3, _⟩ := h2
      cases he
      simpa [tupled] using h3
    | v :: v2 :: vs, u :: u2 :: us, h2, _ =>
      simp only [tupled, VR]
      exact ⟨(u :: u2 :: us).toArray, by simp, by simpa using h2⟩
  · exact hq.elim

end Go.Th
end

section
/- Functions that hold a range over a function, read as abstract code. -/
set_option linter.unusedSimpArgs false
set_option linter.unusedVariables false
namespace Go.Th
open Go.RowKit Go.Lib Go

end Go.Th
end
