/- What the row of one statement stands on: a store, abstract code, functions of the program and their laws (ThHlaw20b). -/
import Derived.Test.YtconjbbmdjaehaaGreatDoorThBHlaw20a

section
/- json's laws: texts parsed. -/
set_option linter.unusedSimpArgs false
set_option linter.unusedVariables false
set_option maxHeartbeats 1000000
namespace Go.Th.L
open Go Go.Th Go.Th.Pure
variable {P : Program} {N : Nat → Nat}

theorem law20_JsonParses.spec {gs : List Nat} {S : St} (hw : S.Wf) (hA : Awake20F P N gs S) (hR : RefParseF P N) (hS : ref20_Same.Ok P N) (hF : law20_JsonParses.Ok P N) (hG : GV gs S) {t : Bs8} {K : Bool → St → Prop} (hk : ∀ S', K true S') :
    CallA P (N Fn.law20_JsonParses) [.str t] S (retT [.one .bool] K) := by
  refine law20_JsonParses.run hF (ifC_dec (fun _ => hk S) fun _ => ?_)
  refine ParsesJ.at_ (v := (parseJ t).1) (c := (parseJ t).2) hA.parse hw hG rfl fun lv nv F S1 g1 v1 => copy_mk g1.wf v1.ones.1 v1.ones.2 fun S3 g3 m3 => ?_
  have g03 := g1.trans g3
  have r3 := (v1.grow g3).rv' g3.wf
  refine ref20_Parse.spec hR g3.wf fun lv2 nv2 F2 S4 g4 v4 => copy_mk g4.wf v4.ones.1 v4.ones.2 fun S6 g6 m6 => ?_
  have g36 := g4.trans g6
  have g06 := g03.trans g36
  have r6 := (v4.grow g6).rv' g6.wf
  refine law20_awake.spec hA g06 (hG.upd g06 (by simp)) fun S7 g7 => ifC_tt rfl ?_
  refine ⟨_, _, _, _, _, ld5 (Grow.get (g36.trans g7) m3), _, _, _, _, _, ld5 (Grow.get g7 m6), ref20_Same.same hS _ g7.wf (r3.grow (g36.trans g7) (g36.trans g7).le) (r6.grow g7 g7.le) (Nat.lt_succ_self _) fun b S8 hb g8 => ?_⟩
  refine ifC_tt (hb.mpr rfl) ?_
  rw [decide_eq_true rfl]
  exact hk S8

end Go.Th.L
end
