/- What the row of one statement stands on: a store, abstract code, functions of the program and their laws (ThL, ThR3, ThR4). -/
import Derived.Test.YtconjbbmdjaehaaGreatDoorThBK

section
/- Closed runs: an evaluator with fuel; calls that tell no place leave the store. -/
set_option linter.unusedSimpArgs false
set_option linter.unusedVariables false
namespace Go.Th
open Go.RowKit Go.Lib



abbrev CallE := FuncId → List V → St → Option (Res × St)
abbrev LoopE := AC → List V → St → Option (AE × List V × St)


section
variable {ok : Env} {ce : CallE} {le : LoopE} {callH : FuncId → List V → St → Post → Prop} {loopH : AC → PostC → List V → St → Prop}
variable (hc : ∀ f args S r S' (Q : Post), ce f args S = some (r, S') → Q r S' → callH f args S Q)
variable (hl : ∀ ac fr S e fr' S' (Q : PostC), le ac fr S = some (e, fr', S') → Q e fr' S' → loopH ac Q fr S)
include hc

include hl
end

mutual
def V.plain : V → Bool
  | .ptr _ _ | .slice _ _ _ _ _ _ | .map _ => false
  | .func _ a b => V.plains a && V.plains b
  | .iface _ v => V.plain v
  | .agg cs => V.plains cs
  | .tuple cs => V.plains cs
  | _ => true
def V.plains : List V → Bool
  | [] => true
  | v :: vs => V.plain v && V.plains vs
end

mutual
theorem VR.plain {m m' : LM} : ∀ (v : V) (u : Value), v.plain = true → VR m v u → VR m' v u
  | .bool _, _, _, r | .int _ _, _, _, r | .str _, _, _, r | .nilPtr, _, _, r | .nilSlice, _, _, r | .nilMap, _, _, r | .nilFunc, _, _, r | .nilIface, _, _, r | .glob _ _, _, _, r | .junk, _, _, r => by simpa only [VR] using r
  | .ptr _ _, _, h, _ | .slice _ _ _ _ _ _, _, h, _ | .map _, _, h, _ => by simp [V.plain] at h
  | .func _ fs cs, _, h, r => by
    simp only [V.plain, Bool.and_eq_true] at h
    simp only [VR] at r ⊢
    obtain ⟨fs', cs', rfl, h1, h2⟩ := r
    exact ⟨fs', cs', rfl, VRs.plain _ _ h.1 h1, VRs.plain _ _ h.2 h2⟩
  | .iface _ v, _, h, r => by
    simp only [V.plain] at h
    simp only [VR] at r ⊢
    obtain ⟨v', rfl, h1⟩ := r
    exact ⟨v', rfl, VR.plain _ _ h h1⟩
  | .agg cs, _, h, r => by
    simp only [V.plain] at h
    simp only [VR] at r ⊢
    obtain ⟨cs', rfl, h1⟩ := r
    exact ⟨cs', rfl, VRs.plain _ _ h h1⟩
  | .tuple cs, _, h, r => by
    simp only [V.plain] at h
    simp only [VR] at r ⊢
    obtain ⟨cs', rfl, h1⟩ := r
    exact ⟨cs', rfl, VRs.plain _ _ h h1⟩
theorem VRs.plain {m m' : LM} : ∀ (vs : List V) (us : List Value), V.plains vs = true → VRs m vs us → VRs m' vs us
  | [], _, _, r => by simpa only [VRs] using r
  | v :: vs, _, h, r => by
    simp only [V.plains, Bool.and_eq_true] at h
    simp only [VRs] at r ⊢
    obtain ⟨u, us', rfl, h1, h2⟩ := r
    exact ⟨u, us', rfl, VR.plain _ _ h.1 h1, VRs.plain _ _ h.2 h2⟩
end

theorem Sim.empty (w : World) : Sim (fun _ => none) St.empty w.heap.size w w :=
  ⟨Below.refl _ _, Nat.le_refl _, fun _ _ => rfl, fun _ _ => rfl, fun i b h => by simp at h, fun i j b b' L L' _ h => by simp at h⟩

end Go.Th
end

section
/- Closed runs with an oracle: library functions that are not read, told as plain functions over values. -/
set_option linter.unusedSimpArgs false
set_option linter.unusedVariables false
namespace Go.Th
open Go.RowKit Go.Lib


end Go.Th
end

section
/- Closed calls that read package variables. -/
set_option linter.unusedSimpArgs false
set_option linter.unusedVariables false
namespace Go.Th
open Go.RowKit Go.Lib

end Go.Th
end
