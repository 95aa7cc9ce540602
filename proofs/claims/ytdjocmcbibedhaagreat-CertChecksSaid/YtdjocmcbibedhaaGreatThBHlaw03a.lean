/- What the row of one statement stands on: a store, abstract code, functions of the program and their laws (ThHlaw03a). -/
import Derived.Test.YtdjocmcbibedhaaGreatThBPbox

section
/- The laws of layer 3: VecDists, VecMoves, VecScale, VecTriangle. -/
set_option linter.unusedSimpArgs false
set_option linter.unusedVariables false
namespace Go.Th.L
open Go Go.Th Go.Th.Pure
variable {P : Program} {N : Nat → Nat}

theorem eqW {a b c d : Int} (h : Wok a b) (h' : Wok c d) : eqV 6 [1, 1] (wV a b) (wV c d) = some (decide (wN a b = wN c d)) := by
  rw [eq2_mk]; congr 1; exact decide_eq_decide.mpr (wN_inj h h').symm
theorem eqW0 {a b : Int} (h : Wok a b) : eqV 6 [1, 1] (wV a b) (wV 0 0) = some (decide (wN a b = 0)) := by
  rw [eqW h ⟨by omega, by omega, by omega, by omega⟩, show wN 0 0 = 0 from rfl]

def distT (a b : List Int) (h l e : Int) : Prop := Wok h l ∧ e = distE a b ∧ wN h l = if distE a b = 0 then distL a b else 0
theorem DistOk.tell {f : Nat} (hD : DistOk P f) {u v : V} {a b : List Int} {S : St} {K : Int → Int → Int → St → Prop} (hu : IntsAt S u a) (hv : IntsAt S v b) (hk : ∀ h l e, distT a b h l e → K h l e S) :
    CallA P f [u, v] S (retT [.agg [.int .u64, .int .u64], .one (.int .i64)] K) :=
  hD u v a b S K hu hv (fun h => hk _ _ _ ⟨⟨by omega, by omega, by omega, by omega⟩, rfl, by rw [if_neg h]; rfl⟩) (fun h hi lo hw hn => hk _ _ _ ⟨hw, h.symm, by rw [if_pos h]; exact hn⟩)

theorem keepW {S : St} (hw : S.Wf) {h l : Int} {K : St → Prop} (hk : ∀ S', Grow S S' → S'.get S.next = some (.cells [.int .u64 h, .int .u64 l] true) → S'.next = S.next + 1 → K S') :
    newS S (.cells [.int .u64 0, .int .u64 0] true) fun S1 => ifS (storeV S1 2 (.ptr S.next 0) (wV h l)) K :=
  newS_mk hw fun S1 g1 m1 n1 => st_mk g1.wf m1 rfl (by simp [V.cells]) rfl fun S2 u2 m2 n2 => hk S2 (g1.after u2 (by simp)) (by simpa [over, V.cells] using m2) (by omega)

theorem Built.blk {S0 S : St} {k : Nat} {v : V} {es : List (List V)} (h : Built S0 S k v es) : ∀ i ∈ v.block, S0.next ≤ i ∧ i < S.next := fun i hi => ⟨h.from i hi, h.lt i hi⟩

end Go.Th.L
end
