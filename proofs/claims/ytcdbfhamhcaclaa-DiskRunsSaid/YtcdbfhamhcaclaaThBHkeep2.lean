/- What the row of one statement stands on: a store, abstract code, functions of the program and their laws (ThHkeep2). -/
import Derived.Test.YtcdbfhamhcaclaaThBHdisk12
import Derived.Test.YtcdbfhamhcaclaaThBHkeep

section
/- Texts compared. -/
set_option linter.unusedSimpArgs false
set_option linter.unusedVariables false
namespace Go.Th.L
open Go Go.Th Go.Th.Pure
variable {P : Program} {N : Nat → Nat}

abbrev TxsAt (S : St) (v : V) (l : List Nm) : Prop := SlAt S 1 v l.length (strsV l)
theorem TxsAt.get {S : St} {v : V} {l : List Nm} (h : TxsAt S v l) {j : Nat} (hj : j < l.length) : loadV S (eltV 1 v j 0) = some (.str l[j]) := by
  have := SlAt.load h (m := j) (off := 0) hj (by omega)
  rw [Nat.mul_one, Nat.add_zero] at this
  rw [this]
  simp [strsV, hj]
theorem txs_of {S0 S : St} {v : V} {l : List Nm} (h : Built S0 S 1 v (strE l)) : TxsAt S v l := by
  have := h.acc.at_
  rwa [strE_flat, strE_len] at this
theorem keep_Texts.spec (hF : keep_Texts.Ok P N) {x y : V} {a b : List Nm} {S : St} {K : Bool → St → Prop} (hx : TxsAt S x a) (hy : TxsAt S y b) (h : K (decide (a = b)) S) : CallA P (N Fn.keep_Texts) [x, y] S (retT [.one .bool] K) := by
  have hle := hx.1
  refine keep_Texts.run hF ⟨_, SlAt.len hx, _, SlAt.len hy, ifC_ndec (fun hne => ?_) (fun heq => ?_)⟩
  · have e : a ≠ b := fun e => hne (by rw [e])
    rwa [decide_eq_false e] at h
  · refine Loop1.ind (fun n x S' => S' = S ∧ ∃ j : Nat, x = j ∧ j + n = a.length ∧ a.take j = b.take j) a.length ⟨rfl, 0, rfl, by omega, by simp⟩ ?_
    rintro n _ _ ⟨rfl, j, rfl, hj, hab⟩
    refine ⟨_, SlAt.len hx, ifC_dec (fun hlt => ?_) (fun hge => ?_)⟩
    · have hja : j < a.length := by omega
      have hjb : j < b.length := by omega
      refine ifS_mk (SlAt.idx hx hja) ⟨_, hx.get hja, ifS_mk (SlAt.idx hy hjb) ⟨_, hy.get hjb, ifC_ndec (fun hne => ?_) (fun heq => ?_)⟩⟩
      · rwa [decide_eq_false (ne_of_get hja hjb hne)] at h
      · exact setI_mk (wrap_succ (by omega)) ⟨n - 1, by omega, rfl, j + 1, rfl, by omega, take_succ_eq hab hja hjb heq⟩
    · have : a = b := by
        rw [List.take_of_length_le (by omega), List.take_of_length_le (by omega)] at hab
        exact hab
      rwa [decide_eq_true this] at h

end Go.Th.L
end
