/- What the row of one statement stands on: a store, abstract code, functions of the program and their laws (ThHwal1). -/
import Derived.Test.YtilkmjbbdnnphaaGreatDoorThBPwal1
import Derived.Test.YtilkmjbbdnnphaaGreatDoorThBGref17
import Derived.Test.YtilkmjbbdnnphaaGreatDoorThBQ10

section
/- wal: numbers and checks laid. -/
set_option linter.unusedSimpArgs false
set_option linter.unusedVariables false
set_option maxHeartbeats 1000000
namespace Go.Th.L
open Go Go.Th Go.Th.Pure
variable {P : Program} {N : Nat → Nat}

theorem codec_Sum.spec (hF : codec_Sum.Ok P N) {S : St} {v : V} {l : List UInt8} (h : BytesAt S v l) (hl : l.length < 4611686018427387904) {K : Int → St → Prop} (hk : K (sumI l) S) : CallA P (N Fn.codec_Sum) [v] S (retT [.one (.int .u32)] K) := by
  refine codec_Sum.run hF ⟨_, SlAt.len h, Loop2.ind (fun m x z S' => ∃ i : Nat, z = i ∧ i + m = l.length ∧ S' = S ∧ x = (l.take i).foldl addS 4294967295) l.length ⟨0, rfl, by omega, rfl, rfl⟩ ?_⟩
  rintro m x z S1 ⟨i, rfl, hi, rfl, rfl⟩
  refine ifC_dec (fun hlt => ?_) (fun hge => ?_)
  · have hin : i < l.length := by omega
    refine ifS_mk (SlAt.idx h hin) ⟨_, BytesAt.get h hin, setI_mk rfl (setI_mk rfl ?_)⟩
    refine Loop2.ind (fun m2 y z2 S' => ∃ j : Nat, z2 = j ∧ j + m2 = 8 ∧ S' = S1 ∧ y = rnds j (intBits .xor .u32 ((l.take i).foldl addS 4294967295) (IntKind.u32.wrap ((l[i].toNat : Nat) : Int)))) 8 ⟨0, rfl, by omega, rfl, rfl⟩ ?_
    rintro m2 y z2 S2 ⟨j, rfl, hj, rfl, rfl⟩
    refine ifC_dec (fun hlt2 => ?_) (fun hge2 => ?_)
    · refine ⟨by omega, setI_mk rfl (setI_mk rfl (setI_mk rfl (setI_mk rfl (setI_mk rfl (setI_mk (n := ((j + 1 : Nat) : Int)) (by rw [IntKind.wrap_i64]; omega) ⟨m2 - 1, by omega, j + 1, rfl, by omega, rfl, ?_⟩)))))⟩
      rw [rnds_succ]; rfl
    · have : j = 8 := by omega
      subst this
      refine setI_mk (n := ((i + 1 : Nat) : Int)) (by rw [IntKind.wrap_i64]; omega) ⟨m - 1, by omega, i + 1, rfl, by omega, rfl, ?_⟩
      rw [List.take_add_one, List.getElem?_eq_getElem hin, Option.toList_some, List.foldl_append]
      rfl
  · have : i = l.length := by omega
    subst this
    rw [List.take_length]
    exact setI_mk rfl hk

end Go.Th.L
end
