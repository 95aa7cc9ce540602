/- What the row of one statement stands on: a store, abstract code, functions of the program and their laws (ThHttpOrc). -/
import Derived.Test.YtkmmkfiekamgpaaGreatDoorThBHttpStd
import Derived.Test.YtkmmkfiekamgpaaGreatDoorThBHorc

section
/- The http seat: awake, by a closed run with the library's functions told. -/
set_option linter.unusedVariables false
namespace Go.Th.Http
open Go Go.Th Go.Th.L Go.Th.Pure Go.RowKit
set_option maxRecDepth 100000

def libN : LibN := ⟨30, 31, 71, 34, 53, 33, 78, 101, 27, 32, 36⟩
theorem cst {p : Nat → Prop} {a b : Nat} (h : a = b) (x : p a) : p b := h ▸ x
theorem lib_ok : LibOk PP libN :=
  ⟨cst (p := CutS PP) (show N Fn.strings_Cut = 30 from by kernel_rfl) s_Cut,
   cst (p := SplitS PP) (show N Fn.strings_Split = 31 from by kernel_rfl) s_Split,
   cst (p := BIndexS PP) (show N Fn.bytes_Index = 71 from by kernel_rfl) s_BIndex,
   cst (p := BPrefixS PP) (show N Fn.bytes_HasPrefix = 34 from by kernel_rfl) s_BPrefix,
   cst (p := PrefixS PP) (show N Fn.strings_HasPrefix = 53 from by kernel_rfl) s_Prefix,
   cst (p := CutPrefixS PP) (show N Fn.strings_CutPrefix = 33 from by kernel_rfl) s_CutPrefix,
   cst (p := TrimS PP) (show N Fn.strings_Trim = 78 from by kernel_rfl) s_Trim,
   cst (p := LowerS PP) (show N Fn.strings_ToLower = 101 from by kernel_rfl) s_Lower,
   cst (p := ItoaS PP) (show N Fn.strconv_Itoa = 27 from by kernel_rfl) s_Itoa,
   cst (p := AtoiS PP) (show N Fn.strconv_Atoi = 32 from by kernel_rfl) s_Atoi,
   cst (p := ContainsS PP) (show N Fn.slices_Contains_Lstring = 36 from by kernel_rfl) s_Contains⟩
noncomputable def tabO (f : Nat) : Option AF := if [30, 31, 71, 34, 53, 33, 78, 101, 27, 32, 36].contains f then none else afun PP f
theorem tabO_ok : ∀ f F, tabO f = some F → afun PP f = some F := by
  intro f F h
  unfold tabO at h
  split at h
  · cases h
  · exact h
theorem s_awake {S : St} {K : Bool → St → Prop} (hg : HG S) (hk : K true S) : CallA PP (N Fn.law22_awake) [] S (retT [.one .bool] K) := by
  obtain ⟨m, h0⟩ := hg.len
  obtain ⟨t1, h1⟩ := hg.e1
  obtain ⟨t2, h2⟩ := hg.e2
  rw [show N Fn.law22_awake = 15 from by kernel_rfl]
  refine CallA.runG envF_ok (orcStd_ok lib_ok) tabO_ok 1000 (S0 := St.globs [(0, [.int .i64 m]), (1, [.iface t1 .junk]), (2, [.iface t2 .junk]), (3, Lib.pow10Tab.map (V.int .u64))]) (.ret (.bool true)) (globs_in ?_) (by kernel_rfl) rfl rfl ⟨_, rfl, hk⟩
  intro p hp
  simp only [List.mem_cons, List.not_mem_nil, or_false] at hp
  rcases hp with rfl | rfl | rfl | rfl
  · exact ⟨h0, rfl⟩
  · exact ⟨h1, rfl⟩
  · exact ⟨h2, rfl⟩
  · exact ⟨hg.tab, by kernel_rfl⟩
end Go.Th.Http
end
