/- What the row of one statement stands on: a store, abstract code, functions of the program and their laws (ThHhttp0). -/
import Derived.Test.YtkmmkfiekamgpaaGreatDoorThBHcmp
import Derived.Test.YtkmmkfiekamgpaaGreatDoorThBGref22
import Derived.Test.YtkmmkfiekamgpaaGreatDoorThBHstd

section
/- http: no parser. -/
set_option linter.unusedSimpArgs false
set_option linter.unusedVariables false
namespace Go.Th.L
open Go Go.Th
variable {P : Program} {N : Nat → Nat}

theorem http_Parser_Feed.nil_ (hF : http_Parser_Feed.Ok P N) {S : St} {v : V} {K : V → Int → St → Prop} (h : K .nilSlice 3 S) : CallA P (N Fn.http_Parser_Feed) [.nilPtr, v] S (retT [.one .any, .one (.int .i64)] K) :=
  http_Parser_Feed.run hF ⟨true, rfl, ifC_tt rfl h⟩
theorem http_Parser_Wrong.nil_ (hF : http_Parser_Wrong.Ok P N) {S : St} {K : Int → St → Prop} (h : K 3 S) : CallA P (N Fn.http_Parser_Wrong) [.nilPtr] S (retT [.one (.int .i64)] K) :=
  http_Parser_Wrong.run hF ⟨true, rfl, ifC_tt rfl h⟩

/-- The examples answer. -/
def AwakeG (P : Program) (f : Nat) : Prop := ∀ (S : St) (K : Bool → St → Prop), HG S → K true S → CallA P f [] S (retT [.one .bool] K)
theorem law22_HttpNil.spec (hF : law22_HttpNil.Ok P N) (hf : http_Parser_Feed.Ok P N) (hw : http_Parser_Wrong.Ok P N) (ha : AwakeG P (N Fn.law22_awake)) {S : St} {v : V} {n : Int} (hg : HG S) (hv : lenV S 2 v = some (.int .i64 n)) {K : Bool → St → Prop} (hk : ∀ S', K true S') :
    CallA P (N Fn.law22_HttpNil) [v] S (retT [.one .bool] K) := by
  refine law22_HttpNil.run hF ⟨_, hv, ifC_dec (fun _ => hk _) (fun _ => http_Parser_Feed.nil_ hf (ha _ _ hg (ifC_tt rfl ⟨0, lenV_nil _, ifC_pos rfl (ifC_pos rfl (http_Parser_Wrong.nil_ hw ?_))⟩)))⟩
  exact hk _
end Go.Th.L
end
