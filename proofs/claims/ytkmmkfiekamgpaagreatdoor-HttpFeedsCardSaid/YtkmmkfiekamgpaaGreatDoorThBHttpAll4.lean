/- What the row of one statement stands on: a store, abstract code, functions of the program and their laws (ThHttpAll4). -/
import Derived.Test.YtkmmkfiekamgpaaGreatDoorThBHttpAll3
import Derived.Test.YtkmmkfiekamgpaaGreatDoorThBHhttp10

section
/- The http seat's laws: in whatever parts. -/
set_option linter.unusedVariables false
namespace Go.Th.Http
open Go Go.Th Go.Th.L Go.Th.Pure Go.RowKit
set_option maxRecDepth 100000

theorem has_slices_ContainsFunc_Lbyte : slices_ContainsFunc_Lbyte.Ok PP N := Reads.of (by kernel_rfl)
theorem has_slices_IndexFunc_Lbyte : slices_IndexFunc_Lbyte.Ok PP N := Reads.of (by kernel_rfl)
theorem s_all : AllS PP (N Fn.http_all) := http_all.spec has_http_all has_slices_ContainsFunc_Lbyte has_slices_IndexFunc_Lbyte has_http_all_1 (by kernel_rfl)
theorem s_f1 : PredS PP (N Fn.http_Parser_first_1) isUp := http_Parser_first_1.spec has_http_Parser_first_1 (by kernel_rfl)
theorem s_f2 : PredS PP (N Fn.http_Parser_first_2) isVis := http_Parser_first_2.spec has_http_Parser_first_2 (by kernel_rfl)
theorem s_h1 : PredS PP (N Fn.http_Parser_head_1) isNm := http_Parser_head_1.spec has_http_Parser_head_1 (by kernel_rfl)
theorem s_h2 : PredS PP (N Fn.http_Parser_head_2) isPr := http_Parser_head_2.spec has_http_Parser_head_2 (by kernel_rfl)
theorem s_h3 : PredS PP (N Fn.http_Parser_head_3) isDig := http_Parser_head_3.spec has_http_Parser_head_3 (by kernel_rfl)
theorem s_line : LineS PP (N Fn.http_Parser_line) := http_Parser_line.spec has_http_Parser_line s_BIndex has_http_Parser_bad
theorem tysOk : TysOk N := ⟨Nat.ne_of_beq_eq_false (by kernel_rfl), Nat.ne_of_beq_eq_false (by kernel_rfl), Nat.ne_of_beq_eq_false (by kernel_rfl)⟩
theorem s_nexts : NextsOk PP N :=
  ⟨by kernel_rfl, by kernel_rfl, by kernel_rfl, http_Parser_first.spec has_http_Parser_first s_line s_Cut s_all s_f1 s_f2 s_Prefix has_http_Parser_bad,
   http_Parser_head.spec has_http_Parser_head s_line s_Cut s_all s_h1 s_h2 s_h3 s_Trim has_http_means s_Lower s_Atoi tysOk has_http_Parser_bad, http_Parser_body.spec has_http_Parser_body⟩
theorem s_Feed : FeedS PP N (N Fn.http_Parser_Feed) := http_Parser_Feed.spec has_http_Parser_Feed s_nexts
theorem s_same : SameS PP (N Fn.law22_same) := law22_same.spec has_law22_same
theorem s_partsOk : PartsOk PP N := ⟨has_http_New, s_Feed, has_http_Parser_Wrong, s_same, has_law22_cut, a_awake⟩

def law7_shapes : List Sh := [Sh.slice 1 1 (Sh.int IntKind.u8), Sh.slice 1 8 (Sh.int IntKind.i64)]
theorem law7_spec (S : St) (av : List V) (hw : S.Wf) (hg : HG S) (h : HasAs S law7_shapes av) : CallA PP 7 av S (fun r _ => r = .ret (.bool true)) := by
  rw [← (show N Fn.law22_HttpParts = 7 from by kernel_rfl)]
  simp only [law7_shapes, HasAs] at h
  obtain ⟨_, _, rfl, h1, _, _, rfl, h2, rfl⟩ := h
  obtain ⟨b, hb⟩ := has_bytes h1
  simp only [HasA, Has] at h2
  obtain ⟨v, n, es, hv, hsl, _, hes⟩ := h2
  cases hv
  obtain ⟨l, hl, rfl, _⟩ := has_i64s (S := S) hsl.2.1 (fun m hm => by simp only [Has]; exact hes m hm)
  subst hl
  exact (law22_HttpParts.spec has_law22_HttpParts s_partsOk hw hg hb hsl (K := fun b _ => b = true) (fun _ => rfl)).mono fun r S' h => retT_true h
end Go.Th.Http
end
