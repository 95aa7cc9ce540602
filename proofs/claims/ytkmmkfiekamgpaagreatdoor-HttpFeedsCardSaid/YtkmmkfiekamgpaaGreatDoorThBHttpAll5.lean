/- What the row of one statement stands on: a store, abstract code, functions of the program and their laws (ThHttpAll5). -/
import Derived.Test.YtkmmkfiekamgpaaGreatDoorThBHttpAll4
import Derived.Test.YtkmmkfiekamgpaaGreatDoorThBHhttp14

section
/- The http seat's laws: the parser held against the document. -/
set_option linter.unusedVariables false
namespace Go.Th.Http
open Go Go.Th Go.Th.L Go.Th.Pure Go.RowKit
set_option maxRecDepth 100000

theorem s_within : WithinS PP (N Fn.ref22_within) := ref22_within.spec has_ref22_within
theorem s_small : SmallS PP (N Fn.ref22_small) := ref22_small.spec has_ref22_small
theorem s_rline : RLineS PP (N Fn.ref22_Reading_line) := ref22_line.spec has_ref22_Reading_line
theorem s_header : HeaderS PP (N Fn.ref22_header) := ref22_header.spec has_ref22_header s_find (ref22_name.spec has_ref22_name s_small) s_within s_small
theorem s_heads : HeadsS PP (N Fn.ref22_Reading_heads) := ref22_heads.spec has_ref22_Reading_heads s_rline has_ref22_Reading_stop s_header (ref22_number.spec has_ref22_number s_within)
theorem s_one : OneS PP (N Fn.ref22_Reading_one) := ref22_one.spec has_ref22_Reading_one s_rline has_ref22_Reading_stop (ref22_first.spec has_ref22_first s_find s_within) s_heads
theorem s_reqs : RequestsS PP (N Fn.ref22_Requests) := ref22_Requests.spec has_ref22_Requests s_one has_ref22_Reading_stop
theorem s_feedsOk : FeedsOk PP N := ⟨s_partsOk, keep_LendBytes.spec has_keep_LendBytes, keep_BackBytes.spec has_keep_BackBytes, s_reqs⟩

theorem has_parts {S : St} : ∀ {es : List V}, (∀ m, m < es.length → Has S (Sh.slice 1 1 (Sh.int IntKind.u8)) ((es.drop (m * 1)).take 1)) → ∃ ps : List Bs, es.length = ps.length ∧ ∀ j (h1 : j < es.length) (h2 : j < ps.length), BytesAt S es[j] ps[j]
  | [], _ => ⟨[], rfl, fun j h1 => by simp at h1⟩
  | e :: es, h => by
    obtain ⟨ps, hl, hp⟩ := has_parts (es := es) (fun m hm => by simpa using h (m + 1) (by simp; omega))
    have h0 := h 0 (by simp)
    simp only [Nat.zero_mul, List.drop_zero, List.take_succ_cons, List.take_zero] at h0
    obtain ⟨b, hb⟩ := has_bytes (S := S) (v := e) h0
    refine ⟨b :: ps, by simp [hl], fun j h1 h2 => ?_⟩
    cases j with
    | zero => exact hb
    | succ j => exact hp j (by simpa using h1) (by simpa using h2)

def law6_shapes : List Sh := [Sh.slice 1 24 (Sh.slice 1 1 (Sh.int IntKind.u8))]
theorem law6_spec (S : St) (av : List V) (hw : S.Wf) (hg : HG S) (h : HasAs S law6_shapes av) : CallA PP 6 av S (fun r _ => r = .ret (.bool true)) := by
  rw [← (show N Fn.law22_HttpFeeds = 6 from by kernel_rfl)]
  simp only [law6_shapes, HasAs] at h
  obtain ⟨_, _, rfl, h1, rfl⟩ := h
  unfold HasA Has at h1
  obtain ⟨v, n, es, hv, hsl, _, hes⟩ := h1
  cases hv
  have hl := hsl.2.1
  rw [Nat.mul_one] at hl
  subst hl
  obtain ⟨ps, hlp, hps⟩ := has_parts hes
  exact (law22_HttpFeeds.spec has_law22_HttpFeeds s_feedsOk hw hg ⟨hlp, hsl, hps⟩ (K := fun b _ => b = true) (fun _ => rfl)).mono fun r S' h => retT_true h
end Go.Th.Http
end
