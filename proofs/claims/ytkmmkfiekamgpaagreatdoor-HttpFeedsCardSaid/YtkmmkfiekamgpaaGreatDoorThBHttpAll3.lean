/- What the row of one statement stands on: a store, abstract code, functions of the program and their laws (ThHttpAll3). -/
import Derived.Test.YtkmmkfiekamgpaaGreatDoorThBHttpAll2
import Derived.Test.YtkmmkfiekamgpaaGreatDoorThBHhttp5

section
/- The http seat's laws: responses. -/
set_option linter.unusedVariables false
namespace Go.Th.Http
open Go Go.Th Go.Th.L Go.Th.Pure Go.RowKit

theorem s_Print : PrintSpec PP (N Fn.http_Print) := http_Print.spec has_http_Print (http_word.spec has_http_word) s_Itoa
theorem s_word' : WordSpec PP (N Fn.ref22_Word) := ref22_Word.spec has_ref22_Word
theorem s_digits : DigitsSpec PP (N Fn.ref22_digits) := ref22_digits.spec has_ref22_digits
theorem s_Print' : PrintSpec PP (N Fn.ref22_Print) := ref22_Print.spec has_ref22_Print s_word' s_digits
theorem s_Read : ReadSpec PP (N Fn.http_Read) := http_Read.spec has_http_Read s_Cut s_Split s_Atoi s_CutPrefix s_Print s_BPrefix
theorem s_Read' : ReadSpec PP (N Fn.ref22_Read) := ref22_Read.spec has_ref22_Read s_word' s_digits s_Print' (ref22_begins.spec has_ref22_begins)
theorem s_http : HttpOk PP N := ⟨s_Print, s_Print', s_Read, s_Read', keep_LendBytes.spec has_keep_LendBytes, keep_BackBytes.spec has_keep_BackBytes, keep_Bytes.spec has_keep_Bytes, a_awake⟩

def respSh : Sh := Sh.agg (Fs.cons 1 (Sh.int IntKind.i64) (Fs.cons 1 Sh.str (Fs.cons 1 Sh.bool Fs.nil)))
theorem has_resp {S : St} {x : V} (h : HasA S respSh x) : ∃ (c : Int) (p : Bs) (k : Bool), x = .agg [.int .i64 c, .str p, .bool k] := by
  simp only [respSh, HasA, HasF, Has] at h
  obtain ⟨cs, rfl, ⟨a, ha, _⟩, ⟨b, hb, _⟩, ⟨c, hc⟩, h5⟩ := h
  match cs with
  | [] => simp at ha
  | [_] => simp at hb
  | [_, _] => simp at hc
  | _ :: _ :: _ :: _ :: _ => simp at h5
  | [x, y, z] =>
    simp at ha hb hc
    exact ⟨a, b, c, by rw [ha, hb, hc]⟩
theorem has_bytes {S : St} {v : V} (h : HasA S (Sh.slice 1 1 (Sh.int IntKind.u8)) v) : ∃ b, BytesAt S v b := by
  simp only [HasA, Has] at h
  obtain ⟨v, n, es, hv, hsl, _, hes⟩ := h
  cases hv
  obtain ⟨bs, h1, rfl⟩ := has_u8s (S := S) hsl.2.1 (fun m hm => by simp only [Has]; exact hes m hm)
  exact ⟨bs, hsl.bytes⟩

def law3_shapes : List Sh := [respSh, Sh.slice 1 1 (Sh.int IntKind.u8)]
theorem law3_spec (S : St) (av : List V) (hw : S.Wf) (hg : HG S) (h : HasAs S law3_shapes av) : CallA PP 3 av S (fun r _ => r = .ret (.bool true)) := by
  rw [← (show N Fn.law22_HttpPrints = 3 from by kernel_rfl)]
  simp only [law3_shapes, HasAs] at h
  obtain ⟨_, _, rfl, h1, _, _, rfl, h2, rfl⟩ := h
  obtain ⟨c, p, k, rfl⟩ := has_resp h1
  obtain ⟨b, hb⟩ := has_bytes h2
  exact (law22_HttpPrints.spec has_law22_HttpPrints s_http hw hg hb (K := fun b _ => b = true) (fun _ => rfl)).mono fun r S' h => retT_true h
def law4_shapes : List Sh := [respSh, Sh.slice 1 1 (Sh.int IntKind.u8)]
theorem law4_spec (S : St) (av : List V) (hw : S.Wf) (hg : HG S) (h : HasAs S law4_shapes av) : CallA PP 4 av S (fun r _ => r = .ret (.bool true)) := by
  rw [← (show N Fn.law22_HttpRound = 4 from by kernel_rfl)]
  simp only [law4_shapes, HasAs] at h
  obtain ⟨_, _, rfl, h1, _, _, rfl, h2, rfl⟩ := h
  obtain ⟨c, p, k, rfl⟩ := has_resp h1
  obtain ⟨b, hb⟩ := has_bytes h2
  exact (law22_HttpRound.spec has_law22_HttpRound s_http hw hg hb (K := fun b _ => b = true) (fun _ => rfl)).mono fun r S' h => retT_true h
end Go.Th.Http
end
