/- The seat's functions, each by its law. -/
import Derived.Test.YthimmjgpiadmbaaThCodecN
import Derived.Test.YthimmjgpiadmbaaThHlaw16
import Derived.Test.YthimmjgpiadmbaaThQ9
set_option linter.unusedVariables false
namespace Go.Th.Codec
open Go Go.Th Go.Th.L Go.Th.Pure

theorem s_awake : Awake PP (N Fn.law16_awake) := fun S K h => CallA.run okF_ok tabF_ok 1000 (.ret (.bool true)) (by kernel_rfl) rfl rfl ⟨_, rfl, h⟩
theorem s_Ints : keep_Ints.Spec PP N := keep_Ints.spec has_keep_Ints
theorem s_Lend : keep_Lend.Spec PP N := keep_Lend.spec has_keep_Lend
theorem s_Back : keep_Back.Spec PP N := keep_Back.spec has_keep_Back s_Ints
theorem s_LendRows : keep_LendRows.Spec PP N := keep_LendRows.spec has_keep_LendRows s_Lend
theorem s_BackRows : keep_BackRows.Spec PP N := keep_BackRows.spec has_keep_BackRows s_Back
theorem s_Rows : keep_Rows.Spec PP N := keep_Rows.spec has_keep_Rows s_Ints
theorem s_Vectors : keep_Vectors.Spec PP N := keep_Vectors.spec has_keep_Vectors
theorem s_dim : vec_dim.Spec PP N := vec_dim.spec has_vec_dim
theorem s_Check : ChecksV PP (N Fn.vec_Check) := vec_Check.spec has_vec_Check s_dim
theorem s_Check3 : ChecksV PP (N Fn.ref03_Check) := ref03_Check.spec has_ref03_Check
theorem s_Id : ref03_Id.Spec PP N := ref03_Id.spec has_ref03_Id
theorem s_Rows3 : ref03_Rows.Spec PP N := ref03_Rows.spec has_ref03_Rows s_Id s_Check3
theorem s_CheckF : ChecksR PP (N Fn.flat_Check) := flat_Check.spec has_flat_Check s_Check
theorem s_Check5 : ChecksR PP (N Fn.ref05_Check) := ref05_Check.spec has_ref05_Check s_Rows3
theorem s_lay : LaysB PP (N Fn.codec_lay) (fun _ => True) := codec_lay.spec has_codec_lay
theorem s_number : LaysB PP (N Fn.ref16_number) (fun v => 0 ≤ v ∧ v < 9223372036854775808) := ref16_number.spec has_ref16_number
theorem s_cut : codec_reading_cut.Spec PP N := codec_reading_cut.spec has_codec_reading_cut
theorem s_rnumber : codec_reading_number.Spec PP N := codec_reading_number.spec has_codec_reading_number s_cut
theorem s_coords1 : codec_reading_coords_1.Spec PP N := codec_reading_coords_1.spec has_codec_reading_coords_1 s_rnumber
theorem s_coords : codec_reading_coords.Spec PP N := codec_reading_coords.spec has_codec_reading_coords s_coords1 (by kernel_rfl)
theorem s_get : ref16_get.Spec PP N := ref16_get.spec has_ref16_get
theorem s_coord : ref16_coord.Spec PP N := ref16_coord.spec has_ref16_coord s_number
theorem s_coords16 : ref16_coords.Spec PP N := ref16_coords.spec has_ref16_coords s_get
theorem s_may : codec_may.Spec PP N := codec_may.spec has_codec_may s_Check
theorem s_PutChange : PutsC PP (N Fn.codec_PutChange) := codec_PutChange.spec has_codec_PutChange s_may s_lay
theorem s_PutChange16 : PutsC PP (N Fn.ref16_PutChange) := ref16_PutChange.spec has_ref16_PutChange s_Id s_Check3 s_number s_coord
theorem s_rising : codec_rising.Spec PP N := codec_rising.spec has_codec_rising
theorem s_PutRows : PutsR PP (N Fn.codec_PutRows) := codec_PutRows.spec has_codec_PutRows s_CheckF s_rising s_lay
theorem s_PutRows16 : PutsR PP (N Fn.ref16_PutRows) := ref16_PutRows.spec has_ref16_PutRows s_Check5 s_number s_coord
theorem s_GetChange : GetsC PP (N Fn.codec_GetChange) := codec_GetChange.spec has_codec_GetChange s_rnumber s_coords s_may
theorem s_GetChange16 : GetsC PP (N Fn.ref16_GetChange) := ref16_GetChange.spec has_ref16_GetChange s_get s_coords16 s_PutChange16
theorem s_GetRows : GetsR PP (N Fn.codec_GetRows) := codec_GetRows.spec has_codec_GetRows s_rnumber s_coords s_rising s_CheckF
theorem s_GetRows16 : GetsR PP (N Fn.ref16_GetRows) := ref16_GetRows.spec has_ref16_GetRows s_get s_coords16 s_PutRows16
theorem s_big : law16_big.Spec PP N := law16_big.spec has_law16_big s_Vectors

theorem retT_true {r : Res} {S : St} (h : retT [.one .bool] (fun b _ => b = true) r S) : r = .ret (.bool true) := by
  obtain ⟨b, h1, rfl⟩ := h
  exact h1

def law4_shapes : List Sh := [Sh.agg (Fs.cons 1 (Sh.int IntKind.i64) (Fs.cons 1 (Sh.int IntKind.i64) (Fs.cons 1 (Sh.slice 1 8 (Sh.int IntKind.i64)) Fs.nil))), Sh.slice 2 32 shRow]
theorem law4_spec (S : St) (av : List V) (hw : S.Wf) (h : HasAs S law4_shapes av) : CallA PP 4 av S (fun r _ => r = .ret (.bool true)) := by
  rw [← (show N Fn.law16_CodecTexts = 4 from by kernel_rfl)]
  simp only [law4_shapes, HasAs, HasA] at h
  obtain ⟨_, _, rfl, ⟨cs, rfl, hc⟩, _, _, rfl, hv, rfl⟩ := h
  simp only [HasF, Has] at hc hv
  obtain ⟨⟨k, hk, _⟩, ⟨i, hi, _⟩, ⟨w, n, es, hw', hsl, _, hes⟩, hd⟩ := hc
  obtain ⟨v, m, fs, hv, hsv, hrv, hfs⟩ := hv
  obtain ⟨l, hl, rfl, _⟩ := has_i64s (S := S) hsl.2.1 (fun m hm => by simp only [Has]; exact hes m hm)
  subst hl
  obtain ⟨rs, hrs, hb1, hb2, _⟩ := has_rows hsv hrv hfs
  cases hv
  have hcs : cs = [.int .i64 k, .int .i64 i, w] := by
    match cs with
    | [] => simp at hk
    | [a] => simp at hi
    | [a, b] => simp at hw'
    | a :: b :: c :: d :: r => simp at hd
    | [a, b, c] => simp at hk hi hw'; simp [hk, hi, hw']
  subst hcs
  exact (law16_CodecTexts.spec has_law16_CodecTexts s_awake s_big s_Lend s_Back s_LendRows s_BackRows s_PutChange s_PutChange16 s_PutRows s_PutRows16 k i w l _ rs S (fun b _ => b = true) hw hsl hrs hb1 hb2 (fun _ => rfl)).mono fun r S' h => retT_true h

def law6_shapes : List Sh := [Sh.str]
theorem law6_spec (S : St) (av : List V) (hw : S.Wf) (h : HasAs S law6_shapes av) : CallA PP 6 av S (fun r _ => r = .ret (.bool true)) := by
  rw [← (show N Fn.law16_CodecReads = 6 from by kernel_rfl)]
  simp only [law6_shapes, HasAs, HasA, Has] at h
  obtain ⟨_, _, rfl, ⟨s, hs, _⟩, rfl⟩ := h
  cases hs
  exact (law16_CodecReads.spec has_law16_CodecReads s_awake s_GetChange s_GetChange16 s_GetRows s_GetRows16 s_Ints s_Rows s S (fun b _ => b = true) hw (fun _ => rfl)).mono fun r S' h => retT_true h

def law7_shapes : List Sh := [Sh.agg (Fs.cons 1 (Sh.int IntKind.i64) (Fs.cons 1 (Sh.int IntKind.i64) (Fs.cons 1 (Sh.slice 1 8 (Sh.int IntKind.i64)) Fs.nil))), Sh.slice 2 32 shRow, Sh.str, Sh.int IntKind.u8]
theorem law7_spec (S : St) (av : List V) (hw : S.Wf) (h : HasAs S law7_shapes av) : CallA PP 7 av S (fun r _ => r = .ret (.bool true)) := by
  rw [← (show N Fn.law16_CodecRound = 7 from by kernel_rfl)]
  simp only [law7_shapes, HasAs, HasA] at h
  obtain ⟨_, _, rfl, ⟨cs, rfl, hc⟩, _, _, rfl, hv, _, _, rfl, ht, _, _, rfl, hm, rfl⟩ := h
  simp only [HasF, Has] at hc hv ht hm
  obtain ⟨⟨k, hk, _⟩, ⟨i, hi, _⟩, ⟨w, n, es, hw', hsl, _, hes⟩, hd⟩ := hc
  obtain ⟨v, m, fs, hv, hsv, hrv, hfs⟩ := hv
  obtain ⟨text, ht, _⟩ := ht
  obtain ⟨mo, hm, hmw⟩ := hm
  obtain ⟨l, hl, rfl, _⟩ := has_i64s (S := S) hsl.2.1 (fun m hm => by simp only [Has]; exact hes m hm)
  subst hl
  obtain ⟨rs, hrs, hb1, hb2, _⟩ := has_rows hsv hrv hfs
  cases hv; cases ht; cases hm
  have hcs : cs = [.int .i64 k, .int .i64 i, w] := by
    match cs with
    | [] => simp at hk
    | [a] => simp at hi
    | [a, b] => simp at hw'
    | a :: b :: c :: d :: r => simp at hd
    | [a, b, c] => simp at hk hi hw'; simp [hk, hi, hw']
  subst hcs
  have hb := lit_u8 hmw
  have hmo : mo = ((byteZ mo).toNat : Int) := by rw [byteZ_toNat]; omega
  rw [hmo]
  exact (law16_CodecRound.spec has_law16_CodecRound s_awake s_big s_PutChange s_GetChange s_PutRows s_GetRows s_Ints s_Rows k i w l _ rs text (byteZ mo) S (fun b _ => b = true) hw hsl hrs hb1 hb2 (fun _ => rfl)).mono fun r S' h => retT_true h

end Go.Th.Codec
