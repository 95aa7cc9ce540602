/- The seat's numbering of the library's functions, and that they are the program's (printed by tools/seat.py). -/
import Derived.Test.YthimmjgpiadmbaaThGcodec
import Derived.Test.YthimmjgpiadmbaaThGflat
import Derived.Test.YthimmjgpiadmbaaThGkeep
import Derived.Test.YthimmjgpiadmbaaThGlaw16
import Derived.Test.YthimmjgpiadmbaaThGref03
import Derived.Test.YthimmjgpiadmbaaThGref05
import Derived.Test.YthimmjgpiadmbaaThGref16
import Derived.Test.YthimmjgpiadmbaaThGvec
import Derived.Test.YthimmjgpiadmbaaThL
import Derived.Test.YthimmjgpiadmbaaProg
namespace Go.Th.Codec
open Go Go.Th Go.Th.L
set_option maxRecDepth 100000

noncomputable abbrev PP := Go.Proofs.Try.prog
def tabN : List (Nat × Nat) := [(1, 3), (2, 8), (3, 9), (4, 10), (5, 11), (6, 12), (7, 13), (8, 14), (9, 15), (10, 16), (11, 17), (12, 4), (13, 18), (14, 19), (15, 20), (16, 21), (17, 22), (18, 23), (19, 24), (20, 25), (21, 26), (22, 5), (23, 6), (24, 27), (25, 28), (26, 29), (27, 30), (28, 31), (29, 32), (30, 7), (31, 33), (32, 34), (33, 35), (34, 36), (35, 37), (36, 38), (37, 39), (38, 40), (39, 41), (40, 42), (41, 43), (42, 44), (43, 45), (44, 46), (45, 47), (46, 48), (47, 49), (48, 50), (49, 51), (50, 52)]
def N (k : Nat) : Nat := match tabN.find? (fun p => p.1 == k) with
  | some p => p.2
  | none => 0
theorem has_law16_CodecRecords : afun PP (N Fn.law16_CodecRecords) = some (law16_CodecRecords.F N) := by kernel_rfl
theorem has_law16_CodecTexts : afun PP (N Fn.law16_CodecTexts) = some (law16_CodecTexts.F N) := by kernel_rfl
theorem has_law16_CodecSpoilt : afun PP (N Fn.law16_CodecSpoilt) = some (law16_CodecSpoilt.F N) := by kernel_rfl
theorem has_law16_CodecReads : afun PP (N Fn.law16_CodecReads) = some (law16_CodecReads.F N) := by kernel_rfl
theorem has_law16_CodecRound : afun PP (N Fn.law16_CodecRound) = some (law16_CodecRound.F N) := by kernel_rfl
theorem has_codec_Encode : afun PP (N Fn.codec_Encode) = some (codec_Encode.F N) := by kernel_rfl
theorem has_ref16_Encode : afun PP (N Fn.ref16_Encode) = some (ref16_Encode.F N) := by kernel_rfl
theorem has_keep_LendBytes : afun PP (N Fn.keep_LendBytes) = some (keep_LendBytes.F N) := by kernel_rfl
theorem has_codec_Decode : afun PP (N Fn.codec_Decode) = some (codec_Decode.F N) := by kernel_rfl
theorem has_codec_Sum : afun PP (N Fn.codec_Sum) = some (codec_Sum.F N) := by kernel_rfl
theorem has_keep_BackBytes : afun PP (N Fn.keep_BackBytes) = some (keep_BackBytes.F N) := by kernel_rfl
theorem has_ref16_Decode : afun PP (N Fn.ref16_Decode) = some (ref16_Decode.F N) := by kernel_rfl
theorem has_law16_awake : afun PP (N Fn.law16_awake) = some (law16_awake.F N) := by kernel_rfl
theorem has_keep_Bytes : afun PP (N Fn.keep_Bytes) = some (keep_Bytes.F N) := by kernel_rfl
theorem has_ref16_Sum : afun PP (N Fn.ref16_Sum) = some (ref16_Sum.F N) := by kernel_rfl
theorem has_law16_big : afun PP (N Fn.law16_big) = some (law16_big.F N) := by kernel_rfl
theorem has_keep_Lend : afun PP (N Fn.keep_Lend) = some (keep_Lend.F N) := by kernel_rfl
theorem has_codec_PutChange : afun PP (N Fn.codec_PutChange) = some (codec_PutChange.F N) := by kernel_rfl
theorem has_keep_Back : afun PP (N Fn.keep_Back) = some (keep_Back.F N) := by kernel_rfl
theorem has_ref16_PutChange : afun PP (N Fn.ref16_PutChange) = some (ref16_PutChange.F N) := by kernel_rfl
theorem has_keep_LendRows : afun PP (N Fn.keep_LendRows) = some (keep_LendRows.F N) := by kernel_rfl
theorem has_codec_PutRows : afun PP (N Fn.codec_PutRows) = some (codec_PutRows.F N) := by kernel_rfl
theorem has_keep_BackRows : afun PP (N Fn.keep_BackRows) = some (keep_BackRows.F N) := by kernel_rfl
theorem has_ref16_PutRows : afun PP (N Fn.ref16_PutRows) = some (ref16_PutRows.F N) := by kernel_rfl
theorem has_codec_GetChange : afun PP (N Fn.codec_GetChange) = some (codec_GetChange.F N) := by kernel_rfl
theorem has_ref16_GetChange : afun PP (N Fn.ref16_GetChange) = some (ref16_GetChange.F N) := by kernel_rfl
theorem has_codec_GetRows : afun PP (N Fn.codec_GetRows) = some (codec_GetRows.F N) := by kernel_rfl
theorem has_ref16_GetRows : afun PP (N Fn.ref16_GetRows) = some (ref16_GetRows.F N) := by kernel_rfl
theorem has_keep_Ints : afun PP (N Fn.keep_Ints) = some (keep_Ints.F N) := by kernel_rfl
theorem has_keep_Rows : afun PP (N Fn.keep_Rows) = some (keep_Rows.F N) := by kernel_rfl
theorem has_codec_lay : afun PP (N Fn.codec_lay) = some (codec_lay.F N) := by kernel_rfl
theorem has_codec_check : afun PP (N Fn.codec_check) = some (codec_check.F N) := by kernel_rfl
theorem has_ref16_number : afun PP (N Fn.ref16_number) = some (ref16_number.F N) := by kernel_rfl
theorem has_codec_reading_number : afun PP (N Fn.codec_reading_number) = some (codec_reading_number.F N) := by kernel_rfl
theorem has_codec_reading_cut : afun PP (N Fn.codec_reading_cut) = some (codec_reading_cut.F N) := by kernel_rfl
theorem has_ref16_get : afun PP (N Fn.ref16_get) = some (ref16_get.F N) := by kernel_rfl
theorem has_keep_Vectors : afun PP (N Fn.keep_Vectors) = some (keep_Vectors.F N) := by kernel_rfl
theorem has_codec_may : afun PP (N Fn.codec_may) = some (codec_may.F N) := by kernel_rfl
theorem has_ref03_Id : afun PP (N Fn.ref03_Id) = some (ref03_Id.F N) := by kernel_rfl
theorem has_ref03_Check : afun PP (N Fn.ref03_Check) = some (ref03_Check.F N) := by kernel_rfl
theorem has_ref16_coord : afun PP (N Fn.ref16_coord) = some (ref16_coord.F N) := by kernel_rfl
theorem has_flat_Check : afun PP (N Fn.flat_Check) = some (flat_Check.F N) := by kernel_rfl
theorem has_codec_rising : afun PP (N Fn.codec_rising) = some (codec_rising.F N) := by kernel_rfl
theorem has_ref05_Check : afun PP (N Fn.ref05_Check) = some (ref05_Check.F N) := by kernel_rfl
theorem has_codec_reading_coords : afun PP (N Fn.codec_reading_coords) = some (codec_reading_coords.F N) := by kernel_rfl
theorem has_ref16_coords : afun PP (N Fn.ref16_coords) = some (ref16_coords.F N) := by kernel_rfl
theorem has_vec_Check : afun PP (N Fn.vec_Check) = some (vec_Check.F N) := by kernel_rfl
theorem has_ref03_Rows : afun PP (N Fn.ref03_Rows) = some (ref03_Rows.F N) := by kernel_rfl
theorem has_codec_reading_coords_1 : afun PP (N Fn.codec_reading_coords_1) = some (codec_reading_coords_1.F N) := by kernel_rfl
theorem has_vec_dim : afun PP (N Fn.vec_dim) = some (vec_dim.F N) := by kernel_rfl
def tabL : List (Nat × AF) := [(3, law16_CodecRecords.F N), (4, law16_CodecTexts.F N), (5, law16_CodecSpoilt.F N), (6, law16_CodecReads.F N), (7, law16_CodecRound.F N), (8, codec_Encode.F N), (9, ref16_Encode.F N), (10, keep_LendBytes.F N), (11, codec_Decode.F N), (12, codec_Sum.F N), (13, keep_BackBytes.F N), (14, ref16_Decode.F N), (15, law16_awake.F N), (16, keep_Bytes.F N), (17, ref16_Sum.F N), (18, law16_big.F N), (19, keep_Lend.F N), (20, codec_PutChange.F N), (21, keep_Back.F N), (22, ref16_PutChange.F N), (23, keep_LendRows.F N), (24, codec_PutRows.F N), (25, keep_BackRows.F N), (26, ref16_PutRows.F N), (27, codec_GetChange.F N), (28, ref16_GetChange.F N), (29, codec_GetRows.F N), (30, ref16_GetRows.F N), (31, keep_Ints.F N), (32, keep_Rows.F N), (33, codec_lay.F N), (34, codec_check.F N), (35, ref16_number.F N), (36, codec_reading_number.F N), (37, codec_reading_cut.F N), (38, ref16_get.F N), (39, keep_Vectors.F N), (40, codec_may.F N), (41, ref03_Id.F N), (42, ref03_Check.F N), (43, ref16_coord.F N), (44, flat_Check.F N), (45, codec_rising.F N), (46, ref05_Check.F N), (47, codec_reading_coords.F N), (48, ref16_coords.F N), (49, vec_Check.F N), (50, ref03_Rows.F N), (51, codec_reading_coords_1.F N), (52, vec_dim.F N)]
theorem tabL_ok : ∀ p ∈ tabL, afun PP p.1 = some p.2 := by
  unfold tabL
  refine List.forall_mem_cons.mpr ⟨has_law16_CodecRecords, ?_⟩
  refine List.forall_mem_cons.mpr ⟨has_law16_CodecTexts, ?_⟩
  refine List.forall_mem_cons.mpr ⟨has_law16_CodecSpoilt, ?_⟩
  refine List.forall_mem_cons.mpr ⟨has_law16_CodecReads, ?_⟩
  refine List.forall_mem_cons.mpr ⟨has_law16_CodecRound, ?_⟩
  refine List.forall_mem_cons.mpr ⟨has_codec_Encode, ?_⟩
  refine List.forall_mem_cons.mpr ⟨has_ref16_Encode, ?_⟩
  refine List.forall_mem_cons.mpr ⟨has_keep_LendBytes, ?_⟩
  refine List.forall_mem_cons.mpr ⟨has_codec_Decode, ?_⟩
  refine List.forall_mem_cons.mpr ⟨has_codec_Sum, ?_⟩
  refine List.forall_mem_cons.mpr ⟨has_keep_BackBytes, ?_⟩
  refine List.forall_mem_cons.mpr ⟨has_ref16_Decode, ?_⟩
  refine List.forall_mem_cons.mpr ⟨has_law16_awake, ?_⟩
  refine List.forall_mem_cons.mpr ⟨has_keep_Bytes, ?_⟩
  refine List.forall_mem_cons.mpr ⟨has_ref16_Sum, ?_⟩
  refine List.forall_mem_cons.mpr ⟨has_law16_big, ?_⟩
  refine List.forall_mem_cons.mpr ⟨has_keep_Lend, ?_⟩
  refine List.forall_mem_cons.mpr ⟨has_codec_PutChange, ?_⟩
  refine List.forall_mem_cons.mpr ⟨has_keep_Back, ?_⟩
  refine List.forall_mem_cons.mpr ⟨has_ref16_PutChange, ?_⟩
  refine List.forall_mem_cons.mpr ⟨has_keep_LendRows, ?_⟩
  refine List.forall_mem_cons.mpr ⟨has_codec_PutRows, ?_⟩
  refine List.forall_mem_cons.mpr ⟨has_keep_BackRows, ?_⟩
  refine List.forall_mem_cons.mpr ⟨has_ref16_PutRows, ?_⟩
  refine List.forall_mem_cons.mpr ⟨has_codec_GetChange, ?_⟩
  refine List.forall_mem_cons.mpr ⟨has_ref16_GetChange, ?_⟩
  refine List.forall_mem_cons.mpr ⟨has_codec_GetRows, ?_⟩
  refine List.forall_mem_cons.mpr ⟨has_ref16_GetRows, ?_⟩
  refine List.forall_mem_cons.mpr ⟨has_keep_Ints, ?_⟩
  refine List.forall_mem_cons.mpr ⟨has_keep_Rows, ?_⟩
  refine List.forall_mem_cons.mpr ⟨has_codec_lay, ?_⟩
  refine List.forall_mem_cons.mpr ⟨has_codec_check, ?_⟩
  refine List.forall_mem_cons.mpr ⟨has_ref16_number, ?_⟩
  refine List.forall_mem_cons.mpr ⟨has_codec_reading_number, ?_⟩
  refine List.forall_mem_cons.mpr ⟨has_codec_reading_cut, ?_⟩
  refine List.forall_mem_cons.mpr ⟨has_ref16_get, ?_⟩
  refine List.forall_mem_cons.mpr ⟨has_keep_Vectors, ?_⟩
  refine List.forall_mem_cons.mpr ⟨has_codec_may, ?_⟩
  refine List.forall_mem_cons.mpr ⟨has_ref03_Id, ?_⟩
  refine List.forall_mem_cons.mpr ⟨has_ref03_Check, ?_⟩
  refine List.forall_mem_cons.mpr ⟨has_ref16_coord, ?_⟩
  refine List.forall_mem_cons.mpr ⟨has_flat_Check, ?_⟩
  refine List.forall_mem_cons.mpr ⟨has_codec_rising, ?_⟩
  refine List.forall_mem_cons.mpr ⟨has_ref05_Check, ?_⟩
  refine List.forall_mem_cons.mpr ⟨has_codec_reading_coords, ?_⟩
  refine List.forall_mem_cons.mpr ⟨has_ref16_coords, ?_⟩
  refine List.forall_mem_cons.mpr ⟨has_vec_Check, ?_⟩
  refine List.forall_mem_cons.mpr ⟨has_ref03_Rows, ?_⟩
  refine List.forall_mem_cons.mpr ⟨has_codec_reading_coords_1, ?_⟩
  refine List.forall_mem_cons.mpr ⟨has_vec_dim, ?_⟩
  intro p h; cases h
def tabF (f : Nat) : Option AF := (tabL.find? (·.1 == f)).map (·.2)
theorem tabF_ok : ∀ f F, tabF f = some F → afun PP f = some F := by
  intro f F h
  unfold tabF at h
  cases hf : tabL.find? (·.1 == f) with
  | none => rw [hf] at h; cases h
  | some p =>
    rw [hf] at h; cases h
    have h1 := List.mem_of_find?_eq_some hf
    have h2 := List.find?_some hf
    have h3 : p.1 = f := by simpa using h2
    rw [← h3]; exact tabL_ok p h1
def okF (f : Nat) : Bool := [3, 4, 5, 6, 7, 8, 9, 10, 11, 12, 13, 14, 15, 16, 17, 18, 19, 20, 21, 22, 23, 24, 25, 26, 27, 28, 29, 30, 31, 32, 33, 34, 35, 36, 37, 38, 39, 40, 41, 42, 43, 44, 45, 46, 47, 48, 49, 50, 51, 52].contains f
theorem okF_ok : ∀ f, okF f = true → canEnter PP f = true := by
  intro f h
  have hm : f ∈ [3, 4, 5, 6, 7, 8, 9, 10, 11, 12, 13, 14, 15, 16, 17, 18, 19, 20, 21, 22, 23, 24, 25, 26, 27, 28, 29, 30, 31, 32, 33, 34, 35, 36, 37, 38, 39, 40, 41, 42, 43, 44, 45, 46, 47, 48, 49, 50, 51, 52] := by simpa [okF] using h
  have hall : ([3, 4, 5, 6, 7, 8, 9, 10, 11, 12, 13, 14, 15, 16, 17, 18, 19, 20, 21, 22, 23, 24, 25, 26, 27, 28, 29, 30, 31, 32, 33, 34, 35, 36, 37, 38, 39, 40, 41, 42, 43, 44, 45, 46, 47, 48, 49, 50, 51, 52].all fun f => canEnter PP f) = true := by kernel_rfl
  exact List.all_eq_true.mp hall f hm
end Go.Th.Codec
