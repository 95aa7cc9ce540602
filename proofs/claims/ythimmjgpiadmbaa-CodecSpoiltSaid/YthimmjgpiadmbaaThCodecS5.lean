/- Codec: the document's reading of bytes; bytes lent; the law of records. -/
import Derived.Test.YthimmjgpiadmbaaThCodecS4
set_option linter.unusedSimpArgs false
set_option linter.unusedVariables false
namespace Go.Th.Codec
open Go Go.Th

theorem num_take_one {bs : List UInt8} (h : 0 < bs.length) : num (bs.take 1) = bs[0].toNat := by
  cases bs with
  | nil => simp at h
  | cons b bs => simp [num]

theorem decR_spec : Decs PP 14 := by
  intro v bs S Q hv hl h
  refine CallA.gc (CallA.wf fun hw => ?_)
  refine CallA.of_body okF_ok F14_ok ?_
  have hv' := hv.ro
  have hlen := hv'.len
  have hcv := bytes_conv hv'
  simp only [F14, go_sem, hlen]
  by_cases h1 : bs.length < 9
  · have he : dec bs = (0, [], 0, 161) := by rw [dec, if_pos h1]
    rw [he] at h
    have h1' : ((bs.length : Int) < 9) := by omega
    simp only [h1', go_sem]
    exact fun _ => ⟨rfl, h⟩
  · have h1' : ¬ ((bs.length : Int) < 9) := by omega
    simp only [h1', go_sem, hcv]
    have k4 : ∀ l : List UInt8, num (l.take 4) < 4294967296 := fun l => num_take_lt l 4
    have hpos : 0 < bs.length := by omega
    have hix : idxAddrV 1 v (.int .i64 0) = some (eltV 1 v 0 0) := hv'.idx (m := 0) hpos
    have hld : loadV S.ro (eltV 1 v 0 0) = some (.int .u8 (bs[0].toNat : Nat)) := by
      have := hv'.load (m := 0) (off := 0) hpos (by omega)
      rw [this]; exact bytesV_get hpos
    have hb := byte_lt bs[0]
    have hn1 := num_take_one hpos
    refine get_spec bs 1 4 _ _ (by omega) (by omega) hl ?_
    simp only [go_sem, hix, hld]
    by_cases h2 : num (bs.take 1) = 0
    · have he : dec bs = (0, [], 0, 160) := by rw [dec, if_neg h1, if_pos h2]
      rw [he] at h
      have h2' : ((bs[0].toNat : Nat) : Int) = 0 := by omega
      simp only [h2', go_sem]
      exact fun _ => ⟨rfl, h⟩
    · have h2' : ¬ ((bs[0].toNat : Nat) : Int) = 0 := by omega
      by_cases h3 : 262144 < num ((bs.drop 1).take 4)
      · have he : dec bs = (0, [], 0, 2) := by rw [dec, if_neg h1, if_neg h2, if_pos h3]
        rw [he] at h
        have h3' : (262144 : Int) < (num ((bs.drop 1).take 4) : Nat) := by omega
        simp only [h2', h3', go_sem]
        exact fun _ => ⟨rfl, h⟩
      · have h3' : ¬ (262144 : Int) < (num ((bs.drop 1).take 4) : Nat) := by omega
        have h9 : IntKind.i64.wrap ((bs.length : Int) - 9) = ((bs.length - 9 : Nat) : Int) := by rw [IntKind.wrap_i64]; omega
        by_cases h4 : bs.length - 9 < num ((bs.drop 1).take 4)
        · have he : dec bs = (0, [], 0, 161) := by rw [dec, if_neg h1, if_neg h2, if_neg h3, if_pos h4]
          rw [he] at h
          have h4' : ((bs.length - 9 : Nat) : Int) < (num ((bs.drop 1).take 4) : Nat) := by omega
          simp only [h2', h3', h9, h4', hlen, go_sem]
          exact fun _ => ⟨rfl, h⟩
        · have h4' : ¬ ((bs.length - 9 : Nat) : Int) < (num ((bs.drop 1).take 4) : Nat) := by omega
          have h6 : IntKind.i64.wrap (9 + ((num ((bs.drop 1).take 4) : Nat) : Int)) = ((9 + num ((bs.drop 1).take 4) : Nat) : Int) := by
            rw [IntKind.wrap_i64]; omega
          have hbody : (bs.take (9 + num ((bs.drop 1).take 4))).drop 9 = decBody bs := by
            rw [List.drop_take, Nat.add_sub_cancel_left]; rfl
          have hsl : sliceStrV (.str bs) (some (.int .i64 9)) (some (.int .i64 ((9 + num ((bs.drop 1).take 4) : Nat) : Int))) = some (.str (decBody bs)) := by
            rw [← hbody]
            exact sliceStr_sub (l := 9) (by omega) (by omega)
          have hbl : (decBody bs).length = num ((bs.drop 1).take 4) := by
            unfold decBody; rw [List.length_take, List.length_drop]; omega
          obtain ⟨c1, S1, x1, x2, x3, x4⟩ := app_byte hw (B := S.ro.next) (Nat.le_refl _) (Acc.nil S.ro S.ro.next 1) (bs := []) (by omega) bs[0]
          have g1 : Grow S.ro S1 := x3.mono (by simp [V.block])
          obtain ⟨c2, S2, y1, y2, y3, y4⟩ := x2.app g1.wf g1.le (y := .str (decBody bs)) (m := (decBody bs).length) (ds := bytesV (decBody bs)) rfl (by simp [bytesV_length]) (bytesV_ones _) (bytes := 1) (by omega) (by omega)
          have g2 : Grow S.ro S2 := g1.after y3 (fun i hi => by rcases x4 i hi with h' | h'; simp [V.block] at h'; exact .inl h')
          simp only [h2', h3', h9, h4', hlen, h6, hsl, go_sem, hix, hld, x1, y1]
          refine get_spec bs 5 4 _ _ (by omega) (by omega) hl ?_
          simp only [go_sem]
          rw [← bytesV_append] at y2
          have hb0 : byteZ (num (bs.take 1) : Nat) = bs[0] := by
            apply UInt8.toNat_inj.mp
            have := byteZ_toNat (num (bs.take 1) : Nat)
            omega
          refine sumR_spec c2 (bs[0] :: decBody bs) S2 _ (by have := y2.at_; simp only [List.nil_append, List.cons_append] at this; rw [show 0 + 1 + (decBody bs).length = (bs[0] :: decBody bs).length by simp; omega] at this; exact this) ?_
          have hcl := crc_lt (bs[0] :: decBody bs)
          have hv2 := hv'.grow g2
          have hld2 : loadV S2 (eltV 1 v 0 0) = some (.int .u8 (bs[0].toNat : Nat)) := by
            have := hv2.load (m := 0) (off := 0) hpos (by omega)
            rw [this]; exact bytesV_get hpos
          simp only [go_sem, i64_nat (show crc (bs[0] :: decBody bs) < 9223372036854775808 by omega)]
          by_cases h5 : crc (byteZ (num (bs.take 1) : Nat) :: decBody bs) = num ((bs.drop 5).take 4)
          · have he : dec bs = (((num (bs.take 1) : Nat) : Int), decBody bs, ((9 + num ((bs.drop 1).take 4) : Nat) : Int), 0) := by rw [dec, if_neg h1, if_neg h2, if_neg h3, if_neg h4, if_pos h5]
            rw [he, hn1] at h
            rw [hb0] at h5
            have h5' : (num ((bs.drop 5).take 4) : Nat) = ((crc (bs[0] :: decBody bs) : Nat) : Int) := by omega
            simp only [h5', h6, go_sem, hix, hld2, i64_nat (show bs[0].toNat < 9223372036854775808 by omega)]
            exact fun _ => ⟨rfl, h⟩
          · have he : dec bs = (0, [], 0, 162) := by rw [dec, if_neg h1, if_neg h2, if_neg h3, if_neg h4, if_neg h5]
            rw [he] at h
            rw [hb0] at h5
            have h5' : ¬ (num ((bs.drop 5).take 4) : Nat) = ((crc (bs[0] :: decBody bs) : Nat) : Int) := by omega
            simp only [h5', go_sem]
            exact fun _ => ⟨rfl, h⟩

end Go.Th.Codec
