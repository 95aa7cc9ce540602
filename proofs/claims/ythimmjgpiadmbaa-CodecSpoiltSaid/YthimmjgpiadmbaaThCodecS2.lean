/- Codec: the document's check, records as bytes. -/
import Derived.Test.YthimmjgpiadmbaaThCodecS1
set_option linter.unusedSimpArgs false
set_option linter.unusedVariables false
namespace Go.Th.Codec
open Go Go.Th

theorem sumR_spec (v : V) (bs : List UInt8) (S : St) (Q : Post) (hv : SlAt S 1 v bs.length (bytesV bs)) (h : Q (.ret (.int .u32 (crc bs : Nat))) S) : CallA PP 17 [v] S Q := by
  refine CallA.of_body okF_ok F17_ok ?_
  have hlen := hv.len
  have hle := hv.le
  simp only [F17, go_sem]
  refine LoopA.ind okF_ok (fun n fr S' => S' = S ∧ fr.length = 34 ∧ G fr 0 = v ∧ ∃ j : Nat, G fr 4 = .int .i64 j ∧ j + n = bs.length ∧ G fr 3 = .int .u32 (crcFold (bs.take j) : Nat)) ?_ bs.length _ _ ⟨rfl, rfl, rfl, 0, rfl, by omega, rfl⟩
  rintro n fr S' ⟨rfl, hfl, h0, j, h4, hj, h3⟩
  simp only [go_sem, h0, h4, h3, hfl, hlen]
  by_cases hlt : j < bs.length
  · have hlt' : ((j : Int) < bs.length) := by omega
    have hld := hv.load (m := j) (off := 0) hlt (by omega)
    rw [Nat.mul_one, Nat.add_zero, bytesV_get hlt] at hld
    have hc := crcFold_lt (bs.take j)
    have hb := byte_lt bs[j]
    simp only [hlt', go_sem, h0, h4, h3, hfl, hlen, hv.idx hlt, hld, u32_bits (show bs[j].toNat < 4294967296 by omega), xor_u32 hc (show bs[j].toNat < 4294967296 by omega)]
    have hc2 : crcFold (bs.take j) ^^^ bs[j].toNat < 4294967296 := Nat.xor_lt_two_pow (n := 32) hc (by omega)
    refine LoopA.ind okF_ok (fun k fr S'' => S'' = S' ∧ fr.length = 34 ∧ G fr 0 = v ∧ G fr 4 = .int .i64 j ∧ ∃ i : Nat, G fr 5 = .int .i64 i ∧ i + k = 8 ∧ G fr 3 = .int .u32 (crcRun i (crcFold (bs.take j) ^^^ bs[j].toNat) : Nat)) ?_ 8 _ _ ?_
    · rintro k fr S'' ⟨rfl, hfl, h0, h4, i, h5, hi, h3⟩
      simp only [go_sem, h0, h4, h5, h3, hfl]
      by_cases hi8 : i < 8
      · have hi8' : ((i : Int) < 8) := by omega
        have hcr := crcRun_lt i hc2
        have hrem : (↑(crcRun i (crcFold (bs.take j) ^^^ bs[j].toNat)) : Int).tmod 2 = ((crcRun i (crcFold (bs.take j) ^^^ bs[j].toNat) % 2 : Nat) : Int) := by
          rw [Int.tmod_eq_emod_of_nonneg (by omega)]; omega
        have hquo : IntKind.u32.wrap ((↑(crcRun i (crcFold (bs.take j) ^^^ bs[j].toNat)) : Int).tdiv 2) = ((crcRun i (crcFold (bs.take j) ^^^ bs[j].toNat) / 2 : Nat) : Int) := by
          rw [Int.tdiv_eq_ediv_of_nonneg (by omega), IntKind.wrap_u32]; omega
        by_cases hp : crcRun i (crcFold (bs.take j) ^^^ bs[j].toNat) % 2 = 1
        · have hp' : (((crcRun i (crcFold (bs.take j) ^^^ bs[j].toNat) % 2 : Nat) : Int) = 1) := by omega
          have hx := xor_u32 (a := crcRun i (crcFold (bs.take j) ^^^ bs[j].toNat) / 2) (b := 3988292384) (by omega) (by omega)
          rw [show ((3988292384 : Nat) : Int) = 3988292384 from rfl] at hx
          simp only [hi8', go_sem, h0, h4, h5, h3, hfl, hrem, hquo, hp', hx, show ¬ ((2 : Int) = 0) by omega, wrap_nat (show i < 4611686018427387905 by omega)]
          refine ⟨k - 1, by omega, i + 1, rfl, by omega, ?_⟩
          rw [crcRun_succ, crcStep, if_pos hp]
        · have hp' : ¬ (((crcRun i (crcFold (bs.take j) ^^^ bs[j].toNat) % 2 : Nat) : Int) = 1) := by omega
          simp only [hi8', go_sem, h0, h4, h5, h3, hfl, hrem, hquo, hp', show ¬ ((2 : Int) = 0) by omega, wrap_nat (show i < 4611686018427387905 by omega)]
          refine ⟨k - 1, by omega, i + 1, rfl, by omega, ?_⟩
          rw [crcRun_succ, crcStep, if_neg hp, Nat.xor_zero]
      · have hi8' : ¬ ((i : Int) < 8) := by omega
        have hi8e : i = 8 := by omega
        subst hi8e
        simp only [hi8', go_sem, h0, h4, h5, h3, hfl, wrap_nat (show j < 4611686018427387905 by omega)]
        refine ⟨n - 1, by omega, j + 1, rfl, by omega, ?_⟩
        rw [crcFold_take_succ hlt]; rfl
    · simp only [go_sem, h0, h4, h3, hfl]
      exact ⟨0, rfl, by omega, rfl⟩
  · have hlt' : ¬ ((j : Int) < bs.length) := by omega
    have hjn : j = bs.length := by omega
    rw [hjn, List.take_length] at h3
    simp only [hlt', go_sem, hfl, h3]
    have : intBits .xor .u32 (crcFold bs : Nat) 4294967295 = (crc bs : Nat) := by
      have := xor_u32 (a := crcFold bs) (b := 4294967295) (crcFold_lt bs) (by omega)
      rw [Nat.xor_comm] at this
      exact this
    simp only [go_sem, this, hfl]
    exact h

theorem check_spec (k : Int) (s : List UInt8) (S : St) (Q : Post) (hs : s.length ≤ 1099511627776) (h : Q (.ret (.int .u32 (crc (byteZ k :: s) : Nat))) S) : CallA PP 34 [.int .i64 k, .str s] S Q := by
  refine CallA.gc (CallA.wf fun hw => ?_)
  refine CallA.of_body okF_ok F34_ok ?_
  have ha := Acc.fresh hw (B := S.ro.next) (Nat.le_refl _) (n := 1) (k := 1) (by omega) (cs := bytesV [byteZ k]) rfl (bytesV_ones _) true
  obtain ⟨b', S', e1, e2, e3, e4⟩ := ha.app (hw.new _) (by simp only [St.next_new]; omega) (y := .str s) (m := s.length) (ds := bytesV s) rfl (by simp [bytesV_length]) (bytesV_ones _) (bytes := 1) (by omega) (by omega)
  rw [← bytesV_append] at e2
  simp only [bytesV, List.map_cons, List.map_nil] at e1
  simp only [F34, go_sem, wrap_byte, e1]
  refine sum_spec b' (byteZ k :: s) S' _ ?_ ?_
  · have := e2.at_
    rw [Nat.add_comm] at this
    exact this
  · simp only [go_sem]
    exact fun _ => ⟨rfl, h⟩

/-! ## records -/
def enc (k : Int) (s : List UInt8) : List UInt8 × Int :=
  if k < 1 ∨ 255 < k then ([], 160) else if 262144 < s.length then ([], 2) else (le 1 k ++ le 4 s.length ++ le 4 (crc (byteZ k :: s) : Nat) ++ s, 0)

def Encs (P : Program) (f : Nat) : Prop := ∀ (k : Int) (s : List UInt8) (S : St) (Q : Post), S.Wf → s.length ≤ 1099511627776 →
  (∀ S' v, Grow S S' → Acc S' S.next 1 v (enc k s).1.length (bytesV (enc k s).1) → Q (.ret (.tuple [v, .int .i64 (enc k s).2])) S') → CallA P f [.int .i64 k, .str s] S Q

set_option maxHeartbeats 1000000 in
theorem enc_spec : Encs PP 8 := by
  intro k s S Q hw hs h
  refine CallA.of_body okF_ok F8_ok ?_
  simp only [F8, go_sem]
  by_cases h1 : k < 1
  · have he : enc k s = ([], 160) := by simp [enc, h1]
    simp only [he] at h
    simp only [h1, go_sem]
    exact h S .nilSlice (Upd.refl hw _) (Acc.nil _ _ _)
  · by_cases h2 : 255 < k
    · have he : enc k s = ([], 160) := by simp [enc, h2]
      simp only [he] at h
      simp only [h1, h2, go_sem]
      exact h S .nilSlice (Upd.refl hw _) (Acc.nil _ _ _)
    · by_cases h3 : 262144 < s.length
      · have he : enc k s = ([], 2) := by simp [enc, h1, h2, h3]
        have h3' : (262144 : Int) < s.length := by omega
        simp only [he] at h
        simp only [h1, h2, h3', go_sem]
        exact h S .nilSlice (Upd.refl hw _) (Acc.nil _ _ _)
      · have he : enc k s = (le 1 k ++ le 4 s.length ++ le 4 (crc (byteZ k :: s) : Nat) ++ s, 0) := by simp [enc, h1, h2, h3]
        have h3' : ¬ ((262144 : Int) < s.length) := by omega
        simp only [he] at h
        simp only [h1, h2, h3', go_sem]
        refine lay_spec .nilSlice k 1 0 S.next [] S _ hw (Nat.le_refl _) (Acc.nil _ _ _) (by omega) trivial ?_
        intro S1 b1 a1 u1 t1
        simp only [go_sem]
        refine lay_spec b1 s.length 4 _ S.next _ S1 _ u1.wf u1.le a1 (by omega) trivial ?_
        intro S2 b2 a2 u2 t2
        simp only [go_sem]
        refine check_spec k s S2 _ hs ?_
        simp only [go_sem, i64_nat (show crc (byteZ k :: s) < 9223372036854775808 by have := crc_lt (byteZ k :: s); omega)]
        have g1 : Grow S S1 := u1.mono (by simp [V.block])
        have g2 : Grow S S2 := g1.after u2 (fun i hi => by rcases t1 i hi with h' | h'; simp [V.block] at h'; exact .inl h')
        have t2' : ∀ i ∈ b2.block, S.next ≤ i := by
          intro i hi
          rcases t2 i hi with h' | h'
          · rcases t1 i h' with h'' | h''
            · simp [V.block] at h''
            · exact h''
          · have := g1.le; omega
        refine lay_spec b2 (crc (byteZ k :: s) : Nat) 4 _ S.next _ S2 _ g2.wf g2.le a2 (by omega) trivial ?_
        intro S3 b3 a3 u3 t3
        have g3 : Grow S S3 := g2.after u3 (fun i hi => .inl (t2' i hi))
        have t3' : ∀ i ∈ b3.block, S.next ≤ i := by
          intro i hi
          rcases t3 i hi with h' | h'
          · exact t2' i h'
          · have := g2.le; omega
        simp only [go_sem]
        obtain ⟨b4, S4, e1, e2, e3, e4⟩ := a3.app g3.wf g3.le (y := .str s) (m := s.length) (ds := bytesV s) rfl (by simp [bytesV_length]) (bytesV_ones _) (bytes := 1) (by omega) (by omega)
        simp only [e1, go_sem]
        refine h S4 b4 (g3.after e3 (fun i hi => .inl (t3' i hi))) ?_
        rw [← bytesV_append] at e2
        simp only [List.nil_append] at e2
        have hl : (le 1 k ++ le 4 s.length ++ le 4 (crc (byteZ k :: s) : Nat) ++ s).length = 0 + 1 + 4 + 4 + s.length := by
          simp only [List.length_append, le_length]
        rw [hl]
        exact e2

set_option maxHeartbeats 1000000 in
theorem encR_spec : Encs PP 9 := by
  intro k s S Q hw hs h
  refine CallA.of_body okF_ok F9_ok ?_
  simp only [F9, go_sem]
  by_cases h1 : k < 1
  · have he : enc k s = ([], 160) := by simp [enc, h1]
    simp only [he] at h
    simp only [h1, go_sem]
    exact h S .nilSlice (Upd.refl hw _) (Acc.nil _ _ _)
  · by_cases h2 : 255 < k
    · have he : enc k s = ([], 160) := by simp [enc, h2]
      simp only [he] at h
      simp only [h1, h2, go_sem]
      exact h S .nilSlice (Upd.refl hw _) (Acc.nil _ _ _)
    · by_cases h3 : 262144 < s.length
      · have he : enc k s = ([], 2) := by simp [enc, h1, h2, h3]
        have h3' : (262144 : Int) < s.length := by omega
        simp only [he] at h
        simp only [h1, h2, h3', go_sem]
        exact h S .nilSlice (Upd.refl hw _) (Acc.nil _ _ _)
      · have he : enc k s = (le 1 k ++ le 4 s.length ++ le 4 (crc (byteZ k :: s) : Nat) ++ s, 0) := by simp [enc, h1, h2, h3]
        have h3' : ¬ ((262144 : Int) < s.length) := by omega
        simp only [he] at h
        simp only [h1, h2, h3', go_sem]
        refine number_spec .nilSlice k 1 0 S.next [] S _ hw (Nat.le_refl _) (Acc.nil _ _ _) (by omega) ⟨by omega, by omega⟩ ?_
        intro S1 b1 a1 u1 t1
        simp only [go_sem]
        refine number_spec b1 s.length 4 _ S.next _ S1 _ u1.wf u1.le a1 (by omega) ⟨by omega, by omega⟩ ?_
        intro S2 b2 a2 u2 t2
        have g1 : Grow S S1 := u1.mono (by simp [V.block])
        have g2 : Grow S S2 := g1.after u2 (fun i hi => by rcases t1 i hi with h' | h'; simp [V.block] at h'; exact .inl h')
        have t2' : ∀ i ∈ b2.block, S.next ≤ i := by
          intro i hi
          rcases t2 i hi with h' | h'
          · rcases t1 i h' with h'' | h''
            · simp [V.block] at h''
            · exact h''
          · have := g1.le; omega
        simp only [go_sem]
        obtain ⟨c1, S3, x1, x2, x3, x4⟩ := app_byte g2.wf (B := S2.next) (Nat.le_refl _) (Acc.nil S2 S2.next 1) (bs := []) (by omega) (byteZ k)
        have g23 : Grow S2 S3 := x3.mono (by simp [V.block])
        obtain ⟨c2, S4, y1, y2, y3, y4⟩ := x2.app g23.wf g23.le (y := .str s) (m := s.length) (ds := bytesV s) rfl (by simp [bytesV_length]) (bytesV_ones _) (bytes := 1) (by omega) (by omega)
        have x4' : ∀ i ∈ c1.block, S2.next ≤ i := fun i hi => by rcases x4 i hi with h' | h'; simp [V.block] at h'; exact h'
        have g24 : Grow S2 S4 := g23.after y3 (fun i hi => .inl (x4' i hi))
        simp only [go_sem, wrap_byte, x1, y1]
        rw [← bytesV_append] at y2
        refine sumR_spec c2 (byteZ k :: s) S4 _ (by have := y2.at_; simp only [List.nil_append, List.cons_append] at this; rw [show 0 + 1 + s.length = (byteZ k :: s).length by simp; omega] at this; exact this) ?_
        simp only [go_sem, i64_nat (show crc (byteZ k :: s) < 9223372036854775808 by have := crc_lt (byteZ k :: s); omega)]
        have g4 : Grow S S4 := g2.trans g24
        refine number_spec b2 (crc (byteZ k :: s) : Nat) 4 _ S.next _ S4 _ g4.wf g4.le (a2.grow g24) (by omega) ⟨by omega, by have := crc_lt (byteZ k :: s); omega⟩ ?_
        intro S5 b3 a3 u3 t3
        have g5 : Grow S S5 := g4.after u3 (fun i hi => .inl (t2' i hi))
        have t3' : ∀ i ∈ b3.block, S.next ≤ i := by
          intro i hi
          rcases t3 i hi with h' | h'
          · exact t2' i h'
          · have := g4.le; omega
        simp only [go_sem]
        obtain ⟨b4, S6, e1, e2, e3, e4⟩ := a3.app g5.wf g5.le (y := .str s) (m := s.length) (ds := bytesV s) rfl (by simp [bytesV_length]) (bytesV_ones _) (bytes := 1) (by omega) (by omega)
        simp only [e1, go_sem]
        refine h S6 b4 (g5.after e3 (fun i hi => .inl (t3' i hi))) ?_
        rw [← bytesV_append] at e2
        simp only [List.nil_append] at e2
        have hl : (le 1 k ++ le 4 s.length ++ le 4 (crc (byteZ k :: s) : Nat) ++ s).length = 0 + 1 + 4 + 4 + s.length := by
          simp only [List.length_append, le_length]
        rw [hl]
        exact e2

end Go.Th.Codec
