/- Codec: bytes as records. -/
import Derived.Test.YthimmjgpiadmbaaThCodecS3
set_option linter.unusedSimpArgs false
set_option linter.unusedVariables false
namespace Go.Th.Codec
open Go Go.Th

theorem bytes_conv {S : St} {v : V} {bs : List UInt8} (h : SlAt S 1 v bs.length (bytesV bs)) : convBSV S v = some (.str bs) := by
  rcases h.2.2 with ⟨rfl, h0⟩ | ⟨i, o, c, t, rfl, hc, hl⟩
  · have : bs = [] := List.length_eq_zero_iff.mp h0
    subst this; rfl
  · rw [Nat.mul_one] at hl
    simp only [convBSV, hl, bytesOf_bytesV, Option.map_some]

def decBody (bs : List UInt8) : List UInt8 := (bs.drop 9).take (num ((bs.drop 1).take 4))

def dec (bs : List UInt8) : Int × List UInt8 × Int × Int :=
  if bs.length < 9 then (0, [], 0, 161)
  else if num (bs.take 1) = 0 then (0, [], 0, 160)
  else if 262144 < num ((bs.drop 1).take 4) then (0, [], 0, 2)
  else if bs.length - 9 < num ((bs.drop 1).take 4) then (0, [], 0, 161)
  else if crc (byteZ (num (bs.take 1) : Nat) :: decBody bs) = num ((bs.drop 5).take 4) then ((num (bs.take 1) : Nat), decBody bs, ((9 + num ((bs.drop 1).take 4) : Nat) : Int), 0)
  else (0, [], 0, 162)

def decV (d : Int × List UInt8 × Int × Int) : V := .tuple [.int .i64 d.1, .str d.2.1, .int .i64 d.2.2.1, .int .i64 d.2.2.2]

def Decs (P : Program) (f : Nat) : Prop := ∀ (v : V) (bs : List UInt8) (S : St) (Q : Post), SlAt S 1 v bs.length (bytesV bs) → bs.length ≤ 1099511627776 → Q (.ret (decV (dec bs))) S → CallA P f [v] S Q

theorem dec_spec : Decs PP 11 := by
  intro v bs S Q hv hl h
  refine CallA.gc (CallA.wf fun hw => ?_)
  refine CallA.of_body okF_ok F11_ok ?_
  have hv' := hv.ro
  have hlen := hv'.len
  have hcv := bytes_conv hv'
  simp only [F11, go_sem, hlen]
  by_cases h1 : bs.length < 9
  · have he : dec bs = (0, [], 0, 161) := by rw [dec, if_pos h1]
    rw [he] at h
    have h1' : ((bs.length : Int) < 9) := by omega
    simp only [h1', go_sem]
    exact fun _ => ⟨rfl, h⟩
  · have h1' : ¬ ((bs.length : Int) < 9) := by omega
    simp only [h1', go_sem, hcv]
    have hw1 : (S.ro.new (.cells [V.str bs, V.bool false] true)).Wf := hw.new _
    have hg1 : (S.ro.new (.cells [V.str bs, V.bool false] true)).get S.ro.next = some (.cells (rdCells bs false) true) := by simp [rdCells]
    have r1 : rd bs false 1 = (bs.drop 1, false, bs.take 1) := by rw [rd, if_neg (by rintro (h' | h'); cases h'; omega)]
    have r2 : rd (bs.drop 1) false 4 = (bs.drop 5, false, (bs.drop 1).take 4) := by rw [rd, if_neg (by rw [List.length_drop]; rintro (h' | h'); cases h'; omega)]; simp
    have r3 : rd (bs.drop 5) false 4 = (bs.drop 9, false, (bs.drop 5).take 4) := by rw [rd, if_neg (by rw [List.length_drop]; rintro (h' | h'); cases h'; omega)]; simp
    have k1 : num (bs.take 1) < 256 := num_take_lt bs 1
    have k4 : ∀ l : List UInt8, num (l.take 4) < 4294967296 := fun l => num_take_lt l 4
    refine readNumber_spec _ 1 bs false _ _ hw1 hg1 (by omega) ?_
    rw [r1]
    intro S1 u1 g1
    simp only [go_sem]
    refine readNumber_spec _ 4 (bs.drop 1) false _ _ u1.wf g1 (by omega) ?_
    rw [r2]
    intro S2 u2 g2
    simp only [go_sem]
    refine readNumber_spec _ 4 (bs.drop 5) false _ _ u2.wf g2 (by omega) ?_
    rw [r3]
    intro S3 u3 g3
    have hl0 : loadV S3 (.ptr S.ro.next 0) = some (.str (bs.drop 9)) := load_at g3
    simp only [go_sem]
    by_cases h2 : num (bs.take 1) = 0
    · have he : dec bs = (0, [], 0, 160) := by rw [dec, if_neg h1, if_pos h2]
      rw [he] at h
      have h2' : ((num (bs.take 1) : Nat) : Int) = 0 := by omega
      simp only [h2', go_sem]
      exact fun _ => ⟨rfl, h⟩
    · have h2' : ¬ ((num (bs.take 1) : Nat) : Int) = 0 := by omega
      by_cases h3 : 262144 < num ((bs.drop 1).take 4)
      · have he : dec bs = (0, [], 0, 2) := by rw [dec, if_neg h1, if_neg h2, if_pos h3]
        rw [he] at h
        have h3' : (262144 : Int) < (num ((bs.drop 1).take 4) : Nat) := by omega
        simp only [h2', h3', go_sem]
        exact fun _ => ⟨rfl, h⟩
      · have h3' : ¬ (262144 : Int) < (num ((bs.drop 1).take 4) : Nat) := by omega
        by_cases h4 : bs.length - 9 < num ((bs.drop 1).take 4)
        · have he : dec bs = (0, [], 0, 161) := by rw [dec, if_neg h1, if_neg h2, if_neg h3, if_pos h4]
          rw [he] at h
          have h4' : (((bs.drop 9).length : Nat) : Int) < (num ((bs.drop 1).take 4) : Nat) := by rw [List.length_drop]; omega
          simp only [h2', h3', h4', hl0, go_sem]
          exact fun _ => ⟨rfl, h⟩
        · have h4' : ¬ (((bs.drop 9).length : Nat) : Int) < (num ((bs.drop 1).take 4) : Nat) := by rw [List.length_drop]; omega
          simp only [h2', h3', h4', hl0, go_sem]
          refine cut_spec _ (num ((bs.drop 1).take 4)) (bs.drop 9) false _ _ u3.wf g3 (by have := k4 (bs.drop 1); omega) ?_
          have r4 : rd (bs.drop 9) false (num ((bs.drop 1).take 4)) = ((bs.drop 9).drop (num ((bs.drop 1).take 4)), false, decBody bs) := by rw [rd, if_neg (by rw [List.length_drop]; rintro (h' | h'); cases h'; omega)]; rfl
          rw [r4]
          intro S4 b u4 g4 a4
          have hbl : (decBody bs).length = num ((bs.drop 1).take 4) := by
            unfold decBody; rw [List.length_take, List.length_drop]; omega
          have hab := a4.at_
          rw [← hbl] at hab
          simp only [go_sem, bytes_conv hab]
          refine check_spec _ _ S4 _ (by omega) ?_
          have hcl := crc_lt (byteZ (num (bs.take 1) : Nat) :: decBody bs)
          simp only [go_sem, i64_nat (show crc (byteZ (num (bs.take 1) : Nat) :: decBody bs) < 9223372036854775808 by omega)]
          by_cases h5 : crc (byteZ (num (bs.take 1) : Nat) :: decBody bs) = num ((bs.drop 5).take 4)
          · have he : dec bs = (((num (bs.take 1) : Nat) : Int), decBody bs, ((9 + num ((bs.drop 1).take 4) : Nat) : Int), 0) := by rw [dec, if_neg h1, if_neg h2, if_neg h3, if_neg h4, if_pos h5]
            rw [he] at h
            have h5' : ((crc (byteZ (num (bs.take 1) : Nat) :: decBody bs) : Nat) : Int) = (num ((bs.drop 5).take 4) : Nat) := by omega
            have h6 : IntKind.i64.wrap (9 + ((num ((bs.drop 1).take 4) : Nat) : Int)) = ((9 + num ((bs.drop 1).take 4) : Nat) : Int) := by
              rw [IntKind.wrap_i64]; omega
            simp only [h5', h6, go_sem]
            exact fun _ => ⟨rfl, h⟩
          · have he : dec bs = (0, [], 0, 162) := by rw [dec, if_neg h1, if_neg h2, if_neg h3, if_neg h4, if_neg h5]
            rw [he] at h
            have h5' : ¬ ((crc (byteZ (num (bs.take 1) : Nat) :: decBody bs) : Nat) : Int) = (num ((bs.drop 5).take 4) : Nat) := by omega
            simp only [h5', go_sem]
            exact fun _ => ⟨rfl, h⟩

end Go.Th.Codec
