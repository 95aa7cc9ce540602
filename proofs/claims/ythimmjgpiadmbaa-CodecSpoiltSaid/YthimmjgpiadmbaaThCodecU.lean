/- Codec: a check tells each byte; a record read again, whole or spoilt. -/
import Derived.Test.YthimmjgpiadmbaaThCodecS4
set_option linter.unusedSimpArgs false
set_option linter.unusedVariables false
namespace Go.Th.Codec
open Go Go.Th

theorem xor_right_inj {a b c : Nat} (h : a ^^^ c = b ^^^ c) : a = b := by
  have := congrArg (· ^^^ c) h
  simpa [Nat.xor_assoc] using this
theorem xor_left_inj {a b c : Nat} (h : c ^^^ a = c ^^^ b) : a = b := by
  rw [Nat.xor_comm c a, Nat.xor_comm c b] at h
  exact xor_right_inj h

theorem crcStep_bit {c : Nat} (h : c < 4294967296) : (crcStep c).testBit 31 = decide (c % 2 = 1) := by
  unfold crcStep
  rw [Nat.testBit_xor]
  have h1 : (c / 2).testBit 31 = false := Nat.testBit_lt_two_pow (by omega)
  rw [h1, Bool.false_xor]
  by_cases hc : c % 2 = 1
  · rw [if_pos hc]; simp only [hc, decide_true]; decide
  · rw [if_neg hc]; simp [hc]

theorem crcStep_inj {a b : Nat} (ha : a < 4294967296) (hb : b < 4294967296) (h : crcStep a = crcStep b) : a = b := by
  have h1 := crcStep_bit ha
  rw [h, crcStep_bit hb] at h1
  have hp : a % 2 = b % 2 := by
    have e : (b % 2 = 1 ↔ a % 2 = 1) := by simpa using h1
    omega
  unfold crcStep at h
  rw [hp] at h
  have := xor_right_inj (a := a / 2) (b := b / 2) h
  omega

theorem crcRun_inj : ∀ (n : Nat) {a b : Nat}, a < 4294967296 → b < 4294967296 → crcRun n a = crcRun n b → a = b
  | 0, a, b, _, _, h => h
  | n + 1, a, b, ha, hb, h => by
    rw [crcRun_succ, crcRun_succ] at h
    exact crcRun_inj n ha hb (crcStep_inj (crcRun_lt n ha) (crcRun_lt n hb) h)

theorem crcByte_inj_left {a b : Nat} (x : UInt8) (ha : a < 4294967296) (hb : b < 4294967296) (h : crcByte a x = crcByte b x) : a = b := by
  have hx := byte_lt x
  exact xor_right_inj (crcRun_inj 8 (Nat.xor_lt_two_pow (n := 32) ha (by omega)) (Nat.xor_lt_two_pow (n := 32) hb (by omega)) h)
theorem crcByte_inj_right {a : Nat} {x y : UInt8} (ha : a < 4294967296) (h : crcByte a x = crcByte a y) : x = y := by
  have hx := byte_lt x
  have hy := byte_lt y
  exact UInt8.toNat_inj.mp (xor_left_inj (crcRun_inj 8 (Nat.xor_lt_two_pow (n := 32) ha (by omega)) (Nat.xor_lt_two_pow (n := 32) ha (by omega)) h))

theorem crcFold_inj : ∀ (xs : List UInt8) {a b : Nat}, a < 4294967296 → b < 4294967296 → xs.foldl crcByte a = xs.foldl crcByte b → a = b
  | [], a, b, _, _, h => h
  | x :: xs, a, b, ha, hb, h => crcByte_inj_left x ha hb (crcFold_inj xs (crcByte_lt ha x) (crcByte_lt hb x) h)

theorem crc_byte {xs ys : List UInt8} {a b : UInt8} (h : crc (xs ++ a :: ys) = crc (xs ++ b :: ys)) : a = b := by
  unfold crc crcFold at h
  have h := xor_left_inj h
  rw [List.foldl_append, List.foldl_append, List.foldl_cons, List.foldl_cons] at h
  have hx := crcFold_lt_aux xs (c := 4294967295) (by omega)
  exact crcByte_inj_right hx (crcFold_inj ys (crcByte_lt hx a) (crcByte_lt hx b) h)

theorem crc_set {xs : List UInt8} {i : Nat} {a : UInt8} (hi : i < xs.length) (h : crc (xs.set i a) = crc xs) : a = xs[i] := by
  have e1 : xs.set i a = xs.take i ++ a :: xs.drop (i + 1) := List.set_eq_take_append_cons_drop .. |>.trans (by rw [if_pos hi])
  have e2 : xs = xs.take i ++ xs[i] :: xs.drop (i + 1) := by
    rw [List.getElem_cons_drop, List.take_append_drop]
  rw [e1] at h
  exact crc_byte (h.trans (congrArg crc e2))

theorem num_inj {a b : List UInt8} (hl : a.length = b.length) (h : num a = num b) : a = b := by
  rw [← le_num a, ← le_num b, hl, h]

/-- The bytes of a record. -/
def rec (k : Int) (s : List UInt8) : List UInt8 := le 1 k ++ (le 4 s.length ++ (le 4 (crc (byteZ k :: s) : Nat) ++ s))
theorem rec_length (k : Int) (s : List UInt8) : (rec k s).length = 9 + s.length := by
  simp only [rec, List.length_append, le_length]; omega

theorem dec_of {k : Int} {s t : List UInt8} {n m : Nat} {bs : List UInt8} (h1 : bs.take 1 = [byteZ k]) (h2 : (bs.drop 1).take 4 = le 4 s.length) (h3 : decBody bs = s) (h4 : (bs.drop 5).take 4 = t) (hk : (byteZ k).toNat ≠ 0)
    (hs : s.length ≤ 262144) (hl : 9 + s.length ≤ bs.length) : dec bs = if crc (byteZ k :: s) = num t then ((((byteZ k).toNat : Nat) : Int), s, ((9 + s.length : Nat) : Int), 0) else ((0 : Int), [], 0, 162) := by
  have e1 : num (bs.take 1) = (byteZ k).toNat := by rw [h1]; simp [num]
  have e2 : num ((bs.drop 1).take 4) = s.length := by
    rw [h2]
    have := num_le 4 s.length
    omega
  have e3 : byteZ ((byteZ k).toNat : Nat) = byteZ k := by
    apply UInt8.toNat_inj.mp
    have := byteZ_toNat ((byteZ k).toNat : Nat)
    have := byte_lt (byteZ k)
    omega
  rw [dec, if_neg (by omega), if_neg (by rw [e1]; exact hk), if_neg (by rw [e2]; omega), if_neg (by rw [e2]; omega), e1, e2, h3, h4, e3]

end Go.Th.Codec
