/- What the row of one statement stands on: a store, abstract code, functions of the program and their laws (ThP). -/
import Derived.Test.YtdpehfhhbmmhjaaThBTopkOrder18

section
/- Plain words of numbers, bytes and checks. -/
set_option linter.unusedSimpArgs false
set_option linter.unusedVariables false
namespace Go.Th
open Go.RowKit Go.Lib

/-! ## bits of natural numbers -/
theorem ofInt_nat (w n : Nat) : BitVec.ofInt w (n : Int) = BitVec.ofNat w n := by
  apply BitVec.eq_of_toNat_eq
  simp [BitVec.toNat_ofInt]

theorem u32_bits {n : Nat} (h : n < 4294967296) : IntKind.u32.wrap (n : Int) = (n : Int) := by
  rw [IntKind.wrap_u32]; omega
theorem u8_bits {n : Nat} (h : n < 256) : IntKind.u8.wrap (n : Int) = (n : Int) := by
  rw [IntKind.wrap_u8]; omega
theorem i64_nat {n : Nat} (h : n < 9223372036854775808) : IntKind.i64.wrap (n : Int) = (n : Int) := by
  rw [IntKind.wrap_i64]; omega
theorem i64_int {n : Int} (h : -9223372036854775808 ≤ n) (h' : n < 9223372036854775808) : IntKind.i64.wrap n = n := by
  rw [IntKind.wrap_i64]; omega

theorem xor_u32 {a b : Nat} (ha : a < 4294967296) (hb : b < 4294967296) : intBits .xor .u32 a b = ((a ^^^ b : Nat) : Int) := by
  have h : a ^^^ b < 4294967296 := Nat.xor_lt_two_pow (n := 32) ha hb
  show IntKind.u32.wrap ((BitVec.ofInt 32 (a : Int) ^^^ BitVec.ofInt 32 (b : Int)).toNat : Int) = _
  rw [ofInt_nat, ofInt_nat, BitVec.toNat_xor, BitVec.toNat_ofNat, BitVec.toNat_ofNat]
  rw [Nat.mod_eq_of_lt (show a < 2 ^ 32 from ha), Nat.mod_eq_of_lt (show b < 2 ^ 32 from hb)]
  exact u32_bits h

theorem and_u32 {a b : Nat} (ha : a < 4294967296) (hb : b < 4294967296) : intBits .and .u32 a b = ((a &&& b : Nat) : Int) := by
  have h : a &&& b < 4294967296 := Nat.lt_of_le_of_lt Nat.and_le_left ha
  show IntKind.u32.wrap ((BitVec.ofInt 32 (a : Int) &&& BitVec.ofInt 32 (b : Int)).toNat : Int) = _
  rw [ofInt_nat, ofInt_nat, BitVec.toNat_and, BitVec.toNat_ofNat, BitVec.toNat_ofNat]
  rw [Nat.mod_eq_of_lt (show a < 2 ^ 32 from ha), Nat.mod_eq_of_lt (show b < 2 ^ 32 from hb)]
  exact u32_bits h

theorem or_i64 {a b : Nat} (ha : a < 9223372036854775808) (hb : b < 9223372036854775808) : intBits .or .i64 a b = ((a ||| b : Nat) : Int) := by
  have h : a ||| b < 9223372036854775808 := Nat.or_lt_two_pow (n := 63) ha hb
  show IntKind.i64.wrap ((BitVec.ofInt 64 (a : Int) ||| BitVec.ofInt 64 (b : Int)).toNat : Int) = _
  rw [ofInt_nat, ofInt_nat, BitVec.toNat_or, BitVec.toNat_ofNat, BitVec.toNat_ofNat]
  rw [Nat.mod_eq_of_lt (show a < 2 ^ 64 by omega), Nat.mod_eq_of_lt (show b < 2 ^ 64 by omega)]
  exact i64_nat h

/-! ## the check of 32 bits -/
def crcStep (c : Nat) : Nat := (c / 2) ^^^ (if c % 2 = 1 then 3988292384 else 0)

theorem crcStep_lt {c : Nat} (h : c < 4294967296) : crcStep c < 4294967296 := by
  unfold crcStep
  exact Nat.xor_lt_two_pow (n := 32) (by omega) (by split <;> omega)

def crcRun : Nat → Nat → Nat
  | 0, c => c
  | n + 1, c => crcRun n (crcStep c)

theorem crcRun_lt : ∀ (n : Nat) {c : Nat}, c < 4294967296 → crcRun n c < 4294967296
  | 0, _, h => h
  | n + 1, _, h => crcRun_lt n (crcStep_lt h)

theorem crcRun_succ : ∀ (n c : Nat), crcRun (n + 1) c = crcStep (crcRun n c)
  | 0, _ => rfl
  | n + 1, c => crcRun_succ n (crcStep c)

def crcByte (c : Nat) (b : UInt8) : Nat := crcRun 8 (c ^^^ b.toNat)

theorem byte_lt (b : UInt8) : b.toNat < 256 := b.toNat_lt

theorem crcByte_lt {c : Nat} (h : c < 4294967296) (b : UInt8) : crcByte c b < 4294967296 :=
  crcRun_lt 8 (Nat.xor_lt_two_pow (n := 32) h (by have := byte_lt b; omega))

def crcFold (bs : List UInt8) : Nat := bs.foldl crcByte 4294967295

theorem crcFold_lt_aux : ∀ (bs : List UInt8) {c : Nat}, c < 4294967296 → bs.foldl crcByte c < 4294967296
  | [], _, h => h
  | b :: bs, _, h => crcFold_lt_aux bs (crcByte_lt h b)
theorem crcFold_lt (bs : List UInt8) : crcFold bs < 4294967296 := crcFold_lt_aux bs (by omega)

def crc (bs : List UInt8) : Nat := 4294967295 ^^^ crcFold bs
theorem crc_lt (bs : List UInt8) : crc bs < 4294967296 := Nat.xor_lt_two_pow (n := 32) (by omega) (crcFold_lt bs)

theorem crcFold_take_succ {bs : List UInt8} {j : Nat} (h : j < bs.length) : crcFold (bs.take (j + 1)) = crcByte (crcFold (bs.take j)) bs[j] := by
  unfold crcFold
  rw [List.take_add_one, List.foldl_append, List.getElem?_eq_getElem h]; rfl

/-- The step as the code takes it: with a mask. -/
theorem crcStep_mask {c : Nat} (h : c < 4294967296) :
    intBits .xor .u32 ((c : Int).fdiv (2 ^ (min (1 : Int).toNat IntKind.u32.bits))) (intBits .and .u32 (IntKind.u32.wrap (0 - intBits .and .u32 c 1)) 3988292384) = (crcStep c : Int) := by
  have h1 : intBits .and .u32 c 1 = ((c % 2 : Nat) : Int) := by
    have := and_u32 (b := 1) h (by omega)
    rw [Nat.and_one_is_mod] at this
    exact this
  have h2 : (c : Int).fdiv (2 ^ (min (1 : Int).toNat IntKind.u32.bits)) = ((c / 2 : Nat) : Int) := by
    show (c : Int).fdiv 2 = _
    rw [Int.fdiv_eq_ediv_of_nonneg _ (by omega)]; omega
  rw [h1, h2]
  unfold crcStep
  by_cases hp : c % 2 = 1
  · rw [if_pos hp, hp]
    have : IntKind.u32.wrap (0 - ((1 : Nat) : Int)) = ((4294967295 : Nat) : Int) := by rw [IntKind.wrap_u32]; omega
    rw [this]
    have := and_u32 (a := 4294967295) (b := 3988292384) (by omega) (by omega)
    rw [show ((3988292384 : Nat) : Int) = 3988292384 from rfl] at this
    rw [this]
    have e : (4294967295 &&& 3988292384 : Nat) = 3988292384 := by decide
    rw [e]
    exact xor_u32 (by omega) (by omega)
  · rw [if_neg hp, show c % 2 = 0 by omega]
    have : IntKind.u32.wrap (0 - ((0 : Nat) : Int)) = ((0 : Nat) : Int) := by rw [IntKind.wrap_u32]; omega
    rw [this]
    have := and_u32 (a := 0) (b := 3988292384) (by omega) (by omega)
    rw [show ((3988292384 : Nat) : Int) = 3988292384 from rfl] at this
    rw [this, Nat.zero_and]
    exact xor_u32 (by omega) (by omega)

/-! ## bytes -/
theorem bytesV_length (bs : List UInt8) : (bytesV bs).length = bs.length := by simp [bytesV]
theorem bytesV_get {bs : List UInt8} {j : Nat} (h : j < bs.length) : (bytesV bs)[j]? = some (.int .u8 (bs[j].toNat : Nat)) := by
  simp [bytesV, List.getElem?_eq_getElem h]
theorem bytesV_ones (bs : List UInt8) : (bytesV bs).all V.one = true := by
  simp [bytesV, V.one]
theorem bytesV_append (a b : List UInt8) : bytesV (a ++ b) = bytesV a ++ bytesV b := by simp [bytesV]
theorem bytesV_take (a : List UInt8) (n : Nat) : bytesV (a.take n) = (bytesV a).take n := by simp [bytesV, List.map_take]
theorem bytesV_drop (a : List UInt8) (n : Nat) : bytesV (a.drop n) = (bytesV a).drop n := by simp [bytesV, List.map_drop]
theorem bytesV_inj {a b : List UInt8} (h : bytesV a = bytesV b) : a = b := by
  have hl : a.length = b.length := by
    have := congrArg List.length h
    simpa [bytesV_length] using this
  apply List.ext_getElem hl
  intro i h1 h2
  have h3 := bytesV_get h1
  rw [h, bytesV_get h2] at h3
  simp only [Option.some.injEq, V.int.injEq, true_and] at h3
  have : a[i].toNat = b[i].toNat := by omega
  exact UInt8.toNat_inj.mp this
theorem bytesOf_bytesV : ∀ (bs : List UInt8), bytesOf (bytesV bs) = some bs
  | [] => rfl
  | b :: bs => by
    have := bytesOf_bytesV bs
    simp only [bytesV, List.map_cons, bytesOf] at this ⊢
    rw [this]
    simp

/-- The byte of a number. -/
def byteZ (v : Int) : UInt8 := UInt8.ofNat (v % 256).toNat

theorem byteZ_toNat (v : Int) : ((byteZ v).toNat : Int) = v % 256 := by
  unfold byteZ
  rw [UInt8.toNat_ofNat']
  omega
theorem wrap_byte (v : Int) : IntKind.u8.wrap v = ((byteZ v).toNat : Int) := by
  rw [byteZ_toNat, IntKind.wrap_u8]

/-- A number as so many bytes, the low one first. -/
def le : Nat → Int → List UInt8
  | 0, _ => []
  | n + 1, v => byteZ v :: le n (v / 256)

theorem le_length : ∀ (n : Nat) (v : Int), (le n v).length = n
  | 0, _ => rfl
  | n + 1, v => by simp [le, le_length n]

theorem le_succ : ∀ (n : Nat) (v : Int), le (n + 1) v = le n v ++ [byteZ (v / 256 ^ n)]
  | 0, v => by simp [le]
  | n + 1, v => by
    rw [le, le_succ n (v / 256)]
    simp only [le, List.cons_append]
    congr 3
    rw [Int.ediv_ediv_of_nonneg (by omega), Int.pow_succ, Int.mul_comm]

/-- The number that so many bytes are, the low one first. -/
def num : List UInt8 → Nat
  | [] => 0
  | b :: bs => b.toNat + 256 * num bs

theorem num_lt : ∀ (bs : List UInt8), num bs < 256 ^ bs.length
  | [] => by simp [num]
  | b :: bs => by
    have := num_lt bs
    have := byte_lt b
    simp only [num, List.length_cons, Nat.pow_succ]
    omega

theorem num_append : ∀ (a b : List UInt8), num (a ++ b) = num a + 256 ^ a.length * num b
  | [], b => by simp [num]
  | x :: a, b => by
    simp only [List.cons_append, num, num_append a b, List.length_cons, Nat.pow_succ]
    rw [Nat.mul_add, ← Nat.mul_assoc, Nat.mul_comm 256 (256 ^ a.length)]; omega

theorem num_le : ∀ (n : Nat) (v : Int), (num (le n v) : Int) = v % 256 ^ n
  | 0, v => by simp [num, le, Int.emod_one]
  | n + 1, v => by
    simp only [le, num]
    have h1 := num_le n (v / 256)
    have h2 := byteZ_toNat v
    rw [Int.natCast_add, Int.natCast_mul, h1, h2, Int.pow_succ]
    have hpos : (0 : Int) < 256 ^ n := Int.pow_pos (by omega)
    have e1 : v = (v % 256 + 256 * (v / 256 % 256 ^ n)) + (256 ^ n * 256) * (v / 256 / 256 ^ n) := by
      have a1 := Int.mul_ediv_add_emod v 256
      have a2 := Int.mul_ediv_add_emod (v / 256) (256 ^ n)
      have a3 : 256 ^ n * 256 * (v / 256 / 256 ^ n) = 256 * (256 ^ n * (v / 256 / 256 ^ n)) := by
        rw [Int.mul_comm (256 ^ n) 256, Int.mul_assoc]
      omega
    have b1 := Int.emod_nonneg (v / 256) (Int.ne_of_gt hpos)
    have b2 := Int.emod_lt_of_pos (v / 256) hpos
    have e2 : v % (256 ^ n * 256) = (v % 256 + 256 * (v / 256 % 256 ^ n)) % (256 ^ n * 256) := by
      conv => lhs; rw [e1]
      rw [Int.add_mul_emod_self_left]
    have e3 : (v % 256 + 256 * (v / 256 % 256 ^ n)) % (256 ^ n * 256) = v % 256 + 256 * (v / 256 % 256 ^ n) := Int.emod_eq_of_lt (by omega) (by omega)
    rw [e2, e3]
    rfl

theorem le_num : ∀ (bs : List UInt8), le bs.length (num bs) = bs
  | [] => rfl
  | b :: bs => by
    have hb := byte_lt b
    simp only [List.length_cons, le, num]
    have h1 : ((b.toNat + 256 * num bs : Nat) : Int) / 256 = (num bs : Int) := by omega
    have h2 : byteZ ((b.toNat + 256 * num bs : Nat) : Int) = b := by
      apply UInt8.toNat_inj.mp
      have := byteZ_toNat ((b.toNat + 256 * num bs : Nat) : Int)
      omega
    rw [h1, h2, le_num bs]

/-- A call, its frame not looked into. -/
theorem CallA.of_frame {P : Program} {ok : Env} (hok : EnvOk P ok) {f : FuncId} {F : AF} (hF : afun P f = some F) {args : List V} {S : St} {Q : Post}
    (h : ∀ fr : List V, fr.length = args.length + (F.nt - args.length) → (∀ i, i < args.length → G fr i = args.getD i .undef) → wpA ok (CallA P) (LoopA P) F.body (endQ F.results Q) fr S) : CallA P f args S Q := by
  refine CallA.of_body hok hF (h _ (by simp) fun i hi => ?_)
  unfold G
  simp only [List.getD]
  rw [List.getElem?_append_left hi]

end Go.Th
end
