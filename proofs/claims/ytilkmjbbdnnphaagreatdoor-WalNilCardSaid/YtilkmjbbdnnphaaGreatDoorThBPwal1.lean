/- What the row of one statement stands on: a store, abstract code, functions of the program and their laws (ThPwal1). -/
import Derived.Test.YtilkmjbbdnnphaaGreatDoorThBPdisk3
import Derived.Test.YtilkmjbbdnnphaaGreatDoorThBPcodec

section
/- The log's bytes: numbers laid, a check behind, records. -/
set_option linter.unusedVariables false
set_option linter.unusedSimpArgs false
namespace Go.Th.Pure
open Go Go.Th

def rnd (x : Int) : Int := intBits .xor .u32 (Int.fdiv x (2 ^ (min (Int.toNat (1 : Int)) (IntKind.bits .u32)))) (intBits .and .u32 (IntKind.u32.wrap (0 - intBits .and .u32 x (1 : Int))) (3988292384 : Int))
def rnds : Nat → Int → Int
  | 0, x => x
  | n + 1, x => rnds n (rnd x)
theorem rnds_succ : ∀ (n : Nat) (x : Int), rnds (n + 1) x = rnd (rnds n x)
  | 0, x => rfl
  | n + 1, x => by rw [rnds, rnds_succ n]; rfl
def addS (x : Int) (b : UInt8) : Int := rnds 8 (intBits .xor .u32 x (IntKind.u32.wrap ((b.toNat : Nat) : Int)))
def sumI (l : List UInt8) : Int := intBits .xor .u32 (if (IntKind.signed .u32) then -1 else (IntKind.max .u32)) (l.foldl addS 4294967295)

def sealB (b : List UInt8) : List UInt8 := b ++ le 4 (sumI b)
def headB (first : Int) : List UInt8 := sealB (le 4 1818326888 ++ (le 4 first ++ le 4 (first / 4294967296)))
def laidB (seq : Int) (s : List UInt8) : List UInt8 := sealB (le 4 (s.length : Nat) ++ (le 4 seq ++ le 4 (seq / 4294967296)) ++ s)

end Go.Th.Pure
end
