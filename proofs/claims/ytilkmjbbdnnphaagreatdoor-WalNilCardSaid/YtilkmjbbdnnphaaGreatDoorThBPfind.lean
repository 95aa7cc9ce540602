/- What the row of one statement stands on: a store, abstract code, functions of the program and their laws (ThPfind). -/
import Derived.Lib.IndexMore
import Derived.Lib.Split

section
/- The library's index and cut, by one walk. -/
set_option linter.unusedVariables false
namespace Go.Th.Pure
open Go

def findL (sep : List UInt8) : List UInt8 → Option (List UInt8 × List UInt8)
  | [] => if sep.isEmpty then some ([], []) else none
  | b :: l => if sep.isPrefixOf (b :: l) then some ([], (b :: l).drop sep.length) else
    match findL sep l with
    | some (a, r) => some (b :: a, r)
    | none => none

def splitF (sep : List UInt8) : Nat → List UInt8 → List (List UInt8)
  | 0, s => [s]
  | k + 1, s => match findL sep s with
    | some (a, r) => a :: splitF sep k r
    | none => [s]
def splitL (s sep : List UInt8) : List (List UInt8) := splitF sep s.length s
end Go.Th.Pure
end
