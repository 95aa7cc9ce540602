/- What the row of one statement stands on: a store, abstract code, functions of the program and their laws (ThStoreMaps). -/
import Derived.Ground.SlmcProg
import Derived.Shelf.SlMaps.Clone
import Derived.Test.YtkjmdgejbcphjaaGreatDoorProg

section
/- maps.Clone at the store seat. -/
namespace Go.Proofs
open Go.Shelf
def Tryz.laysW5_ren : Go.Shelf.Ren := ⟨fun | 5 => 97 | 7 => 125 | n => n, fun | 23 => 69 | 25 => 9 | 3 => 127 | 4 => 4 | 20 => 20 | n => n, fun | n => n⟩
theorem Tryz.laysW5 : Go.Proofs.SlLaysW.n5 Tryz.prog Tryz.laysW5_ren := {
  mixed := by kernel_rfl
  f5 := ⟨Tryz.f97.name, by decide, Tryz.func97.trans (congrArg some (by kernel_rfl))⟩
  f7 := Tryz.func125.trans (congrArg some (by kernel_rfl))
  t4 := Tryz.underlying4
  a4 := Tryz.isAgg4
  z4 := Tryz.sizeOf4
  v4 := Tryz.zeroValue4
  t20 := Tryz.underlying20
  a20 := Tryz.isAgg20
  z20 := Tryz.sizeOf20
  v20 := Tryz.zeroValue20
  t23 := Tryz.underlying69
  a23 := Tryz.isAgg69
  z23 := Tryz.sizeOf69
  v23 := Tryz.zeroValue69 }
theorem Tryz.maps_Clone (b : Nat) (es : Array MapEntry) (clock : Nat) (w : World) (hb : w.heap[b]? = some (.map es clock)) :
    Calls Tryz.prog 97 #[.map (some b)] w fun e w' => e = .returned (.map (some w.heap.size)) ∧ w' = w.alloc (.map es clock) := AnyW.maps_Clone Tryz.laysW5 b es clock w hb
end Go.Proofs
end
