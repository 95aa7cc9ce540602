/- What the row of one statement stands on: a store, abstract code, functions of the program and their laws (ThHlaw17b). -/
import Derived.Test.YtcdbfhamhcaclaaThBHlaw17a
import Derived.Test.YtcdbfhamhcaclaaThBHkeep2

section
/- DiskStops. -/
set_option linter.unusedSimpArgs false
set_option linter.unusedVariables false
set_option maxHeartbeats 1000000
namespace Go.Th.L
open Go Go.Th Go.Th.Pure
variable {P : Program} {N : Nat → Nat}

structure LawF (P : Program) (N : Nat → Nat) : Prop where
  f3 : DiskF3 P N
  awake : law17_awake.Ok P N
  large : law17_large.Ok P N
  play : law17_play.Ok P N
  texts : keep_Texts.Ok P N

structure Two2 (S0 S : St) (D B : List Nat) (d : Nat) (r : DiskR) (D' B' : List Nat) (x : Nat) (r' : DiskR) : Prop where
  a : Fd S0 S D B d r
  b : Fd S0 S D' B' x r'
  ap : ∀ i, (i ∈ D → i ∉ D' ∧ i ∉ B') ∧ (i ∈ D' → i ∉ B)
theorem Two2.grow {S0 S S' : St} {D B D' B' : List Nat} {d x : Nat} {r r' : DiskR} (h : Two2 S0 S D B d r D' B' x r') (u : Grow S S') : Two2 S0 S' D B d r D' B' x r' := ⟨h.a.grow u, h.b.grow u, h.ap⟩
theorem Two2.one {S0 S S' : St} {D B D' B' D1 B1 : List Nat} {d x : Nat} {r r' r1 : DiskR} (h : Two2 S0 S D B d r D' B' x r') (k : DH S' D1 B1 d r1) (f : Foot D B S D1 B1 S') : Two2 S0 S' D1 B1 d r1 D' B' x r' := by
  have lD := h.b.dh.ltD
  have lB := h.b.dh.ltB
  refine ⟨h.a.step k f, ⟨h.b.dh.upd f.2.2 (fun i hi => ((h.ap i).1 hi).1) (fun i hi => ((h.ap i).1 hi).2), h.a.g.after f.2.2 fun i hi => .inl (h.a.fD i hi), h.b.fD, h.b.fB⟩, fun i => ⟨fun hi => ?_, fun hi hb => ?_⟩⟩
  · rcases f.1 i hi with h1 | h1
    · exact (h.ap i).1 h1
    · exact ⟨fun h2 => by have := lD i h2; omega, fun h2 => by have := lB i h2; omega⟩
  · rcases f.2.1 i hb with h1 | h1
    · exact (h.ap i).2 hi h1
    · have := lD i hi; omega
theorem Two2.swap {S0 S : St} {D B D' B' : List Nat} {d x : Nat} {r r' : DiskR} (h : Two2 S0 S D B d r D' B' x r') : Two2 S0 S D' B' x r' D B d r :=
  ⟨h.b, h.a, fun i => ⟨fun hi => ⟨fun h2 => ((h.ap i).1 h2).1 hi, (h.ap i).2 hi⟩, fun hi => ((h.ap i).1 hi).2⟩⟩

end Go.Th.L
end
