/- What the row of one statement stands on: a store, abstract code, functions of the program and their laws (ThDiskClone2). -/
import Derived.Test.YtcdbfhamhcaclaaThBDiskClone
import Derived.Ground.SlgnProg
import Derived.Test.YtcdbfhamhcaclaaThBDiskStd
import Derived.Test.YtcdbfhamhcaclaaThBHdisk14

section
/- slices.Clone at bytes at the disk seat. -/
set_option linter.unusedVariables false
set_option linter.unusedSimpArgs false
namespace Go.Proofs
open Go.Shelf
def Try.laysE41_ren : Go.Shelf.Ren := ⟨fun | 41 => 38 | n => n, fun | 22 => 33 | 23 => 5 | 4 => 4 | n => n, fun | n => n⟩
theorem Try.laysE41 : Go.Proofs.SlLaysE0.n41 Try.prog Try.laysE41_ren := {
  mixed := by kernel_rfl
  f41 := ⟨Try.f38.name, by decide, Try.func38.trans (congrArg some (by kernel_rfl))⟩
  t4 := Try.underlying4
  a4 := Try.isAgg4
  z4 := Try.sizeOf4
  v4 := Try.zeroValue4
  t22 := Try.underlying33
  a22 := Try.isAgg33
  z22 := Try.sizeOf33
  v22 := Try.zeroValue33 }
theorem Try.slices_Clone_nil_b (n c : Nat) (w : World) :
    Calls Try.prog 38 #[.slice none n c] w fun e w' => e = .returned (.slice none 0 0) ∧ w' = w := AnyE.slices_Clone_nil Try.laysE41 n c w
end Go.Proofs
namespace Go.Th.Disk
open Go Go.Th Go.Th.L Go.Th.Pure

theorem info5 : ∃ i0, PP.info? 5 = some i0 ∧ i0.zero = some (.int .u8 0) ∧ i0.size = 1 ∧ i0.bytes = 1 := by
  have h : (PP.info? 5).map (fun i => (i.zero, i.size, i.bytes)) = some (some (.int .u8 0), 1, 1) := by kernel_rfl
  cases hi : PP.info? 5 with
  | none => rw [hi] at h; cases h
  | some i0 =>
    rw [hi] at h
    simp only [Option.map_some, Option.some.injEq, Prod.mk.injEq] at h
    exact ⟨i0, rfl, h.1, h.2.1, h.2.2⟩

theorem s_CloneX : CloneXS PP (N Fn.slices_Clone_Lbyte) := by
  intro S v bs K hw hv hl hk m base w0 w args hS hvr
  rw [show N Fn.slices_Clone_Lbyte = 38 from by kernel_rfl]
  obtain ⟨u, rfl, hu⟩ := args1 hvr
  rcases hv.2.2 with ⟨rfl, hz⟩ | ⟨i, o, c, t, rfl, hc, hld⟩
  · have hb : bs = [] := List.length_eq_zero_iff.mp hz
    subst hb
    simp only [VR] at hu
    subst hu
    refine calls_of (by kernel_rfl) ((Go.Proofs.Try.slices_Clone_nil_b 0 0 w).mono ?_)
    rintro e w' ⟨rfl, rfl⟩
    exact ⟨_, S, m, ⟨_, rfl, hk .nilSlice S (Upd.refl hw _) (.inl ⟨rfl, rfl⟩)⟩, Ext.refl m, hS, _, rfl, by show VR m V.nilSlice (.slice none 0 0); simp only [VR]⟩
  · simp only [VR] at hu
    obtain ⟨L, x, cap', hL, rfl, hok⟩ := hu
    obtain ⟨i0, q1, q2, q3, q4⟩ := info5
    obtain ⟨us, _, hus, hcell, hul⟩ := Sim.loads (P := PP) hS hld hL
    have hcl := hok.cap_le
    have hnews : us = bs.map fun (b : UInt8) => Value.int .u8 ((b.toNat : Nat) : Int) := by
      apply List.ext_getElem?
      intro j
      rcases Nat.lt_or_ge j bs.length with hj | hj
      · have e1 : (bytesV bs)[j]? = some (.int .u8 ((bs[j].toNat : Nat) : Int)) := by simp [bytesV, hj]
        obtain ⟨u, h1, h2⟩ := hus.get e1
        simp only [VR] at h2
        rw [h1, h2, List.getElem?_map, List.getElem?_eq_getElem hj]; rfl
      · rw [List.getElem?_eq_none (by omega), List.getElem?_eq_none (by simpa using hj)]
    have hx : ∀ j u, us[j]? = some u → w.cell? (x.add j) = some u := fun j u hj => by
      have hjl : j < bs.length := by
        rcases Nat.lt_or_ge j bs.length with h' | h'
        · exact h'
        · rw [List.getElem?_eq_none (by omega)] at hj; cases hj
      rw [hok.place (by omega), Addr.add_lit]
      exact hcell j u hj
    refine calls_of (by kernel_rfl) ((Go.Proofs.slices_Clone_x Go.Proofs.Try.laysE41 i0 (.int .u8 0) q1 q2 q3 (by simp [Value.cells]) Go.Proofs.Try.sizeOf5 x bs.length cap' us w (by rw [hul, Nat.mul_one]) (by simp only [maxLen]; omega) (by rw [q4]; omega) hx).mono ?_)
    rintro e w' ⟨w1, cap, rfl, hcap, hmx, hbelow, rfl⟩
    have hS1 := hS.later hbelow
    have hys : us ++ List.replicate (cap - bs.length) (Value.int .u8 0) = (bs ++ List.replicate (cap - bs.length) (0 : UInt8)).map fun (b : UInt8) => Value.int .u8 ((b.toNat : Nat) : Int) := by
      rw [hnews]; simp
    have hvr2 : VRs m (bytesV (bs ++ List.replicate (cap - bs.length) (0 : UInt8))) ((us ++ List.replicate (cap - bs.length) (Value.int .u8 0)).toArray.toList.take (bytesV (bs ++ List.replicate (cap - bs.length) (0 : UInt8))).length) := by
      have hlen : (us ++ List.replicate (cap - bs.length) (Value.int .u8 0)).length = (bytesV (bs ++ List.replicate (cap - bs.length) (0 : UInt8))).length := by
        rw [hys, bytesV_length]; simp
      rw [← hlen]
      simp only [List.take_length]
      rw [hys]
      refine VRs.of_get (by simp [bytesV]) fun j v hj => ?_
      simp only [bytesV, List.getElem?_map] at hj ⊢
      cases hb : (bs ++ List.replicate (cap - bs.length) (0 : UInt8))[j]? with
      | none => rw [hb] at hj; cases hj
      | some b =>
        rw [hb] at hj
        simp only [Option.map_some, Option.some.injEq] at hj
        subst hj
        exact ⟨_, rfl, by simp only [VR]⟩
    have hsz : ((us ++ List.replicate (cap - bs.length) (Value.int .u8 0)).toArray).size = cap := by
      simp only [List.size_toArray, List.length_append, List.length_replicate]; omega
    have hN := hS1.newCells hvr2 5 (0, 0) rfl
    refine ⟨_, _, _, ⟨_, rfl, hk (.slice S.next 0 bs.length cap 1 true) _ ((Upd.refl hw []).new _) (.inr ⟨S.next, cap, bs ++ List.replicate (cap - bs.length) (0 : UInt8), rfl, Nat.le_refl _, by simp, by simp; omega, hcap, by simp, hl, ?_⟩)⟩, LM.ext_put _ (hS.freshM _ (Nat.le_refl _)), hN, _, rfl, ?_⟩
    · simp only [maxLen] at hmx; omega
    · simp only [VR]
      refine ⟨_, _, cap, LM.put_same _ _ _, rfl, ⟨hcap, Nat.le_refl _, fun _ => rfl, fun _ => rfl, fun _ => rfl, fun _ _ => ?_, fun _ h => by cases h⟩⟩
      simp only [Nat.zero_add, Nat.mul_one]
      rw [hsz]
      exact Nat.le_refl _

end Go.Th.Disk
end
