/- What the row of one statement stands on: a store, abstract code, functions of the program and their laws (ThStoreStd2). -/
import Derived.Test.YtkjmdgejbcphjaaGreatDoorThBStoreStd
import Derived.Test.YtkjmdgejbcphjaaGreatDoorThBO4
import Derived.Test.YtkjmdgejbcphjaaGreatDoorThBPhttp2
import Derived.Lib.AtoiErrMem
import Derived.WalkSmall
import Derived.Lib.SplitLaws

section
/- The library's functions at the store seat: numbers, beginnings. -/
set_option linter.unusedVariables false
set_option linter.unusedSimpArgs false
set_option maxHeartbeats 1000000
namespace Go.Th.Store
open Go Go.Th Go.Th.L Go.Th.Pure Go.RowKit Go.Sort

theorem later_drew {m : LM} {S : St} {base : Nat} {w0 w : World} (hS : Sim m S base w0 w) (n : Nat) : Sim m S base w0 (w.drewN n) := hS.later (below_drewN (Below.refl _ _) n)
theorem below_grow' {w : World} (os : Array Obj) : Below w.heap.size w (grow w os) :=
  ⟨rfl, rfl, rfl, by simp [grow], fun i hi => by simp [grow, Array.getElem?_append, hi]⟩
theorem dec7 {n : Nat} (h1 : 1000000 ≤ n) (h2 : n < 10000000) : Lib.decDigits n = [UInt8.ofNat (48 + n / 10 / 10 / 10 / 10 / 10 / 10), UInt8.ofNat (48 + n / 10 / 10 / 10 / 10 / 10 % 10), UInt8.ofNat (48 + n / 10 / 10 / 10 / 10 % 10), UInt8.ofNat (48 + n / 10 / 10 / 10 % 10), UInt8.ofNat (48 + n / 10 / 10 % 10), UInt8.ofNat (48 + n / 10 % 10), UInt8.ofNat (48 + n % 10)] := by
  rw [dec2 (by omega), dec2 (show 10 ≤ n / 10 by omega), dec2 (show 10 ≤ n / 10 / 10 by omega), dec2 (show 10 ≤ n / 10 / 10 / 10 by omega), dec2 (show 10 ≤ n / 10 / 10 / 10 / 10 by omega), dec2 (show 10 ≤ n / 10 / 10 / 10 / 10 / 10 by omega), dec1 (by omega)]
  rfl
theorem atoi_tail {n : Int} (h1 : 1000000 ≤ n) (h2 : n < 2000000) : Lib.atoiAll ((Lib.decDigits n.toNat).drop 1) = .ok (n - 1000000) := by
  obtain ⟨k, rfl⟩ := Int.eq_ofNat_of_zero_le (show 0 ≤ n by omega)
  have h1' : 1000000 ≤ k := by omega
  have h2' : k < 2000000 := by omega
  have e : ((k : Int)).toNat = k := rfl
  have e2 : ∀ z a b c d e f : UInt8, valD ([z, a, b, c, d, e, f].drop 1) = (((((0 * 10 + (a.toNat - 48)) * 10 + (b.toNat - 48)) * 10 + (c.toNat - 48)) * 10 + (d.toNat - 48)) * 10 + (e.toNat - 48)) * 10 + (f.toNat - 48) := fun _ _ _ _ _ _ _ => rfl
  have e3 : valD ((Lib.decDigits k).drop 1) = k - 1000000 := by
    rw [dec7 h1' (by omega), e2, dig_of (show k % 10 < 10 by omega), dig_of (show k / 10 % 10 < 10 by omega), dig_of (show k / 10 / 10 % 10 < 10 by omega), dig_of (show k / 10 / 10 / 10 % 10 < 10 by omega), dig_of (show k / 10 / 10 / 10 / 10 % 10 < 10 by omega), dig_of (show k / 10 / 10 / 10 / 10 / 10 % 10 < 10 by omega)]
    omega
  rw [e, atoi_digs (by rw [dec7 h1' (by omega)]; simp) (fun b hb => dec_digs k b (List.mem_of_mem_drop hb)) (by rw [dec7 h1' (by omega)]; simp), e3]
  congr 1
  omega

theorem s_Prefix : PrefixW PP (N Fn.strings_HasPrefix) := by
  intro s t S K hk m base w0 w args hS hv
  rw [show N Fn.strings_HasPrefix = 80 from by kernel_rfl]
  obtain ⟨u, u', rfl, hu, hu'⟩ := args2 hv
  obtain rfl := hu.str_inv
  obtain rfl := hu'.str_inv
  refine calls_of (by kernel_rfl) ((Go.Proofs.Tryz.strings_HasPrefix ⟨s.toArray⟩ ⟨t.toArray⟩ w).mono ?_)
  rintro e w' ⟨rfl, rfl⟩
  exact ⟨_, S, m, ⟨_, rfl, hk⟩, Ext.refl m, hS, _, rfl, by simp only [VR]; rfl⟩
theorem gTab : Go.Proofs.Tryz.prog.globalNamed "internal/strconv.uint64pow10" = some 2 := by kernel_rfl
theorem s_Itoa {S0 : St} (h0 : TabG 2 S0) : ItoaW PP (N Fn.strconv_Itoa) S0 := by
  intro n S K hg hn1 hn2 hk m base w0 w args hS hv
  rw [show N Fn.strconv_Itoa = 126 from by kernel_rfl]
  obtain ⟨u, rfl, hu⟩ := args1 hv
  obtain rfl := hu.int_inv
  have ht : Lib.TabIs PP w "internal/strconv.uint64pow10" .u64 Lib.pow10Tab := by
    obtain ⟨cs, t, fz, h2, h3⟩ := glob_get hS (h0.grow hg)
    unfold Lib.TabIs World.var?
    rw [gTab]
    simp only [Option.bind_some, h2]
    congr 1
    obtain ⟨l⟩ := cs
    congr 1
    simp only at h3
    clear h2
    generalize Lib.pow10Tab = zs at h3
    induction zs generalizing l with
    | nil => simpa [VRs] using h3
    | cons z zs ih =>
      simp only [List.map_cons, VRs] at h3
      obtain ⟨u, us, rfl, h4, h5⟩ := h3
      rw [List.map_cons, ← ih us h5, h4.int_inv]
  refine calls_of (by kernel_rfl) ((Go.Proofs.Tryz.strconv_Itoa n (by omega) (by omega) w ht).mono ?_)
  rintro e w' ⟨rfl, k, os, rfl⟩
  refine ⟨_, S, m, ⟨_, rfl, hk ?_⟩, Ext.refl m, (later_drew hS k).later (below_grow' os), _, rfl, by show VR m (.str (Lib.decDigits n.toNat)) _; simp only [VR]; rw [Lib.itoa, if_neg (by omega)]⟩
  rw [dec7 (by omega) (by omega)]; rfl
theorem s_Atoi : AtoiW PP (N Fn.strconv_Atoi) := by
  intro n S K h0 h1 hk m base w0 w args hS hv
  rw [show N Fn.strconv_Atoi = 81 from by kernel_rfl]
  obtain ⟨u, rfl, hu⟩ := args1 hv
  obtain rfl := hu.str_inv
  have h := atoi_tail h0 h1
  refine calls_of (by kernel_rfl) ((Go.Proofs.Tryz.strconv_Atoi_ok ⟨((Lib.decDigits n.toNat).drop 1).toArray⟩ (by show ((Lib.decDigits n.toNat).drop 1).length ≤ _; rw [dec7 (by omega) (by omega)]; simp) _ h w).mono ?_)
  rintro e w' ⟨rfl, hw⟩
  have hb : Below w.heap.size w w' := by
    rcases hw with rfl | ⟨t, rfl⟩
    · exact Below.refl _ _
    · exact Lib.bytesWorld_below _ _ _
  exact ⟨_, S, m, ⟨_, _, rfl, hk⟩, Ext.refl m, hS.later hb, _, rfl, by simp only [VR]; exact ⟨_, rfl, by simp only [VRs, VR]; exact ⟨_, _, rfl, rfl, _, _, rfl, rfl, rfl⟩⟩⟩

end Go.Th.Store
end
