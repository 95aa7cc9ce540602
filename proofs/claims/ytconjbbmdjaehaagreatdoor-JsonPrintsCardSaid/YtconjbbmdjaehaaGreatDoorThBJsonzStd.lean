/- What the row of one statement stands on: a store, abstract code, functions of the program and their laws (ThJsonzStd). -/
import Derived.Test.YtconjbbmdjaehaaGreatDoorThBJsonzShelf
import Derived.Test.YtconjbbmdjaehaaGreatDoorThBJsonzSb
import Derived.Test.YtconjbbmdjaehaaGreatDoorThBJsonzN
import Derived.Test.YtconjbbmdjaehaaGreatDoorThBHcut
import Derived.Test.YtconjbbmdjaehaaGreatDoorThBHlaw20f
import Derived.Test.YtconjbbmdjaehaaGreatDoorThBO7
import Derived.Lib.AtoiErrMem
import Derived.WalkSmall

section
/- The library's functions at json's great door, each as a call over the store. -/
set_option linter.unusedVariables false
set_option linter.unusedSimpArgs false
set_option maxHeartbeats 1000000
namespace Go.Th.Jsonz
open Go Go.Th Go.Th.L Go.Th.Pure Go.RowKit Go.Sort

theorem calls_of {f : Nat} {args : Array Value} {w : World} {R : Ending → World → Prop} (hf : decide (f < PP.funcs.size) = true) (h : Calls PP f args w R) : CallsX PP f args w R := CallsX.of (of_decide_eq_true hf) h
theorem later_drew {m : LM} {S : St} {base : Nat} {w0 w : World} (hS : Sim m S base w0 w) (n : Nat) : Sim m S base w0 (w.drewN n) := hS.later (below_drewN (Below.refl _ _) n)
theorem below_grow' {w : World} (os : Array Obj) : Below w.heap.size w (grow w os) :=
  ⟨rfl, rfl, rfl, by simp [grow], fun i hi => by simp [grow, Array.getElem?_append, hi]⟩
theorem vr_four {m : LM} {a b c d e : V} {args : Array Value} (h : VRs m [a, b, c, d, e] args.toList) : ∃ a' b' c' d' e', args = #[a', b', c', d', e'] ∧ VR m a a' ∧ VR m b b' ∧ VR m c c' ∧ VR m d d' ∧ VR m e e' := by
  simp only [VRs] at h
  obtain ⟨a', _, h1, ha, b', _, rfl, hb, c', _, rfl, hc, d', _, rfl, hd, e', _, rfl, he, rfl⟩ := h
  obtain ⟨l⟩ := args
  simp only at h1
  exact ⟨a', b', c', d', e', by rw [h1], ha, hb, hc, hd, he⟩

theorem s_sb : SbOk PP (N Fn.ty_strings_Builder) 5 (N Fn.strings_Builder_WriteByte) (N Fn.strings_Builder_WriteString) (N Fn.strings_Builder_String) := by
  rw [show N Fn.ty_strings_Builder = 55 from by kernel_rfl, show N Fn.strings_Builder_WriteByte = 56 from by kernel_rfl, show N Fn.strings_Builder_WriteString = 53 from by kernel_rfl, show N Fn.strings_Builder_String = 27 from by kernel_rfl]
  exact ⟨of_decide_eq_true (by kernel_rfl), of_decide_eq_true (by kernel_rfl), of_decide_eq_true (by kernel_rfl), fun c w h hl => sb_WriteByte Go.Proofs.Tryz.sb_lays167 Go.Proofs.Tryz.sb_extra c h hl,
    fun s h0 w h hl => sb_WriteString Go.Proofs.Tryz.sb_lays166 Go.Proofs.Tryz.sb_extra s h0 h hl, fun h h0 => sb_String Go.Proofs.Tryz.lays169 Go.Proofs.Tryz.Builder_Extra_169 h h0⟩

theorem s_Trim : TrimJ PP (N Fn.strings_TrimLeft) := by
  intro s S K hk m base w0 w args hS hv
  rw [show N Fn.strings_TrimLeft = 41 from by kernel_rfl]
  obtain ⟨u, u', rfl, hu, hu'⟩ := vr_two hv
  obtain rfl := hu.str_inv
  obtain rfl := hu'.str_inv
  refine calls_of (by kernel_rfl) ((Go.Proofs.Any.strings_TrimLeft_laid Go.Proofs.Tryz.lays161 (by kernel_rfl) ⟨s.toArray⟩ ⟨#[32, 9, 10, 13]⟩ w (by decide) (Go.Proofs.ascii_of_all (by decide))).mono ?_)
  rintro e w' ⟨rfl, hb⟩
  refine ⟨_, S, m, ⟨_, rfl, hk⟩, Ext.refl m, hS.later hb, _, rfl, ?_⟩
  show VR m (.str (blanksJ s)) _
  simp only [VR]
  rw [← trim_blanks]
theorem s_Cut : CutJ PP (N Fn.strings_CutPrefix) := strings_CutPrefix.cutJ has_strings_CutPrefix has_internal_stringslite_CutPrefix has_internal_stringslite_HasPrefix

theorem err_of {gs : List Nat} {S : St} (h : GV gs S) {g : Nat} (hg : g ∈ gs) {m : LM} {base : Nat} {w0 w : World} (hS : Sim m S base w0 w) : ∃ ev, w.cell? ⟨g, 0, none⟩ = some ev ∧ (ev = .nilIface ∨ ∃ te pe, ev = .iface te pe) := by
  obtain ⟨t, ht⟩ := h g hg
  obtain ⟨u, h1, h2⟩ := hS.gl1 (g := g) (o := 0) (v := .iface t .junk) (by unfold St.gl1; rw [ht]; simp)
  obtain ⟨v', rfl, _⟩ := h2.iface_inv
  exact ⟨_, h1, .inr ⟨t, v', rfl⟩⟩
theorem s_Atoi : AtoiJ PP (N Fn.strconv_Atoi) [2, 3] := by
  intro ds S K hw hg hne hd hl hk m base w0 w args hS hv
  rw [show N Fn.strconv_Atoi = 68 from by kernel_rfl]
  obtain ⟨u, rfl, hu⟩ := vr_one hv
  obtain rfl := hu.str_inv
  have hG : Grow S S := Upd.refl hw _
  rcases atoi_digs' hne hd with h | ⟨h, hm⟩
  · refine calls_of (by kernel_rfl) ((Go.Proofs.Tryz.strconv_Atoi_ok ⟨ds.toArray⟩ (by show ds.length ≤ _; omega) _ h w).mono ?_)
    rintro e w' ⟨rfl, hw'⟩
    have hb : Below w.heap.size w w' := by
      rcases hw' with rfl | ⟨t, rfl⟩
      · exact Below.refl _ _
      · exact Lib.bytesWorld_below _ _ _
    exact ⟨.ret (.tuple [.int .i64 (valJ ds : Nat), .nilIface]), S, m, ⟨_, .nilIface, rfl, hk _ .nilIface true S hG rfl (fun _ => rfl) (fun h => by cases h)⟩, Ext.refl m, hS.later hb, _, rfl, by simp only [VR]; exact ⟨_, rfl, by simp only [VRs, VR]; exact ⟨_, _, rfl, rfl, _, _, rfl, rfl, rfl⟩⟩⟩
  · obtain ⟨ev, hv1, hv2⟩ := err_of hg (g := 3) (by simp) hS
    refine calls_of (by kernel_rfl) ((Go.Proofs.Tryz.strconv_Atoi_range ⟨ds.toArray⟩ (by show ds.length ≤ _; omega) h ev w hv1 hv2).mono ?_)
    rintro e w' ⟨Nn, rfl, _, _, hb⟩
    exact ⟨.ret (.tuple [.int .i64 (Lib.atoiSat ds), .iface 107 .junk]), S, m, ⟨_, .iface 107 .junk, rfl, hk _ (.iface 107 .junk) false S hG rfl (fun h => by cases h) (fun _ => hm)⟩, Ext.refl m, hS.later hb, _, rfl, by simp only [VR]; exact ⟨_, rfl, by simp only [VRs, VR]; exact ⟨_, _, rfl, rfl, _, _, rfl, ⟨_, rfl, rfl⟩, rfl⟩⟩⟩
theorem s_ToErr : ToErrS PP N [2, 3] := by
  intro fn s x y S K hw hg hl hk m base w0 w args hS hv
  rw [show N Fn.strconv_toError = 80 from by kernel_rfl]
  rw [show N Fn.ty_internal_strconv_Error = 105 from by kernel_rfl] at hv
  obtain ⟨a, b, c, d, e, rfl, ha, hb, hc, hd, he⟩ := vr_four hv
  obtain rfl := ha.str_inv
  obtain rfl := hb.str_inv
  obtain rfl := hc.int_inv
  obtain rfl := hd.int_inv
  obtain ⟨v', rfl, he'⟩ : ∃ v', e = .iface 105 v' ∧ VR m (.int .i64 2) v' := by
    simp only [VR] at he
    obtain ⟨v', rfl, h⟩ := he
    exact ⟨v', rfl, by simpa only [VR] using h⟩
  obtain rfl := he'.int_inv
  obtain ⟨ev, hv1, hv2⟩ := err_of hg (g := 2) (by simp) hS
  refine calls_of (by kernel_rfl) ((Go.Proofs.Tryz.strconv_toError_syntax ⟨fn.toArray⟩ ⟨s.toArray⟩ x y ev w (by show s.length ≤ _; omega) hv1 hv2).mono ?_)
  rintro e w' ⟨Nn, rfl, _, _, hb⟩
  exact ⟨.ret (.iface 107 .junk), S, m, ⟨_, rfl, hk 107⟩, Ext.refl m, hS.later hb, _, rfl, by simp only [VR]; exact ⟨_, rfl, rfl⟩⟩
theorem s_Hex : HexW PP (N Fn.strconv_ParseUint) [2, 3] := strconv_ParseUint.hex has_strconv_ParseUint has_internal_strconv_ParseUint has_internal_strconv_lower s_ToErr
theorem gTab : Go.Proofs.Tryz.prog.globalNamed "internal/strconv.uint64pow10" = some 4 := by kernel_rfl
theorem s_Itoa {S0 : St} (h0 : TabG 4 S0) : ItoaJ PP (N Fn.strconv_Itoa) S0 := by
  intro n S K hg hn1 hn2 hk m base w0 w args hS hv
  rw [show N Fn.strconv_Itoa = 54 from by kernel_rfl]
  obtain ⟨u, rfl, hu⟩ := vr_one hv
  obtain rfl := hu.int_inv
  have ht : Lib.TabIs PP w "internal/strconv.uint64pow10" .u64 Lib.pow10Tab := by
    obtain ⟨cs, t, fz, h2, h3⟩ := glob_get hS (h0.grow hg)
    unfold Lib.TabIs World.var?
    rw [gTab]
    simp only [Option.bind_some, h2]
    congr 1
    obtain ⟨l⟩ := cs
    congr 1
    simp only at h3
    clear h2
    generalize Lib.pow10Tab = zs at h3
    induction zs generalizing l with
    | nil => simpa [VRs] using h3
    | cons z zs ih =>
      simp only [List.map_cons, VRs] at h3
      obtain ⟨u, us, rfl, h4, h5⟩ := h3
      rw [List.map_cons, ← ih us h5, h4.int_inv]
  refine calls_of (by kernel_rfl) ((Go.Proofs.Tryz.strconv_Itoa n (by omega) (by omega) w ht).mono ?_)
  rintro e w' ⟨rfl, k, os, rfl⟩
  exact ⟨_, S, m, ⟨_, rfl, hk⟩, Ext.refl m, (later_drew hS k).later (below_grow' os), _, rfl, by show VR m (.str (Lib.itoa n)) _; simp only [VR]⟩

end Go.Th.Jsonz
end
