/- What the row of one statement stands on: a store, abstract code, functions of the program and their laws (ThFactAll). -/
import Derived.Test.YtbkhbdjfklcmlaaDoorThBFactN
import Derived.Test.YtbkhbdjfklcmlaaDoorThBFactShelf
import Derived.Test.YtbkhbdjfklcmlaaDoorThBHlaw12
import Derived.Test.YtbkhbdjfklcmlaaDoorThBO2

section
/- The seat's functions, each by its law: the factory. -/
set_option linter.unusedVariables false
namespace Go.Th.Fact
open Go Go.Th Go.Th.L Go.Th.Pure Go.RowKit

theorem args1 {m : LM} {v : V} {args : Array Value} (h : VRs m [v] args.toList) : ∃ u, args = #[u] ∧ VR m v u := by
  simp only [VRs] at h
  obtain ⟨u, us, h1, h2, rfl⟩ := h
  obtain ⟨l⟩ := args
  simp only at h1
  subst h1
  exact ⟨u, rfl, h2⟩
theorem s_Itoa : NumsOk PP (N Fn.strconv_Itoa) := by
  intro n S K h0 h1 hk m base w0 w args hS hv
  rw [show N Fn.strconv_Itoa = 19 from by kernel_rfl]
  obtain ⟨u, rfl, hu⟩ := args1 hv
  obtain rfl := hu.int_inv
  have h := Go.Proofs.Tryd.strconv_Itoa_small n.toNat (by omega) w
  rw [show ((n.toNat : Nat) : Int) = n by omega] at h
  refine h.mono ?_
  rintro e w' ⟨rfl, rfl⟩
  exact ⟨.ret (.str (numF n)), S, m, ⟨numF n, rfl, hk⟩, Ext.refl m, hS, _, rfl, by simp only [VR]; rfl⟩

theorem err_of {gs : List Nat} {S : St} (h : GV gs S) {g : Nat} (hg : g ∈ gs) {m : LM} {base : Nat} {w0 w : World} (hS : Sim m S base w0 w) : ∃ ev, w.cell? ⟨g, 0, none⟩ = some ev ∧ (ev = .nilIface ∨ ∃ te pe, ev = .iface te pe) := by
  obtain ⟨t, ht⟩ := h g hg
  obtain ⟨u, h1, h2⟩ := hS.gl1 (g := g) (o := 0) (v := .iface t .junk) (by unfold St.gl1; rw [ht]; simp)
  obtain ⟨v', rfl, _⟩ := h2.iface_inv
  exact ⟨_, h1, .inr ⟨t, v', rfl⟩⟩
theorem ends (e : Lib.NumEnd Int) : (∃ v, e = .ok v) ∨ e = Lib.atoiAll [] ∨ e = .range := by
  cases e
  · exact .inl ⟨_, rfl⟩
  · exact .inr (.inl rfl)
  · exact .inr (.inr rfl)
theorem s_Atoi : AtoiOk PP (N Fn.strconv_Atoi) [0, 1] := by
  intro s S K hl hg hk1 hk2 m base w0 w args hS hv
  rw [show N Fn.strconv_Atoi = 16 from by kernel_rfl]
  obtain ⟨u, rfl, hu⟩ := args1 hv
  obtain rfl := hu.str_inv
  have hlist : (⟨s.toArray⟩ : ByteArray).data.toList = s := rfl
  rcases ends (Lib.atoiAll s) with ⟨v, h⟩ | h | h
  · refine (Go.Proofs.Tryd.strconv_Atoi_ok ⟨s.toArray⟩ (by show s.length ≤ _; omega) v h w).mono ?_
    rintro e w' ⟨rfl, hw⟩
    have hb : Below w.heap.size w w' := by
      rcases hw with rfl | ⟨t, rfl⟩
      · exact Below.refl _ _
      · exact Lib.bytesWorld_below _ _ _
    exact ⟨.ret (.tuple [.int .i64 v, .nilIface]), S, m, ⟨v, .nilIface, rfl, hk1 v h⟩, Ext.refl m, hS.later hb, _, rfl, by simp only [VR]; exact ⟨_, rfl, by simp only [VRs, VR]; exact ⟨_, _, rfl, rfl, _, _, rfl, rfl, rfl⟩⟩⟩
  · obtain ⟨ev, hv1, hv2⟩ := err_of hg (g := 0) (by simp) hS
    refine (Go.Proofs.Tryd.strconv_Atoi_syntax ⟨s.toArray⟩ (by show s.length ≤ _; omega) h ev w hv1 hv2).mono ?_
    rintro e w' ⟨N, rfl, _, _, hb⟩
    exact ⟨.ret (.tuple [.int .i64 0, .iface 57 .junk]), S, m, ⟨0, .iface 57 .junk, rfl, hk2 (fun v hv => by rw [h] at hv; cases hv) 0 57⟩, Ext.refl m, hS.later hb, _, rfl, by simp only [VR]; exact ⟨_, rfl, by simp only [VRs, VR]; exact ⟨_, _, rfl, rfl, _, _, rfl, ⟨_, rfl, rfl⟩, rfl⟩⟩⟩
  · obtain ⟨ev, hv1, hv2⟩ := err_of hg (g := 1) (by simp) hS
    refine (Go.Proofs.Tryd.strconv_Atoi_range ⟨s.toArray⟩ (by show s.length ≤ _; omega) h ev w hv1 hv2).mono ?_
    rintro e w' ⟨N, rfl, _, _, hb⟩
    exact ⟨.ret (.tuple [.int .i64 (Lib.atoiSat s), .iface 57 .junk]), S, m, ⟨Lib.atoiSat s, .iface 57 .junk, rfl, hk2 (fun v hv => by rw [h] at hv; cases hv) _ 57⟩, Ext.refl m, hS.later hb, _, rfl, by simp only [VR]; exact ⟨_, rfl, by simp only [VRs, VR]; exact ⟨_, _, rfl, rfl, _, _, rfl, ⟨_, rfl, rfl⟩, rfl⟩⟩⟩

theorem s_front : ref12_front.Spec PP N := ref12_front.spec has_ref12_front
theorem s_digits : ref12_digits.Spec PP N := ref12_digits.spec has_ref12_digits
theorem s_Check' : ChecksSpec PP (N Fn.ref12_Check) := ref12_Check.spec has_ref12_Check has_ref12_within
theorem s_Check : ChecksSpec PP (N Fn.factory_Check) := factory_Check.spec has_factory_Check
theorem s_Parse' : ParseOk PP (N Fn.ref12_Parse) (GV [0, 1]) := ref12_Parse.spec has_ref12_Parse (ref12_one.spec has_ref12_one s_front s_digits) (ref12_ivf.spec has_ref12_ivf s_front s_digits) s_Check' _
theorem s_cut : CutOk PP (N Fn.strings_CutPrefix) := strings_CutPrefix.spec has_strings_CutPrefix (CutPrefix.spec has_internal_stringslite_CutPrefix has_internal_stringslite_HasPrefix)
theorem s_Parse : ParseOk PP (N Fn.factory_Parse) (GV [0, 1]) := factory_Parse.spec has_factory_Parse (factory_Parse_1.spec has_factory_Parse_1 s_cut) (factory_Parse_2.spec has_factory_Parse_2 s_Atoi) (by kernel_rfl) (by kernel_rfl) s_Check
theorem s_law12 : Law12Ok PP N [0, 1] := ⟨s_Parse, s_Parse', factory_Print.spec has_factory_Print s_Check s_Itoa, ref12_Print.spec has_ref12_Print s_Check' (ref12_Number.spec has_ref12_Number), s_Check, s_Check', has_law12_awake⟩

def specSh : Sh := Sh.agg (Fs.cons 1 (Sh.int IntKind.i64) (Fs.cons 1 (Sh.int IntKind.i64) (Fs.cons 1 (Sh.int IntKind.i64) (Fs.cons 1 (Sh.int IntKind.i64) Fs.nil))))
theorem has_spec {S : St} {x : V} (h : HasA S specSh x) : ∃ y : FSpec, x = v4 y := by
  simp only [specSh, HasA, HasF, Has] at h
  obtain ⟨cs, rfl, ⟨a, ha, _⟩, ⟨b, hb, _⟩, ⟨c, hc, _⟩, ⟨d, hd, _⟩, h5⟩ := h
  match cs with
  | [] => simp at ha
  | [_] => simp at hb
  | [_, _] => simp at hc
  | [_, _, _] => simp at hd
  | _ :: _ :: _ :: _ :: _ :: _ => simp at h5
  | [x, y, z, w] =>
    simp at ha hb hc hd
    exact ⟨⟨a, b, c, d⟩, by rw [ha, hb, hc, hd]⟩

def law3_shapes : List Sh := [Sh.str]
theorem law3_spec (S : St) (av : List V) (hw : S.Wf) (hg : GV [0, 1] S) (h : HasAs S law3_shapes av) : CallA PP 3 av S (fun r _ => r = .ret (.bool true)) := by
  rw [← (show N Fn.law12_FactoryParses = 3 from by kernel_rfl)]
  simp only [law3_shapes, HasAs, HasA, Has] at h
  obtain ⟨a, _, rfl, ⟨s, hs, _⟩, rfl⟩ := h
  cases hs
  exact (law12_FactoryParses.spec has_law12_FactoryParses s_law12 hw hg (K := fun b _ => b = true) (fun _ => rfl)).mono fun r S' h => retT_true h
def law4_shapes : List Sh := [specSh]
theorem law4_spec (S : St) (av : List V) (hw : S.Wf) (hg : GV [0, 1] S) (h : HasAs S law4_shapes av) : CallA PP 4 av S (fun r _ => r = .ret (.bool true)) := by
  rw [← (show N Fn.law12_FactoryPrints = 4 from by kernel_rfl)]
  simp only [law4_shapes, HasAs] at h
  obtain ⟨a, _, rfl, ha, rfl⟩ := h
  obtain ⟨y, rfl⟩ := has_spec ha
  exact (law12_FactoryPrints.spec has_law12_FactoryPrints s_law12 hw hg (K := fun b _ => b = true) (fun _ => rfl)).mono fun r S' h => retT_true h
def law5_shapes : List Sh := [specSh, Sh.str]
theorem law5_spec (S : St) (av : List V) (hw : S.Wf) (hg : GV [0, 1] S) (h : HasAs S law5_shapes av) : CallA PP 5 av S (fun r _ => r = .ret (.bool true)) := by
  rw [← (show N Fn.law12_FactoryRound = 5 from by kernel_rfl)]
  simp only [law5_shapes, HasAs] at h
  obtain ⟨a, _, rfl, ha, b, _, rfl, hb, rfl⟩ := h
  obtain ⟨y, rfl⟩ := has_spec ha
  simp only [HasA, Has] at hb
  obtain ⟨s, hs, _⟩ := hb
  cases hs
  exact (law12_FactoryRound.spec has_law12_FactoryRound s_law12 hw hg (K := fun b _ => b = true) (fun _ => rfl)).mono fun r S' h => retT_true h

end Go.Th.Fact
end
