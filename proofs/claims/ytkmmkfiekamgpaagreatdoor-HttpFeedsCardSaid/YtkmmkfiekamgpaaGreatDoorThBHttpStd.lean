/- What the row of one statement stands on: a store, abstract code, functions of the program and their laws (ThHttpStd). -/
import Derived.Test.YtkmmkfiekamgpaaGreatDoorThBHttpShelf
import Derived.Test.YtkmmkfiekamgpaaGreatDoorThBHttpN
import Derived.Test.YtkmmkfiekamgpaaGreatDoorThBHstd
import Derived.WalkSmall
import Derived.Lib.SplitLaws
import Derived.Lib.AtoiErrMem

section
/- The library's functions at the http seat: each by the shelf's contract. -/
set_option linter.unusedVariables false
namespace Go.Th.Http
open Go Go.Th Go.Th.L Go.Th.Pure Go.RowKit Go.Sort

theorem ba (s : Bs) : (⟨s.toArray⟩ : ByteArray).data.toList = s := rfl
theorem basz (s : Bs) : (⟨s.toArray⟩ : ByteArray).size = s.length := rfl
theorem var0 {m : LM} {S : St} {base : Nat} {w0 w : World} (hS : Sim m S base w0 w) (h : HG S) : ∃ k, w.cell? ⟨0, 0, none⟩ = some (.int .i64 k) := by
  obtain ⟨k, hk⟩ := h.len
  obtain ⟨u, h1, h2⟩ := glob_cell hS hk (j := 0) rfl
  exact ⟨k, by rw [h1, h2.int_inv]⟩
theorem later_drew {m : LM} {S : St} {base : Nat} {w0 w : World} (hS : Sim m S base w0 w) (n : Nat) : Sim m S base w0 (w.drewN n) := hS.later (below_drewN (Below.refl _ _) n)

theorem s_Cut : CutS PP (N Fn.strings_Cut) := by
  intro s t S Q hg hl hq m base w0 w args hS hv
  rw [show N Fn.strings_Cut = 30 from by kernel_rfl]
  obtain ⟨u, u', rfl, hu, hu'⟩ := args2 hv
  obtain rfl := hu.str_inv
  obtain rfl := hu'.str_inv
  obtain ⟨k, hk⟩ := var0 hS hg
  refine (Go.Proofs.Tryz.strings_Cut ⟨s.toArray⟩ ⟨t.toArray⟩ k w (by rw [basz]; exact hl) hk).mono ?_
  rintro e w' ⟨rfl, n, rfl⟩
  refine ⟨_, S, m, hq, Ext.refl m, later_drew hS n, _, rfl, ?_⟩
  rw [ba, ba, cutL_eq]
  simp only [VR]
  exact ⟨_, rfl, by simp only [VRs, VR]; exact ⟨_, _, rfl, rfl, _, _, rfl, rfl, _, _, rfl, rfl, rfl⟩⟩
theorem s_Split : SplitS PP (N Fn.strings_Split) := by
  intro s t S Q hg hl ht hq m base w0 w args hS hv
  rw [show N Fn.strings_Split = 31 from by kernel_rfl]
  obtain ⟨u, u', rfl, hu, hu'⟩ := args2 hv
  obtain rfl := hu.str_inv
  obtain rfl := hu'.str_inv
  obtain ⟨k, hk⟩ := var0 hS hg
  have h1 : 1 ≤ (⟨t.toArray⟩ : ByteArray).size := by
    rw [basz]
    cases t with
    | nil => exact absurd rfl ht
    | cons => simp
  refine (Go.Proofs.Tryz.strings_Split ⟨s.toArray⟩ ⟨t.toArray⟩ k w (by rw [basz]; exact hl) hk h1).mono ?_
  rintro e w' ⟨rfl, rfl⟩
  have hd : (Lib.splitB ⟨t.toArray⟩ 0 (Lib.countB ⟨s.toArray⟩ ⟨t.toArray⟩) ⟨s.toArray⟩).map (·.data.toList) = splitL s t := by
    rw [Lib.splitB_data, ← splitL_eq ht]; rfl
  have hlen := Lib.splitB_all ⟨t.toArray⟩ h1 0 _ ⟨s.toArray⟩ rfl
  have hlen2 : (splitL s t).length = Lib.countB ⟨s.toArray⟩ ⟨t.toArray⟩ + 1 := by rw [← hd, List.length_map, hlen]
  rw [← hlen2]
  generalize hzs : Lib.splitB ⟨t.toArray⟩ 0 (Lib.countB ⟨s.toArray⟩ ⟨t.toArray⟩) ⟨s.toArray⟩ = zs at hd hlen
  have hvr : VRs m (strsV (splitL s t)) (((zs.map Value.string).toArray).toList.take (strsV (splitL s t)).length) := by
    refine VRs.of_get ?_ ?_
    · simp only [List.length_take, strsV, List.length_map, hlen]
      omega
    · intro j v hj
      rw [← hd] at hj ⊢
      simp only [strsV, List.map_map] at hj ⊢
      rw [List.getElem?_map] at hj
      cases hz : zs[j]? with
      | none => rw [hz] at hj; cases hj
      | some b =>
        rw [hz] at hj
        simp only [Option.map_some, Option.some.injEq] at hj
        subst hj
        refine ⟨.string b, ?_, by simp only [Function.comp_apply, VR]⟩
        have : j < zs.length := by
          rcases Nat.lt_or_ge j zs.length with h | h
          · exact h
          · rw [List.getElem?_eq_none h] at hz; cases hz
        rw [List.getElem?_take, if_pos (by simpa using this)]
        show (zs.map Value.string)[j]? = _
        rw [List.getElem?_map, hz]; rfl
  refine ⟨_, _, _, hq, LM.ext_put _ (hS.freshM _ (Nat.le_refl _)), hS.newCells hvr 9 (0, 0) (.inl rfl), _, rfl, ?_⟩
  simp only [VR]
  refine ⟨_, _, _, LM.put_same _ _ _, rfl, ⟨Nat.le_refl _, Nat.le_refl _, fun _ => rfl, fun _ => rfl, fun _ => rfl, fun _ _ => ?_, fun _ h => by cases h⟩⟩
  simp [hlen, hlen2]
theorem s_BIndex : BIndexS PP (N Fn.bytes_Index) := by
  intro v v' s t S Q hg hs ht hne hl hq m base w0 w args hS hv
  rw [show N Fn.bytes_Index = 71 from by kernel_rfl]
  obtain ⟨u, u', rfl, hu, hu'⟩ := args2 hv
  obtain ⟨p, c, rfl, h1, h2, h3⟩ := bytes_arg hS hs hu
  obtain ⟨p', c', rfl, h1', h2', h3'⟩ := bytes_arg hS ht hu'
  obtain ⟨k, hk⟩ := var0 hS hg
  have htl : 0 < t.length := by cases t with | nil => exact absurd rfl hne | cons => simp
  have htm : t.length ≤ 4611686018427387904 := ht.1
  obtain ⟨b', o', rfl, h4'⟩ := h3' htl
  cases p with
  | none =>
    obtain ⟨h5, rfl⟩ := h2 rfl
    obtain rfl : s = [] := List.length_eq_zero_iff.mp h5
    refine (Go.Proofs.Tryz.bytes_Index_nil (some ⟨b', o', none⟩) t.length c' w (by omega) (fun h => ⟨b', o', _, rfl, h4' 0 htl⟩)).mono ?_
    rintro e w' ⟨rfl, rfl⟩
    refine ⟨_, S, m, hq, Ext.refl m, hS, _, rfl, ?_⟩
    rw [if_neg (by omega)]
    simp only [VR]
    cases t with
    | nil => exact absurd rfl hne
    | cons => rfl
  | some a =>
    refine (Go.Proofs.Tryz.bytes_Index_at a ⟨b', o', none⟩ s.length c t.length c' (zs s) (zs t) k w (zs_len s) (zs_len t) (zs_range s) (zs_range t) ?_ ?_ h1 hl (by omega) hk).mono ?_
    · intro i hi
      obtain ⟨b, o, h5, h6⟩ := h3 (by omega)
      cases h5
      rw [WideShapes.add_plain]
      exact h6 i hi
    · intro i hi
      rw [WideShapes.add_plain]
      exact h4' i hi
    · rintro e w' ⟨rfl, n, rfl⟩
      refine ⟨_, S, m, hq, Ext.refl m, later_drew hS n, _, rfl, ?_⟩
      rw [zs_of, zs_of]
      simp only [VR]
theorem bytesIn {w : World} {l : Bs} {p : Option Addr} (h : 0 < l.length → ∃ b o, p = some ⟨b, o, none⟩ ∧ ∀ i, i < l.length → w.cell? ⟨b, o + i, none⟩ = some (.int .u8 ((zs l).getD i 0))) : Lib.BytesIn w p l.length (zs l) := h
theorem s_BPrefix : BPrefixS PP (N Fn.bytes_HasPrefix) := by
  intro v v' s t S Q hs ht hq m base w0 w args hS hv
  rw [show N Fn.bytes_HasPrefix = 34 from by kernel_rfl]
  obtain ⟨u, u', rfl, hu, hu'⟩ := args2 hv
  obtain ⟨p, c, rfl, h1, h2, h3⟩ := bytes_arg hS hs hu
  obtain ⟨p', c', rfl, h1', h2', h3'⟩ := bytes_arg hS ht hu'
  refine (Go.Proofs.Tryz.bytes_HasPrefix_all p p' s.length c t.length c' (zs s) (zs t) w (zs_len s) (zs_len t) h1 (bytesIn h3) (bytesIn h3')).mono ?_
  rintro e w' ⟨rfl, rfl⟩
  refine ⟨_, S, m, hq, Ext.refl m, hS, _, rfl, ?_⟩
  rw [zs_of, zs_of]
  simp only [VR]
theorem s_Prefix : PrefixS PP (N Fn.strings_HasPrefix) := by
  intro s t S Q hq m base w0 w args hS hv
  rw [show N Fn.strings_HasPrefix = 53 from by kernel_rfl]
  obtain ⟨u, u', rfl, hu, hu'⟩ := args2 hv
  obtain rfl := hu.str_inv
  obtain rfl := hu'.str_inv
  refine (Go.Proofs.Tryz.strings_HasPrefix ⟨s.toArray⟩ ⟨t.toArray⟩ w).mono ?_
  rintro e w' ⟨rfl, rfl⟩
  exact ⟨_, S, m, hq, Ext.refl m, hS, _, rfl, by simp only [VR]⟩
theorem s_CutPrefix : CutPrefixS PP (N Fn.strings_CutPrefix) := by
  intro s t S Q hq m base w0 w args hS hv
  rw [show N Fn.strings_CutPrefix = 33 from by kernel_rfl]
  obtain ⟨u, u', rfl, hu, hu'⟩ := args2 hv
  obtain rfl := hu.str_inv
  obtain rfl := hu'.str_inv
  refine (Go.Proofs.Tryz.strings_CutPrefix ⟨s.toArray⟩ ⟨t.toArray⟩ w).mono ?_
  rintro e w' ⟨rfl, rfl⟩
  refine ⟨_, S, m, hq, Ext.refl m, hS, _, rfl, ?_⟩
  simp only [VR]
  exact ⟨_, rfl, by simp only [VRs, VR]; exact ⟨_, _, rfl, rfl, _, _, rfl, rfl, rfl⟩⟩
theorem s_Trim : TrimS PP (N Fn.strings_Trim) := by
  intro s c S Q hc hl hq m base w0 w args hS hv
  rw [show N Fn.strings_Trim = 78 from by kernel_rfl]
  obtain ⟨u, u', rfl, hu, hu'⟩ := args2 hv
  obtain rfl := hu.str_inv
  obtain rfl := hu'.str_inv
  refine (Go.Proofs.Tryz.strings_Trim_one ⟨s.toArray⟩ c hc w (by rw [basz]; exact hl)).mono ?_
  rintro e w' ⟨rfl, hw⟩
  refine ⟨_, S, m, hq, Ext.refl m, ?_, _, rfl, by simp only [VR]⟩
  rcases hw with rfl | rfl
  · exact hS
  · exact hS.draw
theorem s_Lower : LowerS PP (N Fn.strings_ToLower) := by
  intro s S Q hl ha hq m base w0 w args hS hv
  rw [show N Fn.strings_ToLower = 101 from by kernel_rfl]
  obtain ⟨u, rfl, hu⟩ := args1 hv
  obtain rfl := hu.str_inv
  refine (Go.Proofs.Tryz.strings_ToLower_ascii ⟨s.toArray⟩ w (by rw [basz]; exact hl) ?_).mono ?_
  · intro j b hb
    rw [ba] at hb
    exact of_decide_eq_true (List.all_eq_true.mp ha b (List.mem_of_getElem? hb))
  · rintro e w' ⟨rfl, hb⟩
    exact ⟨_, S, m, hq, Ext.refl m, hS.later hb, _, rfl, by simp only [VR]⟩
theorem below_grow' {w : World} (os : Array Obj) : Below w.heap.size w (grow w os) :=
  ⟨rfl, rfl, rfl, by simp [grow], fun i hi => by simp [grow, Array.getElem?_append, hi]⟩
theorem gTab : Go.Proofs.Tryz.prog.globalNamed "internal/strconv.uint64pow10" = some 3 := by kernel_rfl
theorem s_Itoa : ItoaS PP (N Fn.strconv_Itoa) := by
  intro n S Q hg h0 h1 hq m base w0 w args hS hv
  rw [show N Fn.strconv_Itoa = 27 from by kernel_rfl]
  obtain ⟨u, rfl, hu⟩ := args1 hv
  obtain rfl := hu.int_inv
  have ht : Lib.TabIs PP w "internal/strconv.uint64pow10" .u64 Lib.pow10Tab := by
    obtain ⟨cs, t, fz, h2, h3⟩ := glob_get hS hg.tab
    unfold Lib.TabIs World.var?
    rw [gTab]
    simp only [Option.bind_some, h2]
    congr 1
    obtain ⟨l⟩ := cs
    congr 1
    simp only at h3
    clear h2
    generalize Lib.pow10Tab = zs at h3
    induction zs generalizing l with
    | nil => simpa [VRs] using h3
    | cons z zs ih =>
      simp only [List.map_cons, VRs] at h3
      obtain ⟨u, us, rfl, h4, h5⟩ := h3
      rw [List.map_cons, ← ih us h5, h4.int_inv]
  refine (Go.Proofs.Tryz.strconv_Itoa n h0 h1 w ht).mono ?_
  rintro e w' ⟨rfl, k, os, rfl⟩
  exact ⟨_, S, m, hq, Ext.refl m, (later_drew hS k).later (below_grow' os), _, rfl, by simp only [VR]⟩
theorem err_of {S : St} {g : Nat} {t : TypeId} (h : S.get g = some (.glob g [.iface t .junk])) {m : LM} {base : Nat} {w0 w : World} (hS : Sim m S base w0 w) : ∃ ev, w.cell? ⟨g, 0, none⟩ = some ev ∧ (ev = .nilIface ∨ ∃ te pe, ev = .iface te pe) := by
  obtain ⟨u, h1, h2⟩ := glob_cell hS h (j := 0) rfl
  obtain ⟨v', rfl, _⟩ := h2.iface_inv
  exact ⟨_, h1, .inr ⟨t, v', rfl⟩⟩
theorem ends (e : Lib.NumEnd Int) : (∃ v, e = .ok v) ∨ e = Lib.atoiAll [] ∨ e = .range := by
  cases e
  · exact .inl ⟨_, rfl⟩
  · exact .inr (.inl rfl)
  · exact .inr (.inr rfl)
theorem s_Atoi : AtoiS PP (N Fn.strconv_Atoi) := by
  intro s S Q hg hl hk1 hk2 m base w0 w args hS hv
  rw [show N Fn.strconv_Atoi = 32 from by kernel_rfl]
  obtain ⟨u, rfl, hu⟩ := args1 hv
  obtain rfl := hu.str_inv
  rcases ends (Lib.atoiAll s) with ⟨v, h⟩ | h | h
  · refine (Go.Proofs.Tryz.strconv_Atoi_ok ⟨s.toArray⟩ (by rw [basz]; omega) v h w).mono ?_
    rintro e w' ⟨rfl, hw⟩
    have hb : Below w.heap.size w w' := by
      rcases hw with rfl | ⟨t, rfl⟩
      · exact Below.refl _ _
      · exact Lib.bytesWorld_below _ _ _
    exact ⟨_, S, m, hk1 v h, Ext.refl m, hS.later hb, _, rfl, by simp only [VR]; exact ⟨_, rfl, by simp only [VRs, VR]; exact ⟨_, _, rfl, rfl, _, _, rfl, rfl, rfl⟩⟩⟩
  · obtain ⟨t, ht⟩ := hg.e1
    obtain ⟨ev, hv1, hv2⟩ := err_of ht hS
    refine (Go.Proofs.Tryz.strconv_Atoi_syntax ⟨s.toArray⟩ (by rw [basz]; omega) h ev w hv1 hv2).mono ?_
    rintro e w' ⟨N, rfl, _, _, hb⟩
    exact ⟨_, S, m, hk2 (fun v hv => by rw [h] at hv; cases hv) 0 94, Ext.refl m, hS.later hb, _, rfl, by simp only [VR]; exact ⟨_, rfl, by simp only [VRs, VR]; exact ⟨_, _, rfl, rfl, _, _, rfl, ⟨_, rfl, rfl⟩, rfl⟩⟩⟩
  · obtain ⟨t, ht⟩ := hg.e2
    obtain ⟨ev, hv1, hv2⟩ := err_of ht hS
    refine (Go.Proofs.Tryz.strconv_Atoi_range ⟨s.toArray⟩ (by rw [basz]; omega) h ev w hv1 hv2).mono ?_
    rintro e w' ⟨N, rfl, _, _, hb⟩
    exact ⟨_, S, m, hk2 (fun v hv => by rw [h] at hv; cases hv) (Lib.atoiSat s) 94, Ext.refl m, hS.later hb, _, rfl, by simp only [VR]; exact ⟨_, rfl, by simp only [VRs, VR]; exact ⟨_, _, rfl, rfl, _, _, rfl, ⟨_, rfl, rfl⟩, rfl⟩⟩⟩
theorem s_Contains : ContainsS PP (N Fn.slices_Contains_Lstring) := by
  intro v zs x S Q hs hq m base w0 w args hS hv
  rw [show N Fn.slices_Contains_Lstring = 36 from by kernel_rfl]
  obtain ⟨u, u', rfl, hu, hu'⟩ := args2 hv
  obtain ⟨p, c, rfl, h1, h2, h3⟩ := sl_arg hS hs hu
  obtain rfl := hu'.str_inv
  have hbig : zs.length ≤ 4611686018427387904 := hs.1
  rcases Nat.eq_zero_or_pos zs.length with hz | hz
  · obtain rfl : zs = [] := List.length_eq_zero_iff.mp hz
    refine (Go.Proofs.Tryz.slices_Contains_string_empty p c ⟨x.toArray⟩ w).mono ?_
    rintro e w' ⟨rfl, rfl⟩
    exact ⟨_, S, m, hq, Ext.refl m, hS, _, rfl, by simp only [VR]; rfl⟩
  · obtain ⟨b, o, rfl, h4⟩ := h3 hz
    refine (Go.Proofs.Tryz.slices_Contains_string b o zs.length c (zs.map fun z => ⟨z.toArray⟩) ⟨x.toArray⟩ w (by simp) (by omega) ?_).mono ?_
    · intro j hj
      rw [List.length_map] at hj
      obtain ⟨y, h5, h6⟩ := h4 j (.str zs[j]) (by simp [strsV, hj])
      rw [h5, h6.str_inv]
      simp [List.getD, hj]
    · rintro e w' ⟨rfl, rfl⟩
      refine ⟨_, S, m, hq, Ext.refl m, hS, _, rfl, ?_⟩
      simp only [VR]
      congr 1
      rw [List.take_of_length_le (by simp)]
      rw [Bool.eq_iff_iff, Lib.containsS_iff, List.contains_iff_mem, List.mem_map]
      constructor
      · intro hx
        obtain ⟨z, hz, e⟩ := hx
        have e2 : z = x := by
          have := congrArg (fun b : ByteArray => b.data.toList) e
          simpa using this
        rw [← e2]; exact hz
      · intro hx
        exact ⟨x, hx, rfl⟩
end Go.Th.Http
end
