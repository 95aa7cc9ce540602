/- What the row of one statement stands on: a store, abstract code, functions of the program and their laws (ThHkeep3). -/
import Derived.Test.YtcdbfhamhcaclaaThBHdisk14
import Derived.Test.YtcdbfhamhcaclaaThBHkeep2

section
/- Bytes lent. -/
set_option linter.unusedSimpArgs false
set_option linter.unusedVariables false
namespace Go.Th.L
open Go Go.Th Go.Th.Pure
variable {P : Program} {N : Nat → Nat}

theorem zsB_length (l : List UInt8) : (zsB l).length = l.length := by simp [zsB]
theorem wrap_two {j : Nat} (h : j < 4611686018427387900) : IntKind.i64.wrap ((j : Int) + 2) = ((j + 2 : Nat) : Int) := by rw [IntKind.wrap_i64]; omega

abbrev LentB (S : St) (B : Nat) (x : V) (l : List UInt8) : Prop := Lent S B 1 x l.length 2 (bytesV l) (intsV .u8 [165, 90])
theorem LentB.at_ {S : St} {B : Nat} {x : V} {l : List UInt8} (h : LentB S B x l) : BytesAt S x l := h.sl

def keep_LendBytes.Spec (P : Program) (N : Nat → Nat) : Prop := ∀ (v : V) (l : List UInt8) (S : St) (K : V → St → Prop), S.Wf → BytesAt S v l → l.length ≤ 1099511627776 →
  (∀ S' x, Grow S S' → LentB S' S.next x l → K x S') → CallA P (N Fn.keep_LendBytes) [v] S (retT [.one .any] K)
theorem keep_LendBytes.spec (hF : keep_LendBytes.Ok P N) : keep_LendBytes.Spec P N := by
  intro v l S K hw hv hl h
  refine keep_LendBytes.run hF ⟨_, hv.len, setI_mk (wrap_two (by omega)) (ifP_mk (mk_slice (by omega) (by omega)) ?_)⟩
  rw [reps_nums]
  have g1 : Grow S (S.new (.cells (intsV .u8 (List.replicate (l.length + 2) 0)) true)) := (Upd.refl hw []).new _
  have a1 := Acc.fresh hw (B := S.next) (Nat.le_refl _) (n := l.length + 2) (k := 1) (by omega) (cs := intsV .u8 (List.replicate (l.length + 2) 0)) (by simp [intsV_length]) (intsV_ones _ _) true
  have hv1 := hv.grow g1
  obtain ⟨S2, e2, a2, u2⟩ := a1.copy g1.wf hv1.src (by simp [bytesV_length]) (bytesV_ones _) (by omega)
  refine ifP_mk e2 ?_
  have g2 : Grow S S2 := g1.after u2 (fun i hi => by simp [V.block] at hi; subst hi; exact .inl (Nat.le_refl _))
  refine ⟨_, (hv.grow g2).len, ifS_mk (a2.at_.idx (by omega)) ?_⟩
  have ec : over (intsV .u8 (List.replicate (l.length + 2) 0)) 0 ((bytesV l).take (min l.length (l.length + 2) * 1)) = intsV .u8 (zsB l ++ [0, 0]) := by
    rw [Nat.min_eq_left (by omega), Nat.mul_one, List.take_of_length_le (by rw [bytesV_length]; omega), bytes_zsB, over_at (by simp [intsV_length, zsB_length])]
    simp only [List.take_zero, List.nil_append, Nat.zero_add, intsV_length, intsV_append, zsB_length]
    congr 1
    rw [← intsV_drop, List.drop_replicate, Nat.add_sub_cancel_left]; rfl
  rw [ec] at a2
  obtain ⟨S3, e3, a3, u3⟩ := a2.put u2.wf (m := l.length) (off := 0) (x := V.int .u8 165) (by omega) (by simp [V.cells]) rfl (by simp [V.cells])
  refine ifS_mk e3 ?_
  have g3 : Grow S S3 := g2.after u3 (fun i hi => by simp [V.block] at hi; subst hi; exact .inl (Nat.le_refl _))
  have e4 : over (intsV .u8 (zsB l ++ [0, 0])) (l.length * 1 + 0) (V.int .u8 165).cells = intsV .u8 (zsB l ++ [165, 0]) := by
    have := over_int .u8 (zsB l ++ [0, 0]) l.length 165 (by simp [zsB_length])
    rw [Nat.mul_one, Nat.add_zero]
    refine this.trans ?_
    congr 1
    have hz := zsB_length l
    rw [← hz, List.set_append_right _ _ (Nat.le_refl _), Nat.sub_self]; rfl
  rw [e4] at a3
  refine ⟨_, (hv.grow g3).len, setI_mk (wrap_succ (by omega)) (ifS_mk (a3.at_.idx (by omega)) ?_)⟩
  obtain ⟨S4, e5, a4, u4⟩ := a3.put u3.wf (m := l.length + 1) (off := 0) (x := V.int .u8 90) (by omega) (by simp [V.cells]) rfl (by simp [V.cells])
  refine ifS_mk e5 ?_
  have g4 : Grow S S4 := g3.after u4 (fun i hi => by simp [V.block] at hi; subst hi; exact .inl (Nat.le_refl _))
  refine ⟨_, (hv.grow g4).len, ifS_mk (slice_ext (by omega)) (h S4 _ g4 ⟨S.next, rfl, by simp [bytesV_length], ?_⟩)⟩
  have e6 : over (intsV .u8 (zsB l ++ [165, 0])) ((l.length + 1) * 1 + 0) (V.int .u8 90).cells = bytesV l ++ intsV .u8 [165, 90] := by
    have := over_int .u8 (zsB l ++ [165, 0]) (l.length + 1) 90 (by simp [zsB_length])
    rw [Nat.mul_one, Nat.add_zero]
    refine this.trans ?_
    rw [bytes_zsB, ← intsV_append]
    congr 1
    have hz := zsB_length l
    rw [← hz, List.set_append_right _ _ (by omega), Nat.add_sub_cancel_left]; rfl
  rw [e6] at a4
  exact a4

def keep_BackBytes.Spec (P : Program) (N : Nat → Nat) : Prop := ∀ (x v : V) (l : List UInt8) (S : St) (B : Nat) (K : Bool → St → Prop), S.Wf → LentB S B x l → BytesAt S v l → l.length ≤ 1099511627776 →
  (∀ S', Upd x.block S S' → K true S') → CallA P (N Fn.keep_BackBytes) [x, v] S (retT [.one .bool] K)
theorem keep_BackBytes.spec (hF : keep_BackBytes.Ok P N) : keep_BackBytes.Spec P N := by
  intro x v l S B K hw hx hv hl h
  have hxs := hx.at_
  obtain ⟨i, rfl, hcl, ha⟩ := hx
  rw [bytes_zsB, ← intsV_append] at ha
  have hz := zsB_length l
  have e2 := wrap_two (j := l.length) (by omega)
  have e1 : IntKind.i64.wrap ((l.length : Int) + 1) = ((l.length + 1 : Nat) : Int) := wrap_succ (by omega)
  have ld0 := ha.at_.load (m := l.length) (off := 0) (by omega) (by omega)
  rw [Nat.mul_one, Nat.add_zero, intsV_get (by simp [hz])] at ld0
  have ld1 := ha.at_.load (m := l.length + 1) (off := 0) (by omega) (by omega)
  rw [Nat.mul_one, Nat.add_zero, intsV_get (by simp [hz])] at ld1
  have v0 : (zsB l ++ [165, 90])[l.length]'(by simp [hz]) = 165 := by rw [List.getElem_append_right (by omega)]; simp [hz]
  have v1 : (zsB l ++ [165, 90])[l.length + 1]'(by simp [hz]) = 90 := by rw [List.getElem_append_right (by omega)]; simp [hz]
  simp only [Nat.add_zero, v0] at ld0
  simp only [Nat.add_zero, v1] at ld1
  refine keep_BackBytes.run hF ⟨_, hv.len, setI_mk e2 (ifS_mk (slice_ext (by omega)) ?_)⟩
  refine Join1.mid (fun b S' => S' = S ∧ b = true) ⟨_, hv.len, ifS_mk (ha.at_.idx (by omega)) ⟨_, ld0, ifC_pos rfl ⟨_, hv.len, setI_mk e1 (ifS_mk (ha.at_.idx (by omega)) ⟨_, ld1, rfl, by decide⟩)⟩⟩⟩ ?_
  rintro _ S' ⟨e, rfl⟩
  rw [e]; clear e S'
  refine Loop2.ind (fun n b y S' => S' = S ∧ b = true ∧ ∃ j : Nat, y = j ∧ j + n = l.length) l.length ⟨rfl, rfl, 0, rfl, by omega⟩ ?_
  rintro n _ _ S' ⟨e, rfl, j, rfl, hj⟩
  rw [e]; clear e S'
  refine ⟨_, hv.len, ifC_dec (fun hlt => ?_) (fun hge => ?_)⟩
  · have hjl : j < l.length := by omega
    refine ifC_tt rfl (ifS_mk (hxs.idx hjl) ⟨_, BytesAt.get hxs hjl, ifS_mk (hv.idx hjl) ⟨_, BytesAt.get hv hjl, setI_mk (wrap_succ (by omega)) ⟨n - 1, by omega, rfl, by simp, j + 1, rfl, by omega⟩⟩⟩)
  refine Loop1.ind (fun n x S' => ∃ (j : Nat) (ys : List Int), x = j ∧ j + n = l.length + 2 ∧ ys.length = l.length + 2 ∧ Acc S' B 1 (.slice i 0 (l.length + 2) (l.length + 2) 1 true) (l.length + 2) (intsV .u8 ys) ∧ Upd [i] S S') (l.length + 2) ⟨0, zsB l ++ [165, 90], rfl, by omega, by simp [hz], ha, Upd.refl hw _⟩ ?_
  rintro n _ S2 ⟨j, ys, rfl, hj, hy, ha2, u2⟩
  refine ⟨_, ha2.at_.len, ifC_dec (fun hlt => ?_) (fun hge => ?_)⟩
  · have hjl : j < l.length + 2 := by omega
    have hld := ha2.at_.load (m := j) (off := 0) hjl (by omega)
    rw [Nat.mul_one, Nat.add_zero, intsV_get (by omega)] at hld
    obtain ⟨S3, e3, a3, u3⟩ := ha2.put u2.wf (m := j) (off := 0) (x := V.int .u8 (IntKind.u8.wrap (ys[j] + 77))) hjl (by simp [V.cells]) rfl (by simp [V.cells])
    refine ifS_mk (ha2.at_.idx hjl) ⟨_, hld, setI_mk rfl (ifS_mk (ha2.at_.idx hjl) (ifS_mk e3 (setI_mk (wrap_succ (by omega)) ?_)))⟩
    refine ⟨n - 1, by omega, j + 1, ys.set j (IntKind.u8.wrap (ys[j] + 77)), rfl, by omega, by simpa using hy, ?_, u2.trans u3⟩
    simp only [Nat.mul_one, Nat.add_zero, V.cells] at a3
    rw [over_int .u8 ys j _ (by omega)] at a3
    exact a3
  · exact h S2 u2


end Go.Th.L
end
