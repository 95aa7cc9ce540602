/- Bytes and numbers lent, given back, compared. -/
import Derived.Test.YthimmjgpiadmbaaThCodecS5
set_option linter.unusedSimpArgs false
set_option linter.unusedVariables false
namespace Go.Th.Codec
open Go Go.Th

theorem slice_ext {i o l c k h : Nat} {t : Bool} {kk : IntKind} (hh : h ≤ c) : sliceSlV k (.slice i o l c k t) none (some (.int kk h)) none = some (.slice i o h c k t) := by
  simp [sliceSlV, bnds_h hh]

theorem over_byte (ys : List UInt8) (j : Nat) (b : UInt8) (h : j < ys.length) : over (bytesV ys) j [V.int .u8 (b.toNat : Nat)] = bytesV (ys.set j b) := by
  rw [over_at (by simp [bytesV_length]; omega)]
  apply List.ext_getElem?
  intro q
  simp only [bytesV, List.getElem?_map, List.getElem?_set]
  by_cases h1 : q < j
  · rw [List.append_assoc, List.getElem?_append_left (by simp; omega), List.getElem?_take, if_pos h1, if_neg (by omega), List.getElem?_map]
  · by_cases h2 : j = q
    · subst h2
      rw [List.append_assoc, List.getElem?_append_right (by simp; omega), List.getElem?_append_left (by simp; omega)]
      simp [Nat.min_eq_left (Nat.le_of_lt h), h]
    · rw [List.append_assoc, List.getElem?_append_right (by simp; omega), List.getElem?_append_right (by simp; omega), List.getElem?_drop, if_neg h2, List.getElem?_map]
      congr 2; simp; omega

/-- What is lent: a block of its own, marks behind. -/
def Lent (S : St) (B k : Nat) (x : V) (n q : Nat) (cs ms : List V) : Prop := ∃ i, x = .slice i 0 n (n + q) k true ∧ cs.length = n * k ∧ Acc S B k (.slice i 0 (n + q) (n + q) k true) (n + q) (cs ++ ms)

theorem Lent.sl {S : St} {B k : Nat} {x : V} {n q : Nat} {cs ms : List V} (h : Lent S B k x n q cs ms) : SlAt S k x n cs := by
  obtain ⟨i, rfl, hl, ha⟩ := h
  have h1 := ha.at_.1
  refine ⟨by omega, hl, .inr ⟨_, _, _, _, rfl, by omega, ?_⟩⟩
  rcases ha.at_.2.2 with ⟨h, _⟩ | ⟨i', o, c, t, h, hc, hld⟩
  · cases h
  · cases h
    by_cases hz : n * k = 0
    · rw [hz] at hl ⊢
      rw [List.length_eq_zero_iff.mp hl]; simp [St.loads]
    · have hle : n * k ≤ (n + q) * k := Nat.mul_le_mul_right _ (by omega)
      obtain ⟨vs, own, hg, h2, h3⟩ := St.loads_pos hld (by omega)
      rw [St.loads_of hg (by omega)]
      have h4 : (cs ++ ms).take (n * k) = cs := by rw [← hl, List.take_left]
      rw [h3, List.take_take, Nat.min_eq_left hle] at h4
      rw [h4]

theorem Lent.upd {D : List Nat} {S S' : St} {B k : Nat} {x : V} {n q : Nat} {cs ms : List V} (h : Lent S B k x n q cs ms) (g : Upd D S S') (hD : ∀ i ∈ x.block, i ∉ D) : Lent S' B k x n q cs ms := by
  obtain ⟨i, rfl, hl, ha⟩ := h
  exact ⟨i, rfl, hl, ha.upd g hD⟩
theorem Lent.from {S : St} {B k : Nat} {x : V} {n q : Nat} {cs ms : List V} (h : Lent S B k x n q cs ms) : ∀ i ∈ x.block, B ≤ i := by
  obtain ⟨i, rfl, hl, ha⟩ := h
  exact fun j hj => (ha.own j hj).1

/-- Bytes lent: a block of their own, two marks behind. -/
theorem lend_spec (v : V) (bs : List UInt8) (S : St) (Q : Post) (hw : S.Wf) (hv : SlAt S 1 v bs.length (bytesV bs)) (hl : bs.length ≤ 1099511627776)
    (h : ∀ S' x, Grow S S' → Lent S' S.next 1 x bs.length 2 (bytesV bs) (bytesV [165, 90]) → Q (.ret x) S') : CallA PP 10 [v] S Q := by
  refine CallA.of_body okF_ok F10_ok ?_
  have hlen := hv.len
  have e1 : IntKind.i64.wrap ((bs.length : Int) + 2) = ((bs.length + 2 : Nat) : Int) := by rw [IntKind.wrap_i64]; omega
  have e2 : IntKind.i64.wrap ((bs.length : Int) + 1) = ((bs.length + 1 : Nat) : Int) := by rw [IntKind.wrap_i64]; omega
  have hmk : mkSliceV S 1 1 [.int .u8 0] (.int .i64 ((bs.length + 2 : Nat) : Int)) (.int .i64 ((bs.length + 2 : Nat) : Int)) = some (.slice S.next 0 (bs.length + 2) (bs.length + 2) 1 true, S.new (.cells (bytesV (List.replicate (bs.length + 2) 0)) true)) := by
    unfold mkSliceV
    simp only
    rw [if_pos ⟨by omega, by omega, by omega, by omega⟩, Int.toNat_natCast, reps_zero]
  have a1 : Acc (S.new (.cells (bytesV (List.replicate (bs.length + 2) 0)) true)) S.next 1 (.slice S.next 0 (bs.length + 2) (bs.length + 2) 1 true) (bs.length + 2) (bytesV (List.replicate (bs.length + 2) 0)) :=
    Acc.fresh hw (Nat.le_refl _) (by omega) (by simp [bytesV_length]) (bytesV_ones _) true
  have u1 : Grow S (S.new (.cells (bytesV (List.replicate (bs.length + 2) 0)) true)) := (Upd.refl hw _).new _
  generalize S.new (.cells (bytesV (List.replicate (bs.length + 2) 0)) true) = S1 at hmk a1 u1
  have hv1 := hv.grow u1
  have hlen1 := hv1.len
  obtain ⟨S2, c1, a2, u2⟩ := a1.copy u1.wf hv1.src (by simp [bytesV_length]) (bytesV_ones _) (by omega)
  have hc2 : over (bytesV (List.replicate (bs.length + 2) 0)) 0 ((bytesV bs).take (min bs.length (bs.length + 2) * 1)) = bytesV (bs ++ [0, 0]) := by
    rw [Nat.min_eq_left (by omega), Nat.mul_one, List.take_of_length_le (by simp [bytesV_length]), over_at (by simp [bytesV_length]), List.take_zero, List.nil_append, ← bytesV_drop, ← bytesV_append, bytesV_length, List.drop_replicate, show bs.length + 2 - (0 + bs.length) = 2 by omega]
    rfl
  rw [hc2] at a2
  have g2 : Grow S S2 := u1.after u2 (fun j hj => by simp only [V.block, List.mem_singleton] at hj; exact .inl (by omega))
  obtain ⟨S3, p1, a3, u3⟩ := a2.put u2.wf (m := bs.length) (off := 0) (x := .int .u8 165) (by omega) (by simp [V.cells]) rfl (by simp [V.cells])
  have hc3 : over (bytesV (bs ++ [0, 0])) (bs.length * 1 + 0) (V.cells (.int .u8 165)) = bytesV (bs ++ [165, 0]) := by
    have := over_byte (bs ++ [0, 0]) bs.length 165 (by simp)
    rw [Nat.mul_one, Nat.add_zero]
    refine this.trans ?_
    congr 1
    rw [List.set_append_right _ _ (by omega), Nat.sub_self]; rfl
  rw [hc3] at a3
  have g3 : Grow S S3 := g2.after u3 (fun j hj => by simp only [V.block, List.mem_singleton] at hj; exact .inl (by omega))
  obtain ⟨S4, p2, a4, u4⟩ := a3.put u3.wf (m := bs.length + 1) (off := 0) (x := .int .u8 90) (by omega) (by simp [V.cells]) rfl (by simp [V.cells])
  have hc4 : over (bytesV (bs ++ [165, 0])) ((bs.length + 1) * 1 + 0) (V.cells (.int .u8 90)) = bytesV (bs ++ [165, 90]) := by
    have := over_byte (bs ++ [165, 0]) (bs.length + 1) 90 (by simp)
    rw [Nat.mul_one, Nat.add_zero]
    refine this.trans ?_
    congr 1
    rw [List.set_append_right _ _ (by omega), Nat.add_sub_cancel_left]; rfl
  rw [hc4] at a4
  have g4 : Grow S S4 := g3.after u4 (fun j hj => by simp only [V.block, List.mem_singleton] at hj; exact .inl (by omega))
  have hlen2 := (hv.grow g2).len
  have hlen3 := (hv.grow g3).len
  have hlen4 := (hv.grow g4).len
  simp only [V.cells, List.length_singleton] at p1 p2
  simp only [F10, go_sem, hlen, e1, hmk, hlen1, c1, hlen2, a2.at_.idx (show bs.length < bs.length + 2 by omega), p1, hlen3, e2, a3.at_.idx (show bs.length + 1 < bs.length + 2 by omega), p2, hlen4, slice_ext (show bs.length ≤ bs.length + 2 by omega)]
  rw [bytesV_append] at a4
  exact h S4 _ g4 ⟨S.next, rfl, by simp [bytesV_length], a4⟩

theorem byte_load {S : St} {v : V} {n : Nat} {bs : List UInt8} (h : SlAt S 1 v n (bytesV bs)) {m : Nat} (hm : m < n) (hb : m < bs.length) : loadV S (eltV 1 v m 0) = some (.int .u8 (bs[m].toNat : Nat)) := by
  rw [h.load hm (by omega)]
  show (bytesV bs)[m * 1 + 0]? = _
  rw [show m * 1 + 0 = m by omega]
  exact bytesV_get hb

end Go.Th.Codec
