/- Bytes given back, and compared. -/
import Derived.Test.YthimmjgpiadmbaaThCodecS6
set_option linter.unusedSimpArgs false
set_option linter.unusedVariables false
namespace Go.Th.Codec
open Go Go.Th

theorem back_spec (x v : V) (bs : List UInt8) (S : St) (Q : Post) (B : Nat) (hw : S.Wf) (hx : Lent S B 1 x bs.length 2 (bytesV bs) (bytesV [165, 90])) (hv : SlAt S 1 v bs.length (bytesV bs)) (hl : bs.length ≤ 1099511627776)
    (h : ∀ S', Upd x.block S S' → Q (.ret (.bool true)) S') : CallA PP 13 [x, v] S Q := by
  refine CallA.of_body okF_ok F13_ok ?_
  have hlen := hv.len
  have hxs := hx.sl
  have hxl := hxs.len
  obtain ⟨i, rfl, hcl, ha⟩ := hx
  rw [← bytesV_append] at ha
  have e1 : IntKind.i64.wrap ((bs.length : Int) + 2) = ((bs.length + 2 : Nat) : Int) := by rw [IntKind.wrap_i64]; omega
  have e2 : IntKind.i64.wrap ((bs.length : Int) + 1) = ((bs.length + 1 : Nat) : Int) := by rw [IntKind.wrap_i64]; omega
  have hat := ha.at_
  have l1 : loadV S (eltV 1 (.slice i 0 (bs.length + 2) (bs.length + 2) 1 true) bs.length 0) = some (.int .u8 165) := by
    rw [hat.load (m := bs.length) (off := 0) (by omega) (by omega), Nat.mul_one, Nat.add_zero, bytesV_get (by simp)]
    simp
  have l2 : loadV S (eltV 1 (.slice i 0 (bs.length + 2) (bs.length + 2) 1 true) (bs.length + 1) 0) = some (.int .u8 90) := by
    rw [hat.load (m := bs.length + 1) (off := 0) (by omega) (by omega), Nat.mul_one, Nat.add_zero, bytesV_get (by simp)]
    simp
  have hle := hv.le
  simp only [F13, go_sem, hlen, e1, slice_ext (show bs.length + 2 ≤ bs.length + 2 by omega), hat.idx (show bs.length < bs.length + 2 by omega), l1, e2, hat.idx (show bs.length + 1 < bs.length + 2 by omega), l2]
  refine LoopA.ind okF_ok (fun k fr S' => S' = S ∧ fr.length = 62 ∧ G fr 0 = .slice i 0 bs.length (bs.length + 2) 1 true ∧ G fr 1 = v ∧ G fr 5 = .slice i 0 (bs.length + 2) (bs.length + 2) 1 true ∧ G fr 6 = .bool true ∧ ∃ j : Nat, G fr 7 = .int .i64 j ∧ j + k = bs.length) ?_ bs.length _ _ ⟨rfl, rfl, rfl, rfl, rfl, rfl, 0, rfl, by omega⟩
  rintro k fr S' ⟨rfl, hfl, h0, h1, h5, h6, j, h7, hj⟩
  simp only [go_sem, h0, h1, h5, h6, h7, hfl, hlen]
  by_cases hlt : j < bs.length
  · have hlt' : ((j : Int) < bs.length) := by omega
    have hld := byte_load hv hlt hlt
    have hldx := byte_load hxs hlt hlt
    simp only [hlt', go_sem, h0, h1, h5, h6, h7, hfl, hlen, hv.idx hlt, hxs.idx hlt, hld, hldx, wrap_nat (show j < 4611686018427387905 by omega)]
    exact ⟨k - 1, by omega, j + 1, rfl, by omega⟩
  · have hlt' : ¬ ((j : Int) < bs.length) := by omega
    simp only [hlt', go_sem, h0, h1, h5, h6, h7, hfl, hlen]
    refine LoopA.ind okF_ok (fun k fr S2 => fr.length = 62 ∧ G fr 5 = .slice i 0 (bs.length + 2) (bs.length + 2) 1 true ∧ G fr 6 = .bool true ∧ ∃ (j : Nat) (ys : List UInt8), G fr 8 = .int .i64 j ∧ j + k = bs.length + 2 ∧ ys.length = bs.length + 2 ∧ Acc S2 B 1 (.slice i 0 (bs.length + 2) (bs.length + 2) 1 true) (bs.length + 2) (bytesV ys) ∧ Upd [i] S' S2) ?_ (bs.length + 2) _ _ ?_
    · rintro k fr S2 ⟨hfl, h5, h6, j, ys, h8, hj, hys, ha2, hu⟩
      simp only [go_sem, h5, h6, h8, hfl, ha2.at_.len]
      by_cases hlt2 : j < bs.length + 2
      · have hlt2' : ((j : Int) < ((bs.length + 2 : Nat) : Int)) := by omega
        have hld := byte_load ha2.at_ hlt2 (show j < ys.length by omega)
        obtain ⟨S3, p1, a3, u3⟩ := ha2.put hu.wf (m := j) (off := 0) (x := .int .u8 ((byteZ (((ys[j]'(by omega)).toNat : Int) + 77)).toNat : Nat)) hlt2 (by simp [V.cells]) rfl (by simp [V.cells])
        have hc := over_byte ys j (byteZ (((ys[j]'(by omega)).toNat : Int) + 77)) (by omega)
        rw [Nat.mul_one, Nat.add_zero] at a3
        have a3' : Acc S3 B 1 (.slice i 0 (bs.length + 2) (bs.length + 2) 1 true) (bs.length + 2) (bytesV (ys.set j (byteZ (((ys[j]'(by omega)).toNat : Int) + 77)))) := by
          rw [← hc]; exact a3
        simp only [V.cells, List.length_singleton] at p1
        simp only [hlt2', go_sem, h5, h6, h8, hfl, ha2.at_.idx hlt2, hld, wrap_byte, p1, wrap_nat (show j < 4611686018427387905 by omega)]
        exact ⟨k - 1, by omega, j + 1, _, rfl, by omega, by simp [hys], a3', hu.trans u3⟩
      · have hlt2' : ¬ ((j : Int) < ((bs.length + 2 : Nat) : Int)) := by omega
        simp only [hlt2', go_sem, h5, h6, h8, hfl]
        exact h S2 hu
    · simp only [go_sem, h5, h6, hfl]
      exact ⟨0, _, rfl, by omega, by simp, ha, Upd.refl hw _⟩

theorem same_spec (a b : V) (xs ys : List UInt8) (S : St) (Q : Post) (ha : SlAt S 1 a xs.length (bytesV xs)) (hb : SlAt S 1 b ys.length (bytesV ys)) (h : Q (.ret (.bool (decide (xs = ys)))) S) : CallA PP 16 [a, b] S Q := by
  refine CallA.of_body okF_ok F16_ok ?_
  have hla := ha.len
  have hlb := hb.len
  have hle := ha.le
  simp only [F16, go_sem, hla, hlb]
  by_cases hl : xs.length = ys.length
  · have hl' : ((xs.length : Int) = ys.length) := by omega
    simp only [hl', go_sem]
    refine LoopA.ind okF_ok (fun k fr S' => S' = S ∧ fr.length = 26 ∧ G fr 0 = a ∧ G fr 1 = b ∧ ∃ j : Nat, G fr 5 = .int .i64 j ∧ j + k = xs.length ∧ xs.take j = ys.take j) ?_ xs.length _ _ ⟨rfl, rfl, rfl, rfl, 0, rfl, by omega, rfl⟩
    rintro k fr S' ⟨rfl, hfl, h0, h1, j, h5, hj, heq⟩
    simp only [go_sem, h0, h1, h5, hfl, hla]
    by_cases hlt : j < xs.length
    · have hlt' : ((j : Int) < xs.length) := by omega
      have hlt2 : j < ys.length := by omega
      have hlda := ha.load (m := j) (off := 0) hlt (by omega)
      rw [Nat.mul_one, Nat.add_zero, bytesV_get hlt] at hlda
      have hldb := hb.load (m := j) (off := 0) hlt2 (by omega)
      rw [Nat.mul_one, Nat.add_zero, bytesV_get hlt2] at hldb
      by_cases he : xs[j] = ys[j]
      · have he' : ((xs[j].toNat : Nat) : Int) = (ys[j].toNat : Nat) := by rw [he]
        rw [he'] at hlda
        simp only [hlt', go_sem, h0, h1, h5, hfl, hla, ha.idx hlt, hb.idx hlt2, hlda, hldb, wrap_nat (show j < 4611686018427387905 by omega)]
        refine ⟨k - 1, by omega, j + 1, rfl, by omega, ?_⟩
        rw [List.take_add_one, List.take_add_one, heq, List.getElem?_eq_getElem hlt, List.getElem?_eq_getElem hlt2, he]
      · have he' : ¬ ((xs[j].toNat : Nat) : Int) = (ys[j].toNat : Nat) := fun e => he (UInt8.toNat_inj.mp (by omega))
        have hne : ¬ xs = ys := fun e => he (by subst e; rfl)
        simp only [hlt', go_sem, h0, h1, h5, hfl, hla, ha.idx hlt, hb.idx hlt2, hlda, hldb, he']
        simpa [hne] using h
    · have hlt' : ¬ ((j : Int) < xs.length) := by omega
      have hxy : xs = ys := by
        have h1 := List.take_of_length_le (l := xs) (i := j) (by omega)
        have h2 := List.take_of_length_le (l := ys) (i := j) (by omega)
        rw [← h1, ← h2, heq]
      simp only [hlt', go_sem, h0, h1, h5, hfl]
      simpa [hxy] using h
  · have hl' : ¬ ((xs.length : Int) = ys.length) := by omega
    have hne : ¬ xs = ys := fun e => hl (by rw [e])
    simp only [hl', go_sem]
    simpa [hne] using h

end Go.Th.Codec
