/- Codec: a text that is read bit by bit. -/
import Derived.Test.YthimmjgpiadmbaaThCodecS2
set_option linter.unusedSimpArgs false
set_option linter.unusedVariables false
namespace Go.Th.Codec
open Go Go.Th

/-! ## cells of an object -/
theorem load_at {S : St} {i o : Nat} {cs : List V} {own : Bool} (h : S.get i = some (.cells cs own)) : loadV S (.ptr i o) = cs[o]? := by
  simp only [loadV, St.load1, h]
theorem store_at {S : St} {i o : Nat} {cs : List V} {v : V} (h : S.get i = some (.cells cs true)) (ho : o < cs.length) (hv : v.one = true) : storeV S 1 (.ptr i o) v = some (S.put i (some (.cells (cs.set o v) true))) := by
  have hc : v.cells = [v] := by cases v <;> simp_all [V.one, V.cells]
  have hov : over cs o [v] = cs.set o v := by
    rw [over_at (by simp; omega)]
    apply List.ext_getElem?
    intro j
    rw [List.getElem?_set, List.append_assoc]
    by_cases h1 : j < o
    · rw [List.getElem?_append_left (by simp; omega), List.getElem?_take, if_pos h1, if_neg (by omega)]
    · by_cases h2 : o = j
      · subst h2
        rw [List.getElem?_append_right (by simp; omega), List.getElem?_append_left (by simp; omega)]
        simp [Nat.min_eq_left (Nat.le_of_lt ho), ho]
      · rw [List.getElem?_append_right (by simp; omega), List.getElem?_append_right (by simp; omega), List.getElem?_drop, if_neg h2]
        congr 1; simp; omega
  simp only [storeV, hc, List.length_singleton, if_true, St.stores, h]
  rw [if_pos (by simp [hv]; omega), hov]

/-- What is cut off: what is left, whether it was too much, the bytes. -/
def rd (s : List UInt8) (bad : Bool) (n : Nat) : List UInt8 × Bool × List UInt8 :=
  if bad = true ∨ s.length < n then (s, true, List.replicate n 0) else (s.drop n, false, s.take n)

theorem rd_length (s bad n) : (rd s bad n).2.2.length = n := by
  unfold rd; split
  · simp
  · rename_i h; simp; omega

def rdCells (s : List UInt8) (bad : Bool) : List V := [.str s, .bool bad]

theorem reps_zero (n : Nat) : reps n [V.int .u8 0] = bytesV (List.replicate n 0) := by
  induction n with
  | zero => rfl
  | succ n ih =>
    simp only [reps, bytesV, List.replicate_succ, List.flatten_cons, List.map_cons, List.singleton_append] at ih ⊢
    rw [ih]; rfl

theorem cut_spec (i n : Nat) (s : List UInt8) (bad : Bool) (S : St) (Q : Post) (hw : S.Wf) (hg : S.get i = some (.cells (rdCells s bad) true)) (hn : n ≤ 1099511627776)
    (h : ∀ S' v, Upd [i] S S' → S'.get i = some (.cells (rdCells (rd s bad n).1 (rd s bad n).2.1) true) → Acc S' S.next 1 v n (bytesV (rd s bad n).2.2) → Q (.ret v) S') : CallA PP 37 [.ptr i 0, .int .i64 n] S Q := by
  refine CallA.of_body okF_ok F37_ok ?_
  have hi := hw.lt hg
  have hmk : mkSliceV S 1 1 [.int .u8 0] (.int .i64 n) (.int .i64 n) = some (.slice S.next 0 n n 1 true, S.new (.cells (bytesV (List.replicate n 0)) true)) := by
    unfold mkSliceV
    simp only
    rw [if_pos ⟨by omega, by omega, by omega, by omega⟩]
    simp [reps_zero]
  have a1 : Acc (S.new (.cells (bytesV (List.replicate n 0)) true)) S.next 1 (.slice S.next 0 n n 1 true) n (bytesV (List.replicate n 0)) := Acc.fresh hw (Nat.le_refl _) (by omega) (by simp [bytesV_length]) (bytesV_ones _) true
  have u1 : Upd [i] S (S.new (.cells (bytesV (List.replicate n 0)) true)) := (Upd.refl hw _).new _
  have g1 : (S.new (.cells (bytesV (List.replicate n 0)) true)).get i = some (.cells (rdCells s bad) true) := by
    rw [St.get_new, if_neg (by omega)]; exact hg
  generalize hS1 : S.new (.cells (bytesV (List.replicate n 0)) true) = S1 at hmk a1 u1 g1
  have hi1 := u1.wf.lt g1
  have l0 := load_at (o := 0) g1
  have l1 := load_at (o := 1) g1
  have s1 : ∀ b, storeV S1 1 (.ptr i 1) (.bool b) = some (S1.put i (some (.cells (rdCells s b) true))) := fun b => store_at g1 (by simp [rdCells]) rfl
  have hbl : ∀ b, loadV (S1.put i (some (.cells (rdCells s b) true))) (.ptr i 1) = some (.bool b) := fun b => load_at (cs := rdCells s b) (own := true) (by simp)
  have hsl : ∀ b, loadV (S1.put i (some (.cells (rdCells s b) true))) (.ptr i 0) = some (.str s) := fun b => load_at (cs := rdCells s b) (own := true) (by simp)
  simp only [rdCells, List.getElem?_cons_zero, List.getElem?_cons_succ] at l0 l1
  simp only [F37, go_sem, hmk, l1, l0]
  by_cases hb : bad = true ∨ s.length < n
  · have hr : rd s bad n = (s, true, List.replicate n 0) := by simp only [rd, if_pos hb]
    simp only [hr] at h
    have fin : Q (.ret (.slice S.next 0 n n 1 true)) (S1.put i (some (.cells (rdCells s true) true))) := by
      refine h _ _ (u1.put hi1 (.inr (by simp)) _) (by simp) (a1.upd ((Upd.refl u1.wf [i]).put hi1 (.inr (by simp)) _) ?_)
      simp only [V.block, List.mem_singleton]; rintro j rfl; omega
    by_cases hbad : bad = true
    · subst hbad
      simp only [go_sem, s1, hbl]
      exact fin
    · have hbad' : bad = false := by simpa using hbad
      subst hbad'
      have hlt : ((s.length : Int) < n) := by
        rcases hb with h' | h'
        · cases h'
        · omega
      simp only [go_sem, l0, hlt, s1, hbl]
      exact fin
  · have hr : rd s bad n = (s.drop n, false, s.take n) := by simp only [rd, if_neg hb]
    simp only [hr] at h
    have hbad : bad = false := by cases bad <;> simp_all
    have hlen : n ≤ s.length := by omega
    subst hbad
    have hlt : ¬ ((s.length : Int) < n) := by omega
    have u2 : Upd [i] S1 (S1.put i (some (.cells (rdCells s false) true))) := (Upd.refl u1.wf _).put hi1 (.inr (by simp)) _
    have a2 := a1.upd u2 (by simp only [V.block, List.mem_singleton]; rintro j rfl; omega)
    have g2 : (S1.put i (some (.cells (rdCells s false) true))).get i = some (.cells (rdCells s false) true) := by simp
    generalize hS2 : S1.put i (some (.cells (rdCells s false) true)) = S2 at u2 a2 g2
    have hbl2 : loadV S2 (.ptr i 1) = some (.bool false) := load_at g2
    have hsl2 : loadV S2 (.ptr i 0) = some (.str s) := load_at g2
    obtain ⟨S3, e1, a3, u3⟩ := a2.copy u2.wf (y := .str s) (m := s.length) (ds := bytesV s) rfl (by simp [bytesV_length]) (bytesV_ones _) (by omega)
    have hni : i ∉ (V.slice S.next 0 n n 1 true).block := by simp only [V.block, List.mem_singleton]; omega
    have g3 : S3.get i = some (.cells (rdCells s false) true) := u3.get g2 hni
    have hsl3 : loadV S3 (.ptr i 0) = some (.str s) := load_at g3
    have hst3 : storeV S3 1 (.ptr i 0) (.str (s.drop n)) = some (S3.put i (some (.cells (rdCells (s.drop n) false) true))) := store_at g3 (by simp [rdCells]) rfl
    simp only [go_sem, l0, hlt, s1, hS2, hbl2, hsl2, e1, hsl3, sliceStr_from hlen, hst3]
    have hi3 := u3.wf.lt g3
    have hcs : over (bytesV (List.replicate n 0)) 0 ((bytesV s).take (min s.length n * 1)) = bytesV (s.take n) := by
      have hdl : ((bytesV s).take n).length = n := by rw [List.length_take, bytesV_length]; omega
      rw [Nat.min_eq_right hlen, Nat.mul_one, over_at (by rw [hdl]; simp [bytesV_length]), hdl, List.take_zero, Nat.zero_add, List.drop_of_length_le (by simp [bytesV_length]), List.nil_append, List.append_nil, bytesV_take]
    rw [hcs] at a3
    refine h _ _ ?_ (by simp) (a3.upd ((Upd.refl u3.wf [i]).put hi3 (.inr (by simp)) _) (by simp only [V.block, List.mem_singleton]; rintro j rfl; omega))
    have hu := (u1.trans u2).after u3 (fun j hj => by simp only [V.block, List.mem_singleton] at hj; exact .inl (by omega))
    exact hu.put hi3 (.inr (by simp)) _

theorem num_take_succ {bs : List UInt8} {j : Nat} (h : j < bs.length) : num (bs.take (j + 1)) = num (bs.take j) + 256 ^ j * bs[j].toNat := by
  rw [List.take_add_one, num_append, List.getElem?_eq_getElem h, List.length_take, Nat.min_eq_left (by omega)]
  simp [num]

theorem num_take_lt (bs : List UInt8) (j : Nat) : num (bs.take j) < 256 ^ j := by
  refine Nat.lt_of_lt_of_le (num_lt _) (Nat.pow_le_pow_right (by omega) ?_)
  rw [List.length_take]; exact Nat.min_le_left _ _

theorem pow_le6 {j : Nat} (h : j ≤ 6) : 256 ^ j ≤ 281474976710656 := by
  have h1 : 256 ^ j ≤ 256 ^ 6 := Nat.pow_le_pow_right (by omega) h
  have h2 : (256 ^ 6 : Nat) = 281474976710656 := by decide
  omega

theorem shl_byte {x j : Nat} (hx : x < 256) (hj : j < 7) : IntKind.i64.wrap ((x : Int) * 2 ^ (min (Int.toNat ((8 * j : Nat) : Int)) 64)) = ((256 ^ j * x : Nat) : Int) := by
  have h1 : min (Int.toNat ((8 * j : Nat) : Int)) 64 = 8 * j := by omega
  rw [h1]
  have h2 : (x : Int) * 2 ^ (8 * j) = ((256 ^ j * x : Nat) : Int) := by
    rw [Int.natCast_mul, Int.mul_comm, Int.pow_mul]; simp
  rw [h2]
  refine i64_nat ?_
  have := pow_le6 (j := j) (by omega)
  have h3 : 256 ^ j * x ≤ 256 ^ j * 255 := Nat.mul_le_mul_left _ (by omega)
  omega

theorem or_byte {a x j : Nat} (ha : a < 256 ^ j) (hx : x < 256) (hj : j < 7) : intBits .or .i64 a ((256 ^ j * x : Nat) : Int) = ((a + 256 ^ j * x : Nat) : Int) := by
  have h1 := pow_le6 (j := j) (by omega)
  have h3 : 256 ^ j * x ≤ 256 ^ j * 255 := Nat.mul_le_mul_left _ (by omega)
  rw [or_i64 (by omega) (by omega)]
  have e : 256 ^ j = 2 ^ (8 * j) := by rw [Nat.pow_mul]
  rw [e] at ha ⊢
  have := Nat.two_pow_add_eq_or_of_lt ha x
  rw [Nat.or_comm, ← this, Nat.add_comm]

theorem readNumber_spec (i n : Nat) (s : List UInt8) (bad : Bool) (S : St) (Q : Post) (hw : S.Wf) (hg : S.get i = some (.cells (rdCells s bad) true)) (hn : n ≤ 7)
    (h : ∀ S', Upd [i] S S' → S'.get i = some (.cells (rdCells (rd s bad n).1 (rd s bad n).2.1) true) → Q (.ret (.int .i64 (num (rd s bad n).2.2 : Nat))) S') : CallA PP 36 [.ptr i 0, .int .i64 n] S Q := by
  refine CallA.of_body okF_ok F36_ok ?_
  simp only [F36, go_sem]
  refine cut_spec i n s bad S _ hw hg (by omega) ?_
  intro S1 v u1 g1 a1
  have hrl := rd_length s bad n
  have hv := a1.at_
  generalize (rd s bad n).2.2 = bs at hrl hv h
  subst hrl
  have hlen := hv.len
  simp only [go_sem, hlen]
  refine LoopA.ind okF_ok (fun k fr S' => S' = S1 ∧ fr.length = 26 ∧ G fr 10 = v ∧ G fr 11 = .int .i64 bs.length ∧ ∃ j : Nat, G fr 12 = .int .i64 j ∧ j + k = bs.length ∧ G fr 5 = .int .i64 (num (bs.take j) : Nat)) ?_ bs.length _ _ ⟨rfl, rfl, rfl, rfl, 0, rfl, by omega, rfl⟩
  rintro k fr S' ⟨rfl, hfl, h10, h11, j, h12, hj, h5⟩
  simp only [go_sem, h10, h11, h12, h5, hfl]
  by_cases hlt : j < bs.length
  · have hlt' : ((j : Int) < bs.length) := by omega
    have hld := hv.load (m := j) (off := 0) hlt (by omega)
    rw [Nat.mul_one, Nat.add_zero, bytesV_get hlt] at hld
    have hb := byte_lt bs[j]
    have e1 : IntKind.i64.wrap (8 * (j : Int)) = ((8 * j : Nat) : Int) := by rw [IntKind.wrap_i64]; omega
    have e2 : ¬ (((8 * j : Nat) : Int) < 0) := by omega
    simp only [hlt', go_sem, h10, h11, h12, h5, hfl, hv.idx hlt, hld, i64_nat (show bs[j].toNat < 9223372036854775808 by omega), e1, e2, shl_byte hb (show j < 7 by omega),
      or_byte (num_take_lt bs j) hb (show j < 7 by omega), wrap_nat (show j < 4611686018427387905 by omega)]
    refine ⟨k - 1, by omega, j + 1, rfl, by omega, ?_⟩
    rw [num_take_succ hlt]
  · have hlt' : ¬ ((j : Int) < bs.length) := by omega
    have hjn : j = bs.length := by omega
    rw [hjn, List.take_length] at h5
    simp only [hlt', go_sem, hfl, h5]
    exact h S' u1 g1

/-- The number of n bytes from a place on. -/
theorem get_spec (s : List UInt8) (at_ n : Nat) (S : St) (Q : Post) (hn : n ≤ 7) (hl : at_ + n ≤ s.length) (hs : s.length ≤ 1099511627776) (h : Q (.ret (.int .i64 (num ((s.drop at_).take n) : Nat))) S) : CallA PP 38 [.str s, .int .i64 at_, .int .i64 n] S Q := by
  refine CallA.of_body okF_ok F38_ok ?_
  have e0 : IntKind.i64.wrap ((n : Int) - 1) = (n : Int) - 1 := i64_int (by omega) (by omega)
  simp only [F38, go_sem, e0]
  refine LoopA.ind okF_ok (fun k fr S' => S' = S ∧ fr.length = 25 ∧ G fr 0 = .str s ∧ G fr 1 = .int .i64 at_ ∧ k ≤ n ∧ G fr 8 = .int .i64 ((k : Int) - 1) ∧ G fr 7 = .int .i64 (num ((s.drop (at_ + k)).take (n - k)) : Nat)) ?_ n _ _ ?_
  · rintro k fr S' ⟨rfl, hfl, h0, h1, hk, h8, h7⟩
    simp only [go_sem, h0, h1, h8, h7, hfl]
    by_cases hk0 : 0 < k
    · have hk' : (0 : Int) ≤ (k : Int) - 1 := by omega
      have hlt : at_ + (k - 1) < s.length := by omega
      have e1 : IntKind.i64.wrap ((at_ : Int) + ((k : Int) - 1)) = ((at_ + (k - 1) : Nat) : Int) := by rw [IntKind.wrap_i64]; omega
      have e2 : idxStrV (.str s) (.int .i64 ((at_ + (k - 1) : Nat) : Int)) = some (.int .u8 (s[at_ + (k - 1)].toNat : Nat)) := by
        simp only [idxStrV]
        rw [if_pos (by omega), Int.toNat_natCast, List.getElem?_eq_getElem hlt]; rfl
      have hb := byte_lt s[at_ + (k - 1)]
      have hnum := num_lt ((s.drop (at_ + k)).take (n - k))
      have hpl : ((s.drop (at_ + k)).take (n - k)).length ≤ 6 := by rw [List.length_take]; omega
      have hp := Nat.pow_le_pow_right (n := 256) (by omega) hpl
      have hp6 : (256 ^ 6 : Nat) = 281474976710656 := by decide
      have e3 : IntKind.i64.wrap (256 * ((num ((s.drop (at_ + k)).take (n - k)) : Nat) : Int)) = ((256 * num ((s.drop (at_ + k)).take (n - k)) : Nat) : Int) := by rw [IntKind.wrap_i64]; omega
      have e4 : IntKind.i64.wrap (((256 * num ((s.drop (at_ + k)).take (n - k)) : Nat) : Int) + (s[at_ + (k - 1)].toNat : Nat)) = ((s[at_ + (k - 1)].toNat + 256 * num ((s.drop (at_ + k)).take (n - k)) : Nat) : Int) := by rw [IntKind.wrap_i64]; omega
      have e5 : IntKind.i64.wrap ((k : Int) - 1 - 1) = (k : Int) - 1 - 1 := i64_int (by omega) (by omega)
      simp only [hk', go_sem, h0, h1, h8, h7, hfl, e1, e2, e3, i64_nat (show s[at_ + (k - 1)].toNat < 9223372036854775808 by omega), e4, e5]
      refine ⟨k - 1, by omega, by omega, by congr 1; omega, ?_⟩
      congr 2
      have hd : (s.drop (at_ + (k - 1))) = s[at_ + (k - 1)] :: s.drop (at_ + k) := by
        rw [List.drop_eq_getElem_cons hlt]; congr 2; omega
      rw [hd, show n - (k - 1) = (n - k) + 1 by omega, List.take_succ_cons]; rfl
    · have hk' : ¬ ((0 : Int) ≤ (k : Int) - 1) := by omega
      have hk0 : k = 0 := by omega
      subst hk0
      simp only [hk', go_sem, h7, hfl]
      simpa using h
  · simp only [go_sem]
    simp [num]

end Go.Th.Codec
