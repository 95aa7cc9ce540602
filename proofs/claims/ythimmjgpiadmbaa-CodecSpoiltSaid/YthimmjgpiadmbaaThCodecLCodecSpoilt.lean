/- The law of spoilt records, over a store. -/
import Derived.Test.YthimmjgpiadmbaaThCodecU
import Derived.Test.YthimmjgpiadmbaaThCodecS6
import Derived.Test.YthimmjgpiadmbaaThCodecP0
import Derived.Test.YthimmjgpiadmbaaThQ4
set_option linter.unusedSimpArgs false
set_option linter.unusedVariables false
namespace Go.Th.Codec
open Go Go.Th

theorem awake_spec5 (S : St) (Q : Post) (h : Q (.ret (.bool true)) S) : CallA PP 15 [] S Q :=
  CallA.run okF_ok tabF_ok 1000 (.ret (.bool true)) (by kernel_rfl) rfl rfl h

def law5_shapes : List Sh := [Sh.int IntKind.i64, Sh.str, Sh.slice 1 1 (Sh.int IntKind.u8), Sh.int IntKind.i64, Sh.int IntKind.u8]

theorem xor_u8 {a b : Nat} (ha : a < 256) (hb : b < 256) : intBits .xor .u8 a b = ((a ^^^ b : Nat) : Int) := by
  have h : a ^^^ b < 256 := Nat.xor_lt_two_pow (n := 8) ha hb
  show IntKind.u8.wrap ((BitVec.ofInt 8 (a : Int) ^^^ BitVec.ofInt 8 (b : Int)).toNat : Int) = _
  rw [ofInt_nat, ofInt_nat, BitVec.toNat_xor, BitVec.toNat_ofNat, BitVec.toNat_ofNat]
  rw [Nat.mod_eq_of_lt (show a < 2 ^ 8 from ha), Nat.mod_eq_of_lt (show b < 2 ^ 8 from hb)]
  exact u8_bits h

theorem dec_rec {k : Int} {s t : List UInt8} (hk : 1 ≤ k ∧ k ≤ 255) (hs : s.length ≤ 262144) : dec (rec k s ++ t) = (k, s, ((9 + s.length : Nat) : Int), 0) := by
  have hb := byteZ_toNat k
  have e : k = ((byteZ k).toNat : Int) := by omega
  have h1 : (rec k s ++ t).take 1 = [byteZ k] := by simp [rec, le]
  have h2 : ((rec k s ++ t).drop 1).take 4 = le 4 s.length := by simp [rec, le]
  have h4 : ((rec k s ++ t).drop 5).take 4 = le 4 (crc (byteZ k :: s) : Nat) := by simp [rec, le]
  have h2' : num (le 4 (s.length : Int)) = s.length := by have := num_le 4 s.length; omega
  have h3 : decBody (rec k s ++ t) = s := by
    unfold decBody
    rw [h2, h2']
    simp [rec, le]
  rw [dec_of (n := 0) (m := 0) h1 h2 h3 h4 (by omega) hs (by rw [List.length_append, rec_length]; omega), if_pos, ← e]
  have := num_le 4 (crc (byteZ k :: s) : Nat)
  have := crc_lt (byteZ k :: s)
  omega

theorem num4_le {n : Nat} (h : n < 4294967296) : num (le 4 (n : Int)) = n := by have := num_le 4 n; omega

/-- A record with another byte. -/
theorem dec_spoilt {k : Int} {s t : List UInt8} {i : Nat} {b : UInt8} (hk : 1 ≤ k ∧ k ≤ 255) (hs : s.length ≤ 262144) (hi : i < 9 + s.length) (hi4 : ¬ (1 ≤ i ∧ i ≤ 4))
    (hb : (rec k s ++ t)[i]? ≠ some b) : (dec ((rec k s ++ t).set i b)).2.2.2 = 162 ∨ i = 0 ∧ (dec ((rec k s ++ t).set i b)).2.2.2 = 160 := by
  have hlen : (rec k s ++ t).length = 9 + s.length + t.length := by rw [List.length_append, rec_length]
  have hz := byteZ_toNat k
  have hc := crc_lt (byteZ k :: s)
  have h2' : num (le 4 (s.length : Int)) = s.length := num4_le (by omega)
  rcases Nat.lt_or_ge i 1 with h0 | h0
  · have hi0 : i = 0 := by omega
    subst hi0
    have ex : (rec k s ++ t).set 0 b = b :: (le 4 s.length ++ (le 4 (crc (byteZ k :: s) : Nat) ++ s) ++ t) := by simp [rec, le]
    have hne : byteZ k ≠ b := by
      intro e; apply hb; rw [← e]; simp [rec, le]
    rw [ex]
    by_cases hb0 : b = 0
    · subst hb0
      refine .inr ⟨rfl, ?_⟩
      rw [dec, if_neg (by simp [le]), if_pos (by simp [num])]
    · have hbn : b.toNat ≠ 0 := fun e => hb0 (UInt8.toNat_inj.mp e)
      have hbb : byteZ (b.toNat : Nat) = b := by
        apply UInt8.toNat_inj.mp
        have := byteZ_toNat (b.toNat : Nat)
        have := byte_lt b
        omega
      have h1 : (b :: (le 4 s.length ++ (le 4 (crc (byteZ k :: s) : Nat) ++ s) ++ t)).take 1 = [byteZ (b.toNat : Nat)] := by simp [hbb]
      have h2 : ((b :: (le 4 s.length ++ (le 4 (crc (byteZ k :: s) : Nat) ++ s) ++ t)).drop 1).take 4 = le 4 s.length := by simp [le]
      have h4 : ((b :: (le 4 s.length ++ (le 4 (crc (byteZ k :: s) : Nat) ++ s) ++ t)).drop 5).take 4 = le 4 (crc (byteZ k :: s) : Nat) := by simp [le]
      have h3 : decBody (b :: (le 4 s.length ++ (le 4 (crc (byteZ k :: s) : Nat) ++ s) ++ t)) = s := by
        unfold decBody; rw [h2, h2']; simp [le]
      rw [dec_of (n := 0) (m := 0) h1 h2 h3 h4 (by rw [hbb]; exact hbn) hs (by simp [le]; omega), if_neg]
      · exact .inl rfl
      · rw [hbb, num4_le hc]
        intro e
        exact hne (crc_byte (xs := []) e).symm
  · rcases Nat.lt_or_ge i 9 with h9 | h9
    · obtain ⟨j, rfl, hj⟩ : ∃ j, i = 5 + j ∧ j < 4 := ⟨i - 5, by omega, by omega⟩
      have ex : (rec k s ++ t).set (5 + j) b = byteZ k :: (le 4 s.length ++ (((le 4 (crc (byteZ k :: s) : Nat)).set j b ++ s) ++ t)) := by
        rcases (show j = 0 ∨ j = 1 ∨ j = 2 ∨ j = 3 by omega) with rfl | rfl | rfl | rfl <;> simp [rec, le]
      have hg : (rec k s ++ t)[5 + j]? = (le 4 (crc (byteZ k :: s) : Nat))[j]? := by
        rcases (show j = 0 ∨ j = 1 ∨ j = 2 ∨ j = 3 by omega) with rfl | rfl | rfl | rfl <;> simp [rec, le]
      rw [hg] at hb
      rw [ex]
      have hl4 : ((le 4 (crc (byteZ k :: s) : Nat)).set j b).length = 4 := by rw [List.length_set, le_length]
      generalize hq : (le 4 (crc (byteZ k :: s) : Nat)).set j b = q at hl4
      have h1 : (byteZ k :: (le 4 s.length ++ ((q ++ s) ++ t))).take 1 = [byteZ k] := by simp
      have h2 : ((byteZ k :: (le 4 s.length ++ ((q ++ s) ++ t))).drop 1).take 4 = le 4 s.length := by simp [le]
      have h4 : ((byteZ k :: (le 4 s.length ++ ((q ++ s) ++ t))).drop 5).take 4 = q := by simp [le, hl4]
      have h3 : decBody (byteZ k :: (le 4 s.length ++ ((q ++ s) ++ t))) = s := by
        unfold decBody; rw [h2, h2']; simp [le, hl4]
      left
      rw [dec_of (n := 0) (m := 0) h1 h2 h3 h4 (by omega) hs (by simp [le, hl4]; omega), if_neg]
      intro e
      have : q = le 4 (crc (byteZ k :: s) : Nat) := num_inj (by rw [hl4, le_length]) (by rw [← e, num4_le hc])
      rw [this] at hq
      apply hb
      rw [← hq, List.getElem?_set_self (by rw [le_length]; omega)]
    · obtain ⟨j, rfl, hj⟩ : ∃ j, i = 9 + j ∧ j < s.length := ⟨i - 9, by omega, by omega⟩
      have hpl : (le 1 k ++ (le 4 (s.length : Int) ++ le 4 (crc (byteZ k :: s) : Nat))).length = 9 := by simp [le_length]
      have er : rec k s ++ t = (le 1 k ++ (le 4 (s.length : Int) ++ le 4 (crc (byteZ k :: s) : Nat))) ++ (s ++ t) := by simp [rec]
      have ex : (rec k s ++ t).set (9 + j) b = byteZ k :: (le 4 s.length ++ ((le 4 (crc (byteZ k :: s) : Nat) ++ s.set j b) ++ t)) := by
        rw [er, List.set_append_right _ _ (by omega), hpl, Nat.add_sub_cancel_left, List.set_append_left _ _ hj]
        simp [le]
      have hg : (rec k s ++ t)[9 + j]? = s[j]? := by
        rw [er, List.getElem?_append_right (by omega), hpl, Nat.add_sub_cancel_left, List.getElem?_append_left hj]
      rw [hg] at hb
      rw [ex]
      have hsl : (s.set j b).length = s.length := List.length_set
      have h1 : (byteZ k :: (le 4 s.length ++ ((le 4 (crc (byteZ k :: s) : Nat) ++ s.set j b) ++ t))).take 1 = [byteZ k] := by simp
      have h2 : ((byteZ k :: (le 4 s.length ++ ((le 4 (crc (byteZ k :: s) : Nat) ++ s.set j b) ++ t))).drop 1).take 4 = le 4 (s.set j b).length := by rw [hsl]; simp [le]
      have h4 : ((byteZ k :: (le 4 s.length ++ ((le 4 (crc (byteZ k :: s) : Nat) ++ s.set j b) ++ t))).drop 5).take 4 = le 4 (crc (byteZ k :: s) : Nat) := by simp [le]
      have h3 : decBody (byteZ k :: (le 4 s.length ++ ((le 4 (crc (byteZ k :: s) : Nat) ++ s.set j b) ++ t))) = s.set j b := by
        unfold decBody; rw [h2, hsl, h2']; simp [le]
      left
      rw [dec_of (n := 0) (m := 0) h1 h2 h3 h4 (by omega) (by rw [hsl]; exact hs) (by simp [le]; omega), if_neg]
      rw [num4_le hc]
      intro e
      have := crc_set (xs := byteZ k :: s) (i := j + 1) (a := b) (by simpa using hj) (by simpa using e)
      apply hb
      rw [List.getElem?_eq_getElem hj, this]; simp

set_option maxHeartbeats 1000000 in
theorem law5_body (k : Int) (s : List UInt8) (v : V) (bs : List UInt8) (i w : Int) (S : St) (hw : S.Wf) (hv : SlAt S 1 v bs.length (bytesV bs)) (hw8 : 0 ≤ w ∧ w ≤ 255) (K : Bool → St → Prop) (h : ∀ S', K true S') : p5 k s v i w S K := by
  unfold p5
  refine Join0.mid (fun S' => S' = S ∧ s.length ≤ 524288 ∧ bs.length ≤ 524288) ?_ ?_
  · refine ifC_dec (fun _ => h _) fun h1 => ⟨_, hv.len, ifC_dec (fun _ => h _) fun h2 => ⟨rfl, by omega, by omega⟩⟩
  rintro S1 ⟨rfl, h1, h2⟩
  refine enc_spec k s S1 _ hw (by omega) ?_
  intro S2 b g2 ab
  refine ⟨_, _, rfl, ?_⟩
  by_cases hk : k < 1 ∨ 255 < k
  · have he : enc k s = ([], 160) := by simp [enc, hk]
    rw [he] at ab ⊢
    refine ifC_nneg (by decide) (awake_spec5 _ _ ⟨_, rfl, ifC_tt rfl ⟨_, ab.at_.len, ?_⟩⟩)
    exact h _
  by_cases hs : 262144 < s.length
  · have he : enc k s = ([], 2) := by simp [enc, hk, hs]
    rw [he] at ab ⊢
    refine ifC_nneg (by decide) (awake_spec5 _ _ ⟨_, rfl, ifC_tt rfl ⟨_, ab.at_.len, ?_⟩⟩)
    exact h _
  have he : enc k s = (rec k s, 0) := by simp [enc, hk, hs, rec]
  rw [he] at ab ⊢
  simp only at ab
  have hrl := rec_length k s
  refine ifC_npos rfl ?_
  obtain ⟨b1, S3, e1, a1, u1, t1⟩ := (Acc.nil S2 S1.next 1).app g2.wf g2.le (y := b) (m := (rec k s).length) (ds := bytesV (rec k s)) ab.at_.src (by simp [bytesV_length]) (bytesV_ones _) (bytes := 1) (by omega) (by omega)
  refine ifP_mk e1 ?_
  have g23 : Grow S2 S3 := u1.mono (by simp [V.block])
  have g3 := g2.trans g23
  have hv3 := hv.grow g3
  obtain ⟨x, S4, e2, a2, u2, t2⟩ := a1.app g3.wf g3.le (y := v) (m := bs.length) (ds := bytesV bs) hv3.src (by simp [bytesV_length]) (bytesV_ones _) (bytes := 1) (by omega) (by omega)
  refine ifP_mk e2 ?_
  have hb1 : ∀ i ∈ b1.block, S2.next ≤ i := fun i hi => by
    rcases t1 i hi with h' | h'
    · simp [V.block] at h'
    · exact h'
  have g4 : Grow S2 S4 := g23.after u2 (fun i hi => .inl (hb1 i hi))
  rw [List.nil_append, ← bytesV_append, Nat.zero_add] at a2
  have hal : (rec k s).length + bs.length = (rec k s ++ bs).length := by simp
  rw [hal] at a2
  refine dec_spec x (rec k s ++ bs) S4 _ a2.at_ (by simp only [List.length_append]; omega) ?_
  rw [dec_rec ⟨by omega, by omega⟩ (by omega)]
  refine ⟨_, _, _, _, rfl, ?_⟩
  have ab4 := ab.at_.grow g4
  refine Join0.mid (fun S' => S' = S4) (ifC_npos rfl (ifC_npos rfl (ifC_npos rfl ⟨_, ab4.len, ifC_npos (by show ((9 + s.length : Nat) : Int) = _; omega) rfl⟩))) ?_
  rintro S5 rfl
  refine Join1.mid (fun c S' => S' = S5 ∧ (c = true ∨ (c = false ∧ 0 ≤ i ∧ i < (rec k s).length ∧ ¬ (1 ≤ i ∧ i ≤ 4) ∧ w ≠ 0))) ?_ ?_
  · refine ifC_dec (fun _ => ⟨rfl, .inl rfl⟩) fun i0 => ⟨_, ab4.len, ifC_dec (fun _ => ⟨rfl, .inl rfl⟩) fun i1 => ifC_dec (fun i2 => ifC_dec (fun i3 => ⟨rfl, .inl rfl⟩) fun i3 => ?_) fun i2 => ?_⟩
    · refine ⟨rfl, ?_⟩
      by_cases hw0 : w = 0
      · exact .inl (by simp [hw0])
      · exact .inr ⟨by simp [hw0], by omega, by omega, by omega, hw0⟩
    · refine ⟨rfl, ?_⟩
      by_cases hw0 : w = 0
      · exact .inl (by simp [hw0])
      · exact .inr ⟨by simp [hw0], by omega, by omega, by omega, hw0⟩
  rintro c S6 ⟨rfl, rfl | ⟨rfl, i0, i1, i2, w0⟩⟩
  · exact ifC_tt rfl (awake_spec5 _ _ ⟨_, rfl, h _⟩)
  refine ifC_ff rfl ?_
  obtain ⟨j, rfl⟩ : ∃ j : Nat, i = j := ⟨i.toNat, by omega⟩
  obtain ⟨q, rfl⟩ : ∃ q : Nat, w = q := ⟨w.toNat, by omega⟩
  have hj : j < (rec k s ++ bs).length := by simp only [List.length_append]; omega
  have hld := a2.at_.load (m := j) (off := 0) hj (by omega)
  rw [Nat.mul_one, Nat.add_zero, bytesV_get hj] at hld
  have hbj := byte_lt (rec k s ++ bs)[j]
  refine ifS_mk (a2.at_.idx hj) ⟨_, hld, setI_mk (xor_u8 hbj (by omega)) (ifS_mk (a2.at_.idx hj) ?_)⟩
  have hxl : (rec k s ++ bs)[j].toNat ^^^ q < 256 := Nat.xor_lt_two_pow (n := 8) hbj (by omega)
  have hto : (UInt8.ofNat ((rec k s ++ bs)[j].toNat ^^^ q)).toNat = (rec k s ++ bs)[j].toNat ^^^ q := by
    rw [UInt8.toNat_ofNat']; exact Nat.mod_eq_of_lt hxl
  obtain ⟨S7, e3, a3, u3⟩ := a2.put g4.wf (m := j) (off := 0) (x := V.int .u8 (((rec k s ++ bs)[j].toNat ^^^ q : Nat) : Int)) hj (by simp [V.cells]) rfl (by simp [V.cells])
  refine ifS_mk e3 ?_
  have e4 : over (bytesV (rec k s ++ bs)) (j * 1 + 0) (V.int .u8 (((rec k s ++ bs)[j].toNat ^^^ q : Nat) : Int)).cells = bytesV ((rec k s ++ bs).set j (UInt8.ofNat ((rec k s ++ bs)[j].toNat ^^^ q))) := by
    rw [Nat.mul_one, Nat.add_zero, ← over_byte _ _ _ hj, hto]; rfl
  rw [e4] at a3
  refine dec_spec x _ S7 _ (by have := a3.at_; rwa [show (rec k s ++ bs).length = ((rec k s ++ bs).set j (UInt8.ofNat ((rec k s ++ bs)[j].toNat ^^^ q))).length by simp] at this) (by simp only [List.length_set, List.length_append]; omega) ?_
  refine ⟨_, _, _, _, rfl, awake_spec5 _ _ ⟨_, rfl, ifC_tt rfl ?_⟩⟩
  have hne : (rec k s ++ bs)[j]? ≠ some (UInt8.ofNat ((rec k s ++ bs)[j].toNat ^^^ q)) := by
    rw [List.getElem?_eq_getElem hj]
    intro e
    have e := congrArg UInt8.toNat (Option.some.inj e)
    rw [hto] at e
    have : q = 0 := by
      have := xor_left_inj (c := (rec k s ++ bs)[j].toNat) (a := q) (b := 0) (by rw [← e, Nat.xor_zero])
      exact this
    omega
  rcases dec_spoilt (k := k) (s := s) (t := bs) (i := j) ⟨by omega, by omega⟩ (by omega) (by omega) (by omega) hne with hd | ⟨hj0, hd⟩
  · exact ifC_pos hd (h _)
  · refine ifC_neg (by rw [hd]; decide) (ifC_pos hd ?_)
    have : (decide ((j : Int) = 0)) = true := by simp [hj0]
    rw [this]; exact h _

theorem law5_spec (S : St) (av : List V) (hw : S.Wf) (h : HasAs S law5_shapes av) : CallA PP 5 av S (fun r _ => r = .ret (.bool true)) := by
  simp only [law5_shapes, HasAs, HasA, Has] at h
  obtain ⟨_, _, rfl, ⟨k, hk, _⟩, _, _, rfl, ⟨s, hs, _⟩, _, _, rfl, ⟨v, n, es, hv, hsl, _, hes⟩, _, _, rfl, ⟨i, hi, _⟩, _, _, rfl, ⟨w, hwv, hwf⟩, rfl⟩ := h
  cases hk; cases hs; cases hv; cases hi; cases hwv
  obtain ⟨bs, rfl, rfl⟩ := has_u8s (S := S) hsl.2.1 (fun m hm => by simp only [Has]; exact hes m hm)
  refine (p5_ok (K := fun b _ => b = true) (law5_body _ _ _ bs _ _ S hw hsl (lit_u8 hwf) _ fun _ => rfl)).mono ?_
  rintro r S' ⟨b, h1, rfl⟩
  exact h1

end Go.Th.Codec
