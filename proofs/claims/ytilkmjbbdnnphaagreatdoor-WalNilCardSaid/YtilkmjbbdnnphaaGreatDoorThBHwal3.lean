/- What the row of one statement stands on: a store, abstract code, functions of the program and their laws (ThHwal2, ThHwal3). -/
import Derived.Test.YtilkmjbbdnnphaaGreatDoorThBHwal1
import Derived.Test.YtilkmjbbdnnphaaGreatDoorThBHdisk14

section
/- wal: numbers and checks laid and read. -/
set_option linter.unusedSimpArgs false
set_option linter.unusedVariables false
set_option maxHeartbeats 1000000
namespace Go.Th.L
open Go Go.Th Go.Th.Pure
variable {P : Program} {N : Nat → Nat}

theorem shr_nn (x : Int) (k : Nat) (kk : IntKind) (h : k ≤ IntKind.bits kk) : Int.fdiv x (2 ^ (min (Int.toNat ((k : Nat) : Int)) (IntKind.bits kk))) = x / 2 ^ k := by
  rw [Int.toNat_natCast, Nat.min_eq_left h]
  exact Int.fdiv_eq_ediv_of_nonneg _ (Int.pow_nonneg (by omega))

theorem le4 (x : Int) : le 4 x = [byteZ x, byteZ (x / 256), byteZ (x / 65536), byteZ (x / 16777216)] := by
  simp only [le]
  rw [Int.ediv_ediv_of_nonneg (by omega), Int.ediv_ediv_of_nonneg (by omega)]
  rfl
theorem byteZ_mod (x : Int) (k : Int) (hk : k = 4294967296) : le 4 (x % k) = le 4 x := by
  subst hk
  exact le_congr (by rw [show (256 : Int) ^ 4 = 4294967296 from rfl]; exact Int.emod_emod_of_dvd _ (Int.dvd_refl _))

theorem wal_put32.spec (hF : wal_put32.Ok P N) {S0 S : St} {v : V} {bs : List UInt8} (hb : BuiltB S0 S v bs) (hl : bs.length ≤ 1000000) {x : Int} {K : V → St → Prop} (hk : ∀ v' S', BuiltB S0 S' v' (bs ++ le 4 x) → Upd v.block S S' → K v' S') :
    CallA P (N Fn.wal_put32) [v, .int .u32 x] S (retT [.one .any] K) := by
  refine wal_put32.run hF (setI_mk (wrap_byte x) ⟨by omega, setI_mk (n := x / 256) (shr_nn x 8 .u32 (by decide)) (setI_mk (wrap_byte _) ⟨by omega, setI_mk (n := x / 65536) (shr_nn x 16 .u32 (by decide)) (setI_mk (wrap_byte _) ⟨by omega, setI_mk (n := x / 16777216) (shr_nn x 24 .u32 (by decide)) (setI_mk (wrap_byte _) (newS_mk hb.grow.wf fun S1 g1 m1 n1 => ?_))⟩)⟩)⟩)
  have b1 := Built.next hb g1
  have hs : BytesAt S1 (.slice S.next 0 4 4 1 true) (le 4 x) := by
    have e : [V.int .u8 ((byteZ x).toNat : Int), .int .u8 ((byteZ (x / 256)).toNat : Int), .int .u8 ((byteZ (x / 65536)).toNat : Int), .int .u8 ((byteZ (x / 16777216)).toNat : Int)] = bytesV (le 4 x) := by rw [le4]; rfl
    rw [e] at m1
    exact ⟨by rw [le_length]; omega, by rw [bytesV_length, Nat.mul_one], .inr ⟨_, _, _, _, by rw [le_length], by rw [le_length]; exact Nat.le_refl _, by rw [St.loads_of m1 (by rw [bytesV_length, le_length]; omega), List.drop_zero, List.take_of_length_le (by rw [bytesV_length]; omega)]⟩⟩
  refine BuiltB.app b1 (SlAt.src hs) (by rw [le_length]; omega) fun v' S' b u t => hk v' S' b ((g1.mono (by simp)).after u fun i hi => .inr hi)

theorem wal_put64.spec (hF : wal_put64.Ok P N) (h32 : wal_put32.Ok P N) {S0 S : St} {v : V} {bs : List UInt8} (hb : BuiltB S0 S v bs) (hl : bs.length ≤ 900000) {x : Int} {K : V → St → Prop} (hk : ∀ v' S', BuiltB S0 S' v' (bs ++ (le 4 x ++ le 4 (x / 4294967296))) → K v' S') :
    CallA P (N Fn.wal_put64) [v, .int .u64 x] S (retT [.one .any] K) := by
  refine wal_put64.run hF (setI_mk (n := x % 4294967296) (by rw [IntKind.wrap_u32]) (wal_put32.spec h32 hb (by omega) fun v1 S1 b1 u1 => ⟨by omega, setI_mk (n := x / 4294967296) (shr_nn x 32 .u64 (by decide)) (setI_mk (n := x / 4294967296 % 4294967296) (by rw [IntKind.wrap_u32]) (wal_put32.spec h32 b1 (by rw [List.length_append, le_length]; omega) fun v2 S2 b2 u2 => hk v2 S2 ?_))⟩))
  rw [byteZ_mod _ _ rfl, byteZ_mod _ _ rfl, List.append_assoc] at b2
  exact b2

theorem wal_sealed.spec (hF : wal_sealed.Ok P N) (h32 : wal_put32.Ok P N) (hS : codec_Sum.Ok P N) {S0 S : St} {v : V} {bs : List UInt8} (hb : BuiltB S0 S v bs) (hl : bs.length ≤ 1000000) {K : V → St → Prop} (hk : ∀ v' S', BuiltB S0 S' v' (sealB bs) → K v' S') :
    CallA P (N Fn.wal_sealed) [v] S (retT [.one .any] K) :=
  wal_sealed.run hF (codec_Sum.spec hS hb.at_ (by omega) (wal_put32.spec h32 hb (by omega) fun v' S' b _ => hk v' S' b))

structure WalB (P : Program) (N : Nat → Nat) : Prop where
  sum : codec_Sum.Ok P N
  p32 : wal_put32.Ok P N
  p64 : wal_put64.Ok P N
  sealed : wal_sealed.Ok P N
  head : wal_head.Ok P N
  laid : wal_laid.Ok P N
  g32 : wal_get32.Ok P N
  g64 : wal_get64.Ok P N
  whole : wal_whole.Ok P N
  begins : wal_begins.Ok P N
  records : wal_records.Ok P N

theorem wal_head.spec (hO : WalB P N) {S : St} (hw : S.Wf) {x : Int} (hx : 0 ≤ x ∧ x < 18446744073709551616) {K : V → St → Prop} (hk : ∀ v' S', BuiltB S S' v' (headB x) → K v' S') : CallA P (N Fn.wal_head) [.int .i64 x] S (retT [.one .any] K) := by
  refine wal_head.run hO.head (wal_put32.spec hO.p32 (bs := []) (Built.nil (Upd.refl hw []) 1) (by simp) fun v1 S1 b1 _ => setI_mk (n := x) (by rw [IntKind.wrap_u64]; omega) (wal_put64.spec hO.p64 hO.p32 b1 (by simp [le_length]) fun v2 S2 b2 => wal_sealed.spec hO.sealed hO.p32 hO.sum b2 (by simp [le_length]) fun v3 S3 b3 => hk v3 S3 ?_))
  simpa [headB] using b3

theorem same_two {S1 S2 S3 : St} {R : List Nat} (h2 : Grow S1 S2) (h3 : Grow S1 S3) (hR : ∀ i ∈ R, i < S1.next) : Same R S2 S3 := fun i hi => by
  rw [h2.keep i (hR i hi) (by simp), h3.keep i (hR i hi) (by simp)]
theorem wal_laid.spec (hO : WalB P N) {S : St} (hw : S.Wf) {x : Int} (hx : 0 ≤ x ∧ x < 18446744073709551616) {s : List UInt8} (hs : s.length ≤ 65536) {K : V → St → Prop} (hk : ∀ v' S', BuiltB S S' v' (laidB x s) → K v' S') : CallA P (N Fn.wal_laid) [.agg [.int .i64 x, .str s]] S (retT [.one .any] K) := by
  refine wal_laid.run hO.laid (newS_mk hw fun S1 g1 m1 n1 => ⟨_, ld m1 rfl, setI_mk (n := (s.length : Nat)) (by rw [IntKind.wrap_u32]; omega) ⟨_, ld m1 rfl, setI_mk (n := x) (by rw [IntKind.wrap_u64]; omega) (wal_put32.spec hO.p32 (bs := []) (Built.nil (Upd.refl g1.wf []) 1) (by simp) fun v1 S2 b1 u1 => ⟨same_two (Upd.refl g1.wf []) b1.grow (by simp; omega), wal_put64.spec hO.p64 hO.p32 b1 (by simp [le_length]) fun v2 S3 b2 => ⟨same_two b1.grow b2.grow (by simp; omega), _, ld (b2.grow.get m1) rfl, BuiltB.app b2 (ds := s) rfl (by simp [le_length]; omega) fun v3 S4 b3 u3 t3 => wal_sealed.spec hO.sealed hO.p32 hO.sum b3 (by simp [le_length]; omega) fun v4 S5 b4 => hk v4 S5 ?_⟩⟩)⟩⟩)
  have e : laidB x s = sealB ([] ++ le 4 ((s.length : Nat) : Int) ++ (le 4 x ++ le 4 (x / 4294967296)) ++ s) := by simp [laidB]
  rw [e]
  exact ⟨g1.trans b4.grow, b4.acc.below g1.le, b4.each⟩

end Go.Th.L
end

section
/- wal: numbers read. -/
set_option linter.unusedSimpArgs false
set_option linter.unusedVariables false
set_option maxHeartbeats 1000000
namespace Go.Th.L
open Go Go.Th Go.Th.Pure
variable {P : Program} {N : Nat → Nat}

theorem or_u32 {a b : Nat} (ha : a < 4294967296) (hb : b < 4294967296) : intBits .or .u32 (a : Int) (b : Int) = ((a ||| b : Nat) : Int) := by
  have hor : a ||| b < 2 ^ 32 := Nat.or_lt_two_pow (by omega) (by omega)
  simp only [intBits, BitVec.toNat_or, BitVec.toNat_ofInt]
  have hbits : IntKind.bits .u32 = 32 := rfl
  rw [hbits]
  have e1 : (((a : Int) % ((2 ^ 32 : Nat) : Int)).toNat) = a := by omega
  have e2 : (((b : Int) % ((2 ^ 32 : Nat) : Int)).toNat) = b := by omega
  rw [e1, e2, IntKind.wrap_u32]
  omega
theorem or_u64 {a b : Nat} (ha : a < 18446744073709551616) (hb : b < 18446744073709551616) : intBits .or .u64 (a : Int) (b : Int) = ((a ||| b : Nat) : Int) := by
  have hor : a ||| b < 2 ^ 64 := Nat.or_lt_two_pow (by omega) (by omega)
  simp only [intBits, BitVec.toNat_or, BitVec.toNat_ofInt]
  have hbits : IntKind.bits .u64 = 64 := rfl
  rw [hbits]
  have e1 : (((a : Int) % ((2 ^ 64 : Nat) : Int)).toNat) = a := by omega
  have e2 : (((b : Int) % ((2 ^ 64 : Nat) : Int)).toNat) = b := by omega
  rw [e1, e2, IntKind.wrap_u64]
  omega
theorem or_add {a x k : Nat} (ha : a < 2 ^ k) : a ||| 2 ^ k * x = a + 2 ^ k * x := by
  have := Nat.two_pow_add_eq_or_of_lt ha x
  rw [Nat.or_comm, ← this, Nat.add_comm]

theorem shlu {x k : Nat} (hx : x < 256) (hk : k ≤ 24) : IntKind.u32.wrap (((x : Nat) : Int) * 2 ^ (min (Int.toNat ((k : Nat) : Int)) (IntKind.bits .u32))) = ((2 ^ k * x : Nat) : Int) := by
  have hb : IntKind.bits .u32 = 32 := rfl
  have e : min (Int.toNat ((k : Nat) : Int)) (IntKind.bits .u32) = k := by omega
  rw [e]
  have h2 : ((x : Nat) : Int) * 2 ^ k = ((2 ^ k * x : Nat) : Int) := by
    rw [Int.natCast_mul, Int.mul_comm]; simp
  have hp : 2 ^ k ≤ 2 ^ 24 := Nat.pow_le_pow_right (by omega) hk
  have h3 : 2 ^ k * x ≤ 2 ^ 24 * 255 := Nat.mul_le_mul hp (by omega)
  rw [h2, IntKind.wrap_u32]; omega

def n4 (l : List UInt8) (i : Nat) : Nat := num ((l.drop i).take 4)
theorem n4_eq {l : List UInt8} {i : Nat} (h : i + 4 ≤ l.length) : n4 l i = l[i].toNat + 256 * l[i + 1].toNat + 65536 * l[i + 2].toNat + 16777216 * l[i + 3].toNat := by
  have e : (l.drop i).take 4 = [l[i], l[i + 1], l[i + 2], l[i + 3]] := by
    apply List.ext_getElem?
    intro j
    rw [List.getElem?_take]
    match j with
    | 0 => rw [if_pos (by omega), List.getElem?_drop, List.getElem?_eq_getElem (by omega)]; rfl
    | 1 => rw [if_pos (by omega), List.getElem?_drop, List.getElem?_eq_getElem (by omega)]; rfl
    | 2 => rw [if_pos (by omega), List.getElem?_drop, List.getElem?_eq_getElem (by omega)]; rfl
    | 3 => rw [if_pos (by omega), List.getElem?_drop, List.getElem?_eq_getElem (by omega)]; rfl
    | j + 4 => rw [if_neg (by omega)]; rfl
  rw [n4, e]
  simp only [num]
  omega

theorem wal_get32.spec (hF : wal_get32.Ok P N) {S : St} {v : V} {l : List UInt8} (h : BytesAt S v l) (hl : l.length ≤ 4611686018427387904) {i : Int} (hi : -100 ≤ i ∧ i ≤ 4611686018427387904) {K : Int → Int → St → Prop}
    (h1 : ¬ (0 ≤ i ∧ i + 4 ≤ l.length) → K 0 161 S) (h2 : ∀ j : Nat, i = j → j + 4 ≤ l.length → K (n4 l j : Nat) 0 S) : CallA P (N Fn.wal_get32) [v, .int .i64 i] S (retT [.one (.int .u32), .one (.int .i64)] K) := by
  refine wal_get32.run hF (Join0.mid (fun S' => S' = S ∧ 0 ≤ i ∧ i + 4 ≤ l.length) (ifC_dec (fun hn => h1 (by omega)) fun hn => setI_mk (n := i + 4) (by rw [IntKind.wrap_i64]; omega) ⟨_, SlAt.len h, ifC_dec (fun hm => h1 (by omega)) fun hm => ⟨rfl, by omega, by omega⟩⟩) ?_)
  rintro S1 ⟨rfl, h0, hle⟩
  obtain ⟨j, rfl⟩ := Int.eq_ofNat_of_zero_le h0
  have hj : j + 4 ≤ l.length := by omega
  have hb := h2 j rfl hj
  rw [n4_eq hj] at hb
  have b0 : l[j].toNat < 256 := l[j].toNat_lt
  have b1 : l[j + 1].toNat < 256 := l[j + 1].toNat_lt
  have b2 : l[j + 2].toNat < 256 := l[j + 2].toNat_lt
  have b3 : l[j + 3].toNat < 256 := l[j + 3].toNat_lt
  have i1 : IntKind.i64.wrap (((j : Nat) : Int) + 1) = ((j + 1 : Nat) : Int) := by rw [IntKind.wrap_i64]; omega
  have i2 : IntKind.i64.wrap (((j : Nat) : Int) + 2) = ((j + 2 : Nat) : Int) := by rw [IntKind.wrap_i64]; omega
  have i3 : IntKind.i64.wrap (((j : Nat) : Int) + 3) = ((j + 3 : Nat) : Int) := by rw [IntKind.wrap_i64]; omega
  have wb : ∀ x : Nat, x < 256 → IntKind.u32.wrap ((x : Nat) : Int) = ((x : Nat) : Int) := fun x hx => by rw [IntKind.wrap_u32]; omega
  have s8 := shlu (k := 8) b1 (by omega)
  have s16 := shlu (k := 16) b2 (by omega)
  have s24 := shlu (k := 24) b3 (by omega)
  have o1 : intBits .or .u32 ((l[j].toNat : Nat) : Int) ((2 ^ 8 * l[j + 1].toNat : Nat) : Int) = ((l[j].toNat + 2 ^ 8 * l[j + 1].toNat : Nat) : Int) := by
    rw [or_u32 (by omega) (by omega), or_add (by omega)]
  have o2 : intBits .or .u32 ((l[j].toNat + 2 ^ 8 * l[j + 1].toNat : Nat) : Int) ((2 ^ 16 * l[j + 2].toNat : Nat) : Int) = ((l[j].toNat + 2 ^ 8 * l[j + 1].toNat + 2 ^ 16 * l[j + 2].toNat : Nat) : Int) := by
    rw [or_u32 (by omega) (by omega), or_add (by omega)]
  have o3 : intBits .or .u32 ((l[j].toNat + 2 ^ 8 * l[j + 1].toNat + 2 ^ 16 * l[j + 2].toNat : Nat) : Int) ((2 ^ 24 * l[j + 3].toNat : Nat) : Int) = ((l[j].toNat + 256 * l[j + 1].toNat + 65536 * l[j + 2].toNat + 16777216 * l[j + 3].toNat : Nat) : Int) := by
    rw [or_u32 (by omega) (by omega), or_add (by omega)]
  refine ifS_mk (SlAt.idx h (by omega)) ⟨_, BytesAt.get h (by omega), setI_mk (wb _ b0) (setI_mk i1 (ifS_mk (SlAt.idx h (by omega)) ⟨_, BytesAt.get h (by omega), setI_mk (wb _ b1) ⟨by omega, setI_mk s8 (setI_mk o1 (setI_mk i2 (ifS_mk (SlAt.idx h (by omega)) ⟨_, BytesAt.get h (by omega), setI_mk (wb _ b2) ⟨by omega, setI_mk s16 (setI_mk o2 (setI_mk i3 (ifS_mk (SlAt.idx h (by omega)) ⟨_, BytesAt.get h (by omega), setI_mk (wb _ b3) ⟨by omega, setI_mk s24 (setI_mk o3 hb)⟩⟩)))⟩⟩)))⟩⟩))⟩

theorem wal_get64.spec (hF : wal_get64.Ok P N) (h32 : wal_get32.Ok P N) {S : St} {v : V} {l : List UInt8} (h : BytesAt S v l) (hl : l.length ≤ 4611686018427387904) {i : Nat} (hi : i + 8 ≤ l.length) {K : Int → Int → St → Prop}
    (h2 : K ((n4 l i + 4294967296 * n4 l (i + 4) : Nat) : Int) 0 S) : CallA P (N Fn.wal_get64) [v, .int .i64 (i : Nat)] S (retT [.one (.int .u64), .one (.int .i64)] K) := by
  have lt4 : ∀ j, j + 4 ≤ l.length → n4 l j < 4294967296 := fun j hj => by
    have := num_lt ((l.drop j).take 4)
    have e : ((l.drop j).take 4).length = 4 := by rw [List.length_take, List.length_drop]; omega
    rw [e] at this
    exact this
  refine wal_get64.run hF (wal_get32.spec h32 h hl (by omega) (fun hn => absurd (by omega) hn) fun j hj hjl => ?_)
  have hji : j = i := by omega
  subst hji
  have l1 := lt4 j (by omega)
  have l2 := lt4 (j + 4) (by omega)
  refine ifC_ff rfl (setI_mk (n := ((j + 4 : Nat) : Int)) (by rw [IntKind.wrap_i64]; omega) (wal_get32.spec h32 h hl (by omega) (fun hn => absurd (by omega) hn) fun k hk hkl => ?_))
  have hkj : k = j + 4 := by omega
  subst hkj
  refine setI_mk (n := ((n4 l j : Nat) : Int)) (by rw [IntKind.wrap_u64]; omega) (setI_mk (n := ((n4 l (j + 4) : Nat) : Int)) (by rw [IntKind.wrap_u64]; omega) ⟨by omega, setI_mk (n := ((2 ^ 32 * n4 l (j + 4) : Nat) : Int)) ?_ (setI_mk (n := ((n4 l j + 2 ^ 32 * n4 l (j + 4) : Nat) : Int)) ?_ h2)⟩)
  · have e : min (Int.toNat (32 : Int)) (IntKind.bits .u64) = 32 := rfl
    rw [e, IntKind.wrap_u64]; omega
  · rw [or_u64 (by omega) (by omega), or_add (by omega)]

theorem wal_whole.spec (hF : wal_whole.Ok P N) (h32 : wal_get32.Ok P N) (hS : codec_Sum.Ok P N) {S : St} {v : V} {l : List UInt8} (h : BytesAt S v l) (hl : l.length < 4611686018427387904) (h4 : 4 ≤ l.length) {K : Bool → St → Prop}
    (hk : K (decide (((n4 l (l.length - 4) : Nat) : Int) = sumI (l.take (l.length - 4)))) S) : CallA P (N Fn.wal_whole) [v] S (retT [.one .bool] K) := by
  obtain ⟨v', e1, a1, _⟩ := bytes_first h (m := l.length - 4) (by omega)
  have i1 : IntKind.i64.wrap (((l.length : Nat) : Int) - 4) = ((l.length - 4 : Nat) : Int) := by rw [IntKind.wrap_i64]; omega
  refine wal_whole.run hF ⟨_, SlAt.len h, setI_mk i1 (wal_get32.spec h32 h (by omega) (by omega) (fun hn => absurd (by omega) hn) fun j hj hjl => ifC_tt rfl ⟨_, SlAt.len h, setI_mk i1 (ifS_mk e1 (codec_Sum.spec hS a1 (by rw [List.length_take]; omega) ?_))⟩)⟩
  have hjj : j = l.length - 4 := by omega
  subst hjj
  exact hk

end Go.Th.L
end
