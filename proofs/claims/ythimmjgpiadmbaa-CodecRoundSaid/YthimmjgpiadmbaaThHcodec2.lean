/- codec: numbers and coordinates read. -/
import Derived.Test.YthimmjgpiadmbaaThHcodec
set_option linter.unusedSimpArgs false
set_option linter.unusedVariables false
namespace Go.Th.L
open Go Go.Th Go.Th.Pure
variable {P : Program} {N : Nat → Nat}

def codec_reading_cut.Spec (P : Program) (N : Nat → Nat) : Prop := ∀ (i n : Nat) (s : List UInt8) (bad : Bool) (S : St) (K : V → St → Prop), S.Wf → RdAt S i s bad → n ≤ 1099511627776 →
  (∀ v S', Upd [i] S S' → RdAt S' i (rd s bad n).1 (rd s bad n).2.1 → BytesAt S' v (rd s bad n).2.2 → K v S') → CallA P (N Fn.codec_reading_cut) [.ptr i 0, .int .i64 n] S (retT [.one .any] K)

theorem bytes_zero (n : Nat) : reps n [V.int .u8 0] = bytesV (List.replicate n 0) := by
  induction n with
  | zero => rfl
  | succ n ih =>
    simp only [reps, bytesV, List.replicate_succ, List.flatten_cons, List.map_cons, List.singleton_append] at ih ⊢
    rw [ih]; rfl

theorem codec_reading_cut.spec (hF : codec_reading_cut.Ok P N) : codec_reading_cut.Spec P N := by
  intro i n s bad S K hw hg hn h
  refine codec_reading_cut.run hF (ifP_mk (mk_slice (by omega) (by omega)) ?_)
  rw [bytes_zero]
  have g1 : Grow S (S.new (.cells (bytesV (List.replicate n 0)) true)) := (Upd.refl hw []).new _
  have a1 := Acc.fresh hw (B := S.next) (Nat.le_refl _) (n := n) (k := 1) (by omega) (cs := bytesV (List.replicate n 0)) (by simp [bytesV_length]) (bytesV_ones _) true
  generalize S.new (.cells (bytesV (List.replicate n 0)) true) = S1 at g1 a1
  have m1 : RdAt S1 i s bad := g1.get hg
  have hi : i < S.next := hw.lt hg
  refine Join0.mid (fun S' => Upd [i] S1 S' ∧ RdAt S' i s (decide (bad = true ∨ s.length < n))) ?_ ?_
  · refine ⟨rfl, ifS_mk rfl ⟨_, ld m1 rfl, ifC_tt_ff ?_ ?_⟩⟩
    · rintro rfl
      exact ⟨rfl, ifS_mk rfl (st_mk g1.wf m1 rfl (by simp [V.cells]) rfl fun S2 u2 m2 n2 => ⟨u2, by simpa [over, V.cells] using m2⟩)⟩
    · rintro rfl
      refine ⟨rfl, ifS_mk rfl ⟨_, ld m1 rfl, rfl, ifS_mk rfl (st_mk g1.wf m1 rfl (by simp [V.cells]) rfl fun S2 u2 m2 n2 => ⟨u2, ?_⟩)⟩⟩
      have : (decide (((s.length : Nat) : Int) < n)) = decide (false = true ∨ s.length < n) := by
        congr 1; simp
      rw [this] at m2
      simpa [over, V.cells] using m2
  rintro S2 ⟨u2, m2⟩
  have a2 := a1.upd u2 (by simp only [V.block, List.mem_singleton]; rintro j rfl; omega)
  have hu : Upd [i] S S2 := (g1.mono (by simp)).trans u2
  refine ⟨rfl, ifS_mk rfl ⟨_, ld m2 rfl, ifC_dec (fun hb => ?_) (fun hb => ?_)⟩⟩
  · have hr : rd s bad n = (s, true, List.replicate n 0) := by simp only [rd, if_pos hb]
    rw [hr] at h
    rw [decide_eq_true hb] at m2
    exact h _ _ hu m2 a2.at_.bytes
  · have hr : rd s bad n = (s.drop n, false, s.take n) := by simp only [rd, if_neg hb]
    rw [hr] at h
    rw [decide_eq_false hb] at m2
    have hlen : n ≤ s.length := by
      have := not_or.mp hb
      omega
    obtain ⟨S3, e3, a3, u3⟩ := a2.copy u2.wf (y := .str s) (m := s.length) (ds := bytesV s) rfl (by simp [bytesV_length]) (bytesV_ones _) (by omega)
    have hni : i ∉ (V.slice S.next 0 n n 1 true).block := by simp only [V.block, List.mem_singleton]; omega
    have m3 : RdAt S3 i s false := u3.get m2 hni
    refine ⟨rfl, ifS_mk rfl ⟨_, ld m2 rfl, ifP_mk e3 ⟨rfl, ifS_mk rfl ⟨_, ld m3 rfl, _, sliceStr_from hlen, rfl, ifS_mk rfl (st_mk u3.wf m3 rfl (by simp [V.cells]) rfl fun S4 u4 m4 n4 => ?_)⟩⟩⟩⟩
    have hcs : over (bytesV (List.replicate n 0)) 0 ((bytesV s).take (min s.length n * 1)) = bytesV (s.take n) := by
      have hdl : ((bytesV s).take n).length = n := by rw [List.length_take, bytesV_length]; omega
      rw [Nat.min_eq_right hlen, Nat.mul_one, over_at (by rw [hdl]; simp [bytesV_length]), hdl, List.take_zero, Nat.zero_add, List.drop_of_length_le (by simp [bytesV_length]), List.nil_append, List.append_nil, bytesV_take]
    rw [hcs] at a3
    have a4 := a3.upd u4 (by simp only [V.block, List.mem_singleton]; rintro j rfl; omega)
    refine h _ S4 ((hu.after u3 (fun j hj => by simp only [V.block, List.mem_singleton] at hj; exact .inl (by omega))).trans u4) (by simpa [over, V.cells] using m4) a4.at_.bytes

def codec_reading_number.Spec (P : Program) (N : Nat → Nat) : Prop := ∀ (i n : Nat) (s : List UInt8) (bad : Bool) (S : St) (K : Int → St → Prop), S.Wf → RdAt S i s bad → n ≤ 7 →
  (∀ S', Upd [i] S S' → RdAt S' i (rd s bad n).1 (rd s bad n).2.1 → K (num (rd s bad n).2.2 : Nat) S') → CallA P (N Fn.codec_reading_number) [.ptr i 0, .int .i64 n] S (retT [.one (.int .i64)] K)

theorem codec_reading_number.spec (hF : codec_reading_number.Ok P N) (hC : codec_reading_cut.Spec P N) : codec_reading_number.Spec P N := by
  intro i n s bad S K hw hg hn h
  refine codec_reading_number.run hF (hC i n s bad S _ hw hg (by omega) ?_)
  intro v S1 u1 g1 hv
  have h := h S1 u1 g1
  have hrl := rd_length s bad n
  generalize (rd s bad n).2.2 = bs at hrl hv h
  subst hrl
  refine ⟨_, hv.len, ?_⟩
  refine Loop2.ind (fun k x y S' => S' = S1 ∧ ∃ j : Nat, y = j ∧ j + k = bs.length ∧ x = (num (bs.take j) : Nat)) bs.length ⟨rfl, 0, rfl, by omega, by simp [num]⟩ ?_
  rintro k _ _ S' ⟨rfl, j, rfl, hj, rfl⟩
  refine ifC_dec (fun hlt => ?_) (fun hge => ?_)
  · have hjl : j < bs.length := by omega
    have hb := byte_lt bs[j]
    refine ifS_mk (hv.idx hjl) ⟨_, BytesAt.get hv hjl, setI_mk (i64_nat (by omega)) (setI_mk (n := ((8 * j : Nat) : Int)) (by rw [IntKind.wrap_i64]; omega) ⟨by omega, setI_mk (shl_byte hb (by omega)) (setI_mk (or_byte (num_take_lt bs j) hb (by omega)) (setI_mk (wrap_succ (by omega)) ?_))⟩)⟩
    exact ⟨k - 1, by omega, rfl, j + 1, rfl, by omega, by rw [num_take_succ hjl]⟩
  · have : j = bs.length := by omega
    rw [this, List.take_length]
    exact h

/-- The text behind n coordinates, whether it was too short, and them. -/
def rdC : Nat → List UInt8 → Bool → List UInt8 × Bool × List Int
  | 0, s, bad => (s, bad, [])
  | n + 1, s, bad => ((rdC n (rd s bad 4).1 (rd s bad 4).2.1).1, (rdC n (rd s bad 4).1 (rd s bad 4).2.1).2.1, sgn32 (num (rd s bad 4).2.2) :: (rdC n (rd s bad 4).1 (rd s bad 4).2.1).2.2)

def codec_reading_coords_1.Spec (P : Program) (N : Nat → Nat) : Prop := ∀ (b i : Nat) (s : List UInt8) (bad : Bool) (S : St) (K : Int → St → Prop), S.Wf → S.get b = some (.cells [.ptr i 0] true) → RdAt S i s bad →
  (∀ S', Upd [i] S S' → RdAt S' i (rd s bad 4).1 (rd s bad 4).2.1 → K (sgn32 (num (rd s bad 4).2.2)) S') → CallA P (N Fn.codec_reading_coords_1) [.ptr b 0] S (retT [.one (.int .i64)] K)

theorem num4_lt (s : List UInt8) (bad : Bool) : num (rd s bad 4).2.2 < 4294967296 := by
  have := num_lt (rd s bad 4).2.2
  rwa [rd_length] at this

theorem codec_reading_coords_1.spec (hF : codec_reading_coords_1.Ok P N) (hN : codec_reading_number.Spec P N) : codec_reading_coords_1.Spec P N := by
  intro b i s bad S K hw hb hg h
  refine codec_reading_coords_1.run hF (ifS_mk (ld hb rfl) (hN i 4 s bad S _ hw hg (by omega) fun S' u' g' => ?_))
  have := num4_lt s bad
  refine setI_mk (n := sgn32 (num (rd s bad 4).2.2)) ?_ (setI_mk (n := sgn32 (num (rd s bad 4).2.2)) ?_ (h S' u' g'))
  · rw [IntKind.wrap_i32]; unfold sgn32; split <;> omega
  · refine i64_int ?_ ?_ <;> unfold sgn32 <;> split <;> omega

def codec_reading_coords.Spec (P : Program) (N : Nat → Nat) : Prop := ∀ (i n : Nat) (s : List UInt8) (bad : Bool) (S : St) (K : V → St → Prop), S.Wf → RdAt S i s bad → n ≤ 1099511627 →
  (∀ v S', Upd [i] S S' → RdAt S' i (rdC n s bad).1 (rdC n s bad).2.1 → IntsAt S' v (rdC n s bad).2.2 → (∀ j ∈ v.block, S.next ≤ j ∧ j < S'.next) → K v S') → CallA P (N Fn.codec_reading_coords) [.ptr i 0, .int .i64 n] S (retT [.one .any] K)

theorem codec_reading_coords.spec (hF : codec_reading_coords.Ok P N) (h1 : codec_reading_coords_1.Spec P N) (hE : canEnter P (N Fn.codec_reading_coords_1) = true) : codec_reading_coords.Spec P N := by
  intro i n s bad S K hw hg hn h
  have hi := hw.lt hg
  refine codec_reading_coords.run hF (newS_mk hw fun S1 g1 m1 n1 => ?_)
  have hg1 : RdAt S1 i s bad := g1.get hg
  refine Loop2.ind (fun k x y S' => ∃ (j : Nat) (l : List Int) (s' : List UInt8) (bad' : Bool), y = j ∧ j + k = n ∧ l.length = j ∧ Acc S' S1.next 1 x (intE l).length (intE l).flatten ∧ Upd [i] S1 S' ∧ RdAt S' i s' bad' ∧
      (rdC n s bad) = ((rdC k s' bad').1, (rdC k s' bad').2.1, l ++ (rdC k s' bad').2.2)) n
    ⟨0, [], s, bad, rfl, by omega, rfl, Acc.nil _ _ _, Upd.refl g1.wf _, hg1, rfl⟩ ?_
  rintro k x _ S2 ⟨j, l, s', bad', rfl, hj, hl, a2, u2, g2, he⟩
  refine ifC_dec (fun hlt => ⟨hE, ?_⟩) (fun hge => ?_)
  · obtain ⟨k, rfl⟩ : ∃ q, k = q + 1 := ⟨k - 1, by omega⟩
    have m2 : S2.get S.next = some (.cells [.ptr i 0] true) := u2.get m1 (by simp; omega)
    refine h1 S.next i s' bad' S2 _ u2.wf m2 g2 fun S3 u3 g3 => ?_
    have hnx : ∀ b ∈ x.block, b ∉ [i] := fun b hb hm => by
      have := (a2.own b hb).1
      simp at hm; subst hm; omega
    have a3 := a2.upd u3 hnx
    have hs0 : Built S3 S3 1 .nilSlice [] := Built.nil (Upd.refl u3.wf _) 1
    refine newS_mk u3.wf fun S4 g4 m4 n4 => ?_
    have hs : srcV 1 S4 (.slice S3.next 0 1 1 1 true) = some (1, [V.int .i64 (sgn32 (num (rd s' bad' 4).2.2))]) := by
      simp only [srcV, if_true]
      rw [St.loads_of m4 (by simp)]
      rfl
    have hlt' : j < n := by omega
    have hle3 : S1.next ≤ S4.next := by have := u2.le; have := u3.le; have := g4.le; omega
    obtain ⟨x', S5, e5, a5, u5, t5⟩ := (a3.grow g4).app g4.wf hle3 hs rfl rfl (bytes := 8) (by simp only [intE_len]; omega) (by simp only [intE_len]; omega)
    have hu45 : Upd [i] S1 S5 := ((u2.trans u3).trans (g4.mono (by simp))).after u5 (fun b hb => .inl (a2.own b hb).1)
    refine ifP_mk e5 (setI_mk (wrap_succ (by omega)) ⟨k, by omega, j + 1, l ++ [sgn32 (num (rd s' bad' 4).2.2)], (rd s' bad' 4).1, (rd s' bad' 4).2.1, rfl, by omega, by simp [hl], ?_, hu45, ?_, ?_⟩)
    · have e1 : (intE (l ++ [sgn32 (num (rd s' bad' 4).2.2)])).flatten = (intE l).flatten ++ [V.int .i64 (sgn32 (num (rd s' bad' 4).2.2))] := by simp [intE]
      have e2 : (intE (l ++ [sgn32 (num (rd s' bad' 4).2.2)])).length = (intE l).length + 1 := by simp [intE]
      rw [e1, e2]; exact a5
    · have : RdAt S4 i (rd s' bad' 4).1 (rd s' bad' 4).2.1 := g4.get g3
      exact u5.get this (fun hm => by have := (a2.own i hm).1; omega)
    · rw [he]; simp [rdC]
  · have hk0 : k = 0 := by omega
    subst hk0
    have hjn : j = n := by omega
    rw [he] at h
    simp only [rdC, List.append_nil] at h
    rw [intE_flat, intE_len] at a2
    exact h x S2 ((g1.mono (by simp)).trans u2) g2 a2.at_.ints fun b hb => by
      obtain ⟨q1, vs, hgb⟩ := a2.own b hb
      exact ⟨by have := g1.le; omega, u2.wf.lt hgb⟩

/-! ## the document's reading -/
def ref16_get.Spec (P : Program) (N : Nat → Nat) : Prop := ∀ (s : List UInt8) (a n : Nat) (S : St) (K : Int → St → Prop), n ≤ 7 → a + n ≤ s.length → s.length ≤ 1099511627776 → K (num ((s.drop a).take n) : Nat) S →
  CallA P (N Fn.ref16_get) [.str s, .int .i64 a, .int .i64 n] S (retT [.one (.int .i64)] K)

theorem ref16_get.spec (hF : ref16_get.Ok P N) : ref16_get.Spec P N := by
  intro s a n S K hn hl hs h
  refine ref16_get.run hF (setI_mk (i64_int (by omega) (by omega)) ?_)
  refine Loop2.ind (fun k x y S' => S' = S ∧ k ≤ n ∧ y = (k : Int) - 1 ∧ x = (num ((s.drop (a + k)).take (n - k)) : Nat)) n ⟨rfl, Nat.le_refl _, rfl, by simp [num]⟩ ?_
  rintro k _ _ S' ⟨rfl, hk, rfl, rfl⟩
  refine ifC_dec (fun hk' => ?_) (fun hk' => ?_)
  · have hlt : a + (k - 1) < s.length := by omega
    have hb := byte_lt s[a + (k - 1)]
    have hnum := num_lt ((s.drop (a + k)).take (n - k))
    have hpl : ((s.drop (a + k)).take (n - k)).length ≤ 6 := by rw [List.length_take]; omega
    have hp := Nat.pow_le_pow_right (n := 256) (by omega) hpl
    have hp6 : (256 ^ 6 : Nat) = 281474976710656 := by decide
    refine setI_mk (n := ((256 * num ((s.drop (a + k)).take (n - k)) : Nat) : Int)) (by rw [IntKind.wrap_i64]; omega) (setI_mk (n := ((a + (k - 1) : Nat) : Int)) (by rw [IntKind.wrap_i64]; omega) ⟨_, idx_str hlt, setI_mk (i64_nat (by omega))
      (setI_mk (n := ((s[a + (k - 1)].toNat + 256 * num ((s.drop (a + k)).take (n - k)) : Nat) : Int)) (by rw [IntKind.wrap_i64]; omega) (setI_mk (i64_int (by omega) (by omega)) ⟨k - 1, by omega, rfl, by omega, by omega, ?_⟩))⟩)
    congr 1
    have hd : (s.drop (a + (k - 1))) = s[a + (k - 1)] :: s.drop (a + k) := by
      rw [List.drop_eq_getElem_cons hlt]; congr 2; omega
    rw [hd, show n - (k - 1) = (n - k) + 1 by omega, List.take_succ_cons]; rfl
  · have hk0 : k = 0 := by omega
    subst hk0
    simpa using h

/-- The document's way to lay a coordinate. -/
def ref16_coord.Spec (P : Program) (N : Nat → Nat) : Prop := ∀ (b : V) (v : Int) (bs : List UInt8) (S0 S : St) (K : V → St → Prop), BuiltB S0 S b bs → bs.length + 4 ≤ 1099511627776 →
    -2147483648 ≤ v → v < 2147483648 →
    (∀ b' S', BuiltB S0 S' b' (bs ++ le 4 v) → Upd b.block S S' → (∀ i ∈ b'.block, i ∈ b.block ∨ S.next ≤ i) → K b' S') → CallA P (N Fn.ref16_coord) [b, .int .i64 v] S (retT [.one .any] K)

theorem ref16_coord.spec (hF : ref16_coord.Ok P N) (hN : LaysB P (N Fn.ref16_number) (fun v => 0 ≤ v ∧ v < 9223372036854775808)) : ref16_coord.Spec P N := by
  intro b v bs S0 S K hb hl h1 h2 h
  refine ref16_coord.run hF (ifC_dec (fun h3 => ?_) (fun h3 => ?_))
  · have e : le 4 (v + 4294967296) = le 4 v := le_congr (by omega)
    refine setI_mk (i64_int (by omega) (by omega)) (hN b (v + 4294967296) 4 bs S0 S _ hb hl ⟨by omega, by omega⟩ ?_)
    rw [e]; exact h
  · exact hN b v 4 bs S0 S _ hb hl ⟨by omega, by omega⟩ h

def ref16_coords.Spec (P : Program) (N : Nat → Nat) : Prop := ∀ (s : List UInt8) (a n : Nat) (S : St) (K : V → St → Prop), S.Wf → a + 4 * n ≤ s.length → s.length ≤ 1099511627776 →
  (∀ v S', BuiltI S S' v (coordsOf n (s.drop a)) → K v S') → CallA P (N Fn.ref16_coords) [.str s, .int .i64 a, .int .i64 n] S (retT [.one .any] K)

theorem ref16_coords.spec (hF : ref16_coords.Ok P N) (hG : ref16_get.Spec P N) : ref16_coords.Spec P N := by
  intro s a n S K hw hl hs h
  refine ref16_coords.run hF ?_
  refine Loop2.ind (fun k x y S' => ∃ (j : Nat) (l : List Int), y = j ∧ j + k = n ∧ l.length = j ∧ BuiltI S S' x l ∧ coordsOf n (s.drop a) = l ++ coordsOf k (s.drop (a + 4 * j))) n ⟨0, [], rfl, by omega, rfl, Built.nil (Upd.refl hw _) 1, by simp⟩ ?_
  rintro k x _ S1 ⟨j, l, rfl, hj, hlen, hb, he⟩
  refine ifC_dec (fun hlt => ?_) (fun hge => ?_)
  · obtain ⟨k, rfl⟩ : ∃ q, k = q + 1 := ⟨k - 1, by omega⟩
    refine setI_mk (n := ((4 * j : Nat) : Int)) (by rw [IntKind.wrap_i64]; omega) (setI_mk (n := ((a + 4 * j : Nat) : Int)) (by rw [IntKind.wrap_i64]; omega) (hG s (a + 4 * j) 4 S1 _ (by omega) (by omega) hs ?_))
    have hn := num_take_lt (s.drop (a + 4 * j)) 4
    refine Join1.mid (fun x S' => S' = S1 ∧ x = sgn32 (num ((s.drop (a + 4 * j)).take 4))) ?_ ?_
    · refine ifC_dec (fun h1 => setI_mk (i64_int (by omega) (by omega)) ⟨rfl, ?_⟩) (fun h1 => ⟨rfl, ?_⟩)
      · unfold sgn32; rw [if_neg (by omega)]
      · unfold sgn32; rw [if_pos (by omega)]
    rintro _ S2 ⟨rfl, rfl⟩
    refine hb.push _ (by omega) fun v' S' b' u' t' => setI_mk (wrap_succ (by omega)) ⟨k, by omega, j + 1, _, rfl, by omega, by simp [hlen], b', ?_⟩
    rw [he]
    simp only [coordsOf, List.append_assoc, List.singleton_append, List.drop_drop]
    congr 4
  · have hk0 : k = 0 := by omega
    subst hk0
    rw [he] at h
    simp only [coordsOf, List.append_nil] at h
    exact h x S1 hb

end Go.Th.L
