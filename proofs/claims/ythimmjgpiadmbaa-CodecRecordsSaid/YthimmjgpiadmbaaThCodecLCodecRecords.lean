/- The law of records, over a store. -/
import Derived.Test.YthimmjgpiadmbaaThCodecS7
set_option linter.unusedSimpArgs false
set_option linter.unusedVariables false
namespace Go.Th.Codec
open Go Go.Th

theorem awake_spec (S : St) (Q : Post) (h : Q (.ret (.bool true)) S) : CallA PP 15 [] S Q :=
  CallA.run okF_ok tabF_ok 1000 (.ret (.bool true)) (by kernel_rfl) rfl rfl h

theorem has_bytes {S : St} {n : Nat} {es : List V} (hl : es.length = n * 1) (h : ∀ m, m < n → Has S (.int .u8) ((es.drop (m * 1)).take 1)) : ∃ bs : List UInt8, bs.length = n ∧ es = bytesV bs := by
  have hl : es.length = n := by omega
  subst hl
  induction es with
  | nil => exact ⟨[], rfl, rfl⟩
  | cons v es ih =>
    obtain ⟨bs, h1, h2⟩ := ih (by omega) (fun m hm => by
      have := h (m + 1) (by simp; omega)
      simpa using this)
    have h0 := h 0 (by simp)
    simp only [Has, Nat.zero_mul, List.drop_zero, List.take_succ_cons, List.take_zero] at h0
    obtain ⟨z, hz, hw⟩ := h0
    simp only [List.cons.injEq, and_true] at hz
    have hr : 0 ≤ z ∧ z ≤ 255 := by
      simp only [Lit.wf, Bool.and_eq_true, decide_eq_true_eq] at hw
      have e1 : IntKind.u8.min = 0 := by decide
      have e2 : IntKind.u8.max = 255 := by decide
      omega
    refine ⟨byteZ z :: bs, by simp [h1], ?_⟩
    rw [h2, hz]
    have : z = ((byteZ z).toNat : Int) := by rw [byteZ_toNat]; omega
    simp only [bytesV, List.map_cons]
    rw [← this]

theorem wf_i64 {k : Int} (h : (Lit.int .i64 k).wf = true) : -9223372036854775808 ≤ k ∧ k ≤ 9223372036854775807 := by
  simp only [Lit.wf, Bool.and_eq_true, decide_eq_true_eq] at h
  have e1 : IntKind.i64.min = -9223372036854775808 := by decide
  have e2 : IntKind.i64.max = 9223372036854775807 := by decide
  omega

def law3_shapes : List Sh := [Sh.int IntKind.i64, Sh.str, Sh.slice 1 1 (Sh.int IntKind.u8)]

theorem runIs_abs {ok : Nat → Bool} {callH : FuncId → List V → St → Post → Prop} {Q : PostC} {l : List AI} {fr : List V} {S : St} (h : ∀ fr2 : List V, fr2.length = fr.length → (∀ i, G fr2 i = G fr i) → runIs ok callH Q l fr2 S) : runIs ok callH Q l fr S :=
  h fr rfl fun _ => rfl

set_option maxHeartbeats 1000000 in
theorem law3_body (k : Int) (s : List UInt8) (v : V) (bs : List UInt8) (S : St) (hw : S.Wf) (hv : SlAt S 1 v bs.length (bytesV bs)) (Q : Post) (h : ∀ S', Q (.ret (.bool true)) S') : CallA PP 3 [.int .i64 k, .str s, v] S Q := by
  refine CallA.of_frame okF_ok F3_ok fun fr hfr0 hfr => ?_
  have h0 : G fr 0 = .int .i64 k := hfr 0 (by simp)
  have h1 : G fr 1 = .str s := hfr 1 (by simp)
  have h2 : G fr 2 = v := hfr 2 (by simp)
  have hfl : fr.length = 103 := hfr0
  clear hfr hfr0
  have hlen := hv.len
  simp only [F3, go_sem, h0, h1, h2, hfl, hlen]
  by_cases hs : s.length ≤ 524288
  · have hs' : ¬ (524288 : Int) < s.length := by omega
    by_cases hb : bs.length ≤ 524288
    · have hb' : ¬ (524288 : Int) < bs.length := by omega
      simp only [hs', hb', go_sem, h0, h1, h2, hfl, hlen]
      refine enc_spec k s S _ hw (by omega) ?_
      intro S1 x g1 ax
      simp only [resK_ret]
      refine runIs_abs fun fr2 hfl2 hG => ?_
      have k0 : G fr2 0 = .int .i64 k := by rw [hG]; simp only [go_sem, h0]
      have k1 : G fr2 1 = .str s := by rw [hG]; simp only [go_sem, h1]
      have k2 : G fr2 2 = v := by rw [hG]; simp only [go_sem, h2]
      have k33 : G fr2 33 = .tuple [x, .int .i64 (enc k s).2] := by rw [hG]; simp only [go_sem, hfl]
      simp only [go_sem, hfl] at hfl2
      clear hG h0 h1 h2 hfl
      clear fr
      simp only [go_sem, k0, k1, k2, k33, hfl2]
      refine encR_spec k s S1 _ g1.wf (by omega) ?_
      intro S2 y g2 ay
      simp only [resK_ret]
      refine runIs_abs fun fr hfl hG => ?_
      have h0 : G fr 0 = .int .i64 k := by rw [hG]; simp only [go_sem, k0]
      have h1 : G fr 1 = .str s := by rw [hG]; simp only [go_sem, k1]
      have h2 : G fr 2 = v := by rw [hG]; simp only [go_sem, k2]
      have h7 : G fr 7 = x := by rw [hG]; simp only [go_sem, hfl2]
      have h8 : G fr 8 = .int .i64 (enc k s).2 := by rw [hG]; simp only [go_sem, hfl2]
      have h39 : G fr 39 = .tuple [y, .int .i64 (enc k s).2] := by rw [hG]; simp only [go_sem, hfl2]
      simp only [go_sem, hfl2] at hfl
      clear hG k0 k1 k2 k33 hfl2
      clear fr2
      simp only [go_sem, h0, h1, h2, h39, hfl]
      have hv2 := (hv.grow g1).grow g2
      refine lend_spec v bs S2 _ g2.wf hv2 (by omega) ?_
      intro S3 z g3 lz
      simp only [resK_ret]
      refine runIs_abs fun fr2 hfl2 hG => ?_
      have k0 : G fr2 0 = .int .i64 k := by rw [hG]; simp only [go_sem, h0]
      have k2 : G fr2 2 = v := by rw [hG]; simp only [go_sem, h2]
      have k7 : G fr2 7 = x := by rw [hG]; simp only [go_sem, h7]
      have k8 : G fr2 8 = .int .i64 (enc k s).2 := by rw [hG]; simp only [go_sem, h8]
      have k9 : G fr2 9 = y := by rw [hG]; simp only [go_sem, hfl]
      have k10 : G fr2 10 = .int .i64 (enc k s).2 := by rw [hG]; simp only [go_sem, hfl]
      have k43 : G fr2 43 = z := by rw [hG]; simp only [go_sem, hfl]
      simp only [go_sem, hfl] at hfl2
      clear hG h0 h1 h2 h7 h8 h39 hfl
      clear fr
      simp only [go_sem, k2, k43, hfl2]
      refine dec_spec z bs S3 _ lz.sl (by omega) ?_
      simp only [decV, go_sem, k2, k43, hfl2]
      refine sum_spec z bs S3 _ lz.sl ?_
      simp only [resK_ret]
      refine runIs_abs fun fr hfl hG => ?_
      have h2 : G fr 2 = v := by rw [hG]; simp only [go_sem, k2]
      have h7 : G fr 7 = x := by rw [hG]; simp only [go_sem, k7]
      have h8 : G fr 8 = .int .i64 (enc k s).2 := by rw [hG]; simp only [go_sem, k8]
      have h9 : G fr 9 = y := by rw [hG]; simp only [go_sem, k9]
      have h10 : G fr 10 = .int .i64 (enc k s).2 := by rw [hG]; simp only [go_sem, k10]
      have h11 : G fr 11 = z := by rw [hG]; simp only [go_sem, hfl2]
      have h12 : G fr 12 = .int .i64 (dec bs).1 := by rw [hG]; simp only [go_sem, hfl2]
      have h13 : G fr 13 = .str (dec bs).2.1 := by rw [hG]; simp only [go_sem, hfl2]
      have h14 : G fr 14 = .int .i64 (dec bs).2.2.1 := by rw [hG]; simp only [go_sem, hfl2]
      have h15 : G fr 15 = .int .i64 (dec bs).2.2.2 := by rw [hG]; simp only [go_sem, hfl2]
      have h52 : G fr 52 = .int .u32 (crc bs : Nat) := by rw [hG]; simp only [go_sem, hfl2]
      simp only [go_sem, hfl2] at hfl
      clear hG k0 k2 k7 k8 k9 k10 k43 hfl2
      clear fr2
      simp only [go_sem, h2, h11, h52, hfl]
      have hv3 := hv2.grow g3
      refine back_spec z v bs S3 _ _ g3.wf lz hv3 (by omega) ?_
      intro S4 u4
      simp only [go_sem, h2, hfl]
      have g4 : Grow S2 S4 := g3.after u4 (fun i hi => .inl (lz.from i hi))
      have hv4 := hv2.grow g4
      refine decR_spec v bs S4 _ hv4 (by omega) ?_
      simp only [resK_ret, decV]
      refine runIs_abs fun fr2 hfl2 hG => ?_
      have k2 : G fr2 2 = v := by rw [hG]; simp only [go_sem, h2]
      have k7 : G fr2 7 = x := by rw [hG]; simp only [go_sem, h7]
      have k8 : G fr2 8 = .int .i64 (enc k s).2 := by rw [hG]; simp only [go_sem, h8]
      have k9 : G fr2 9 = y := by rw [hG]; simp only [go_sem, h9]
      have k10 : G fr2 10 = .int .i64 (enc k s).2 := by rw [hG]; simp only [go_sem, h10]
      have k12 : G fr2 12 = .int .i64 (dec bs).1 := by rw [hG]; simp only [go_sem, h12]
      have k13 : G fr2 13 = .str (dec bs).2.1 := by rw [hG]; simp only [go_sem, h13]
      have k14 : G fr2 14 = .int .i64 (dec bs).2.2.1 := by rw [hG]; simp only [go_sem, h14]
      have k15 : G fr2 15 = .int .i64 (dec bs).2.2.2 := by rw [hG]; simp only [go_sem, h15]
      have k16 : G fr2 16 = .int .u32 (crc bs : Nat) := by rw [hG]; simp only [go_sem, hfl]
      have k17 : G fr2 17 = .bool true := by rw [hG]; simp only [go_sem, hfl]
      have k58 : G fr2 58 = .tuple [.int .i64 (dec bs).1, .str (dec bs).2.1, .int .i64 (dec bs).2.2.1, .int .i64 (dec bs).2.2.2] := by rw [hG]; simp only [go_sem, hfl]
      simp only [go_sem, hfl] at hfl2
      clear hG h2 h7 h8 h9 h10 h11 h12 h13 h14 h15 h52 hfl
      clear fr
      simp only [go_sem, k58, hfl2]
      refine awake_spec _ _ ?_
      simp only [go_sem, k2, k7, k8, k9, k10, k12, k13, k14, k15, k16, k17, hfl2]
      refine same_spec x y _ _ S4 _ (((ax.at_.grow g2).grow g4)) (ay.at_.grow g4) ?_
      simp only [go_sem, k2, k7, k8, k9, k10, k12, k13, k14, k15, k16, k17, hfl2]
      refine sumR_spec v bs S4 _ hv4 ?_
      simp only [go_sem, k2, k7, k8, k9, k10, k12, k13, k14, k15, k16, k17, hfl2]
      exact h S4
    · have hb' : (524288 : Int) < bs.length := by omega
      simp only [hs', hb', go_sem, h0, h1, h2, hfl, hlen]
      exact h S
  · have hs' : (524288 : Int) < s.length := by omega
    simp only [hs', go_sem, h0, h1, h2, hfl, hlen]
    exact h S

theorem law3_spec (S : St) (av : List V) (hw : S.Wf) (h : HasAs S law3_shapes av) : CallA PP 3 av S (fun r _ => r = .ret (.bool true)) := by
  simp only [law3_shapes, HasAs, HasA, Has] at h
  obtain ⟨_, _, rfl, ⟨k, hk, _⟩, _, _, rfl, ⟨s, hs, _⟩, _, _, rfl, ⟨v, n, es, hv, hsl, _, hes⟩, rfl⟩ := h
  cases hk; cases hs; cases hv
  obtain ⟨bs, rfl, rfl⟩ := has_bytes (S := S) hsl.2.1 (fun m hm => by simp only [Has]; exact hes m hm)
  exact law3_body _ _ _ bs S hw hsl (fun r _ => r = .ret (.bool true)) fun _ => rfl

end Go.Th.Codec
