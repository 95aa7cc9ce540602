/- Codec: the check, and numbers as bytes. -/
import Derived.Test.YthimmjgpiadmbaaThP
import Derived.Test.YthimmjgpiadmbaaThCodecF
set_option linter.unusedSimpArgs false
set_option linter.unusedVariables false
namespace Go.Th.Codec
open Go Go.Th
noncomputable abbrev PP := Go.Proofs.Try.prog

theorem sum_spec (v : V) (bs : List UInt8) (S : St) (Q : Post) (hv : SlAt S 1 v bs.length (bytesV bs)) (h : Q (.ret (.int .u32 (crc bs : Nat))) S) : CallA PP 12 [v] S Q := by
  refine CallA.of_body okF_ok F12_ok ?_
  have hlen := hv.len
  have hle := hv.le
  simp only [F12, go_sem, hlen]
  refine LoopA.ind okF_ok (fun n fr S' => S' = S ∧ fr.length = 29 ∧ G fr 6 = v ∧ G fr 7 = .int .i64 bs.length ∧ ∃ j : Nat, G fr 8 = .int .i64 j ∧ j + n = bs.length ∧ G fr 3 = .int .u32 (crcFold (bs.take j) : Nat)) ?_ bs.length _ _ ⟨rfl, rfl, rfl, rfl, 0, rfl, by omega, rfl⟩
  rintro n fr S' ⟨rfl, hfl, h6, h7, j, h8, hj, h3⟩
  simp only [go_sem, h6, h7, h8, h3, hfl]
  by_cases hlt : j < bs.length
  · have hlt' : ((j : Int) < bs.length) := by omega
    have hld := hv.load (m := j) (off := 0) hlt (by omega)
    rw [Nat.mul_one, Nat.add_zero, bytesV_get hlt] at hld
    have hc := crcFold_lt (bs.take j)
    have hb := byte_lt bs[j]
    simp only [hlt', go_sem, h6, h7, h8, h3, hfl, hv.idx hlt, hld, u32_bits (show bs[j].toNat < 4294967296 by omega), xor_u32 hc (show bs[j].toNat < 4294967296 by omega)]
    have hc2 : crcFold (bs.take j) ^^^ bs[j].toNat < 4294967296 := Nat.xor_lt_two_pow (n := 32) hc (by omega)
    refine LoopA.ind okF_ok (fun k fr S'' => S'' = S' ∧ fr.length = 29 ∧ G fr 6 = v ∧ G fr 7 = .int .i64 bs.length ∧ G fr 8 = .int .i64 j ∧ ∃ i : Nat, G fr 16 = .int .i64 i ∧ i + k = 8 ∧ G fr 3 = .int .u32 (crcRun i (crcFold (bs.take j) ^^^ bs[j].toNat) : Nat)) ?_ 8 _ _ ?_
    · rintro k fr S'' ⟨rfl, hfl, h6, h7, h8, i, h16, hi, h3⟩
      simp only [go_sem, h6, h7, h8, h16, h3, hfl]
      by_cases hi8 : i < 8
      · have hi8' : ((i : Int) < 8) := by omega
        have hcr := crcRun_lt i hc2
        simp only [hi8', go_sem, h6, h7, h8, h16, h3, hfl, crcStep_mask hcr]
        simp only [show ¬ ((1 : Int) < 0) by omega, go_sem, crcStep_mask hcr, h6, h7, h8, h16, h3, hfl, true_and, wrap_nat (show i < 4611686018427387905 by omega)]
        refine ⟨k - 1, by omega, i + 1, rfl, by omega, ?_⟩
        rw [crcRun_succ]
        exact congrArg (V.int IntKind.u32) (crcStep_mask hcr)
      · have hi8' : ¬ ((i : Int) < 8) := by omega
        have hi8e : i = 8 := by omega
        subst hi8e
        simp only [hi8', go_sem, h6, h7, h8, h16, h3, hfl, true_and, wrap_nat (show j < 4611686018427387905 by omega)]
        refine ⟨n - 1, by omega, j + 1, rfl, by omega, ?_⟩
        rw [crcFold_take_succ hlt]; rfl
    · simp only [go_sem, h6, h7, h8, h3, hfl, true_and]
      exact ⟨0, rfl, by omega, rfl⟩
  · have hlt' : ¬ ((j : Int) < bs.length) := by omega
    have hjn : j = bs.length := by omega
    rw [hjn, List.take_length] at h3
    simp only [hlt', go_sem, hfl, h3]
    have : intBits .xor .u32 IntKind.u32.max (crcFold bs : Nat) = (crc bs : Nat) := xor_u32 (a := 4294967295) (by omega) (crcFold_lt bs)
    simp only [show IntKind.u32.signed = false from rfl, go_sem, this, hfl, Bool.false_eq_true]
    exact h

theorem shr8 (a : Int) : a.fdiv (2 ^ (min (Int.toNat 8) 64)) = a / 256 := by
  show a.fdiv 256 = _
  exact Int.fdiv_eq_ediv_of_nonneg _ (by omega)

/-- What a function gives that lays n bytes of a number behind a row. -/
def Lays (P : Program) (f : Nat) (ok : Int → Prop) : Prop := ∀ (b : V) (v : Int) (n m B : Nat) (bs : List UInt8) (S : St) (Q : Post), S.Wf → B ≤ S.next → Acc S B 1 b m (bytesV bs) → m + n ≤ 1099511627776 → ok v →
  (∀ S' b', Acc S' B 1 b' (m + n) (bytesV (bs ++ le n v)) → Upd b.block S S' → (∀ i ∈ b'.block, i ∈ b.block ∨ S.next ≤ i) → Q (.ret b') S') → CallA P f [b, .int .i64 v, .int .i64 n] S Q

/-- A byte more behind a row. -/
theorem app_byte {S : St} (hw : S.Wf) {B m : Nat} (hB : B ≤ S.next) {b : V} {bs : List UInt8} (ha : Acc S B 1 b m (bytesV bs)) (hm : m + 1 ≤ 1099511627776) (x : UInt8) :
    ∃ b' S', appV (S.new (.cells [.int .u8 x.toNat] true)) 1 1 b (.slice S.next 0 1 1 1 true) = some (b', S') ∧ Acc S' B 1 b' (m + 1) (bytesV (bs ++ [x])) ∧ Upd b.block S S' ∧ ∀ i ∈ b'.block, i ∈ b.block ∨ S.next ≤ i := by
  have g1 : Grow S (S.new (.cells [.int .u8 x.toNat] true)) := (Upd.refl hw []).new _
  have ha1 := ha.grow g1
  have hs := (Acc.fresh hw hB (n := 1) (k := 1) (by omega) (cs := [.int .u8 x.toNat]) rfl rfl true).at_.src
  obtain ⟨b', S', h1, h2, h3, h4⟩ := ha1.app g1.wf (by have := g1.le; omega) hs rfl rfl (bytes := 1) (by omega) (by omega)
  refine ⟨b', S', h1, ?_, (g1.mono (by simp)).trans h3, fun i hi => ?_⟩
  · rw [bytesV_append]; exact h2
  · rcases h4 i hi with h | h
    · exact .inl h
    · have := g1.le; exact .inr (by omega)

theorem lay_spec : Lays PP 33 (fun _ => True) := by
  intro b v n m B bs S Q hw hB ha hmn _ h
  refine CallA.of_body okF_ok F33_ok ?_
  simp only [F33, go_sem]
  refine LoopA.ind okF_ok (fun k fr S' => fr.length = 19 ∧ G fr 7 = .int .i64 n ∧ ∃ (j : Nat) (b' : V), j + k = n ∧ G fr 8 = .int .i64 j ∧ G fr 1 = .int .i64 (v / 256 ^ j) ∧ G fr 0 = b' ∧ Acc S' B 1 b' (m + j) (bytesV (bs ++ le j v)) ∧ Upd b.block S S' ∧ ∀ i ∈ b'.block, i ∈ b.block ∨ S.next ≤ i) ?_ n _ _ ?_
  · rintro k fr S' ⟨hfl, h7, j, b', hj, h8, h1, h0, ha', hu, hbl⟩
    simp only [go_sem, h0, h1, h7, h8, hfl]
    by_cases hlt : j < n
    · have hlt' : ((j : Int) < n) := by omega
      obtain ⟨b2, S2, e1, e2, e3, e4⟩ := app_byte hu.wf (by have := hu.le; omega) ha' (by omega) (byteZ (v / 256 ^ j))
      simp only [hlt', go_sem, h0, h1, h7, h8, hfl, wrap_byte, e1, show ¬ ((8 : Int) < 0) by omega, shr8, wrap_nat (show j < 4611686018427387905 by omega)]
      refine ⟨k - 1, by omega, j + 1, b2, by omega, rfl, ?_, rfl, ?_, ?_, ?_⟩
      · rw [Int.ediv_ediv_of_nonneg (by have : (0:Int) < 256 ^ j := Int.pow_pos (by omega); omega), Int.pow_succ]
      · rw [le_succ, ← List.append_assoc]; exact e2
      · exact hu.after e3 (fun i hi => by rcases hbl i hi with h | h; exact .inr h; exact .inl h)
      · intro i hi
        rcases e4 i hi with h | h
        · exact hbl i h
        · have := hu.le; exact .inr (by omega)
    · have hlt' : ¬ ((j : Int) < n) := by omega
      have : j = n := by omega
      subst this
      simp only [hlt', go_sem, h0, h1, h7, h8, hfl]
      exact h S' b' ha' hu hbl
  · simp only [go_sem]
    exact ⟨0, b, by omega, rfl, by simp, rfl, by simpa [le] using ha, Upd.refl hw _, fun i hi => .inl hi⟩

theorem number_spec : Lays PP 35 (fun v => 0 ≤ v ∧ v < 9223372036854775808) := by
  intro b v n m B bs S Q hw hB ha hmn hv h
  refine CallA.of_body okF_ok F35_ok ?_
  simp only [F35, go_sem]
  refine LoopA.ind okF_ok (fun k fr S' => fr.length = 22 ∧ G fr 2 = .int .i64 n ∧ ∃ (j : Nat) (b' : V), j + k = n ∧ G fr 7 = .int .i64 j ∧ G fr 1 = .int .i64 (v / 256 ^ j) ∧ G fr 0 = b' ∧ Acc S' B 1 b' (m + j) (bytesV (bs ++ le j v)) ∧ Upd b.block S S' ∧ ∀ i ∈ b'.block, i ∈ b.block ∨ S.next ≤ i) ?_ n _ _ ?_
  · rintro k fr S' ⟨hfl, h7, j, b', hj, h8, h1, h0, ha', hu, hbl⟩
    simp only [go_sem, h0, h1, h7, h8, hfl]
    by_cases hlt : j < n
    · have hlt' : ((j : Int) < n) := by omega
      have hpos : (0 : Int) < 256 ^ j := Int.pow_pos (by omega)
      have hq0 : 0 ≤ v / 256 ^ j := Int.ediv_nonneg hv.1 (by omega)
      have hq1 : v / 256 ^ j ≤ v := Int.ediv_le_self _ hv.1
      have hrem : (v / 256 ^ j).tmod 256 = v / 256 ^ j % 256 := Int.tmod_eq_emod_of_nonneg hq0
      have hb : IntKind.u8.wrap (v / 256 ^ j % 256) = ((byteZ (v / 256 ^ j)).toNat : Int) := by rw [byteZ_toNat, IntKind.wrap_u8]; omega
      have hquo : IntKind.i64.wrap ((v / 256 ^ j).tdiv 256) = v / 256 ^ (j + 1) := by
        rw [Int.tdiv_eq_ediv_of_nonneg hq0, Int.ediv_ediv_of_nonneg (by omega), Int.pow_succ]
        refine i64_int ?_ ?_
        · have : 0 ≤ v / (256 ^ j * 256) := Int.ediv_nonneg hv.1 (by omega)
          omega
        · have : v / (256 ^ j * 256) ≤ v := Int.ediv_le_self _ hv.1
          omega
      obtain ⟨b2, S2, e1, e2, e3, e4⟩ := app_byte hu.wf (by have := hu.le; omega) ha' (by omega) (byteZ (v / 256 ^ j))
      simp only [hlt', go_sem, h0, h1, h7, h8, hfl, show ¬ ((256 : Int) = 0) by omega, hrem, hb, e1, hquo, wrap_nat (show j < 4611686018427387905 by omega)]
      refine ⟨k - 1, by omega, j + 1, b2, by omega, rfl, rfl, rfl, ?_, ?_, ?_⟩
      · rw [le_succ, ← List.append_assoc]; exact e2
      · exact hu.after e3 (fun i hi => by rcases hbl i hi with h | h; exact .inr h; exact .inl h)
      · intro i hi
        rcases e4 i hi with h | h
        · exact hbl i h
        · have := hu.le; exact .inr (by omega)
    · have hlt' : ¬ ((j : Int) < n) := by omega
      have : j = n := by omega
      subst this
      simp only [hlt', go_sem, h0, h1, h7, h8, hfl]
      exact h S' b' ha' hu hbl
  · simp only [go_sem]
    exact ⟨0, b, by omega, rfl, by simp, rfl, by simpa [le] using ha, Upd.refl hw _, fun i hi => .inl hi⟩

end Go.Th.Codec
