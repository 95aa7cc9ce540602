/- What the row of one statement stands on: a store, abstract code, functions of the program and their laws (ThHhttp2, ThHhttp3, ThHhttp4, ThHhttp5). -/
import Derived.Test.YtkmmkfiekamgpaaGreatDoorThBHhttp1
import Derived.Test.YtkmmkfiekamgpaaGreatDoorThBPhttp2

section
/- http and its reference: responses printed. -/
set_option linter.unusedSimpArgs false
set_option linter.unusedVariables false
namespace Go.Th.L
open Go Go.Th Go.Th.Pure
variable {P : Program} {N : Nat → Nat}

def WordSpec (P : Program) (f : Nat) : Prop := ∀ (c : Int) (S : St) (K : Bs → St → Prop), K (wordF c) S → CallA P f [.int .i64 c] S (retT [.one .str] K)
theorem http_word.spec (hF : http_word.Ok P N) : WordSpec P (N Fn.http_word) := by
  intro c S K hk
  unfold wordF at hk
  refine http_word.run hF ?_
  iterate 7 (refine ifC_dec (fun h => by rw [if_pos h] at hk; exact hk) (fun h => ?_); rw [if_neg h] at hk)
  exact hk
theorem ref22_Word.spec (hF : ref22_Word.Ok P N) : WordSpec P (N Fn.ref22_Word) := by
  intro c S K hk
  unfold wordF at hk
  refine ref22_Word.run hF ?_
  iterate 7 (refine ifC_dec (fun h => by rw [if_pos h] at hk; exact hk) (fun h => ?_); rw [if_neg h] at hk)
  exact hk

theorem digit_at : ∀ d : Nat, d < 10 → ((([48, 49, 50, 51, 52, 53, 54, 55, 56, 57] : Bs).take (d + 1)).drop d) = [UInt8.ofNat (48 + d)] := by
  have h : ∀ d : Fin 10, ((([48, 49, 50, 51, 52, 53, 54, 55, 56, 57] : Bs).take (d.val + 1)).drop d.val) = [UInt8.ofNat (48 + d.val)] := by decide
  exact fun d hd => h ⟨d, hd⟩

def DigitsSpec (P : Program) (f : Nat) : Prop := ∀ (n : Nat) (S : St) (K : Bs → St → Prop), n ≤ 1099511627776 → K (numB n) S → CallA P f [.int .i64 (n : Nat)] S (retT [.one .str] K)
theorem ref22_digits.spec (hF : ref22_digits.Ok P N) : DigitsSpec P (N Fn.ref22_digits) := by
  intro n S K h1 hk
  refine ref22_digits.run hF (Loop2.ind (fun m u s S' => S = S' ∧ ∃ a : Nat, u = a ∧ m = (if s = [] then a + 1 else a) ∧ s.length + a ≤ n + 1 ∧ (if s = [] then Lib.decDigits a else if a = 0 then s else Lib.decDigits a ++ s) = numB n) (n + 1) ⟨rfl, n, rfl, rfl, by simp, rfl⟩ ?_)
  rintro m _ s _ ⟨rfl, a, rfl, rfl, hlen, he⟩
  refine Join0.mid (fun S' => S = S' ∧ (s = [] ∨ 0 < a)) (ifC_dec (fun h => ⟨rfl, .inl h⟩) (fun h => ifC_dec (fun h2 => ⟨rfl, .inr (by omega)⟩) (fun h2 => ?_))) ?_
  · have e : a = 0 := by omega
    rw [if_neg h, if_pos e] at he
    rw [← he] at hk; exact hk
  rintro _ ⟨rfl, hor⟩
  have ed : Int.tmod (a : Int) 10 = ((a % 10 : Nat) : Int) := by rw [Int.tmod_eq_emod_of_nonneg (by omega)]; omega
  have eq : Int.tdiv (a : Int) 10 = ((a / 10 : Nat) : Int) := by rw [Int.tdiv_eq_ediv_of_nonneg (by omega)]; omega
  refine ⟨by decide, setI_mk ed ⟨by decide, setI_mk ed (setI_mk (wrap_nat (by omega)) ⟨_, sliceStr_sub (l := a % 10) (h := a % 10 + 1) (by omega) (by rw [show ([48, 49, 50, 51, 52, 53, 54, 55, 56, 57] : Bs).length = 10 from rfl]; omega), ?_, by decide, setI_mk (n := ((a / 10 : Nat) : Int)) (by rw [eq, IntKind.wrap_i64]; omega) ⟨a / 10, ?_, rfl, a / 10, rfl, ?_, ?_, ?_⟩⟩)⟩⟩
  · rw [digit_at _ (by omega), List.length_singleton]
    omega
  · split
    · omega
    · rename_i h; have := hor.resolve_left h; omega
  · rw [digit_at _ (by omega), if_neg (by simp)]
  · rw [digit_at _ (by omega)]
    simp only [List.cons_append, List.nil_append, List.length_cons]
    by_cases ha : a = 0
    · subst ha
      have : s = [] := hor.resolve_right (by omega)
      subst this; simp
    · omega
  · rw [digit_at _ (by omega), if_neg (by simp)]
    rw [← he]
    by_cases ha : a < 10
    · rw [if_pos (by omega)]
      have e1 : Lib.decDigits a = [UInt8.ofNat (48 + a % 10)] := by rw [dec1 ha, Nat.mod_eq_of_lt ha]
      by_cases hs : s = []
      · rw [if_pos hs, hs, e1]; rfl
      · rw [if_neg hs, if_neg (by have := hor.resolve_left hs; omega), e1]
    · rw [if_neg (by omega)]
      have e1 := dec2 (n := a) (by omega)
      by_cases hs : s = []
      · rw [if_pos hs, hs, e1]; rfl
      · rw [if_neg hs, if_neg (by omega), e1, List.append_assoc]

def PrintSpec (P : Program) (f : Nat) : Prop := ∀ (c : Int) (body : Bs) (cl : Bool) (S : St) (K : V → Int → St → Prop), HG S → body.length ≤ 1099511627776 →
  (∀ v S', Grow S S' → BytesAt S' v (printC c body cl).1 → K v (printC c body cl).2 S') → CallA P f [.agg [.int .i64 c, .str body, .bool cl]] S (retT [.one .any, .one (.int .i64)] K)

theorem BytesAt.nil (S : St) : BytesAt S .nilSlice [] := ⟨by simp, rfl, .inl ⟨rfl, rfl⟩⟩
theorem new_bytes {S : St} (hw : S.Wf) {l : Bs} (hl : l.length ≤ 4611686018427387904) {k : St → Prop} (h : ∀ S', Grow S S' → BytesAt S' (.slice S.next 0 l.length l.length 1 false) l → k S') : newS S (.cells (bytesV l) true) k :=
  newS_mk hw fun S' g m n => h S' g ⟨hl, by rw [bytesV_length, Nat.mul_one], .inr ⟨_, _, _, _, rfl, Nat.le_refl _, by rw [Nat.mul_one, St.loads_of m (by rw [bytesV_length, Nat.zero_add]; exact Nat.le_refl _), List.drop_zero, List.take_of_length_le (by rw [bytesV_length]; exact Nat.le_refl _)]⟩⟩

/-- The printed text's lengths. -/
theorem code_le {c : Int} (h : wordF c ≠ []) : (Lib.itoa c).length ≤ 3 := Nat.le_of_eq (code_len c (word_code h))

theorem http_Print.spec (hF : http_Print.Ok P N) (hw : WordSpec P (N Fn.http_word)) (hi : ItoaS P (N Fn.strconv_Itoa)) : PrintSpec P (N Fn.http_Print) := by
  intro c body cl S K hg hl hk
  refine CallA.wfT fun hwf => ?_
  refine http_Print.run hF (newS_mk hwf fun S1 g1 m1 n1 => ⟨_, ld m1 rfl, hw _ _ _ (ifC_dec (fun h => ?_) (fun h => ⟨_, ld m1 rfl, ifC_dec (fun h2 => ?_) (fun h2 => ?_)⟩))⟩)
  · rw [printC, if_pos h] at hk
    exact hk _ _ g1 (BytesAt.nil _)
  · rw [printC, if_neg h, if_pos (by omega)] at hk
    exact hk _ _ g1 (BytesAt.nil _)
  rw [printC, if_neg h, if_neg (by omega)] at hk
  have hc := code_le h
  have hwl := word_len c
  have hn := dec_len 5 body.length (by omega)
  obtain ⟨-, hc1, hc2⟩ := code_num c (word_code h)
  have hib : Lib.itoa (body.length : Int) = numB body.length := by unfold Lib.itoa; rw [if_neg (by omega)]; simp [numB]
  have hnl : (numB body.length).length ≤ 6 := hn
  refine ⟨_, ld m1 rfl, _, ld m1 rfl, _, ld m1 rfl, ?_⟩
  refine hi c S1 _ (hg.grow g1) (by omega) (by omega) ⟨_, rfl, ?_⟩
  refine ⟨Same.refl _ _, ?_, ?_, hw _ _ _ ⟨Same.refl _ _, ?_, ?_, hi _ S1 _ (hg.grow g1) (by omega) (by omega) ⟨_, rfl, ?_⟩⟩⟩
  · simp only [List.length_append, List.length_cons, List.length_nil]; omega
  · simp only [List.length_append, List.length_cons, List.length_nil]; omega
  · simp only [List.length_append, List.length_cons, List.length_nil]; omega
  · simp only [List.length_append, List.length_cons, List.length_nil]; omega
  rw [hib]
  refine ⟨Same.refl _ _, ?_, ?_, ?_⟩
  · simp only [List.length_append, List.length_cons, List.length_nil]; omega
  · simp only [List.length_append, List.length_cons, List.length_nil]; omega
  refine Join1.mid (fun t S' => S' = S1 ∧ t = if cl then ((frontC c ++ numB body.length) ++ [13, 10]) ++ wClose else (frontC c ++ numB body.length) ++ [13, 10]) ?_ ?_
  · refine ⟨_, ld m1 rfl, ?_⟩
    cases cl
    · exact ifC_ff rfl ⟨rfl, rfl⟩
    · refine ifC_tt rfl ⟨?_, rfl, rfl⟩
      simp only [List.length_append, List.length_cons, List.length_nil]; omega
  · rintro t _ ⟨rfl, ht⟩
    have hfl : (frontC c).length ≤ 60 := by simp only [frontC, wHttp, wLen, List.length_append, List.length_cons, List.length_nil]; omega
    have htl : t.length ≤ 100 := by
      rw [ht]; cases cl
      · simp only [Bool.false_eq_true, if_false, List.length_append, List.length_cons, List.length_nil]; omega
      · simp only [if_true, wClose, List.length_append, List.length_cons, List.length_nil]; omega
    have he : (t ++ [13, 10]) ++ body = allC c body cl := by
      rw [ht, allC, headC]; cases cl <;> rfl
    refine ⟨by simp only [List.length_cons, List.length_nil]; omega, _, ld m1 rfl, by simp only [List.length_append, List.length_cons, List.length_nil]; omega, ?_⟩
    rw [he]
    refine new_bytes g1.wf (by rw [← he]; simp only [List.length_append, List.length_cons, List.length_nil]; omega) fun S' g hb => hk _ S' (g1.trans g) hb

theorem ref22_Print.spec (hF : ref22_Print.Ok P N) (hw : WordSpec P (N Fn.ref22_Word)) (hi : DigitsSpec P (N Fn.ref22_digits)) : PrintSpec P (N Fn.ref22_Print) := by
  intro c body cl S K hg hl hk
  refine CallA.wfT fun hwf => ?_
  refine ref22_Print.run hF (newS_mk hwf fun S1 g1 m1 n1 => ⟨_, ld m1 rfl, hw _ _ _ (ifC_dec (fun h => ?_) (fun h => ⟨_, ld m1 rfl, ifC_dec (fun h2 => ?_) (fun h2 => ?_)⟩))⟩)
  · rw [printC, if_pos h] at hk
    exact hk _ _ g1 (BytesAt.nil _)
  · rw [printC, if_neg h, if_pos (by omega)] at hk
    exact hk _ _ g1 (BytesAt.nil _)
  rw [printC, if_neg h, if_neg (by omega)] at hk
  have hc := code_le h
  have hwl := word_len c
  have hn := dec_len 5 body.length (by omega)
  obtain ⟨hcn, hc1, hc2⟩ := code_num c (word_code h)
  have hnl : (numB body.length).length ≤ 6 := hn
  refine ⟨_, ld m1 rfl, _, ld m1 rfl, _, ld m1 rfl, ?_⟩
  have ec : c = ((c.toNat : Nat) : Int) := by omega
  have d1 := hi c.toNat S1
  rw [← ec, ← hcn] at d1
  refine d1 _ (by omega) ?_
  refine ⟨Same.refl _ _, ?_, ?_, hw _ _ _ ⟨Same.refl _ _, ?_, ?_, hi body.length S1 _ hl ?_⟩⟩
  · simp only [List.length_append, List.length_cons, List.length_nil]; omega
  · simp only [List.length_append, List.length_cons, List.length_nil]; omega
  · simp only [List.length_append, List.length_cons, List.length_nil]; omega
  · simp only [List.length_append, List.length_cons, List.length_nil]; omega
  refine ⟨Same.refl _ _, ?_, ?_, ?_⟩
  · simp only [List.length_append, List.length_cons, List.length_nil]; omega
  · simp only [List.length_append, List.length_cons, List.length_nil]; omega
  refine Join1.mid (fun t S' => S' = S1 ∧ t = if cl then ((frontC c ++ numB body.length) ++ [13, 10]) ++ wClose else (frontC c ++ numB body.length) ++ [13, 10]) ?_ ?_
  · refine ⟨_, ld m1 rfl, ?_⟩
    cases cl
    · exact ifC_ff rfl ⟨rfl, rfl⟩
    · refine ifC_tt rfl ⟨?_, rfl, rfl⟩
      simp only [List.length_append, List.length_cons, List.length_nil]; omega
  · rintro t _ ⟨rfl, ht⟩
    have hfl : (frontC c).length ≤ 60 := by simp only [frontC, wHttp, wLen, List.length_append, List.length_cons, List.length_nil]; omega
    have htl : t.length ≤ 100 := by
      rw [ht]; cases cl
      · simp only [Bool.false_eq_true, if_false, List.length_append, List.length_cons, List.length_nil]; omega
      · simp only [if_true, wClose, List.length_append, List.length_cons, List.length_nil]; omega
    have he : (t ++ [13, 10]) ++ body = allC c body cl := by
      rw [ht, allC, headC]; cases cl <;> rfl
    refine ⟨by simp only [List.length_cons, List.length_nil]; omega, _, ld m1 rfl, by simp only [List.length_append, List.length_cons, List.length_nil]; omega, ?_⟩
    rw [he]
    refine new_bytes g1.wf (by rw [← he]; simp only [List.length_append, List.length_cons, List.length_nil]; omega) fun S' g hb => hk _ S' (g1.trans g) hb
end Go.Th.L
end

section
/- http: responses read. -/
set_option linter.unusedSimpArgs false
set_option linter.unusedVariables false
namespace Go.Th.L
open Go Go.Th Go.Th.Pure
variable {P : Program} {N : Nat → Nat}

theorem tell3 {S : St} (hw : S.Wf) {i : Nat} {cs : List V} (hg : S.get i = some (.cells cs true)) (hl : cs.length = 3) {a : Int} {b : Bs} {c : Bool} {K : Int → Bs → Bool → St → Prop} (hk : ∀ S', Upd [i] S S' → K a b c S') :
    ifS (storeV S 3 (.ptr i 0) (.agg [.int .i64 a, .str b, .bool c])) fun S3 => ∃ xa : Int, ∃ xb : Bs, ∃ xc : Bool, cellNV S3 3 (.ptr i 0) = some (.agg [.int .i64 xa, .str xb, .bool xc]) ∧ K xa xb xc S3 := by
  match cs, hl with
  | [a1, a2, a3], _ => exact st_mk hw hg (by simp [V.cells]) (by simp [V.cells]) rfl fun S3 u3 m3 n3 => ⟨_, _, _, ldC m3 (by simp [over, V.cells]) rfl, hk S3 u3⟩

def ReadSpec (P : Program) (f : Nat) : Prop := ∀ (v : V) (b : Bs) (S : St) (K : Int → Bs → Bool → Int → Int → St → Prop), S.Wf → HG S → BytesAt S v b → b.length ≤ 1073741824 →
  (∀ c body cl n e S', Grow S S' → RdOk b c body cl n e → K c body cl n e S') → CallA P f [v] S (retT [.agg [.int .i64, .str, .bool], .one (.int .i64), .one (.int .i64)] K)

/-- What the code takes apart, where a response stands. -/
theorem reads_parts {b : Bs} {c : Int} {body : Bs} {cl : Bool} (h : RespAt b c body cl) :
    (cutL b [13, 10, 13, 10]).2.2 = true ∧ splitL (cutL b [13, 10, 13, 10]).1 [13, 10] = linesL c body.length cl ∧ ∃ x, (cutL b [13, 10, 13, 10]).2.1 = body ++ x := by
  obtain ⟨h1, h2, x, rfl⟩ := h
  rw [cut_all h1]
  exact ⟨rfl, split_head h1 _ _, x, rfl⟩
theorem linesL_len (c : Int) (n : Nat) (cl : Bool) : (linesL c n cl).length = if cl then 3 else 2 := by cases cl <;> rfl
theorem cut_len (b s : Bs) : (cutL b s).1.length ≤ b.length ∧ (cutL b s).2.1.length ≤ b.length := by
  unfold cutL
  cases h : findL s b with
  | none => simp
  | some p =>
    obtain ⟨a, r⟩ := p
    have := findL_eq s b a r h
    have := congrArg List.length this
    simp only [List.length_append] at this
    simp only; omega
theorem splitF_mem (s : Bs) : ∀ (k : Nat) (b : Bs), ∀ p ∈ splitF s k b, p.length ≤ b.length
  | 0, b, p, hp => by simp [splitF] at hp; simp [hp]
  | k + 1, b, p, hp => by
    simp only [splitF] at hp
    split at hp
    · rename_i a r h
      have h2 := findL_eq s b a r h
      have := congrArg List.length h2
      simp only [List.length_append] at this
      rcases List.mem_cons.mp hp with rfl | hp
      · omega
      · have := splitF_mem s k r p hp; omega
    · simp at hp; simp [hp]
theorem splitF_len (s : Bs) : ∀ (k : Nat) (b : Bs), (splitF s k b).length ≤ k + 1
  | 0, b => by simp [splitF]
  | k + 1, b => by
    simp only [splitF]
    split
    · have := splitF_len s k; simp only [List.length_cons]; exact Nat.succ_le_succ (this _)
    · simp
theorem trimP_len (s t : Bs) : (Lib.trimPrefix s t).length ≤ s.length := by
  unfold Lib.trimPrefix; split
  · simp
  · exact Nat.le_refl _
theorem eqI_nil : eqV 5 [] V.nilIface V.nilIface = some true := rfl

theorem printC_ok {c : Int} {body : Bs} {cl : Bool} (h : (printC c body cl).2 = 0) : wordF c ≠ [] ∧ body.length ≤ 65536 ∧ (printC c body cl).1 = allC c body cl := by
  unfold printC at h ⊢
  by_cases h1 : wordF c = []
  · rw [if_pos h1] at h; cases h
  · rw [if_neg h1] at h ⊢
    by_cases h2 : 65536 < body.length
    · rw [if_pos h2] at h; cases h
    · rw [if_neg h2]; exact ⟨h1, by omega, rfl⟩
theorem printC_of {b : Bs} {c : Int} {body : Bs} {cl : Bool} (h : RespAt b c body cl) : printC c body cl = (allC c body cl, 0) := by
  rw [printC, if_neg h.1, if_neg (by have := h.2.1; omega)]

theorem _root_.Go.Th.AtoiS.both {f : Nat} (ha : AtoiS P f) {s : Bs} {S : St} {K : Int → V → St → Prop} (hg : HG S) (hl : s.length ≤ 281474976710656)
    (h : ∀ v w, ((w = .nilIface ∧ Lib.atoiAll s = .ok v) ∨ ((∃ t, w = .iface t .junk) ∧ ∀ v, Lib.atoiAll s ≠ .ok v)) → K v w S) : CallA P f [.str s] S (retT [.one (.int .i64), .one .any] K) :=
  ha s S _ hg hl (fun v hv => ⟨_, _, rfl, h v _ (.inl ⟨rfl, hv⟩)⟩) (fun hn n t => ⟨_, _, rfl, h n _ (.inr ⟨⟨t, rfl⟩, hn⟩)⟩)

theorem http_Read.spec (hF : http_Read.Ok P N) (hc : CutS P (N Fn.strings_Cut)) (hs : SplitS P (N Fn.strings_Split)) (ha : AtoiS P (N Fn.strconv_Atoi)) (hp : CutPrefixS P (N Fn.strings_CutPrefix)) (hP : PrintSpec P (N Fn.http_Print)) (hb : BPrefixS P (N Fn.bytes_HasPrefix)) : ReadSpec P (N Fn.http_Read) := by
  intro v b S K hw hg hv hl hk
  refine http_Read.run hF (newS_mk hw fun S1 g1 m1 n1 => ⟨_, bytes_str (hv.grow g1), ?_⟩)
  have hg1 := hg.grow g1
  have hcl := cut_len b [13, 10, 13, 10]
  have hparts := @reads_parts b
  refine hc b _ S1 _ hg1 (by omega) ⟨_, _, _, rfl, ?_⟩
  generalize cutL b [13, 10, 13, 10] = p at hcl hparts
  obtain ⟨head, rest, ok⟩ := p
  simp only at hcl hparts ⊢
  refine hs head [13, 10] S1 _ hg1 (by omega) (by simp) ⟨_, rfl, ?_⟩
  have hmem : ∀ q ∈ splitL head [13, 10], q.length ≤ head.length := fun q hq => splitF_mem _ _ _ q hq
  have hsl : (splitL head [13, 10]).length ≤ head.length + 1 := splitF_len _ _ _
  generalize splitL head [13, 10] = lines at hmem hsl hparts
  have g2 : Grow S1 (S1.new (.cells (strsV lines) true)) := (Upd.refl g1.wf []).new _
  have m2 : (S1.new (.cells (strsV lines) true)).get S1.next = some (.cells (strsV lines) true) := by simp
  have m1' : (S1.new (.cells (strsV lines) true)).get S.next = some (.cells [.int .i64 0, .str [], .bool false] true) := g2.get m1
  generalize S1.new (.cells (strsV lines) true) = S2 at g2 m2 m1'
  have hx : StrsAt S2 (.slice S1.next 0 lines.length lines.length 1 true) lines := ⟨by omega, by simp [strsV], .inr ⟨_, _, _, _, rfl, Nat.le_refl _, by rw [Nat.mul_one, St.loads_of m2 (by simp [strsV]), List.drop_zero, List.take_of_length_le (by simp [strsV])]⟩⟩
  have hg2 := hg1.grow g2
  have g12 := g1.trans g2
  have bad : (∀ c body cl, ¬ RespAt b c body cl) → ∀ S' : St, Grow S S' → S'.get S.next = some (.cells [.int .i64 0, .str [], .bool false] true) →
      ifS (storeV S' 3 (.ptr S.next 0) (.agg [.int .i64 0, .str [], .bool false])) fun S5 => ∃ xr_a : Int, ∃ xr_b : Bs, ∃ xr_c : Bool, cellNV S5 3 (.ptr S.next 0) = some (.agg [.int .i64 xr_a, .str xr_b, .bool xr_c]) ∧ K xr_a xr_b xr_c 0 220 S5 := fun hno S' g m =>
    tell3 g.wf m rfl (K := fun a b c S' => K a b c 0 220 S') fun S5 u => hk _ _ _ _ _ S5 (g.after u (by simp)) (.inr ⟨rfl, hno, rfl, rfl, rfl, rfl⟩)
  refine Join1.mid (fun t S' => S' = S2 ∧ (t = true → ∀ c body cl, ¬ RespAt b c body cl) ∧ (t = false → ok = true ∧ ∃ (h1 : 1 < lines.length), 12 ≤ (lines[0]'(by omega)).length)) ?_ ?_
  · cases ok with
    | false => exact ifC_tt rfl ⟨rfl, fun _ c body cl h => (by have := (hparts h).1; cases this), fun h => by cases h⟩
    | true =>
      refine ifC_ff rfl ⟨_, hx.len, ifC_dec (fun h1 => ?_) (fun h1 => ?_)⟩
      · refine ⟨rfl, fun _ c body cl h => ?_, fun h => by cases h⟩
        have h2 := (hparts h).2.1
        rw [h2, linesL_len] at h1
        cases cl <;> simp at h1
      · have h0 : 0 < lines.length := by omega
        refine ifS_mk (hx.idx h0) ⟨_, StrsAt.get hx h0, rfl, fun h2 c body cl h => ?_, fun h2 => ⟨rfl, by omega, by simp only [decide_eq_false_iff_not] at h2; omega⟩⟩
        have h3 := (hparts h).2.1
        have h4 := line0_len h.1
        subst h3
        simp only [decide_eq_true_eq] at h2
        have h5 : ((linesL c body.length cl)[0]'h0) = line0 c := by cases cl <;> rfl
        rw [h5] at h2
        omega
  rintro t S2 ⟨rfl, ht1, ht2⟩
  refine ifC_tt_ff (fun h => bad (ht1 h) _ g12 m1') (fun h => ?_)
  obtain ⟨rfl, h1, h12⟩ := ht2 h
  have h0 : 0 < lines.length := by omega
  have hl0 := hmem lines[0] (List.getElem_mem h0)
  have hl1 := hmem lines[1] (List.getElem_mem h1)
  refine ifS_mk (hx.idx h0) ⟨_, StrsAt.get hx h0, _, sliceStr_sub (l := 9) (h := 12) (by omega) h12, ?_⟩
  -- the two numbers
  have num1 : ∀ c body cl, RespAt b c body cl → Lib.atoiAll ((lines[0].take 12).drop 9) = .ok c := fun c body cl h => by
    have h3 := (hparts h).2.1
    subst h3
    have h5 : ((linesL c body.length cl)[0]'h0) = line0 c := by cases cl <;> rfl
    rw [h5, line0_code h.1, code_atoi h.1]
  have num2 : ∀ c body cl, RespAt b c body cl → Lib.atoiAll (Lib.trimPrefix lines[1] [67, 111, 110, 116, 101, 110, 116, 45, 76, 101, 110, 103, 116, 104, 58, 32]) = .ok ((body.length : Nat) : Int) := fun c body cl h => by
    have h3 := (hparts h).2.1
    subst h3
    have h5 : ((linesL c body.length cl)[1]'h1) = line1 body.length := by cases cl <;> rfl
    rw [h5]
    have := trim_line1 body.length
    unfold wCL at this
    rw [this, atoi_num (by have := h.2.1; omega)]
  have step1 : ∀ (v1 : Int) (w1 : V), ((w1 = .nilIface ∧ Lib.atoiAll ((lines[0].take 12).drop 9) = .ok v1) ∨ ((∃ t, w1 = .iface t .junk) ∧ ∀ v, Lib.atoiAll ((lines[0].take 12).drop 9) ≠ .ok v)) → ∃ e1 : Bool, eqV 5 [] w1 .nilIface = some e1 ∧ (e1 = true → Lib.atoiAll ((lines[0].take 12).drop 9) = .ok v1) ∧ (e1 = false → ∀ c body cl, ¬ RespAt b c body cl) := by
    rintro v1 w1 (⟨rfl, h⟩ | ⟨⟨t, rfl⟩, h⟩)
    · exact ⟨true, rfl, fun _ => h, fun h => by cases h⟩
    · exact ⟨false, rfl, fun h => by (cases h), fun _ c body cl hr => h _ (num1 _ _ _ hr)⟩
  have step2 : ∀ (v1 : Int) (w1 : V), ((w1 = .nilIface ∧ Lib.atoiAll (Lib.trimPrefix lines[1] [67, 111, 110, 116, 101, 110, 116, 45, 76, 101, 110, 103, 116, 104, 58, 32]) = .ok v1) ∨ ((∃ t, w1 = .iface t .junk) ∧ ∀ v, Lib.atoiAll (Lib.trimPrefix lines[1] [67, 111, 110, 116, 101, 110, 116, 45, 76, 101, 110, 103, 116, 104, 58, 32]) ≠ .ok v)) → ∃ e1 : Bool, eqV 5 [] w1 .nilIface = some e1 ∧ (e1 = true → Lib.atoiAll (Lib.trimPrefix lines[1] [67, 111, 110, 116, 101, 110, 116, 45, 76, 101, 110, 103, 116, 104, 58, 32]) = .ok v1) ∧ (e1 = false → ∀ c body cl, ¬ RespAt b c body cl) := by
    rintro v1 w1 (⟨rfl, h⟩ | ⟨⟨t, rfl⟩, h⟩)
    · exact ⟨true, rfl, fun _ => h, fun h => by cases h⟩
    · exact ⟨false, rfl, fun h => by (cases h), fun _ c body cl hr => h _ (num2 _ _ _ hr)⟩
  refine ha.both hg2 (by rw [List.length_drop, List.length_take]; omega) ?_
  intro v1 w1 hw1
  refine ifS_mk (hx.idx h1) ⟨_, StrsAt.get hx h1, hp _ _ _ _ ⟨_, _, rfl, ?_⟩⟩
  have htl := trimP_len lines[1] [67, 111, 110, 116, 101, 110, 116, 45, 76, 101, 110, 103, 116, 104, 58, 32]
  refine ha.both hg2 (by omega) ?_
  intro v2 w2 hw2
  obtain ⟨e1, he1, he1t, he1f⟩ := step1 v1 w1 hw1
  obtain ⟨e2, he2, he2t, he2f⟩ := step2 v2 w2 hw2
  refine Join1.mid (fun t S' => S' = S2 ∧ (t = true → ∀ c body cl, ¬ RespAt b c body cl) ∧ (t = false → e1 = true ∧ e2 = true ∧ 0 ≤ v2 ∧ v2 ≤ rest.length)) ?_ ?_
  · refine ⟨e1, he1, ?_⟩
    cases e1 with
    | false => exact ifC_tt rfl ⟨rfl, fun _ => he1f rfl, fun h => by cases h⟩
    | true =>
      refine ifC_ff rfl ⟨e2, he2, ?_⟩
      cases e2 with
      | false => exact ifC_tt rfl ⟨rfl, fun _ => he2f rfl, fun h => by cases h⟩
      | true =>
        refine ifC_ff rfl (ifC_dec (fun h3 => ⟨rfl, fun _ c body cl hr => ?_, fun h => by cases h⟩) (fun h3 => ⟨rfl, fun h4 c body cl hr => ?_, fun h4 => ⟨rfl, rfl, by omega, by simp only [decide_eq_false_iff_not] at h4; omega⟩⟩))
        · have := he2t rfl
          rw [num2 _ _ _ hr] at this
          cases this; omega
        · have h5 := he2t rfl
          rw [num2 _ _ _ hr] at h5
          cases h5
          obtain ⟨_, _, x, hx⟩ := hparts hr
          simp only [decide_eq_true_eq] at h4
          rw [hx, List.length_append] at h4
          omega
  rintro t S2 ⟨rfl, ht1, ht2⟩
  refine ifC_tt_ff (fun h => bad (ht1 h) _ g12 m1') (fun h => ?_)
  obtain ⟨rfl, rfl, hv0, hv1⟩ := ht2 h
  obtain ⟨k, rfl⟩ : ∃ k : Nat, v2 = k := ⟨v2.toNat, by omega⟩
  refine ⟨_, sliceStr_to (by omega), _, hx.len, newS_mk g2.wf fun S3 g3 m3 n3 => ?_⟩
  have hfit : ∀ c body cl, RespAt b c body cl → v1 = c ∧ rest.take k = body ∧ decide ((2 : Int) < (lines.length : Nat)) = cl := fun c body cl hr => by
    have a1 := he1t rfl
    rw [num1 _ _ _ hr] at a1
    have a2 := he2t rfl
    rw [num2 _ _ _ hr] at a2
    obtain ⟨_, h3, x, hxx⟩ := hparts hr
    cases a1
    refine ⟨rfl, ?_, ?_⟩
    · have : body.length = k := by
        have := Lib.NumEnd.ok.inj a2
        omega
      rw [hxx, ← this, List.take_left' rfl]
    · rw [h3, linesL_len]
      cases cl <;> decide
  generalize decide ((2 : Int) < (lines.length : Nat)) = cl at hfit
  refine st_mk g3.wf m3 (by simp [V.cells]) (by simp [V.cells]) rfl fun S4 u4 m4 n4 => ?_
  have g4 : Grow S1 S4 := (g2.trans g3).after u4 (fun i hi => by simp only [List.mem_singleton] at hi; subst hi; exact .inl g2.le)
  have m4' : S4.get S2.next = some (.cells [.int .i64 v1, .str (rest.take k), .bool cl] true) := by simpa [over, V.cells] using m4
  have hne : S.next ≠ S2.next := by have := g2.le; omega
  have m14 : S4.get S.next = some (.cells [.int .i64 0, .str [], .bool false] true) := u4.get (g3.get m1') (by simp [hne])
  refine ⟨_, _, _, ldN m4' (by simp) rfl, ?_⟩
  refine hP _ _ _ S4 _ (hg1.grow g4) (by rw [List.length_take]; omega) fun va S5 g5 hva => ?_
  have hvb : BytesAt S5 v b := hv.grow ((g1.trans g4).trans g5)
  have m15 : S5.get S.next = some (.cells [.int .i64 0, .str [], .bool false] true) := g5.get m14
  have m45 := g5.get m4'
  have gS5 := (g1.trans g4).trans g5
  refine Join1.mid (fun t S' => S' = S5 ∧ (t = true → ∀ c body cl, ¬ RespAt b c body cl) ∧ (t = false → (printC v1 (rest.take k) cl).2 = 0 ∧ Lib.hasPrefix b (printC v1 (rest.take k) cl).1 = true)) ?_ ?_
  · refine ifC_ndec (fun h2 => ⟨rfl, fun _ c body cl' hr => ?_, fun h => by cases h⟩) (fun h2 => hb v va b _ S5 _ hvb hva ⟨_, rfl, rfl, fun h3 c body cl' hr => ?_, fun h3 => ⟨h2, by simpa using h3⟩⟩)
    · obtain ⟨rfl, rfl, rfl⟩ := hfit _ _ _ hr
      rw [printC_of hr] at h2
      exact h2 rfl
    · obtain ⟨rfl, rfl, rfl⟩ := hfit _ _ _ hr
      rw [printC_of hr] at h3
      obtain ⟨_, _, x, hx⟩ := hr
      have : Lib.hasPrefix b (allC v1 (rest.take k) cl) = true := by rw [Lib.hasPrefix, List.isPrefixOf_iff_prefix]; exact ⟨x, hx.symm⟩
      rw [this] at h3; cases h3
  rintro t S5 ⟨rfl, ht1, ht2⟩
  refine ifC_tt_ff (fun h => bad (ht1 h) _ gS5 m15) (fun h => ?_)
  obtain ⟨hp0, hpre⟩ := ht2 h
  obtain ⟨hwd, hbl, hall⟩ := printC_ok hp0
  rw [hall] at hpre hva
  rw [Lib.hasPrefix, List.isPrefixOf_iff_prefix] at hpre
  obtain ⟨x, hxe⟩ := hpre
  refine ⟨_, _, _, ldN m45 (by simp) rfl, _, hva.len, tell3 g5.wf m15 rfl (K := fun a b c S' => K a b c _ 0 S') fun S6 u6 => ?_⟩
  exact hk _ _ _ _ _ S6 (gS5.after u6 (by simp)) (.inl ⟨rfl, ⟨hwd, hbl, x, hxe.symm⟩, rfl⟩)
end Go.Th.L
end

section
/- http, the reference: responses read. -/
set_option linter.unusedSimpArgs false
set_option linter.unusedVariables false
namespace Go.Th.L
open Go Go.Th Go.Th.Pure
variable {P : Program} {N : Nat → Nat}

theorem wrapN {a : Int} {n : Nat} (h : a = (n : Int)) (hn : n < 4611686018427387905) : IntKind.i64.wrap a = ((n : Nat) : Int) := by rw [h, IntKind.wrap_i64]; omega
theorem wrapU8 {a : Int} {n : Nat} (h : a = (n : Int)) (hn : n < 256) : IntKind.u8.wrap a = ((n : Nat) : Int) := by
  subst h
  unfold IntKind.wrap
  simp [IntKind.signed, IntKind.bits]
  omega
theorem sameK_refl {R : List Nat} {S : St} {k : Prop} (h : k) : sameK R S S k := by
  cases R with
  | nil => exact h
  | cons a R => exact ⟨Same.refl _ _, h⟩

def scanN : Nat → Nat → Bs → Nat
  | 0, n, _ => n
  | _ + 1, n, [] => n
  | k + 1, n, b :: r => if isDig b then scanN k (10 * n + (b.toNat - 48)) r else n
theorem scan_num : ∀ (d : Bs) (k n : Nat) (r : Bs), d.length ≤ k → (∀ b ∈ d, isDig b = true) → scanN k n (d ++ 13 :: r) = valA n d
  | [], 0, n, r, _, _ => rfl
  | [], k + 1, n, r, _, _ => rfl
  | b :: d, 0, n, r, h, _ => by simp at h
  | b :: d, k + 1, n, r, h, hd => by
    have e : scanN (k + 1) n ((b :: d) ++ 13 :: r) = if isDig b then scanN k (10 * n + (b.toNat - 48)) (d ++ 13 :: r) else n := rfl
    rw [e, if_pos (hd b List.mem_cons_self), scan_num d k _ r (by simpa using h) (fun x hx => hd x (List.mem_cons_of_mem _ hx))]
    have e2 : valA n (b :: d) = valA (n * 10 + (b.toNat - 48)) d := rfl
    rw [e2, Nat.mul_comm]
theorem resp_front {b : Bs} {c : Int} {body : Bs} {cl : Bool} (h : RespAt b c body cl) : ∃ r, b = frontC c ++ (numB body.length ++ 13 :: r) := by
  obtain ⟨_, _, x, rfl⟩ := h
  rw [allC]
  cases cl
  · exact ⟨10 :: 13 :: 10 :: (body ++ x), by simp [headC]⟩
  · exact ⟨10 :: (wClose ++ 13 :: 10 :: (body ++ x)), by simp [headC]⟩
theorem resp_scan {b : Bs} {c : Int} {body : Bs} {cl : Bool} (h : RespAt b c body cl) : scanN 6 0 (b.drop (frontC c).length) = body.length := by
  obtain ⟨r, e⟩ := resp_front h
  rw [e, List.drop_left' rfl, numB, scan_num _ 6 0 r (dec_len 5 _ (by have := h.2.1; omega)) (dec_digs _)]
  exact dec_vals _
theorem resp_take {b : Bs} {c : Int} {body : Bs} {cl : Bool} (h : RespAt b c body cl) : (frontC c).length ≤ b.length ∧ b.take (frontC c).length = frontC c := by
  obtain ⟨r, e⟩ := resp_front h
  rw [e]
  exact ⟨by simp, List.take_left' rfl⟩
theorem resp_body {b : Bs} {c : Int} {body : Bs} {cl : Bool} (h : RespAt b c body cl) : (headC c body.length cl).length + body.length ≤ b.length ∧ (b.take ((headC c body.length cl).length + body.length)).drop (headC c body.length cl).length = body := by
  obtain ⟨_, _, x, rfl⟩ := h
  rw [allC]
  refine ⟨by simp only [List.length_append]; omega, ?_⟩
  rw [List.take_left' (by rw [List.length_append]), List.drop_left' rfl]

def BeginsSpec (P : Program) (f : Nat) : Prop := ∀ (s : Bs) (v : V) (b : Bs) (S : St) (K : Bool → St → Prop), BytesAt S v b → (∀ t : Bool, (t = true ↔ ∃ x, s = b ++ x) → K t S) → CallA P f [.str s, v] S (retT [.one .bool] K)
theorem ref22_begins.spec (hF : ref22_begins.Ok P N) : BeginsSpec P (N Fn.ref22_begins) := by
  intro s v b S K hv hk
  refine ref22_begins.run hF ⟨_, hv.len, ifC_dec (fun h => ⟨_, hv.len, _, sliceStr_to (by omega), _, bytes_str hv, hk _ ?_⟩) (fun h => hk _ ?_)⟩
  · rw [decide_eq_true_eq]
    constructor
    · intro h2; exact ⟨s.drop b.length, by have := List.take_append_drop b.length s; rw [h2] at this; exact this.symm⟩
    · rintro ⟨x, rfl⟩; exact List.take_left' rfl
  · constructor
    · intro h2; cases h2
    · rintro ⟨x, rfl⟩; simp at h; omega

theorem head_len {c : Int} {q : Nat} {t : Bs} : ∀ {lc : Bool}, (t = if lc then ((frontC c ++ numB q) ++ [13, 10]) ++ wClose else (frontC c ++ numB q) ++ [13, 10]) → (headC c q lc).length = t.length + 2 ∧ t.length ≤ (frontC c).length + (numB q).length + 21
  | false, h => by
    subst h
    refine ⟨?_, ?_⟩
    · simp only [headC, Bool.false_eq_true, if_false, List.length_append, List.length_cons, List.length_nil]
    · simp only [Bool.false_eq_true, if_false, List.length_append, List.length_cons, List.length_nil]; omega
  | true, h => by
    subst h
    have hw : List.length wClose = 19 := rfl
    refine ⟨?_, ?_⟩
    · simp only [headC, if_true, List.length_append, List.length_cons, List.length_nil, hw]
    · simp only [if_true, List.length_append, List.length_cons, List.length_nil, hw]; omega
theorem codes_word : ∀ c ∈ codes, wordF c ≠ [] := by decide
theorem ref22_Read.spec (hF : ref22_Read.Ok P N) (hw0 : WordSpec P (N Fn.ref22_Word)) (hd : DigitsSpec P (N Fn.ref22_digits)) (hP : PrintSpec P (N Fn.ref22_Print)) (hB : BeginsSpec P (N Fn.ref22_begins)) : ReadSpec P (N Fn.ref22_Read) := by
  intro v b S K hw hg hv hl hk
  refine ref22_Read.run hF (newS_mk hw fun S1 g1 m1 n1 => ⟨_, bytes_str (hv.grow g1), newS_mk g1.wf fun S2 g2 m2 n2 => ?_⟩)
  have g12 := g1.trans g2
  have m1' : S2.get S.next = some (.cells [.int .i64 0, .str [], .bool false] true) := g2.get m1
  have hx : IntsAt S2 (.slice S1.next 0 7 7 1 true) codes := ⟨by decide, by simp [intsV, codes], .inr ⟨_, _, _, _, rfl, Nat.le_refl _, by rw [St.loads_of m2 (by simp [intsV, codes])]; rfl⟩⟩
  refine Loop1.ind (fun n x S3 => ∃ j : Nat, x = j ∧ j + n = 7 ∧ Grow S2 S3 ∧ ∀ i (hi : i < codes.length), i < j → ∀ body cl, ¬ RespAt b codes[i] body cl) 7 ⟨0, rfl, rfl, Upd.refl g2.wf [], fun i hi h => by omega⟩ ?_
  rintro n _ S3 ⟨j, rfl, hj, g3, hno⟩
  have hx3 := hx.grow g3
  have hlen7 : codes.length = 7 := rfl
  refine ⟨_, hx3.len, ifC_dec (fun hlt => ?_) (fun hge => ?_)⟩
  · have hjl : j < codes.length := by omega
    obtain ⟨c, hcj⟩ : ∃ c, codes[j] = c := ⟨_, rfl⟩
    have hcm : c ∈ codes := hcj ▸ List.getElem_mem hjl
    have hcw := codes_word c hcm
    obtain ⟨hcn, hc1, hc2⟩ := code_num c hcm
    have hc3 := code_le hcw
    have hwl := word_len c
    have get : ∀ S4, Grow S2 S4 → loadV S4 (eltV 1 (.slice S1.next 0 7 7 1 true) j 0) = some (.int .i64 c) := fun S4 g => by
      rw [IntsAt.get (hx.grow g) hjl, hcj]
    have next : ∀ S4, Grow S2 S4 → (∀ body cl, ¬ RespAt b c body cl) → setI (IntKind.i64.wrap ((j : Int) + 1)) fun x => ∃ m, m < n ∧ ∃ j : Nat, x = j ∧ j + m = 7 ∧ Grow S2 S4 ∧ ∀ i (hi : i < codes.length), i < j → ∀ body cl, ¬ RespAt b codes[i] body cl := fun S4 g h => by
      refine setI_mk (wrap_succ (by omega)) ⟨n - 1, by omega, j + 1, rfl, by omega, g, fun i hi hij => ?_⟩
      by_cases e : i = j
      · subst e; rw [hcj]; exact h
      · exact hno i hi (by omega)
    refine ifS_mk (hx3.idx hjl) ⟨_, get S3 g3, ifS_mk (hx3.idx hjl) ⟨_, get S3 g3, ?_⟩⟩
    have ec : c = ((c.toNat : Nat) : Int) := by omega
    have d1 := hd c.toNat S3
    rw [← ec, ← hcn] at d1
    refine d1 _ (by omega) (sameK_refl ⟨?_, ?_, hw0 c S3 _ (sameK_refl ⟨?_, ?_, ?_⟩)⟩)
    · simp only [List.length_append, List.length_cons, List.length_nil]; omega
    · simp only [List.length_append, List.length_cons, List.length_nil]; omega
    · simp only [List.length_append, List.length_cons, List.length_nil]; omega
    · simp only [List.length_append, List.length_cons, List.length_nil]; omega
    have ef : (((([72, 84, 84, 80, 47, 49, 46, 49, 32] : Bs) ++ Lib.itoa c) ++ ([32] : Bs)) ++ wordF c) ++ ([13, 10, 67, 111, 110, 116, 101, 110, 116, 45, 76, 101, 110, 103, 116, 104, 58, 32] : Bs) = frontC c := rfl
    rw [ef]
    have hfl : (frontC c).length ≤ 60 := by simp only [frontC, wHttp, wLen, List.length_append, List.length_cons, List.length_nil]; omega
    refine Join0.mid (fun S' => S' = S3 ∧ (frontC c).length ≤ b.length) ?_ ?_
    · refine ifC_dec (fun h => next S3 g3 (fun body cl hr => ?_)) (fun h => ⟨_, sliceStr_to (by omega), ifC_ndec (fun h2 => next S3 g3 (fun body cl hr => ?_)) (fun h2 => ⟨rfl, by omega⟩)⟩)
      · have := (resp_take hr).1; omega
      · exact h2 (resp_take hr).2
    rintro S' ⟨e, hfb⟩
    rw [e]; clear e S'
    refine Join1.mid (fun x S' => S' = S3 ∧ ∃ q : Nat, x = q ∧ q = scanN 6 0 (b.drop (frontC c).length) ∧ q < 1000000) ?_ ?_
    · refine Loop2.ind (fun m x y S' => S' = S3 ∧ ∃ (i q : Nat), x = q ∧ y = (((frontC c).length + i : Nat) : Int) ∧ i + m = 6 ∧ q < 10 ^ i ∧ scanN (6 - i) q (b.drop ((frontC c).length + i)) = scanN 6 0 (b.drop (frontC c).length)) 6 ⟨rfl, 0, 0, rfl, rfl, rfl, by decide, rfl⟩ ?_
      rintro m _ _ S4 ⟨e, i, q, rfl, rfl, him, hq, hsc⟩
      rw [e]; clear e S4
      have hq6 : 10 ^ i ≤ 10 ^ 6 := Nat.pow_le_pow_right (by omega) (by omega)
      have stop : scanN (6 - i) q (b.drop ((frontC c).length + i)) = q → S3 = S3 ∧ ∃ q' : Nat, (q : Int) = q' ∧ q' = scanN 6 0 (b.drop (frontC c).length) ∧ q' < 1000000 := fun h => ⟨rfl, q, rfl, by rw [← hsc, h], by omega⟩
      refine Join0.mid (fun S' => S' = S3 ∧ i < 6 ∧ ∃ hb : (frontC c).length + i < b.length, isDig b[(frontC c).length + i] = true) ?_ ?_
      · refine ifC_dec (fun h => setI_mk (n := (((frontC c).length + 6 : Nat) : Int)) (wrapN (by omega) (by omega)) (ifC_dec (fun h6 => ?_) (fun h6 => stop ?_))) (fun h => stop ?_)
        · have hb : (frontC c).length + i < b.length := by omega
          obtain ⟨k, hk6⟩ : ∃ k, 6 - i = k + 1 := ⟨5 - i, by omega⟩
          have hdr : b.drop ((frontC c).length + i) = b[(frontC c).length + i] :: b.drop ((frontC c).length + i + 1) := List.drop_eq_getElem_cons hb
          have nodig : isDig b[(frontC c).length + i] = false → scanN (6 - i) q (b.drop ((frontC c).length + i)) = q := fun hf => by
            rw [hk6, hdr]
            have e : scanN (k + 1) q (b[(frontC c).length + i] :: b.drop ((frontC c).length + i + 1)) = if isDig b[(frontC c).length + i] then scanN k (10 * q + (b[(frontC c).length + i].toNat - 48)) (b.drop ((frontC c).length + i + 1)) else q := rfl
            rw [e, hf]; rfl
          refine ⟨_, idx_str hb, ifC_dec (fun h48 => ⟨_, idx_str hb, ifC_dec (fun h57 => ⟨rfl, by omega, hb, dig_iff.mpr (by omega)⟩) (fun h57 => stop (nodig ?_))⟩) (fun h48 => stop (nodig ?_))⟩
          · exact Bool.eq_false_iff.mpr fun e => by have := dig_iff.mp e; omega
          · exact Bool.eq_false_iff.mpr fun e => by have := dig_iff.mp e; omega
        · have : 6 - i = 0 := by omega
          rw [this]; rfl
        · rw [List.drop_of_length_le (by omega)]
          cases h6i : 6 - i <;> rfl
      · rintro _ ⟨rfl, hi6, hb, hdg⟩
        have hbd := dig_iff.mp hdg
        have h10 : (10 : Nat) ^ (i + 1) = 10 ^ i * 10 := Nat.pow_succ _ _
        refine setI_mk (n := ((10 * q : Nat) : Int)) (wrapN (by omega) (by omega)) ⟨_, idx_str hb, ?_⟩
        refine setI_mk (n := ((b[(frontC c).length + i].toNat - 48 : Nat) : Int)) (wrapU8 (by omega) (by omega)) (setI_mk (n := ((b[(frontC c).length + i].toNat - 48 : Nat) : Int)) (wrapN (by omega) (by omega)) (setI_mk (n := ((10 * q + (b[(frontC c).length + i].toNat - 48) : Nat) : Int)) (wrapN (by omega) (by omega)) (setI_mk (n := (((frontC c).length + (i + 1) : Nat) : Int)) (wrapN (by omega) (by omega)) ?_)))
        refine ⟨m - 1, by omega, rfl, i + 1, _, rfl, rfl, by omega, by omega, ?_⟩
        obtain ⟨k, hk6⟩ : ∃ k, 6 - i = k + 1 := ⟨5 - i, by omega⟩
        have hdr : b.drop ((frontC c).length + i) = b[(frontC c).length + i] :: b.drop ((frontC c).length + i + 1) := List.drop_eq_getElem_cons hb
        rw [hk6, hdr] at hsc
        have e : scanN (k + 1) q (b[(frontC c).length + i] :: b.drop ((frontC c).length + i + 1)) = if isDig b[(frontC c).length + i] then scanN k (10 * q + (b[(frontC c).length + i].toNat - 48)) (b.drop ((frontC c).length + i + 1)) else q := rfl
        rw [e, if_pos hdg] at hsc
        rw [show 6 - (i + 1) = k by omega]
        exact hsc
    rintro _ S' ⟨e, q, rfl, hq, hqb⟩
    rw [e]; clear e S'
    have hscan : ∀ body cl, RespAt b c body cl → body.length = q := fun body cl hr => by rw [hq, resp_scan hr]
    have hnq := dec_len 5 q (by omega)
    have hnl : (numB q).length ≤ 6 := hnq
    refine Loop1.ind (fun m x S4 => ∃ i : Nat, x = i ∧ i + m = 2 ∧ Grow S2 S4 ∧ ∀ body cl, RespAt b c body cl → i ≤ cl.toNat) 2 ⟨0, rfl, rfl, g3, fun _ _ _ => Nat.zero_le _⟩ ?_
    rintro m _ S4 ⟨i, rfl, him, g4, hcl⟩
    refine ifC_dec (fun h2 => ?_) (fun h2 => ?_)
    · refine ifS_mk ((hx.grow g4).idx hjl) ⟨_, get S4 g4, newS_mk g4.wf fun S5 g5 m5 n5 => st_mk g5.wf m5 (by simp [V.cells]) (by simp [V.cells]) rfl fun S6 u6 m6 n6 => hd q S6 _ (by omega) ?_⟩
      obtain ⟨lc, hlc⟩ : ∃ lc, decide ((i : Int) = 1) = lc := ⟨_, rfl⟩
      have hlci : lc.toNat = i := by
        rw [← hlc]
        by_cases e : i = 1
        · subst e; rfl
        · have : i = 0 := by omega
          subst this; rfl
      rw [hlc] at m6
      have g6 : Grow S2 S6 := (g4.trans g5).after u6 (fun x hx => by simp only [List.mem_singleton] at hx; subst hx; exact .inl g4.le)
      have m6' : S6.get S4.next = some (.cells [.int .i64 c, .str [], .bool lc] true) := by simpa [over, V.cells] using m6
      have cont : ∀ S7, Grow S2 S7 → (∀ body, ¬ RespAt b c body lc) → setI (IntKind.i64.wrap ((i : Int) + 1)) fun x => ∃ m', m' < m ∧ ∃ i : Nat, x = i ∧ i + m' = 2 ∧ Grow S2 S7 ∧ ∀ body cl, RespAt b c body cl → i ≤ cl.toNat := fun S7 g7 h => by
        refine setI_mk (wrap_succ (by omega)) ⟨m - 1, by omega, i + 1, rfl, by omega, g7, fun body cl hr => ?_⟩
        have h1 := hcl body cl hr
        have h3 : cl ≠ lc := fun e => h body (e ▸ hr)
        have h4 : cl.toNat ≠ lc.toNat := fun e => h3 (by cases cl <;> cases lc <;> first | rfl | exact absurd e (by decide))
        omega
      refine ⟨?_, ?_, ?_⟩
      · omega
      · simp only [List.length_append, List.length_cons, List.length_nil]; omega
      refine Join1.mid (fun t S' => S' = S6 ∧ t = if lc then ((frontC c ++ numB q) ++ [13, 10]) ++ wClose else (frontC c ++ numB q) ++ [13, 10]) ?_ ?_
      · refine ⟨_, ld m6' rfl, ?_⟩
        cases lc
        · exact ifC_ff rfl ⟨rfl, rfl⟩
        · refine ifC_tt rfl ⟨?_, rfl, rfl⟩
          simp only [List.length_append, List.length_cons, List.length_nil]; omega
      rintro t S' ⟨e, ht⟩
      rw [e]; clear e S'
      obtain ⟨hhd, htl⟩ := head_len ht
      refine setI_mk (n := (((headC c q lc).length : Nat) : Int)) (wrapN (by omega) (by omega)) ?_
      refine Join0.mid (fun S' => S' = S6 ∧ q ≤ 65536 ∧ (headC c q lc).length + q ≤ b.length) ?_ ?_
      · refine ifC_dec (fun h3 => cont S6 g6 (fun body hr => ?_)) (fun h3 => setI_mk (n := (((headC c q lc).length + q : Nat) : Int)) (wrapN (by omega) (by omega)) (ifC_dec (fun h4 => cont S6 g6 (fun body hr => ?_)) (fun h4 => ⟨rfl, by omega, by omega⟩)))
        · have := hscan _ _ hr; have := hr.2.1; omega
        · have e := hscan _ _ hr
          have := (resp_body hr).1
          rw [e] at this; omega
      rintro S' ⟨e, hq16, hqb2⟩
      rw [e]; clear e S'
      refine setI_mk (n := (((headC c q lc).length + q : Nat) : Int)) (wrapN (by omega) (by omega)) ⟨_, sliceStr_sub (by omega) hqb2, ?_⟩
      generalize hbody : (b.take ((headC c q lc).length + q)).drop (headC c q lc).length = body
      have hbl : body.length = q := by rw [← hbody, List.length_drop, List.length_take]; omega
      refine st_mk g6.wf m6' rfl (by simp [V.cells]) rfl fun S7 u7 m7 n7 => ?_
      have g7 : Grow S2 S7 := g6.after u7 (fun x hx => by simp only [List.mem_singleton] at hx; subst hx; exact .inl g4.le)
      have m7' : S7.get S4.next = some (.cells [.int .i64 c, .str body, .bool lc] true) := by simpa [over, V.cells] using m7
      refine ⟨_, _, _, ldN m7' (by simp) rfl, hP c body lc S7 _ (hg.grow (g12.trans g7)) (by omega) fun va S8 g8 hva => ?_⟩
      have same : ∀ body', RespAt b c body' lc → body' = body := fun body' hr => by
        have e := hscan _ _ hr
        have := (resp_body hr).2
        rw [e, hbody] at this; exact this.symm
      have g78 := g7.trans g8
      refine Join1.mid (fun t S' => S' = S8 ∧ (t = true → RespAt b c body lc ∧ (printC c body lc).1 = allC c body lc) ∧ (t = false → ∀ body', ¬ RespAt b c body' lc)) ?_ ?_
      · refine ifC_dec (fun h5 => hB b va _ S8 _ hva fun t ht => ⟨rfl, fun h6 => ?_, fun h6 body' hr => ?_⟩) (fun h5 => ⟨rfl, fun h6 => (by cases h6), fun _ body' hr => ?_⟩)
        · obtain ⟨w1, w2, w3⟩ := printC_ok h5
          obtain ⟨x, hxx⟩ := ht.mp h6
          rw [w3] at hxx
          exact ⟨⟨w1, w2, x, hxx⟩, w3⟩
        · have := same _ hr
          subst this
          obtain ⟨w1, w2, w3⟩ := printC_ok h5
          obtain ⟨_, _, x, hxx⟩ := hr
          have h7 : t = true := ht.mpr ⟨x, by rw [w3]; exact hxx⟩
          rw [h7] at h6; cases h6
        · have := same _ hr
          subst this
          rw [printC_of hr] at h5
          exact h5 rfl
      rintro t S' ⟨e, ht1, ht2⟩
      rw [e]; clear e S'
      refine ifC_tt_ff (fun h => ?_) (fun h => cont S8 g78 (ht2 h))
      obtain ⟨hr, hall⟩ := ht1 h
      rw [hall] at hva
      refine ⟨_, _, _, ldN (g8.get m7') (by simp) rfl, _, hva.len, tell3 g78.wf (g78.get m1' (by simp)) rfl (K := fun a b c S' => K a b c _ 0 S') fun S9 u9 => ?_⟩
      exact hk _ _ _ _ _ S9 ((g12.trans g78).after u9 (by simp)) (.inl ⟨rfl, hr, rfl⟩)
    · refine next S4 g4 (fun body cl hr => ?_)
      have := hcl body cl hr
      cases cl <;> simp at this <;> omega
  · have hj7 : j = 7 := by omega
    refine tell3 (g12.trans g3).wf (g3.get m1') rfl (K := fun a b c S' => K a b c 0 220 S') fun S5 u => hk _ _ _ _ _ S5 ((g12.trans g3).after u (by simp)) (.inr ⟨rfl, fun c body cl hr => ?_, rfl, rfl, rfl, rfl⟩)
    obtain ⟨i, hi, e⟩ := List.getElem_of_mem (word_code hr.1)
    exact hno i hi (by omega) body cl (e ▸ hr)
end Go.Th.L
end

section
/- http: bytes lent; the laws of responses. -/
set_option linter.unusedSimpArgs false
set_option linter.unusedVariables false
namespace Go.Th.L
open Go Go.Th Go.Th.Pure
variable {P : Program} {N : Nat → Nat}

theorem bytes_ints (l : Bs) : bytesV l = intsV .u8 (zs l) := by simp [bytesV, intsV, zs]
theorem zs_length (l : Bs) : (zs l).length = l.length := by simp [zs]
theorem wrap_two {j : Nat} (h : j < 4611686018427387900) : IntKind.i64.wrap ((j : Int) + 2) = ((j + 2 : Nat) : Int) := by rw [IntKind.wrap_i64]; omega

abbrev LentB (S : St) (B : Nat) (x : V) (l : Bs) : Prop := Lent S B 1 x l.length 2 (bytesV l) (intsV .u8 [165, 90])
theorem LentB.at_ {S : St} {B : Nat} {x : V} {l : Bs} (h : LentB S B x l) : BytesAt S x l := h.sl

def keep_LendBytes.Spec (P : Program) (N : Nat → Nat) : Prop := ∀ (v : V) (l : Bs) (S : St) (K : V → St → Prop), S.Wf → BytesAt S v l → l.length ≤ 1099511627776 →
  (∀ S' x, Grow S S' → LentB S' S.next x l → K x S') → CallA P (N Fn.keep_LendBytes) [v] S (retT [.one .any] K)
theorem keep_LendBytes.spec (hF : keep_LendBytes.Ok P N) : keep_LendBytes.Spec P N := by
  intro v l S K hw hv hl h
  refine keep_LendBytes.run hF ⟨_, hv.len, setI_mk (wrap_two (by omega)) (ifP_mk (mk_slice (by omega) (by omega)) ?_)⟩
  rw [reps_nums]
  have g1 : Grow S (S.new (.cells (intsV .u8 (List.replicate (l.length + 2) 0)) true)) := (Upd.refl hw []).new _
  have a1 := Acc.fresh hw (B := S.next) (Nat.le_refl _) (n := l.length + 2) (k := 1) (by omega) (cs := intsV .u8 (List.replicate (l.length + 2) 0)) (by simp [intsV_length]) (intsV_ones _ _) true
  have hv1 := hv.grow g1
  obtain ⟨S2, e2, a2, u2⟩ := a1.copy g1.wf hv1.src (by simp [bytesV_length]) (bytesV_ones _) (by omega)
  refine ifP_mk e2 ?_
  have g2 : Grow S S2 := g1.after u2 (fun i hi => by simp [V.block] at hi; subst hi; exact .inl (Nat.le_refl _))
  refine ⟨_, (hv.grow g2).len, ifS_mk (a2.at_.idx (by omega)) ?_⟩
  have ec : over (intsV .u8 (List.replicate (l.length + 2) 0)) 0 ((bytesV l).take (min l.length (l.length + 2) * 1)) = intsV .u8 (zs l ++ [0, 0]) := by
    rw [Nat.min_eq_left (by omega), Nat.mul_one, List.take_of_length_le (by rw [bytesV_length]; omega), bytes_ints, over_at (by simp [intsV_length, zs_length])]
    simp only [List.take_zero, List.nil_append, Nat.zero_add, intsV_length, intsV_append, zs_length]
    congr 1
    rw [← intsV_drop, List.drop_replicate, Nat.add_sub_cancel_left]; rfl
  rw [ec] at a2
  obtain ⟨S3, e3, a3, u3⟩ := a2.put u2.wf (m := l.length) (off := 0) (x := V.int .u8 165) (by omega) (by simp [V.cells]) rfl (by simp [V.cells])
  refine ifS_mk e3 ?_
  have g3 : Grow S S3 := g2.after u3 (fun i hi => by simp [V.block] at hi; subst hi; exact .inl (Nat.le_refl _))
  have e4 : over (intsV .u8 (zs l ++ [0, 0])) (l.length * 1 + 0) (V.int .u8 165).cells = intsV .u8 (zs l ++ [165, 0]) := by
    have := over_int .u8 (zs l ++ [0, 0]) l.length 165 (by simp [zs_length])
    rw [Nat.mul_one, Nat.add_zero]
    refine this.trans ?_
    congr 1
    have hz := zs_length l
    rw [← hz, List.set_append_right _ _ (Nat.le_refl _), Nat.sub_self]; rfl
  rw [e4] at a3
  refine ⟨_, (hv.grow g3).len, setI_mk (wrap_succ (by omega)) (ifS_mk (a3.at_.idx (by omega)) ?_)⟩
  obtain ⟨S4, e5, a4, u4⟩ := a3.put u3.wf (m := l.length + 1) (off := 0) (x := V.int .u8 90) (by omega) (by simp [V.cells]) rfl (by simp [V.cells])
  refine ifS_mk e5 ?_
  have g4 : Grow S S4 := g3.after u4 (fun i hi => by simp [V.block] at hi; subst hi; exact .inl (Nat.le_refl _))
  refine ⟨_, (hv.grow g4).len, ifS_mk (slice_ext (by omega)) (h S4 _ g4 ⟨S.next, rfl, by simp [bytesV_length], ?_⟩)⟩
  have e6 : over (intsV .u8 (zs l ++ [165, 0])) ((l.length + 1) * 1 + 0) (V.int .u8 90).cells = bytesV l ++ intsV .u8 [165, 90] := by
    have := over_int .u8 (zs l ++ [165, 0]) (l.length + 1) 90 (by simp [zs_length])
    rw [Nat.mul_one, Nat.add_zero]
    refine this.trans ?_
    rw [bytes_ints, ← intsV_append]
    congr 1
    have hz := zs_length l
    rw [← hz, List.set_append_right _ _ (by omega), Nat.add_sub_cancel_left]; rfl
  rw [e6] at a4
  exact a4

def keep_BackBytes.Spec (P : Program) (N : Nat → Nat) : Prop := ∀ (x v : V) (l : Bs) (S : St) (B : Nat) (K : Bool → St → Prop), S.Wf → LentB S B x l → BytesAt S v l → l.length ≤ 1099511627776 →
  (∀ S', Upd x.block S S' → K true S') → CallA P (N Fn.keep_BackBytes) [x, v] S (retT [.one .bool] K)
theorem keep_BackBytes.spec (hF : keep_BackBytes.Ok P N) : keep_BackBytes.Spec P N := by
  intro x v l S B K hw hx hv hl h
  have hxs := hx.at_
  obtain ⟨i, rfl, hcl, ha⟩ := hx
  rw [bytes_ints, ← intsV_append] at ha
  have hz := zs_length l
  have e2 := wrap_two (j := l.length) (by omega)
  have e1 : IntKind.i64.wrap ((l.length : Int) + 1) = ((l.length + 1 : Nat) : Int) := wrap_succ (by omega)
  have ld0 := ha.at_.load (m := l.length) (off := 0) (by omega) (by omega)
  rw [Nat.mul_one, Nat.add_zero, intsV_get (by simp [hz])] at ld0
  have ld1 := ha.at_.load (m := l.length + 1) (off := 0) (by omega) (by omega)
  rw [Nat.mul_one, Nat.add_zero, intsV_get (by simp [hz])] at ld1
  have v0 : (zs l ++ [165, 90])[l.length]'(by simp [hz]) = 165 := by rw [List.getElem_append_right (by omega)]; simp [hz]
  have v1 : (zs l ++ [165, 90])[l.length + 1]'(by simp [hz]) = 90 := by rw [List.getElem_append_right (by omega)]; simp [hz]
  simp only [Nat.add_zero, v0] at ld0
  simp only [Nat.add_zero, v1] at ld1
  refine keep_BackBytes.run hF ⟨_, hv.len, setI_mk e2 (ifS_mk (slice_ext (by omega)) ?_)⟩
  refine Join1.mid (fun b S' => S' = S ∧ b = true) ⟨_, hv.len, ifS_mk (ha.at_.idx (by omega)) ⟨_, ld0, ifC_pos rfl ⟨_, hv.len, setI_mk e1 (ifS_mk (ha.at_.idx (by omega)) ⟨_, ld1, rfl, by decide⟩)⟩⟩⟩ ?_
  rintro _ S' ⟨e, rfl⟩
  rw [e]; clear e S'
  refine Loop2.ind (fun n b y S' => S' = S ∧ b = true ∧ ∃ j : Nat, y = j ∧ j + n = l.length) l.length ⟨rfl, rfl, 0, rfl, by omega⟩ ?_
  rintro n _ _ S' ⟨e, rfl, j, rfl, hj⟩
  rw [e]; clear e S'
  refine ⟨_, hv.len, ifC_dec (fun hlt => ?_) (fun hge => ?_)⟩
  · have hjl : j < l.length := by omega
    refine ifC_tt rfl (ifS_mk (hxs.idx hjl) ⟨_, BytesAt.get hxs hjl, ifS_mk (hv.idx hjl) ⟨_, BytesAt.get hv hjl, setI_mk (wrap_succ (by omega)) ⟨n - 1, by omega, rfl, by simp, j + 1, rfl, by omega⟩⟩⟩)
  refine Loop1.ind (fun n x S' => ∃ (j : Nat) (ys : List Int), x = j ∧ j + n = l.length + 2 ∧ ys.length = l.length + 2 ∧ Acc S' B 1 (.slice i 0 (l.length + 2) (l.length + 2) 1 true) (l.length + 2) (intsV .u8 ys) ∧ Upd [i] S S') (l.length + 2) ⟨0, zs l ++ [165, 90], rfl, by omega, by simp [hz], ha, Upd.refl hw _⟩ ?_
  rintro n _ S2 ⟨j, ys, rfl, hj, hy, ha2, u2⟩
  refine ⟨_, ha2.at_.len, ifC_dec (fun hlt => ?_) (fun hge => ?_)⟩
  · have hjl : j < l.length + 2 := by omega
    have hld := ha2.at_.load (m := j) (off := 0) hjl (by omega)
    rw [Nat.mul_one, Nat.add_zero, intsV_get (by omega)] at hld
    obtain ⟨S3, e3, a3, u3⟩ := ha2.put u2.wf (m := j) (off := 0) (x := V.int .u8 (IntKind.u8.wrap (ys[j] + 77))) hjl (by simp [V.cells]) rfl (by simp [V.cells])
    refine ifS_mk (ha2.at_.idx hjl) ⟨_, hld, setI_mk rfl (ifS_mk (ha2.at_.idx hjl) (ifS_mk e3 (setI_mk (wrap_succ (by omega)) ?_)))⟩
    refine ⟨n - 1, by omega, j + 1, ys.set j (IntKind.u8.wrap (ys[j] + 77)), rfl, by omega, by simpa using hy, ?_, u2.trans u3⟩
    simp only [Nat.mul_one, Nat.add_zero, V.cells] at a3
    rw [over_int .u8 ys j _ (by omega)] at a3
    exact a3
  · exact h S2 u2

/-! ## the laws -/
theorem eqR (c d : Int) (p q : Bs) (k l : Bool) : eqV 6 [1, 2, 0] (.agg [.int .i64 c, .str p, .bool k]) (.agg [.int .i64 d, .str q, .bool l]) = some (decide (c = d ∧ p = q ∧ k = l)) := by
  cases k <;> cases l <;> simp [eqV, eqA, eqL, eqT]

structure HttpOk (P : Program) (N : Nat → Nat) : Prop where
  print : PrintSpec P (N Fn.http_Print)
  print' : PrintSpec P (N Fn.ref22_Print)
  read : ReadSpec P (N Fn.http_Read)
  read' : ReadSpec P (N Fn.ref22_Read)
  lend : keep_LendBytes.Spec P N
  back : keep_BackBytes.Spec P N
  bytes : keep_Bytes.Spec P N
  awake : AwakeG P (N Fn.law22_awake)

theorem st3 {S : St} (hw : S.Wf) {a : Int} {b : Bs} {c : Bool} {k : St → Prop} (h : ∀ S', Grow S S' → S'.get S.next = some (.cells [.int .i64 a, .str b, .bool c] true) → k S') :
    newS S (.cells [.int .i64 0, .str [], .bool false] true) fun S1 => ifS (storeV S1 3 (.ptr S.next 0) (.agg [.int .i64 a, .str b, .bool c])) k :=
  newS_mk hw fun S1 g1 m1 n1 => st_mk g1.wf m1 (by simp [V.cells]) (by simp [V.cells]) rfl fun S2 u2 m2 n2 => h S2 (g1.after u2 (fun i hi => by simp only [List.mem_singleton] at hi; subst hi; exact .inl (Nat.le_refl _))) (by simpa [over, V.cells] using m2)

theorem law22_HttpPrints.spec (hF : law22_HttpPrints.Ok P N) (hO : HttpOk P N) {c : Int} {body : Bs} {cl : Bool} {v : V} {b : Bs} {S : St} {K : Bool → St → Prop} (hw : S.Wf) (hg : HG S) (hv : BytesAt S v b) (hk : ∀ S', K true S') :
    CallA P (N Fn.law22_HttpPrints) [.agg [.int .i64 c, .str body, .bool cl], v] S (retT [.one .bool] K) := by
  refine law22_HttpPrints.run hF (newS_mk hw fun S1 g1 m1 n1 => ?_)
  have hv1 := hv.grow g1
  refine Join0.mid (fun S' => S' = S1 ∧ body.length ≤ 131072 ∧ b.length ≤ 131072) ?_ ?_
  · exact ⟨_, ld m1 rfl, ifC_dec (fun _ => hk _) (fun h1 => ⟨_, hv1.len, ifC_dec (fun _ => hk _) (fun h2 => ⟨rfl, by omega, by omega⟩)⟩)⟩
  rintro S' ⟨e, hb1, hb2⟩
  rw [e]; clear e S'
  refine ⟨_, _, _, ldN m1 (by simp) rfl, hO.print c body cl S1 _ (hg.grow g1) (by omega) fun va S2 g2 ha => ?_⟩
  refine ⟨_, _, _, ldN (g2.get m1) (by simp) rfl, hO.print' c body cl S2 _ (hg.grow (g1.trans g2)) (by omega) fun vb S3 g3 hb => ?_⟩
  have g13 := (g1.trans g2).trans g3
  refine hO.lend v b S3 _ g3.wf (hv.grow g13) (by omega) fun S4 x g4 hx => ?_
  have g14 := g13.trans g4
  refine hO.read x b S4 _ g4.wf (hg.grow g14) hx.at_ (by omega) fun c1 p1 k1 n1 e1 S5 g5 r1 => st3 g5.wf fun S6 g6 m6 => ?_
  have g56 : Grow S4 S6 := g5.trans g6
  have g16 := g14.trans g56
  have hx6 : LentB S6 S3.next x b := hx.upd g56 (by simp)
  refine hO.back x v b S6 S3.next _ g6.wf hx6 (hv.grow g16) (by omega) fun S7 u7 => ?_
  have g17 : Grow S1 S7 := ((g2.trans g3).trans (g4.trans g56)).after u7 (fun i hi => .inl (Nat.le_trans (g2.trans g3).le (hx.from i hi)))
  have g07 : Grow S S7 := g1.trans g17
  have g37 : Grow S3 S7 := (g4.trans g56).after u7 (fun i hi => .inl (hx.from i hi))
  have hlt : ∀ i ∈ x.block, i < S4.next := fun i hi => hx.lt g4.wf i hi
  have m7 : S7.get S5.next = some (.cells [.int .i64 c1, .str p1, .bool k1] true) := u7.get m6 (fun hi => by have := hlt _ hi; have := g5.le; omega)
  refine hO.read' v b S7 _ u7.wf (hg.grow g07) (hv.grow g07) (by omega) fun c2 p2 k2 n2 e2 S8 g8 r2 => st3 g8.wf fun S9 g9 m9 => ?_
  have g89 : Grow S7 S9 := g8.trans g9
  refine hO.awake S9 _ (hg.grow (g07.trans g89)) (ifC_tt rfl (ifC_tt rfl ?_))
  refine hO.bytes va vb _ _ S9 _ (ha.grow (g3.trans (g37.trans g89))) (hb.grow (g37.trans g89)) ?_
  refine ifC_pos rfl (ifC_pos rfl ⟨_, _, _, ldN (g89.get m7) (by simp) rfl, _, _, _, ldN m9 (by simp) rfl, _, eqR _ _ _ _ _ _, ?_⟩)
  obtain ⟨rfl, rfl, rfl, rfl, rfl⟩ := rdOk_unique r1 r2
  refine ifC_pos ⟨rfl, rfl, rfl⟩ (ifC_pos rfl ?_)
  rw [decide_eq_true rfl]
  exact hk _

theorem law22_HttpRound.spec (hF : law22_HttpRound.Ok P N) (hO : HttpOk P N) {c : Int} {body : Bs} {cl : Bool} {v : V} {b : Bs} {S : St} {K : Bool → St → Prop} (hw : S.Wf) (hg : HG S) (hv : BytesAt S v b) (hk : ∀ S', K true S') :
    CallA P (N Fn.law22_HttpRound) [.agg [.int .i64 c, .str body, .bool cl], v] S (retT [.one .bool] K) := by
  refine law22_HttpRound.run hF (newS_mk hw fun S1 g1 m1 n1 => ?_)
  have hv1 := hv.grow g1
  refine Join0.mid (fun S' => S' = S1 ∧ body.length ≤ 131072 ∧ b.length ≤ 131072) ?_ ?_
  · exact ⟨_, ld m1 rfl, ifC_dec (fun _ => hk _) (fun h1 => ⟨_, hv1.len, ifC_dec (fun _ => hk _) (fun h2 => ⟨rfl, by omega, by omega⟩)⟩)⟩
  rintro S' ⟨e, hb1, hb2⟩
  rw [e]; clear e S'
  refine ⟨_, _, _, ldN m1 (by simp) rfl, hO.print c body cl S1 _ (hg.grow g1) (by omega) fun va S2 g2 ha => ?_⟩
  have g12 := g1.trans g2
  refine ifC_ndec (fun h => ?_) (fun h => ?_)
  · refine hO.awake S2 _ (hg.grow g12) (ifC_tt rfl ⟨_, ha.len, ?_⟩)
    have : (printC c body cl).1 = [] := by
      unfold printC at h ⊢
      split
      · rfl
      · split
        · rfl
        · rename_i h1 h2
          rw [if_neg h1, if_neg h2] at h
          exact absurd rfl h
    rw [this, decide_eq_true (by simp)]
    exact hk _
  obtain ⟨w1, w2, w3⟩ := printC_ok h
  rw [w3] at ha
  have hhl : 2 ≤ (headC c body.length cl).length := by rw [headC]; cases cl <;> simp <;> omega
  have hal : (allC c body cl).length = (headC c body.length cl).length + body.length := by rw [allC, List.length_append]
  have hhu : (headC c body.length cl).length ≤ 200 := by
    obtain ⟨e1, e2⟩ := head_len (c := c) (q := body.length) (lc := cl) rfl
    have h3 := code_le w1
    have h4 := word_len c
    have h5 := dec_len 5 body.length (by omega)
    have h6 : (numB body.length).length ≤ 6 := h5
    have h7 : (frontC c).length ≤ 60 := by simp only [frontC, wHttp, wLen, List.length_append, List.length_cons, List.length_nil]; omega
    omega
  refine ⟨_, ha.len, ifC_neg (by omega) ?_⟩
  refine BuiltB.app (bs := []) (Built.nil (Upd.refl g2.wf []) 1) ha.src (by simp only [List.length_nil]; omega) fun v1 S3 b3 u3 t3 => ?_
  refine BuiltB.app b3 (hv.grow (g12.trans b3.grow)).src (by simp only [List.nil_append]; omega) fun v2 S4 b4 u4 t4 => ?_
  rw [List.nil_append] at b4
  have g4 := g12.trans b4.grow
  refine hO.read v2 _ S4 _ b4.grow.wf (hg.grow g4) b4.at_ (by rw [List.length_append]; omega) fun c1 p1 k1 n1 e1 S5 g5 r1 => st3 g5.wf fun S6 g6 m6 => ?_
  have g56 : Grow S4 S6 := g5.trans g6
  have ha6 := ha.grow (b4.grow.trans g56)
  obtain ⟨v3, es, hv3, _⟩ := SlAt.sub (c := 0) ha6 (lo := none) (hi := some (.int .i64 (((allC c body cl).length - 1 : Nat) : Int))) (l := 0) (h := (allC c body cl).length - 1) (fun cap hcap => bnds_h (by omega)) (Nat.zero_le _) (by omega)
  refine ⟨_, ha6.len, setI_mk (n := (((allC c body cl).length - 1 : Nat) : Int)) (by rw [IntKind.wrap_i64]; omega) (ifS_mk es ?_)⟩
  have hd : BytesAt S6 v3 ((allC c body cl).take ((allC c body cl).length - 1)) := by
    refine SlAt.bytes (n := (allC c body cl).length - 1 - 0) ?_
    rw [show bytesV ((allC c body cl).take ((allC c body cl).length - 1)) = ((bytesV (allC c body cl)).drop (0 * 1)).take (((allC c body cl).length - 1 - 0) * 1) by simp [bytesV, List.map_take]]
    exact hv3
  refine hO.read v3 _ S6 _ g6.wf (hg.grow (g4.trans g56)) hd (by rw [List.length_take]; omega) fun c2 p2 k2 n2 e2 S7 g7 r2 => st3 g7.wf fun S8 g8 m8 => ?_
  have g78 : Grow S6 S8 := g7.trans g8
  refine hO.awake S8 _ (hg.grow ((g4.trans g56).trans g78)) (ifC_tt rfl ?_)
  have whole : RespAt (allC c body cl ++ b) c body cl := ⟨w1, w2, b, rfl⟩
  have s1 : e1 = 0 ∧ RespAt (allC c body cl ++ b) c1 p1 k1 ∧ n1 = ((allC c1 p1 k1).length : Nat) := by
    rcases r1 with h | ⟨_, hno, _⟩
    · exact h
    · exact absurd whole (hno _ _ _)
  obtain ⟨rfl, hr, rfl⟩ := s1
  obtain ⟨rfl, rfl, rfl⟩ := reads_unique hr whole
  refine ifC_pos rfl ⟨_, _, _, ldN (g78.get m6) (by simp) rfl, _, _, _, ldN (Upd.get (b4.grow.trans (g56.trans g78)) (g2.get m1) (by simp)) (by simp) rfl, _, eqR _ _ _ _ _ _, ifC_pos ⟨rfl, rfl, rfl⟩ ⟨_, (ha6.grow g78).len, ifC_pos rfl ?_⟩⟩
  have : e2 = 220 := by
    rcases r2 with ⟨_, hr2, _⟩ | ⟨h, _⟩
    · exfalso
      obtain ⟨q1, q2, x, hx⟩ := hr2
      have hx2 : RespAt (allC c1 p1 k1 ++ []) c2 p2 k2 := ⟨q1, q2, x ++ (allC c1 p1 k1).drop ((allC c1 p1 k1).length - 1), by rw [← List.append_assoc, ← hx, List.take_append_drop, List.append_nil]⟩
      obtain ⟨rfl, rfl, rfl⟩ := reads_unique hx2 ⟨w1, w2, [], rfl⟩
      have := congrArg List.length hx
      rw [List.length_take, List.length_append] at this
      omega
    · exact h
  rw [this, decide_eq_true rfl]
  exact hk _
end Go.Th.L
end
