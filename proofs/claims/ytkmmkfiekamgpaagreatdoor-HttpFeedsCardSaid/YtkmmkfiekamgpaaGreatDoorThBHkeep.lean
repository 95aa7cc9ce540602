/- What the row of one statement stands on: a store, abstract code, functions of the program and their laws (ThHkeep). -/
import Derived.Test.YtkmmkfiekamgpaaGreatDoorThBQ10
import Derived.Test.YtkmmkfiekamgpaaGreatDoorThBGref22

section
/- keep: lists of numbers and rows lent, given back, compared. -/
set_option linter.unusedSimpArgs false
set_option linter.unusedVariables false
namespace Go.Th.L
open Go Go.Th
variable {P : Program} {N : Nat → Nat}

theorem wrap_succ {j : Nat} (h : j < 4611686018427387905) : IntKind.i64.wrap ((j : Int) + 1) = ((j + 1 : Nat) : Int) := wrap_nat h

/-! ## comparing -/
def keep_Ints.Spec (P : Program) (N : Nat → Nat) : Prop := ∀ (x y : V) (a b : List Int) (S : St) (K : Bool → St → Prop), IntsAt S x a → IntsAt S y b → K (decide (a = b)) S → CallA P (N Fn.keep_Ints) [x, y] S (retT [.one .bool] K)

theorem keep_Ints.spec (hF : keep_Ints.Ok P N) : keep_Ints.Spec P N := by
  intro x y a b S K hx hy h
  have hle := hx.le
  refine keep_Ints.run hF ⟨_, hx.len, _, hy.len, ifC_ndec (fun hne => ?_) (fun heq => ?_)⟩
  · have e : a ≠ b := fun e => hne (by rw [e])
    rwa [decide_eq_false e] at h
  · refine Loop1.ind (fun n x S' => S' = S ∧ ∃ j : Nat, x = j ∧ j + n = a.length ∧ a.take j = b.take j) a.length ⟨rfl, 0, rfl, by omega, by simp⟩ ?_
    rintro n _ _ ⟨rfl, j, rfl, hj, hab⟩
    refine ⟨_, hx.len, ifC_dec (fun hlt => ?_) (fun hge => ?_)⟩
    · have hja : j < a.length := by omega
      have hjb : j < b.length := by omega
      refine ifS_mk (hx.idx hja) ⟨_, IntsAt.get hx hja, ifS_mk (hy.idx hjb) ⟨_, IntsAt.get hy hjb, ifC_ndec (fun hne => ?_) (fun heq => ?_)⟩⟩
      · rwa [decide_eq_false (ne_of_get hja hjb hne)] at h
      · exact setI_mk (wrap_succ (by omega)) ⟨n - 1, by omega, rfl, j + 1, rfl, by omega, take_succ_eq hab hja hjb heq⟩
    · have : a = b := by
        rw [List.take_of_length_le (by omega), List.take_of_length_le (by omega)] at hab
        exact hab
      rwa [decide_eq_true this] at h

def keep_Bytes.Spec (P : Program) (N : Nat → Nat) : Prop := ∀ (x y : V) (a b : List UInt8) (S : St) (K : Bool → St → Prop), BytesAt S x a → BytesAt S y b → K (decide (a = b)) S → CallA P (N Fn.keep_Bytes) [x, y] S (retT [.one .bool] K)

theorem keep_Bytes.spec (hF : keep_Bytes.Ok P N) : keep_Bytes.Spec P N := by
  intro x y a b S K hx hy h
  have hle := hx.le
  refine keep_Bytes.run hF ⟨_, hx.len, _, hy.len, ifC_ndec (fun hne => ?_) (fun heq => ?_)⟩
  · have e : a ≠ b := fun e => hne (by rw [e])
    rwa [decide_eq_false e] at h
  · refine Loop1.ind (fun n x S' => S' = S ∧ ∃ j : Nat, x = j ∧ j + n = a.length ∧ a.take j = b.take j) a.length ⟨rfl, 0, rfl, by omega, by simp⟩ ?_
    rintro n _ _ ⟨rfl, j, rfl, hj, hab⟩
    refine ⟨_, hx.len, ifC_dec (fun hlt => ?_) (fun hge => ?_)⟩
    · have hja : j < a.length := by omega
      have hjb : j < b.length := by omega
      refine ifS_mk (hx.idx hja) ⟨_, BytesAt.get hx hja, ifS_mk (hy.idx hjb) ⟨_, BytesAt.get hy hjb, ifC_ndec (fun hne => ?_) (fun heq => ?_)⟩⟩
      · rwa [decide_eq_false (ne_of_get hja hjb fun e => hne (by rw [e]))] at h
      · exact setI_mk (wrap_succ (by omega)) ⟨n - 1, by omega, rfl, j + 1, rfl, by omega, take_succ_eq hab hja hjb (UInt8.toNat_inj.mp (by omega))⟩
    · have : a = b := by
        rw [List.take_of_length_le (by omega), List.take_of_length_le (by omega)] at hab
        exact hab
      rwa [decide_eq_true this] at h

/-! ## numbers lent -/
abbrev LentI (S : St) (B : Nat) (x : V) (l : List Int) : Prop := Lent S B 1 x l.length 1 (intsV .i64 l) (intsV .i64 [-77])

def keep_Lend.Spec (P : Program) (N : Nat → Nat) : Prop := ∀ (v : V) (l : List Int) (S : St) (K : V → St → Prop), S.Wf → IntsAt S v l → l.length ≤ 1099511627776 →
  (∀ S' x, Grow S S' → LentI S' S.next x l → K x S') → CallA P (N Fn.keep_Lend) [v] S (retT [.one .any] K)

theorem keep_Lend.spec (hF : keep_Lend.Ok P N) : keep_Lend.Spec P N := by
  intro v l S K hw hv hl h
  refine keep_Lend.run hF ⟨_, hv.len, setI_mk (wrap_succ (by omega)) (ifP_mk (mk_slice (by omega) (by omega)) ?_)⟩
  rw [reps_nums]
  have g1 : Grow S (S.new (.cells (intsV .i64 (List.replicate (l.length + 1) 0)) true)) := (Upd.refl hw []).new _
  have a1 := Acc.fresh hw (B := S.next) (Nat.le_refl _) (n := l.length + 1) (k := 1) (by omega) (cs := intsV .i64 (List.replicate (l.length + 1) 0)) (by simp [intsV_length]) (intsV_ones _ _) true
  have hv1 := hv.grow g1
  obtain ⟨S2, e2, a2, u2⟩ := a1.copy g1.wf hv1.src (by simp [intsV_length]) (intsV_ones _ _) (by omega)
  refine ifP_mk e2 ?_
  have g2 : Grow S S2 := g1.after u2 (fun i hi => by simp [V.block] at hi; subst hi; exact .inl (Nat.le_refl _))
  refine ⟨_, (hv.grow g2).len, ifS_mk (a2.at_.idx (by omega)) ?_⟩
  have ec : over (intsV .i64 (List.replicate (l.length + 1) 0)) 0 ((intsV .i64 l).take (min l.length (l.length + 1) * 1)) = intsV .i64 (l ++ [0]) := by
    rw [Nat.min_eq_left (by omega), Nat.mul_one, List.take_of_length_le (by rw [intsV_length]; omega), over_at (by simp [intsV_length])]
    simp only [List.take_zero, List.nil_append, Nat.zero_add, intsV_length, intsV_append]
    congr 1
    rw [← intsV_drop, List.drop_replicate, Nat.add_sub_cancel_left]; rfl
  rw [ec] at a2
  obtain ⟨S3, e3, a3, u3⟩ := a2.put u2.wf (m := l.length) (off := 0) (x := V.int .i64 (-77)) (by omega) (by simp [V.cells]) rfl (by simp [V.cells])
  refine ifS_mk e3 ?_
  have g3 : Grow S S3 := g2.after u3 (fun i hi => by simp [V.block] at hi; subst hi; exact .inl (Nat.le_refl _))
  refine ⟨_, (hv.grow g3).len, ifS_mk (slice_ext (by omega)) (h S3 _ g3 ⟨S.next, rfl, by simp [intsV_length], ?_⟩)⟩
  have e4 : over (intsV .i64 (l ++ [0])) (l.length * 1 + 0) (V.int .i64 (-77)).cells = intsV .i64 l ++ intsV .i64 [-77] := by
    have := over_int .i64 (l ++ [0]) l.length (-77) (by simp)
    rw [Nat.mul_one, Nat.add_zero]
    refine this.trans ?_
    rw [← intsV_append]; congr 1
    simp
  rw [e4] at a3
  exact a3

def keep_Back.Spec (P : Program) (N : Nat → Nat) : Prop := ∀ (x v : V) (l : List Int) (S : St) (B : Nat) (K : Bool → St → Prop), S.Wf → LentI S B x l → IntsAt S v l → l.length ≤ 1099511627776 →
  (∀ S', Upd x.block S S' → K true S') → CallA P (N Fn.keep_Back) [x, v] S (retT [.one .bool] K)

theorem Upd.setL {S : St} (hw : S.Wf) {i : Nat} {b : Blk} (h : S.get i = some b) (b' : Option Blk) : Upd [i] S (S.put i b') := (Upd.refl hw [i]).put (hw.lt h) (.inr (by simp)) _

theorem keep_Back.spec (hF : keep_Back.Ok P N) (hI : keep_Ints.Spec P N) : keep_Back.Spec P N := by
  intro x v l S B K hw hx hv hl h
  have hxs := hx.sl
  refine keep_Back.run hF ?_
  refine Join1.mid (fun b S' => b = true ∧ S' = S) ?_ ?_
  · refine hI x v l l S _ hxs hv ?_
    rw [decide_eq_true rfl]
    obtain ⟨i, rfl, hcl, ha⟩ := hx
    have e1 : IntKind.i64.wrap ((l.length : Int) + 1) = ((l.length + 1 : Nat) : Int) := wrap_succ (by omega)
    have hld := ha.at_.load (m := l.length) (off := 0) (by omega) (by omega)
    rw [Nat.mul_one, Nat.add_zero, ← intsV_append, intsV_get (by simp)] at hld
    refine ifC_tt rfl ⟨_, hv.len, setI_mk e1 (ifS_mk (slice_ext (by omega)) ⟨_, hv.len, ifS_mk (ha.at_.idx (by omega)) ⟨_, hld, ?_⟩⟩)⟩
    exact ⟨by simp, rfl⟩
  rintro b S1 ⟨rfl, rfl⟩
  obtain ⟨i, rfl, hcl, ha⟩ := hx
  have e1 : IntKind.i64.wrap ((l.length : Int) + 1) = ((l.length + 1 : Nat) : Int) := wrap_succ (by omega)
  refine ⟨_, hv.len, setI_mk e1 (ifS_mk (slice_ext (by omega)) ?_)⟩
  rw [← intsV_append] at ha
  refine Loop1.ind (fun n x S' => ∃ (j : Nat) (ys : List Int), x = j ∧ j + n = l.length + 1 ∧ ys.length = l.length + 1 ∧ Acc S' B 1 (.slice i 0 (l.length + 1) (l.length + 1) 1 true) (l.length + 1) (intsV .i64 ys) ∧ Upd [i] S1 S') (l.length + 1) ⟨0, l ++ [-77], rfl, by omega, by simp, ha, Upd.refl hw _⟩ ?_
  rintro n _ S2 ⟨j, ys, rfl, hj, hy, ha2, u2⟩
  refine ⟨_, ha2.at_.len, ifC_dec (fun hlt => ?_) (fun hge => ?_)⟩
  · have hjl : j < l.length + 1 := by omega
    have hld := ha2.at_.load (m := j) (off := 0) hjl (by omega)
    rw [Nat.mul_one, Nat.add_zero, intsV_get (by omega)] at hld
    obtain ⟨S3, e3, a3, u3⟩ := ha2.put u2.wf (m := j) (off := 0) (x := V.int .i64 (intBits .xor .i64 ys[j] 85)) hjl (by simp [V.cells]) rfl (by simp [V.cells])
    refine ifS_mk (ha2.at_.idx hjl) ⟨_, hld, setI_mk rfl (ifS_mk (ha2.at_.idx hjl) (ifS_mk e3 (setI_mk (wrap_succ (by omega)) ?_)))⟩
    refine ⟨n - 1, by omega, j + 1, ys.set j (intBits .xor .i64 ys[j] 85), rfl, by omega, by simpa using hy, ?_, u2.trans u3⟩
    simp only [Nat.mul_one, Nat.add_zero, V.cells] at a3
    rw [over_int .i64 ys j _ (by omega)] at a3
    exact a3
  · exact h S2 u2


/-! ## rows lent -/
theorem rowsC_append : ∀ {a b : List Row} {u w : List V}, u.length = a.length → rowsC (a ++ b) (u ++ w) = rowsC a u ++ rowsC b w
  | [], b, [], w, _ => by simp [rowsC]
  | r :: a, b, x :: u, w, h => by simp only [List.cons_append, rowsC, rowsC_append (a := a) (b := b) (u := u) (w := w) (by simpa using h)]
  | [], b, x :: u, w, h => by simp at h
  | r :: a, b, [], w, h => by simp at h

/-- Rows that are lent: their list, their vectors, all apart. -/
structure LentR (S : St) (B : Nat) (x : V) (rs : List Row) (ws : List V) : Prop where
  len : ws.length = rs.length
  list : Lent S B 2 x rs.length 1 (rowsC rs ws).flatten [.int .i64 (-77), .nilSlice]
  vecs : ∀ j (hw : j < ws.length) (hr : j < rs.length), LentI S B ws[j] rs[j].2
  apart : ∀ j (hw : j < ws.length), ∀ i ∈ (ws[j]).block, i ∉ x.block
  apart2 : ∀ j k (hj : j < ws.length) (hk : k < ws.length), j < k → ∀ i ∈ (ws[j]).block, i ∉ (ws[k]).block

def lentD (x : V) (ws : List V) : List Nat := x.block ++ ws.flatMap V.block

theorem LentR.rows {S : St} {B : Nat} {x : V} {rs : List Row} {ws : List V} (h : LentR S B x rs ws) : RowsAt' S x rs ws :=
  ⟨h.len, ⟨by have := h.list.sl; rwa [← rowsC_length h.len] at this, rowsC_two⟩, fun j hr hw => (h.vecs j hw hr).sl⟩

theorem LentR.upd {D : List Nat} {S S' : St} {B : Nat} {x : V} {rs : List Row} {ws : List V} (h : LentR S B x rs ws) (g : Upd D S S') (hD : ∀ i ∈ lentD x ws, i ∉ D) : LentR S' B x rs ws :=
  ⟨h.len, h.list.upd g (fun i hi => hD i (List.mem_append_left _ hi)), fun j hw hr => (h.vecs j hw hr).upd g (fun i hi => hD i (List.mem_append_right _ (List.mem_flatMap.mpr ⟨_, List.getElem_mem hw, hi⟩))), h.apart, h.apart2⟩
theorem LentR.grow {S S' : St} {B : Nat} {x : V} {rs : List Row} {ws : List V} (h : LentR S B x rs ws) (g : Grow S S') : LentR S' B x rs ws := h.upd g (by simp)
theorem LentR.range {S : St} (hw : S.Wf) {B : Nat} {x : V} {rs : List Row} {ws : List V} (h : LentR S B x rs ws) : ∀ i ∈ lentD x ws, B ≤ i ∧ i < S.next := by
  intro i hi
  rcases List.mem_append.mp hi with hi | hi
  · exact ⟨h.list.from i hi, h.list.lt hw i hi⟩
  · obtain ⟨w, hw', hi⟩ := List.mem_flatMap.mp hi
    obtain ⟨j, hj, rfl⟩ := List.getElem_of_mem hw'
    have := h.vecs j hj (by rw [← h.len]; exact hj)
    exact ⟨this.from i hi, this.lt hw i hi⟩

def keep_LendRows.Spec (P : Program) (N : Nat → Nat) : Prop := ∀ (v : V) (rs : List Row) (S : St) (K : V → St → Prop), S.Wf → RowsAt S v rs → rs.length ≤ 1048576 → (∀ r ∈ rs, r.2.length ≤ 1099511627776) →
  (∀ S' x ws, Grow S S' → LentR S' S.next x rs ws → K x S') → CallA P (N Fn.keep_LendRows) [v] S (retT [.one .any] K)

def zeroRows (n : Nat) : List (List V) := List.replicate n [V.int .i64 0, .nilSlice]
theorem reps_rows (n : Nat) : reps n [V.int .i64 0, .nilSlice] = (zeroRows n).flatten := rfl

theorem over_row {es : List (List V)} (h : ∀ e ∈ es, e.length = 2) {j : Nat} (hj : j < es.length) (e : List V) (he : e.length = 2) : over es.flatten (j * 2) e = (es.set j e).flatten := by
  rw [over_at (by rw [flatten_len h, he]; have : (j + 1) * 2 ≤ es.length * 2 := Nat.mul_le_mul_right _ hj; omega), he]
  induction es generalizing j with
  | nil => simp at hj
  | cons a es ih =>
    have ha := h a (by simp)
    cases j with
    | zero => simp [ha]
    | succ j =>
      have := ih (fun e he => h e (by simp [he])) (j := j) (by simpa using hj)
      simp only [List.flatten_cons, List.set_cons_succ, ← this]
      rw [Nat.add_mul, Nat.one_mul, Nat.add_comm (j * 2) 2, List.take_append, List.drop_append, List.take_of_length_le (by omega), List.drop_of_length_le (by omega), ha]
      simp only [List.nil_append, List.append_assoc]
      congr 3
      omega

theorem keep_LendRows.spec (hF : keep_LendRows.Ok P N) (hL : keep_Lend.Spec P N) : keep_LendRows.Spec P N := by
  rintro v rs S K hw ⟨us, hv⟩ hl hlv h
  refine keep_LendRows.run hF ⟨_, hv.length, setI_mk (wrap_succ (by omega)) (ifP_mk (mk_slice (by omega) (by omega)) ?_)⟩
  rw [reps_rows]
  have hz2 : ∀ n, ∀ e ∈ zeroRows n, e.length = 2 := fun n e he => by rw [(List.mem_replicate.mp he).2]; rfl
  have hzl : ∀ n, (zeroRows n).length = n := fun n => List.length_replicate
  have g1 : Grow S (S.new (.cells (zeroRows (rs.length + 1)).flatten true)) := (Upd.refl hw []).new _
  have ho1 : (zeroRows (rs.length + 1)).flatten.all V.one = true := by
    rw [List.all_eq_true]; intro c hc
    obtain ⟨e, he, hce⟩ := List.mem_flatten.mp hc
    rw [(List.mem_replicate.mp he).2] at hce
    simp at hce; rcases hce with rfl | rfl <;> rfl
  have a1 := Acc.fresh hw (B := S.next) (Nat.le_refl _) (n := rs.length + 1) (k := 2) (by omega) (cs := (zeroRows (rs.length + 1)).flatten) (by rw [flatten_len (hz2 _), hzl]) ho1 true
  refine Loop1.ind (fun n x S' => ∃ (j : Nat) (ws : List V) (es : List (List V)), x = j ∧ j + n = rs.length ∧ ws.length = j ∧ es = rowsC (rs.take j) ws ++ zeroRows (rs.length + 1 - j) ∧ Grow S S' ∧
    Acc S' S.next 2 (.slice S.next 0 (rs.length + 1) (rs.length + 1) 2 true) (rs.length + 1) es.flatten ∧ (∀ i (h1 : i < ws.length) (h2 : i < rs.length), LentI S' S.next ws[i] rs[i].2) ∧
    (∀ i (h1 : i < ws.length), ∀ b ∈ (ws[i]).block, S.next < b) ∧ ∀ i k (h1 : i < ws.length) (h2 : k < ws.length), i < k → ∀ b ∈ (ws[i]).block, b ∉ (ws[k]).block) rs.length
    ⟨0, [], zeroRows (rs.length + 1), rfl, by omega, rfl, by simp [rowsC], g1, a1, by simp, by simp, by simp⟩ ?_
  rintro n _ S2 ⟨j, ws, es, rfl, hj, hwl, hes, g2, a2, hl2, hb2, hd2⟩
  have hv2 := hv.grow g2
  have he2 : ∀ e ∈ es, e.length = 2 := by
    rw [hes]; intro e he
    rcases List.mem_append.mp he with he | he
    · exact rowsC_two e he
    · exact hz2 _ e he
  have hrl : (rowsC (rs.take j) ws).length = j := by rw [rowsC_length (by rw [hwl, List.length_take]; omega), List.length_take]; omega
  have hel : es.length = rs.length + 1 := by rw [hes, List.length_append, hzl, hrl]; omega
  refine ⟨_, hv2.length, ifC_dec (fun hlt => ?_) (fun hge => ?_)⟩
  · have hjl : j < rs.length := by omega
    have hvb : ∀ i ∈ v.block, i < S.next := SlE.block_lt hw hv.sl (hv.lt hjl) (by omega)
    refine ifS_mk (hv2.idx hjl) (ifS_mk (hv2.fld hjl 0) ⟨_, hv2.id hjl, ifS_mk (hv2.idx hjl) (ifS_mk (hv2.fld hjl 1) (ifS_mk (hv2.vec hjl) ?_))⟩)
    refine hL _ rs[j].2 S2 _ g2.wf (hv2.at_ hjl) (hlv _ (List.getElem_mem hjl)) ?_
    intro S3 w g3 lw
    have hsrc : ∀ i ∈ (eltV 2 v j 0).block ++ [], i < S.next := by
      intro i hi
      simp only [List.append_nil] at hi
      exact hvb i (eltV_block i hi)
    have hle2 := g2.le
    refine sameK_mk (same_upd g3 fun i hi => ⟨by have := hsrc i hi; omega, by simp⟩) ⟨lw.sl.cells1, ?_⟩
    have a3 := a2.grow g3
    obtain ⟨S4, e4, a4, u4⟩ := a3.put g3.wf (m := j) (off := 0) (x := V.agg [.int .i64 rs[j].1, w]) (by omega) (by simp [V.cells]) (by simp only [V.cells, List.all_cons, List.all_nil, lw.sl.one1]; rfl) (by simp [V.cells])
    refine ifS_mk (a3.at_.idx (by omega)) (ifS_mk e4 (setI_mk (wrap_succ (by omega)) ?_))
    have g4 : Grow S S4 := (g2.trans g3).after u4 (fun i hi => by simp [V.block] at hi; subst hi; exact .inl (Nat.le_refl _))
    have hS2 : S.next < S2.next := by
      have := a2.own S.next (by simp [V.block])
      obtain ⟨_, vs, hg⟩ := this
      exact g2.wf.lt hg
    have hwb : ∀ b ∈ w.block, S2.next ≤ b := lw.from
    have hes4 : es.set j (rowC rs[j] w) = rowsC (rs.take (j + 1)) (ws ++ [w]) ++ zeroRows (rs.length + 1 - (j + 1)) := by
      have e1 : rs.take (j + 1) = rs.take j ++ [rs[j]] := by rw [List.take_add_one, List.getElem?_eq_getElem hjl]; rfl
      have e2 : zeroRows (rs.length + 1 - j) = [V.int .i64 0, .nilSlice] :: zeroRows (rs.length + 1 - (j + 1)) := by
        have : rs.length + 1 - j = (rs.length + 1 - (j + 1)) + 1 := by omega
        rw [this]; rfl
      rw [hes, e1, rowsC_append (by rw [hwl, List.length_take]; omega), e2, List.set_append_right _ _ (by omega), hrl, Nat.sub_self, List.append_assoc]
      rfl
    refine ⟨n - 1, by omega, j + 1, ws ++ [w], es.set j (rowC rs[j] w), rfl, by omega, by simp [hwl], hes4, g4, ?_, ?_, ?_, ?_⟩
    · rw [Nat.add_zero] at a4
      have := over_row he2 (j := j) (by omega) (rowC rs[j] w) rfl
      rw [← this]; exact a4
    · intro i h1 h2
      simp only [List.length_append, List.length_cons, List.length_nil] at h1
      rcases Nat.lt_or_ge i j with hi | hi
      · rw [List.getElem_append_left (by omega)]
        refine ((hl2 i (by omega) h2).upd g3 (by simp)).upd u4 ?_
        intro b hb
        have := hb2 i (by omega) b hb
        simp only [V.block, List.mem_singleton]; omega
      · have hij : i = j := by omega
        subst hij
        rw [List.getElem_append_right (by omega)]
        simp only [hwl, Nat.sub_self, List.getElem_cons_zero]
        refine (lw.upd u4 ?_).below (by omega)
        intro b hb
        have := hwb b hb
        simp only [V.block, List.mem_singleton]; omega
    · intro i h1 b hb
      simp only [List.length_append, List.length_cons, List.length_nil] at h1
      rcases Nat.lt_or_ge i j with hi | hi
      · rw [List.getElem_append_left (by omega)] at hb
        exact hb2 i (by omega) b hb
      · rw [List.getElem_append_right (by omega)] at hb
        have e0 : i - ws.length = 0 := by omega
        simp only [e0, List.getElem_cons_zero] at hb
        have := hwb b hb; omega
    · intro i k h1 h2 hik b hb
      simp only [List.length_append, List.length_cons, List.length_nil] at h1 h2
      rcases Nat.lt_or_ge k j with hk | hk
      · rw [List.getElem_append_left (by omega)] at hb ⊢
        exact hd2 i k (by omega) (by omega) hik b hb
      · rw [List.getElem_append_left (by omega)] at hb
        rw [List.getElem_append_right (by omega)]
        have e0 : k - ws.length = 0 := by omega
        simp only [e0, List.getElem_cons_zero]
        intro hb'
        have h3 := hwb b hb'
        have h4 := (hl2 i (by omega) (by omega)).lt g2.wf b hb
        omega
  · have hjl : j = rs.length := by omega
    subst hjl
    refine ⟨_, hv2.length, ?_⟩
    obtain ⟨S3, e3, a3, u3⟩ := a2.put g2.wf (m := rs.length) (off := 0) (x := V.agg [.int .i64 (-77), .nilSlice]) (by omega) (by simp [V.cells]) (by simp [V.cells, V.one]) (by simp [V.cells])
    refine ifS_mk (a2.at_.idx (by omega)) (ifS_mk e3 ?_)
    have g3 : Grow S S3 := g2.after u3 (fun i hi => by simp [V.block] at hi; subst hi; exact .inl (Nat.le_refl _))
    refine ⟨_, (hv.grow g3).length, ifS_mk (slice_ext (by omega)) (h S3 _ ws g3 ⟨hwl, ⟨S.next, rfl, ?_, ?_⟩, ?_, ?_, hd2⟩)⟩
    · rw [flatten_len rowsC_two, rowsC_length hwl]
    · have e5 : over es.flatten (rs.length * 2 + 0) (V.agg [.int .i64 (-77), .nilSlice]).cells = (rowsC rs ws).flatten ++ [.int .i64 (-77), .nilSlice] := by
        rw [Nat.add_zero]
        refine (over_row he2 (j := rs.length) (by omega) [.int .i64 (-77), .nilSlice] rfl).trans ?_
        rw [hes, List.take_of_length_le (Nat.le_refl _)]
        rw [List.take_of_length_le (Nat.le_refl _)] at hrl
        rw [List.set_append_right _ _ (by omega), hrl, Nat.sub_self, Nat.add_sub_cancel_left, List.flatten_append]
        rfl
      rw [e5] at a3; exact a3
    · intro i h1 h2
      refine (hl2 i h1 h2).upd u3 ?_
      intro b hb
      have := hb2 i h1 b hb
      simp only [V.block, List.mem_singleton]; omega
    · intro i h1 b hb
      have := hb2 i h1 b hb
      simp only [V.block, List.mem_singleton]; omega


def keep_BackRows.Spec (P : Program) (N : Nat → Nat) : Prop := ∀ (x v : V) (rs : List Row) (ws : List V) (S0 S : St) (B : Nat) (K : Bool → St → Prop), S.Wf → LentR S B x rs ws → RowsAt S0 v rs → Grow S0 S → S0.next ≤ B → rs.length ≤ 1048576 →
  (∀ r ∈ rs, r.2.length ≤ 1099511627776) → (∀ S', Upd (lentD x ws) S S' → K true S') → CallA P (N Fn.keep_BackRows) [x, v] S (retT [.one .bool] K)

theorem keep_BackRows.spec (hF : keep_BackRows.Ok P N) (hB : keep_Back.Spec P N) : keep_BackRows.Spec P N := by
  rintro x v rs ws S0 S B K hw hx ⟨us, hv⟩ g0 hSB hl hlv h
  have hlen := hx.len
  obtain ⟨q, rfl, hcl, ha⟩ := id hx.list
  have hvs := hv.grow g0
  have e1 : IntKind.i64.wrap ((rs.length : Int) + 1) = ((rs.length + 1 : Nat) : Int) := wrap_succ (by omega)
  refine keep_BackRows.run hF ⟨_, hvs.length, setI_mk e1 (ifS_mk (slice_ext (by omega)) ⟨_, hvs.length, ifS_mk (ha.at_.idx (by omega)) (ifS_mk (ha.at_.fld (by omega) 0) ⟨-77, ?_, ?_⟩)⟩)⟩
  · rw [Nat.zero_add, ha.at_.load (m := rs.length) (off := 0) (by omega) (by omega), List.getElem?_append_right (by omega)]
    simp [hcl]
  have he2 : ∀ e ∈ rowsC rs ws ++ [[V.int .i64 (-77), V.nilSlice]], e.length = 2 := by
    intro e he
    rcases List.mem_append.mp he with he | he
    · exact rowsC_two e he
    · simp at he; subst he; rfl
  have hel : (rowsC rs ws ++ [[V.int .i64 (-77), V.nilSlice]]).length = rs.length + 1 := by rw [List.length_append, rowsC_length hlen]; rfl
  have ha' : Acc S B 2 (.slice q 0 (rs.length + 1) (rs.length + 1) 2 true) (rs.length + 1) (rowsC rs ws ++ [[V.int .i64 (-77), V.nilSlice]]).flatten := by
    rw [List.flatten_append]; exact ha
  have hqx : ∀ b ∈ (V.slice q 0 rs.length (rs.length + 1) 2 true).block, b = q := by simp [V.block]
  refine Loop2.ind (fun n b x S' => b = true ∧ ∃ (j : Nat) (es : List (List V)), x = j ∧ j + n = rs.length ∧ (∀ e ∈ es, e.length = 2) ∧ es.length = rs.length + 1 ∧ (∀ i (h1 : j ≤ i) (h2 : i < rs.length), es[i]? = (rowsC rs ws)[i]?) ∧
    Acc S' B 2 (.slice q 0 (rs.length + 1) (rs.length + 1) 2 true) (rs.length + 1) es.flatten ∧ (∀ i (h0 : j ≤ i) (h1 : i < ws.length) (h2 : i < rs.length), LentI S' B ws[i] rs[i].2) ∧
    Upd (lentD (.slice q 0 rs.length (rs.length + 1) 2 true) ws) S S') rs.length
    ⟨by simp, 0, _, rfl, by omega, he2, hel, fun i _ h2 => by rw [List.getElem?_append_left (by rw [rowsC_length hlen]; exact h2)], ha', fun i _ h1 h2 => hx.vecs i h1 h2, Upd.refl hw _⟩ ?_
  rintro n _ _ S2 ⟨rfl, j, es, rfl, hj, hes2, hesl, hes, ha2, hl2, u2⟩
  have g02 : Grow S0 S2 := g0.after u2 (fun i hi => by have := (hx.range hw i hi).1; exact .inl (by omega))
  have hv2 := hv.grow g02
  refine ⟨_, hv2.length, ifC_dec (fun hlt => ?_) (fun hge => h S2 u2)⟩
  have hjl : j < rs.length := by omega
  have hjw : j < ws.length := by omega
  have hee : SlE S2 2 (.slice q 0 (rs.length + 1) (rs.length + 1) 2 true) es := ⟨by rw [hesl]; exact ha2.at_, hes2⟩
  have hej : es[j]'(by omega) = rowC rs[j] ws[j] := by
    have e := hes j (Nat.le_refl _) hjl
    rw [List.getElem?_eq_getElem (by omega), List.getElem?_eq_getElem (by rw [rowsC_length hlen]; exact hjl), rowsC_get hjl hjw] at e
    exact Option.some.inj e
  have l0 : loadV S2 (eltV 2 (.slice q 0 (rs.length + 1) (rs.length + 1) 2 true) j 0) = some (.int .i64 rs[j].1) := by rw [hee.get (by omega) (by omega), hej]; rfl
  have l1 : loadV S2 (eltV 2 (.slice q 0 (rs.length + 1) (rs.length + 1) 2 true) j 1) = some ws[j] := by rw [hee.get (by omega) (by omega), hej]; rfl
  refine Join1.mid (fun b S' => b = true ∧ ∃ D, (∀ i ∈ D, i ∈ (ws[j]).block) ∧ Upd D S2 S') (ifC_tt rfl ?_) ?_
  · refine ifS_mk (hee.idx (by omega)) (ifS_mk (hee.fld (by omega) 0) ⟨_, l0, ifS_mk (hv2.idx hjl) (ifS_mk (hv2.fld hjl 0) ⟨_, hv2.id hjl, ifC_pos rfl ?_⟩)⟩)
    refine ifS_mk (hee.idx (by omega)) (ifS_mk (hee.fld (by omega) 1) (ifS_mk l1 (ifS_mk (hv2.idx hjl) (ifS_mk (hv2.fld hjl 1) (ifS_mk (hv2.vec hjl) ?_)))))
    refine hB _ _ rs[j].2 S2 B _ u2.wf (hl2 j (Nat.le_refl _) hjw hjl) (hv2.at_ hjl) (hlv _ (List.getElem_mem hjl)) ?_
    intro S3 u3
    refine sameK_mk (same_upd u3 fun i hi => ?_) ⟨rfl, _, fun i hi => hi, u3⟩
    have hwl := (hl2 j (Nat.le_refl _) hjw hjl)
    have hvb : ∀ i ∈ v.block, i < S0.next := SlE.block_lt g0.wf0 hv.sl (hv.lt hjl) (by omega)
    have hle := g02.le
    simp only [List.append_nil, List.mem_append] at hi
    have hq := ha2.own q (by simp [V.block])
    have hqn : q < S2.next := by obtain ⟨_, vs, hg⟩ := hq; exact u2.wf.lt hg
    rcases hi with hi | hi
    · have h1 := hvb i (eltV_block i hi)
      exact ⟨by omega, fun hm => by have := hwl.from i hm; omega⟩
    · have h1 := eltV_block i hi
      simp only [V.block, List.mem_singleton] at h1; subst h1
      exact ⟨hqn, fun hm => hx.apart j hjw i hm (by simp [V.block])⟩
  rintro _ S3 ⟨rfl, D, hD, u3⟩
  have a3 := ha2.upd u3 (fun i hi hm => by
    simp only [V.block, List.mem_singleton] at hi; subst hi
    exact hx.apart j hjw i (hD i hm) (by simp [V.block]))
  obtain ⟨S4, e4, a4, u4⟩ := a3.put u3.wf (m := j) (off := 0) (x := V.agg [.int .i64 5, .nilSlice]) (by omega) (by simp [V.cells]) (by simp [V.cells, V.one]) (by simp [V.cells])
  refine ifS_mk (a3.at_.idx (by omega)) (ifS_mk e4 (setI_mk (wrap_succ (by omega)) ?_))
  refine ⟨n - 1, by omega, rfl, j + 1, es.set j [.int .i64 5, .nilSlice], rfl, by omega, ?_, by simpa using hesl, ?_, ?_, ?_, ?_⟩
  · intro e he
    rcases List.mem_or_eq_of_mem_set he with he | rfl
    · exact hes2 e he
    · rfl
  · intro i h1 h2
    rw [List.getElem?_set_ne (by omega)]
    exact hes i (by omega) h2
  · rw [Nat.add_zero] at a4
    have := over_row hes2 (j := j) (by omega) [.int .i64 5, .nilSlice] rfl
    rw [← this]; exact a4
  · intro i h0 h1 h2
    refine ((hl2 i (by omega) h1 h2).upd u3 fun b hb hm => ?_).upd u4 fun b hb hm => ?_
    · exact hx.apart2 j i hjw h1 (by omega) b (hD b hm) hb
    · simp only [V.block, List.mem_singleton] at hm; subst hm
      exact hx.apart i h1 b hb (by simp [V.block])
  · refine (u2.trans (u3.mono fun i hi => ?_)).trans (u4.mono fun i hi => ?_)
    · exact .inl (List.mem_append_right _ (List.mem_flatMap.mpr ⟨_, List.getElem_mem hjw, hD i hi⟩))
    · exact .inl (List.mem_append_left _ hi)

def keep_Rows.Spec (P : Program) (N : Nat → Nat) : Prop := ∀ (x y : V) (a b : List Row) (S : St) (K : Bool → St → Prop), S.Wf → RowsAt S x a → RowsAt S y b → K (decide (a = b)) S → CallA P (N Fn.keep_Rows) [x, y] S (retT [.one .bool] K)

theorem keep_Rows.spec (hF : keep_Rows.Ok P N) (hI : keep_Ints.Spec P N) : keep_Rows.Spec P N := by
  rintro x y a b S K hw ⟨us, hx⟩ ⟨ws, hy⟩ h
  have hle := hx.sl.1.le
  rw [rowsC_length hx.len] at hle
  refine keep_Rows.run hF ⟨_, hx.length, _, hy.length, ifC_ndec (fun hne => ?_) (fun heq => ?_)⟩
  · have e : a ≠ b := fun e => hne (by rw [e])
    rwa [decide_eq_false e] at h
  · refine Loop1.ind (fun n x S' => S' = S ∧ ∃ j : Nat, x = j ∧ j + n = a.length ∧ a.take j = b.take j) a.length ⟨rfl, 0, rfl, by omega, by simp⟩ ?_
    rintro n _ _ ⟨rfl, j, rfl, hj, hab⟩
    refine ⟨_, hx.length, ifC_dec (fun hlt => ?_) (fun hge => ?_)⟩
    · have hja : j < a.length := by omega
      have hjb : j < b.length := by omega
      refine ifS_mk (hx.idx hja) (ifS_mk (hx.fld hja 0) ⟨_, hx.id hja, ifS_mk (hy.idx hjb) (ifS_mk (hy.fld hjb 0) ⟨_, hy.id hjb, ifC_ndec (fun hne => ?_) (fun heq => ?_)⟩)⟩)
      · rwa [decide_eq_false (ne_of_get hja hjb fun e => hne (by rw [e]))] at h
      · refine ifS_mk (hx.idx hja) (ifS_mk (hx.fld hja 1) (ifS_mk (hx.vec hja) (ifS_mk (hy.idx hjb) (ifS_mk (hy.fld hjb 1) (ifS_mk (hy.vec hjb) ?_)))))
        refine hI _ _ _ _ _ _ (hx.at_ hja) (hy.at_ hjb) (sameK_mk (fun i _ => rfl) ?_)
        by_cases he : a[j].2 = b[j].2
        · rw [decide_eq_true he]
          exact ifC_ff rfl (setI_mk (wrap_succ (by omega)) ⟨n - 1, by omega, rfl, j + 1, rfl, by omega, take_succ_eq hab hja hjb (Prod.ext heq he)⟩)
        · rw [decide_eq_false he]
          refine ifC_tt rfl ?_
          rwa [decide_eq_false (ne_of_get hja hjb fun e => he (by rw [e]))] at h
    · have : a = b := by
        rw [List.take_of_length_le (by omega), List.take_of_length_le (by omega)] at hab
        exact hab
      rwa [decide_eq_true this] at h

/-- How many numbers rows have, up to a bound. -/
def keep_Vectors.Spec (P : Program) (N : Nat → Nat) : Prop := ∀ (x : V) (a : List Row) (m : Int) (S : St) (K : Int → St → Prop), RowsAt S x a → a.length ≤ 17592186044416 → (∀ r ∈ a, r.2.length ≤ 17592186044416) → m ≤ 17592186044416 →
  (∀ n : Int, (n ≤ m → (a.length : Int) ≤ m ∧ ∀ r ∈ a, (r.2.length : Int) ≤ m) → K n S) → CallA P (N Fn.keep_Vectors) [x, .int .i64 m] S (retT [.one (.int .i64)] K)

theorem keep_Vectors.spec (hF : keep_Vectors.Ok P N) : keep_Vectors.Spec P N := by
  rintro x a m S K ⟨us, hx⟩ hl hla hm h
  refine keep_Vectors.run hF ⟨_, hx.length, ?_⟩
  refine Loop2.ind (fun n c x S' => S' = S ∧ ∃ j : Nat, x = j ∧ j + n = a.length ∧ (a.length : Int) ≤ c ∧ c ≤ (max m a.length) + 17592186044416 ∧ ∀ i (h1 : i < j) (h2 : i < a.length), (a[i].2.length : Int) ≤ c) a.length
    ⟨rfl, 0, rfl, by omega, by omega, by omega, fun i h1 => by omega⟩ ?_
  rintro n c _ S1 ⟨rfl, j, rfl, hj, h1, h2, h3⟩
  refine Join0.mid (fun S' => S' = S1 ∧ j < a.length ∧ c ≤ m) ?_ ?_
  · refine ⟨_, hx.length, ifC_dec (fun hlt => ifC_dec (fun hc => ⟨rfl, by omega, hc⟩) (fun hc => h _ fun hc' => absurd hc' hc)) (fun hge => h _ fun hc => ⟨by omega, fun r hr => ?_⟩)⟩
    obtain ⟨i, hi, rfl⟩ := List.getElem_of_mem hr
    have := h3 i (by omega) hi
    omega
  rintro _ ⟨rfl, hja, hc⟩
  refine ifS_mk (hx.idx hja) (ifS_mk (hx.fld hja 1) (ifS_mk (hx.vec hja) ⟨_, (hx.at_ hja).len, setI_mk (n := c + a[j].2.length) ?_ (setI_mk (wrap_succ (by omega)) ?_)⟩))
  · have := hla _ (List.getElem_mem hja)
    exact i64_int (by omega) (by omega)
  · have hlj := hla _ (List.getElem_mem hja)
    refine ⟨n - 1, by omega, rfl, j + 1, rfl, by omega, by omega, by omega, fun i q1 q2 => ?_⟩
    rcases Nat.lt_or_ge i j with hi | hi
    · have := h3 i hi q2; omega
    · have : i = j := by omega
      subst this; omega

end Go.Th.L
end
