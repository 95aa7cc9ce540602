/- What the row of one statement stands on: a store, abstract code, functions of the program and their laws (ThQ4, ThQ5, ThQ6). -/
import Derived.Test.YtmaocfcjbabelaaThBQ2
import Derived.Test.YtmaocfcjbabelaaThBGref01

section
/- Readings of arguments: bytes, numbers. -/
set_option linter.unusedSimpArgs false
set_option linter.unusedVariables false
namespace Go.Th
open Go

theorem kindMin_i64 : IntKind.i64.min = -9223372036854775808 := by decide
theorem kindMax_i64 : IntKind.i64.max = 9223372036854775807 := by decide
theorem kindMin_u8 : IntKind.u8.min = 0 := by decide
theorem kindMax_u8 : IntKind.u8.max = 255 := by decide
theorem kindMin_u64 : IntKind.u64.min = 0 := by decide
theorem kindMax_u64 : IntKind.u64.max = 18446744073709551615 := by decide

theorem lit_i64 {k : Int} (h : (Lit.int .i64 k).wf = true) : -9223372036854775808 ≤ k ∧ k ≤ 9223372036854775807 := by
  simp only [Lit.wf, Bool.and_eq_true, decide_eq_true_eq, kindMin_i64, kindMax_i64] at h
  omega
theorem lit_u8 {k : Int} (h : (Lit.int .u8 k).wf = true) : 0 ≤ k ∧ k ≤ 255 := by
  simp only [Lit.wf, Bool.and_eq_true, decide_eq_true_eq, kindMin_u8, kindMax_u8] at h
  omega
theorem lit_u64 {k : Int} (h : (Lit.int .u64 k).wf = true) : 0 ≤ k ∧ k ≤ 18446744073709551615 := by
  simp only [Lit.wf, Bool.and_eq_true, decide_eq_true_eq, kindMin_u64, kindMax_u64] at h
  omega

/-- A row of bytes that reads as such. -/
theorem has_u8s {S : St} {n : Nat} {es : List V} (hl : es.length = n * 1) (h : ∀ m, m < n → Has S (.int .u8) ((es.drop (m * 1)).take 1)) : ∃ bs : List UInt8, bs.length = n ∧ es = bytesV bs := by
  have hl : es.length = n := by omega
  subst hl
  induction es with
  | nil => exact ⟨[], rfl, rfl⟩
  | cons v es ih =>
    obtain ⟨bs, h1, h2⟩ := ih (by omega) (fun m hm => by
      have := h (m + 1) (by simp; omega)
      simpa using this)
    have h0 := h 0 (by simp)
    simp only [Has, Nat.zero_mul, List.drop_zero, List.take_succ_cons, List.take_zero] at h0
    obtain ⟨z, hz, hw⟩ := h0
    simp only [List.cons.injEq, and_true] at hz
    have hr := lit_u8 hw
    refine ⟨byteZ z :: bs, by simp [h1], ?_⟩
    rw [h2, hz]
    have : z = ((byteZ z).toNat : Int) := by rw [byteZ_toNat]; omega
    simp only [bytesV, List.map_cons]
    rw [← this]

/-- Numbers as cells. -/
def intsV (k : IntKind) (l : List Int) : List V := l.map (V.int k)
theorem intsV_length (k : IntKind) (l : List Int) : (intsV k l).length = l.length := by simp [intsV]
theorem intsV_get {k : IntKind} {l : List Int} {j : Nat} (h : j < l.length) : (intsV k l)[j]? = some (.int k l[j]) := by simp [intsV, h]
theorem intsV_ones (k : IntKind) (l : List Int) : (intsV k l).all V.one = true := by simp [intsV, List.all_map, Function.comp_def, V.one]
theorem intsV_append (k : IntKind) (a b : List Int) : intsV k (a ++ b) = intsV k a ++ intsV k b := by simp [intsV]
theorem intsV_take (k : IntKind) (a : List Int) (n : Nat) : intsV k (a.take n) = (intsV k a).take n := by simp [intsV, List.map_take]
theorem intsV_drop (k : IntKind) (a : List Int) (n : Nat) : intsV k (a.drop n) = (intsV k a).drop n := by simp [intsV, List.map_drop]

/-- A row of ints that reads as such. -/
theorem has_i64s {S : St} {n : Nat} {es : List V} (hl : es.length = n * 1) (h : ∀ m, m < n → Has S (.int .i64) ((es.drop (m * 1)).take 1)) :
    ∃ l : List Int, l.length = n ∧ es = intsV .i64 l ∧ ∀ x ∈ l, -9223372036854775808 ≤ x ∧ x ≤ 9223372036854775807 := by
  have hl : es.length = n := by omega
  subst hl
  induction es with
  | nil => exact ⟨[], rfl, rfl, by simp⟩
  | cons v es ih =>
    obtain ⟨bs, h1, h2, h3⟩ := ih (by omega) (fun m hm => by
      have := h (m + 1) (by simp; omega)
      simpa using this)
    have h0 := h 0 (by simp)
    simp only [Has, Nat.zero_mul, List.drop_zero, List.take_succ_cons, List.take_zero] at h0
    obtain ⟨z, hz, hw⟩ := h0
    simp only [List.cons.injEq, and_true] at hz
    have hr := lit_i64 hw
    refine ⟨z :: bs, by simp [h1], by rw [h2, hz]; rfl, ?_⟩
    intro x hx
    rcases List.mem_cons.mp hx with rfl | hx
    · exact hr
    · exact h3 x hx

end Go.Th
end

section
/- Memory: blocks read and written; slices of numbers, of rows; what is lent. -/
set_option linter.unusedSimpArgs false
set_option linter.unusedVariables false
namespace Go.Th
open Go

/-! ## blocks -/
theorem ld {S : St} {i o : Nat} {cs : List V} {own : Bool} {v : V} (h : S.get i = some (.cells cs own)) (hc : cs[o]? = some v) : loadV S (.ptr i o) = some v := by
  simp only [loadV, St.load1, h, hc]
theorem ldN {S : St} {i o n : Nat} {cs ds : List V} {own : Bool} (h : S.get i = some (.cells cs own)) (hl : o + n ≤ cs.length) (hd : (cs.drop o).take n = ds) : loadNV S n (.ptr i o) = some (.agg ds) := by
  simp only [loadNV, St.loads_of h hl, hd, Option.map_some]
theorem ldC {S : St} {i o n : Nat} {cs ds : List V} {own : Bool} (h : S.get i = some (.cells cs own)) (hl : o + n ≤ cs.length) (hd : (cs.drop o).take n = ds) : cellNV S n (.ptr i o) = some (.agg ds) := by
  simp only [cellNV, St.loads_of h hl, hd, Option.map_some]
theorem ldC1 {S : St} {i o : Nat} {cs : List V} {own : Bool} {v : V} (h : S.get i = some (.cells cs own)) (hc : cs[o]? = some v) : cell1V S (.ptr i o) = some v := by
  simp only [cell1V, St.load1, h, hc]

theorem newS_mk {S : St} (hw : S.Wf) {b : Blk} {k : St → Prop} (h : ∀ S', Grow S S' → S'.get S.next = some b → S'.next = S.next + 1 → k S') : newS S b k := by
  rintro S' rfl
  exact h _ ((Upd.refl hw []).new b) (by simp) rfl

theorem st_mk {S : St} (hw : S.Wf) {i o n : Nat} {cs : List V} {v : V} {k : St → Prop} (h : S.get i = some (.cells cs true)) (hn : v.cells.length = n) (hf : o + v.cells.length ≤ cs.length) (ho : v.cells.all V.one = true)
    (hk : ∀ S', Upd [i] S S' → S'.get i = some (.cells (over cs o v.cells) true) → S'.next = S.next → k S') : ifS (storeV S n (.ptr i o) v) k := by
  have e : storeV S n (.ptr i o) v = some (S.put i (some (.cells (over cs o v.cells) true))) := by
    simp only [storeV, hn, if_true, St.stores, h]
    rw [if_pos (by simp only [Bool.and_eq_true, decide_eq_true_eq]; exact ⟨by rw [← hn]; exact hf, ho⟩)]
  refine ifS_mk e (hk _ ((Upd.refl hw [i]).put (hw.lt h) (.inr (by simp)) _) (by simp) rfl)

/-! ## numbers -/
abbrev IntsAt (S : St) (v : V) (l : List Int) : Prop := SlAt S 1 v l.length (intsV .i64 l)
theorem IntsAt.idx {S : St} {v : V} {l : List Int} (h : IntsAt S v l) {j : Nat} (hj : j < l.length) : idxAddrV 1 v (.int .i64 (j : Int)) = some (eltV 1 v j 0) := SlAt.idx h hj
theorem IntsAt.get {S : St} {v : V} {l : List Int} (h : IntsAt S v l) {j : Nat} (hj : j < l.length) : loadV S (eltV 1 v j 0) = some (.int .i64 l[j]) := by
  have := SlAt.load h (m := j) (off := 0) hj (by omega)
  rw [Nat.mul_one, Nat.add_zero, intsV_get hj] at this
  exact this
theorem IntsAt.length {S : St} {v : V} {l : List Int} (h : IntsAt S v l) : lenV S 2 v = some (.int .i64 l.length) := SlAt.len h
theorem SlAt.cells1 {S : St} {k : Nat} {v : V} {n : Nat} {cs : List V} (h : SlAt S k v n cs) : V.cells v = [v] := by
  rcases h.2.2 with ⟨rfl, _⟩ | ⟨i, o, c, t, rfl, _⟩ <;> rfl
theorem SlAt.one1 {S : St} {k : Nat} {v : V} {n : Nat} {cs : List V} (h : SlAt S k v n cs) : v.one = true := by
  rcases h.2.2 with ⟨rfl, _⟩ | ⟨i, o, c, t, rfl, _⟩ <;> rfl
theorem SlAt.block_lt {S : St} (hw : S.Wf) {k : Nat} {v : V} {n : Nat} {cs : List V} (h : SlAt S k v n cs) (hn : 0 < n * k) : ∀ i ∈ v.block, i < S.next := by
  rcases h.2.2 with ⟨rfl, h0⟩ | ⟨i, o, c, t, rfl, _, hl⟩
  · simp [V.block]
  · obtain ⟨vs, own, hg, _⟩ := St.loads_pos hl hn
    simp only [V.block, List.mem_singleton]; rintro j rfl
    exact hw.lt hg

theorem take_succ_eq {α : Type} {a b : List α} {j : Nat} (h : a.take j = b.take j) (ha : j < a.length) (hb : j < b.length) (he : a[j] = b[j]) : a.take (j + 1) = b.take (j + 1) := by
  rw [List.take_add_one, List.take_add_one, h, List.getElem?_eq_getElem ha, List.getElem?_eq_getElem hb, he]
theorem ne_of_get {α : Type} {a b : List α} {j : Nat} (ha : j < a.length) (hb : j < b.length) (he : a[j] ≠ b[j]) : a ≠ b := by
  intro e; subst e; exact he rfl

/-! ## elements of several cells -/
/-- A slice whose elements have these cells. -/
def SlE (S : St) (k : Nat) (v : V) (es : List (List V)) : Prop := SlAt S k v es.length es.flatten ∧ ∀ e ∈ es, e.length = k

theorem flatten_get {α : Type} {k : Nat} : ∀ {es : List (List α)} (_ : ∀ e ∈ es, e.length = k) {j off : Nat} (hj : j < es.length) (_ : off < k), es.flatten[j * k + off]? = es[j][off]?
  | [], _, j, off, hj, _ => by simp at hj
  | e :: es, h, 0, off, hj, ho => by
    have he := h e (by simp)
    simp only [List.flatten_cons, Nat.zero_mul, Nat.zero_add, List.getElem_cons_zero]
    rw [List.getElem?_append_left (by omega)]
  | e :: es, h, j + 1, off, hj, ho => by
    have he := h e (by simp)
    simp only [List.flatten_cons, List.getElem_cons_succ]
    rw [List.getElem?_append_right (by rw [he, Nat.add_mul]; omega)]
    have := flatten_get (es := es) (fun e he => h e (by simp [he])) (j := j) (off := off) (by simpa using hj) ho
    rw [← this]; congr 1; rw [he, Nat.add_mul]; omega

theorem flatten_len {α : Type} {k : Nat} : ∀ {es : List (List α)} (_ : ∀ e ∈ es, e.length = k), es.flatten.length = es.length * k
  | [], _ => by simp
  | e :: es, h => by
    simp only [List.flatten_cons, List.length_append, h e (by simp), flatten_len (es := es) (fun e he => h e (by simp [he])), List.length_cons, Nat.add_mul, Nat.one_mul]
    omega

theorem flatten_elt {α : Type} {k : Nat} : ∀ {es : List (List α)} (_ : ∀ e ∈ es, e.length = k) {j : Nat} (hj : j < es.length), (es.flatten.drop (j * k)).take k = es[j]
  | [], _, j, hj => by simp at hj
  | e :: es, h, 0, hj => by
    have he := h e (by simp)
    simp only [List.flatten_cons, Nat.zero_mul, List.drop_zero, List.getElem_cons_zero]
    rw [List.take_left' he]
  | e :: es, h, j + 1, hj => by
    have he := h e (by simp)
    simp only [List.flatten_cons, List.getElem_cons_succ]
    rw [Nat.add_mul, Nat.one_mul, Nat.add_comm, ← List.drop_drop, List.drop_left' he]
    exact flatten_elt (es := es) (fun e he => h e (by simp [he])) (by simpa using hj)

section
variable {S : St} {k : Nat} {v : V} {es : List (List V)} (h : SlE S k v es)
include h
theorem SlE.len : lenV S 2 v = some (.int .i64 es.length) := h.1.len
theorem SlE.idx {j : Nat} (hj : j < es.length) : idxAddrV k v (.int .i64 (j : Int)) = some (eltV k v j 0) := h.1.idx hj
theorem SlE.fld {j : Nat} (hj : j < es.length) (f : Nat) : fieldAddrV f (eltV k v j 0) = some (eltV k v j f) := by rw [h.1.fld hj, Nat.zero_add]
theorem SlE.get {j off : Nat} (hj : j < es.length) (ho : off < k) : loadV S (eltV k v j off) = es[j][off]? := by
  rw [h.1.load hj ho, flatten_get h.2 hj ho]
theorem SlE.getN {j : Nat} (hj : j < es.length) (hk : 0 < k) : loadNV S k (eltV k v j 0) = some (.agg es[j]) := by
  rw [h.1.loadN hj hk, flatten_elt h.2 hj]
end
theorem SlE.grow {S S' : St} {k : Nat} {v : V} {es : List (List V)} (h : SlE S k v es) (g : Grow S S') : SlE S' k v es := ⟨h.1.grow g, h.2⟩
theorem SlE.upd {D : List Nat} {S S' : St} {k : Nat} {v : V} {es : List (List V)} (h : SlE S k v es) (g : Upd D S S') (hD : ∀ i ∈ v.block, i ∉ D) : SlE S' k v es := ⟨h.1.upd g hD, h.2⟩

/-! ## rows -/
abbrev Row := Int × List Int
def rowC (r : Row) (w : V) : List V := [.int .i64 r.1, w]
def rowsC : List Row → List V → List (List V)
  | r :: rs, w :: ws => rowC r w :: rowsC rs ws
  | _, _ => []
theorem rowsC_length : ∀ {rs : List Row} {ws : List V}, ws.length = rs.length → (rowsC rs ws).length = rs.length
  | [], ws, h => by cases ws <;> simp_all [rowsC]
  | r :: rs, [], h => by simp at h
  | r :: rs, w :: ws, h => by simp only [rowsC, List.length_cons, rowsC_length (rs := rs) (ws := ws) (by simpa using h)]
theorem rowsC_get : ∀ {rs : List Row} {ws : List V} {j : Nat} (hr : j < rs.length) (hw : j < ws.length) (h : j < (rowsC rs ws).length), (rowsC rs ws)[j] = rowC rs[j] ws[j]
  | r :: rs, w :: ws, 0, _, _, _ => rfl
  | r :: rs, w :: ws, j + 1, hr, hw, h => by
    simp only [rowsC, List.getElem_cons_succ]
    exact rowsC_get _ _ _
theorem rowsC_two : ∀ {rs : List Row} {ws : List V}, ∀ e ∈ rowsC rs ws, e.length = 2
  | [], _, e, h => by simp [rowsC] at h
  | r :: rs, [], e, h => by simp [rowsC] at h
  | r :: rs, w :: ws, e, h => by
    simp only [rowsC, List.mem_cons] at h
    rcases h with rfl | h
    · rfl
    · exact rowsC_two e h

/-- A slice of rows. -/
structure RowsAt' (S : St) (v : V) (rs : List Row) (ws : List V) : Prop where
  len : ws.length = rs.length
  sl : SlE S 2 v (rowsC rs ws)
  ints : ∀ j (hr : j < rs.length) (hw : j < ws.length), IntsAt S ws[j] rs[j].2
def RowsAt (S : St) (v : V) (rs : List Row) : Prop := ∃ ws, RowsAt' S v rs ws

section
variable {S : St} {v : V} {rs : List Row} {ws : List V} (h : RowsAt' S v rs ws)
include h
theorem RowsAt'.length : lenV S 2 v = some (.int .i64 rs.length) := by rw [h.sl.len, rowsC_length h.len]
theorem RowsAt'.lt {j : Nat} (hj : j < rs.length) : j < (rowsC rs ws).length := by rw [rowsC_length h.len]; exact hj
theorem RowsAt'.ltw {j : Nat} (hj : j < rs.length) : j < ws.length := by rw [h.len]; exact hj
theorem RowsAt'.idx {j : Nat} (hj : j < rs.length) : idxAddrV 2 v (.int .i64 (j : Int)) = some (eltV 2 v j 0) := h.sl.idx (h.lt hj)
theorem RowsAt'.fld {j : Nat} (hj : j < rs.length) (f : Nat) : fieldAddrV f (eltV 2 v j 0) = some (eltV 2 v j f) := h.sl.fld (h.lt hj) f
theorem RowsAt'.id {j : Nat} (hj : j < rs.length) : loadV S (eltV 2 v j 0) = some (.int .i64 rs[j].1) := by
  rw [h.sl.get (h.lt hj) (by omega), rowsC_get hj (h.ltw hj)]; rfl
theorem RowsAt'.vec {j : Nat} (hj : j < rs.length) : loadV S (eltV 2 v j 1) = some (ws[j]'(h.ltw hj)) := by
  rw [h.sl.get (h.lt hj) (by omega), rowsC_get hj (h.ltw hj)]; rfl
theorem RowsAt'.both {j : Nat} (hj : j < rs.length) : loadNV S 2 (eltV 2 v j 0) = some (.agg [.int .i64 rs[j].1, ws[j]'(h.ltw hj)]) := by
  rw [h.sl.getN (h.lt hj) (by omega), rowsC_get hj (h.ltw hj)]; rfl
theorem RowsAt'.at_ {j : Nat} (hj : j < rs.length) : IntsAt S (ws[j]'(h.ltw hj)) rs[j].2 := h.ints j hj _
end
theorem RowsAt'.grow {S S' : St} {v : V} {rs : List Row} {ws : List V} (h : RowsAt' S v rs ws) (g : Grow S S') : RowsAt' S' v rs ws :=
  ⟨h.len, h.sl.grow g, fun j hr hw => (h.ints j hr hw).grow g⟩
theorem RowsAt.grow {S S' : St} {v : V} {rs : List Row} (h : RowsAt S v rs) (g : Grow S S') : RowsAt S' v rs := let ⟨ws, h⟩ := h; ⟨ws, h.grow g⟩

/-! ## bytes -/
abbrev BytesAt (S : St) (v : V) (l : List UInt8) : Prop := SlAt S 1 v l.length (bytesV l)
theorem BytesAt.get {S : St} {v : V} {l : List UInt8} (h : BytesAt S v l) {j : Nat} (hj : j < l.length) : loadV S (eltV 1 v j 0) = some (.int .u8 (l[j].toNat : Nat)) := by
  have := SlAt.load h (m := j) (off := 0) hj (by omega)
  rw [Nat.mul_one, Nat.add_zero, bytesV_get hj] at this
  exact this

/-! ## what is lent -/
theorem slice_ext {i o l c k h : Nat} {t : Bool} {kk : IntKind} (hh : h ≤ c) : sliceSlV k (.slice i o l c k t) none (some (.int kk h)) none = some (.slice i o h c k t) := by
  simp [sliceSlV, bnds_h hh]

/-- What is lent: a block of its own, marks behind. -/
def Lent (S : St) (B k : Nat) (x : V) (n q : Nat) (cs ms : List V) : Prop := ∃ i, x = .slice i 0 n (n + q) k true ∧ cs.length = n * k ∧ Acc S B k (.slice i 0 (n + q) (n + q) k true) (n + q) (cs ++ ms)

theorem Lent.sl {S : St} {B k : Nat} {x : V} {n q : Nat} {cs ms : List V} (h : Lent S B k x n q cs ms) : SlAt S k x n cs := by
  obtain ⟨i, rfl, hl, ha⟩ := h
  have h1 := ha.at_.1
  refine ⟨by omega, hl, .inr ⟨_, _, _, _, rfl, by omega, ?_⟩⟩
  rcases ha.at_.2.2 with ⟨h, _⟩ | ⟨i', o, c, t, h, hc, hld⟩
  · cases h
  · cases h
    by_cases hz : n * k = 0
    · rw [hz] at hl ⊢
      rw [List.length_eq_zero_iff.mp hl]; simp [St.loads]
    · have hle : n * k ≤ (n + q) * k := Nat.mul_le_mul_right _ (by omega)
      obtain ⟨vs, own, hg, h2, h3⟩ := St.loads_pos hld (by omega)
      rw [St.loads_of hg (by omega)]
      have h4 : (cs ++ ms).take (n * k) = cs := by rw [← hl, List.take_left]
      rw [h3, List.take_take, Nat.min_eq_left hle] at h4
      rw [h4]

theorem Lent.upd {D : List Nat} {S S' : St} {B k : Nat} {x : V} {n q : Nat} {cs ms : List V} (h : Lent S B k x n q cs ms) (g : Upd D S S') (hD : ∀ i ∈ x.block, i ∉ D) : Lent S' B k x n q cs ms := by
  obtain ⟨i, rfl, hl, ha⟩ := h
  exact ⟨i, rfl, hl, ha.upd g hD⟩
theorem Lent.from {S : St} {B k : Nat} {x : V} {n q : Nat} {cs ms : List V} (h : Lent S B k x n q cs ms) : ∀ i ∈ x.block, B ≤ i := by
  obtain ⟨i, rfl, hl, ha⟩ := h
  exact fun j hj => (ha.own j hj).1
theorem Lent.below {S : St} {B B' k : Nat} {x : V} {n q : Nat} {cs ms : List V} (h : Lent S B k x n q cs ms) (hb : B' ≤ B) : Lent S B' k x n q cs ms := by
  obtain ⟨i, rfl, hl, ha⟩ := h
  exact ⟨i, rfl, hl, ha.below hb⟩

theorem reps_nums (k : IntKind) (n : Nat) : reps n [V.int k 0] = intsV k (List.replicate n 0) := by
  induction n with
  | zero => rfl
  | succ n ih =>
    simp only [reps, intsV, List.replicate_succ, List.flatten_cons, List.map_cons, List.singleton_append] at ih ⊢
    rw [ih]

theorem over_int (k : IntKind) (l : List Int) (j : Nat) (b : Int) (h : j < l.length) : over (intsV k l) j [V.int k b] = intsV k (l.set j b) := by
  rw [over_at (by rw [intsV_length]; simp only [List.length_cons, List.length_nil]; omega)]
  apply List.ext_getElem?
  intro q
  simp only [intsV, List.getElem?_map, List.getElem?_set]
  by_cases h1 : q < j
  · rw [List.append_assoc, List.getElem?_append_left (by simp; omega), List.getElem?_take, if_pos h1, if_neg (by omega), List.getElem?_map]
  · by_cases h2 : j = q
    · subst h2
      rw [List.append_assoc, List.getElem?_append_right (by simp; omega), List.getElem?_append_left (by simp; omega)]
      simp [Nat.min_eq_left (Nat.le_of_lt h), h]
    · rw [List.append_assoc, List.getElem?_append_right (by simp; omega), List.getElem?_append_right (by simp; omega), List.getElem?_drop, if_neg h2, List.getElem?_map]
      congr 2; simp; omega

/-- A slice made new. -/
theorem mk_slice {S : St} {k bytes n : Nat} {zs : List V} (hb : bytes * n ≤ 281474976710656) (hn : n ≤ 4611686018427387904) : mkSliceV S k bytes zs (.int .i64 (n : Int)) (.int .i64 (n : Int)) = some (.slice S.next 0 n n k true, S.new (.cells (reps n zs) true)) := by
  have h3 : ((bytes * n : Nat) : Int) ≤ 281474976710656 := by omega
  rw [Int.natCast_mul] at h3
  unfold mkSliceV
  simp only
  rw [if_pos ⟨by omega, by omega, h3, by omega⟩]
  rfl

end Go.Th
end

section
/- Calls that leave the store; maps of numbers. -/
set_option linter.unusedSimpArgs false
set_option linter.unusedVariables false
namespace Go.Th
open Go

/-! ## calls that leave the store -/
def Ty.flat : Ty → Bool
  | .any => false
  | _ => true
def atS : (ts : List Ty) → Cur ts → St → Cur ts
  | [], K, S => fun _ => K S
  | t :: ts, K, S => fun x => atS ts (K x) S

theorem V.plains_append : ∀ (a b : List V), V.plains (a ++ b) = (V.plains a && V.plains b)
  | [], b => by simp [V.plains]
  | v :: a, b => by simp only [List.cons_append, V.plains, V.plains_append a b, Bool.and_assoc]
theorem V.plains_take : ∀ (a : List V) (n : Nat), V.plains a = true → V.plains (a.take n) = true
  | [], n, _ => by simp [V.plains]
  | v :: a, 0, _ => by simp [V.plains]
  | v :: a, n + 1, h => by
    simp only [V.plains, Bool.and_eq_true] at h
    simp only [List.take_succ_cons, V.plains, h.1, V.plains_take a n h.2, Bool.and_self]
theorem V.plains_drop : ∀ (a : List V) (n : Nat), V.plains a = true → V.plains (a.drop n) = true
  | [], n, _ => by simp [V.plains]
  | v :: a, 0, h => h
  | v :: a, n + 1, h => by
    simp only [V.plains, Bool.and_eq_true] at h
    simpa using V.plains_drop a n h.2

theorem group_plain : ∀ (ds : List DT) (vs : List V), V.plains vs = true → V.plains (group ds vs) = true
  | [], _, _ => rfl
  | .one _ :: ds, [], _ => rfl
  | .one _ :: ds, v :: vs, h => by
    simp only [V.plains, Bool.and_eq_true] at h
    simp only [group, V.plains, h.1, group_plain ds vs h.2, Bool.and_self]
  | .agg ts :: ds, vs, h => by
    simp only [group, V.plains, V.plain, V.plains_take _ _ h, group_plain ds _ (V.plains_drop _ _ h), Bool.and_self]

theorem tupled_plain {vs : List V} (h : V.plains vs = true) : (tupled vs).plain = true := by
  match vs with
  | [] => rfl
  | [v] => simpa [tupled, V.plains] using h
  | a :: b :: vs => exact h

theorem toV_plain {t : Ty} (ht : t.flat = true) (x : t.den) : (t.toV x).plain = true := by
  cases t with
  | any => cases ht
  | bool => rfl
  | int k => rfl
  | str => rfl

theorem Ret_gc : ∀ {ts : List Ty} {mk : List V → V} {K : Cur ts} {S S' : St} {r : Res} (_ : ts.all Ty.flat = true) (_ : ∀ vs, V.plains vs = true → (mk vs).plain = true), Ret ts mk (atS ts K S) r S' → r.plain = true ∧ Ret ts mk K r S
  | [], mk, K, S, S', r, _, hm, h => by
    obtain ⟨rfl, h2⟩ := h
    exact ⟨hm [] rfl, rfl, h2⟩
  | t :: ts, mk, K, S, S', r, ht, hm, h => by
    simp only [List.all_cons, Bool.and_eq_true] at ht
    obtain ⟨x, h⟩ := h
    have := Ret_gc (ts := ts) (K := K x) ht.2 (fun vs hv => hm (t.toV x :: vs) (by simp only [V.plains, toV_plain ht.1 x, hv, Bool.and_self])) h
    exact ⟨this.1, x, this.2⟩

/-- What only looks, and tells no place: the store stays. -/
theorem CallA.gcT {P : Program} {f : FuncId} {args : List V} {S : St} {ds : List DT} {K : Cur (flats ds)} (hp : (flats ds).all Ty.flat = true) (h : CallA P f args S.ro (retT ds (atS (flats ds) K S))) : CallA P f args S (retT ds K) :=
  CallA.gc (h.mono fun r S' hr => Ret_gc hp (fun vs hv => tupled_plain (group_plain ds vs hv)) hr)

/-- What needs no store at all. -/
theorem CallA.closedT {P : Program} {f : FuncId} {args : List V} {S : St} {ds : List DT} {K : Cur (flats ds)} (ha : V.plains args = true) (hp : (flats ds).all Ty.flat = true) (h : CallA P f args St.empty (retT ds (atS (flats ds) K S))) : CallA P f args S (retT ds K) :=
  CallA.closed ha (h.mono fun r S' hr => Ret_gc hp (fun vs hv => tupled_plain (group_plain ds vs hv)) hr)

theorem St.Wf.ro {S : St} (h : S.Wf) : S.ro.Wf := fun i hi => by
  rw [St.get_ro, h i hi]; rfl
theorem St.Wf.empty : St.empty.Wf := fun i _ => rfl

theorem CallA.wfT {P : Program} {f : FuncId} {args : List V} {S : St} {Q : Post} (h : S.Wf → CallA P f args S Q) : CallA P f args S Q :=
  CallA.wf fun hw => (h hw).mono fun _ _ hq _ => hq

theorem IntsAt.ro {S : St} {v : V} {l : List Int} (h : IntsAt S v l) : IntsAt S.ro v l := SlAt.ro h
theorem RowsAt'.ro {S : St} {v : V} {rs : List Row} {ws : List V} (h : RowsAt' S v rs ws) : RowsAt' S.ro v rs ws :=
  ⟨h.len, ⟨SlAt.ro h.sl.1, h.sl.2⟩, fun j hr hw => SlAt.ro (h.ints j hr hw)⟩
theorem RowsAt.ro {S : St} {v : V} {rs : List Row} (h : RowsAt S v rs) : RowsAt S.ro v rs := let ⟨ws, h⟩ := h; ⟨ws, h.ro⟩

/-! ## maps whose keys are numbers -/
def entI (es : List (Int × V)) : List (V × V) := es.map fun e => (.int .i64 e.1, e.2)
theorem findV_int (k : Int) : ∀ (es : List (Int × V)) (i : Nat), findV (.int .i64 k) (entI es) i = some ((es.findIdx? fun e => decide (k = e.1)).map fun j => (i + j, (es.getD j (0, .nilPtr)).2))
  | [], i => rfl
  | e :: es, i => by
    have ih := findV_int k es (i + 1)
    simp only [entI, List.map_cons] at ih ⊢
    simp only [findV, sameV, List.findIdx?_cons]
    by_cases h : k = e.1
    · simp [h]
    · simp only [h, decide_false, Bool.false_eq_true, if_false]
      rw [ih]
      cases List.findIdx? (fun e => decide (k = e.1)) es with
      | none => rfl
      | some j => simp; omega

def MapAt (S : St) (i : Nat) (es : List (Int × V)) : Prop := S.get i = some (.map (entI es) true)

theorem lookup_int {S : St} {i : Nat} {es : List (Int × V)} (h : MapAt S i es) (z : V) (k : Int) : lookupV S 1 z false (.map i) (.int .i64 k) = some (match es.find? fun e => decide (k = e.1) with
    | some e => e.2
    | none => z) := by
  unfold MapAt at h
  have hf : keyFit 1 (.int .i64 k) = true := by unfold keyFit; rfl
  simp only [lookupV, rLookup, AX.ev, hf, if_true, h, findV_int]
  cases hi : es.findIdx? (fun e => decide (k = e.1)) with
  | none =>
    have : es.find? (fun e => decide (k = e.1)) = none := by
      rw [List.findIdx?_eq_none_iff] at hi
      rw [List.find?_eq_none]
      intro e he; simpa using hi e he
    simp [this, lookOut]
  | some j =>
    have hj := List.findIdx?_eq_some_iff_getElem.mp hi
    obtain ⟨hlt, hp, hbefore⟩ := hj
    have : es.find? (fun e => decide (k = e.1)) = some es[j] := by
      rw [List.find?_eq_some_iff_getElem]
      exact ⟨hp, j, hlt, rfl, fun q hq => by simpa using hbefore q hq⟩
    simp [this, lookOut, hlt]

theorem mapUpd_new {S : St} (hw : S.Wf) {i : Nat} {es : List (Int × V)} (h : MapAt S i es) {k : Int} (v : V) (hk : ∀ e ∈ es, e.1 ≠ k) : ∃ S', mapUpdV S 1 (.map i) (.int .i64 k) v = some S' ∧ MapAt S' i (es ++ [(k, v)]) ∧ Upd [i] S S' ∧ S'.next = S.next := by
  unfold MapAt at h
  have hf : keyFit 1 (.int .i64 k) = true := by unfold keyFit; rfl
  have hn : es.findIdx? (fun e => decide (k = e.1)) = none := by
    rw [List.findIdx?_eq_none_iff]
    intro e he; simpa using fun e' => hk e he e'.symm
  refine ⟨S.put i (some (.map (entI es ++ [(.int .i64 k, v)]) true)), ?_, ?_, (Upd.refl hw [i]).put (hw.lt h) (.inr (by simp)) _, rfl⟩
  · simp only [mapUpdV, rMapUpd, AX.ev, hf, if_true, h, findV_int, hn, Option.map_none]
  · unfold MapAt; simp [entI]

theorem mapUpd_old {S : St} (hw : S.Wf) {i : Nat} {es : List (Int × V)} (h : MapAt S i es) {k : Int} (v : V) {j : Nat} (hj : es.findIdx? (fun e => decide (k = e.1)) = some j) : ∃ S', mapUpdV S 1 (.map i) (.int .i64 k) v = some S' ∧ MapAt S' i (es.set j (k, v)) ∧ Upd [i] S S' ∧ S'.next = S.next := by
  unfold MapAt at h
  have hf : keyFit 1 (.int .i64 k) = true := by unfold keyFit; rfl
  refine ⟨S.put i (some (.map ((entI es).set j (.int .i64 k, v)) true)), ?_, ?_, (Upd.refl hw [i]).put (hw.lt h) (.inr (by simp)) _, rfl⟩
  · simp only [mapUpdV, rMapUpd, AX.ev, hf, if_true, h, findV_int, hj, Option.map_some, Nat.zero_add]
  · unfold MapAt; simp [entI, List.map_set]

theorem MapAt.upd {D : List Nat} {S S' : St} {i : Nat} {es : List (Int × V)} (h : MapAt S i es) (g : Upd D S S') (hD : i ∉ D) : MapAt S' i es := g.get h hD

end Go.Th
end
