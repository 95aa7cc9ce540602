/- What the row of one statement stands on: a store, abstract code, functions of the program and their laws (ThQ4, ThQ5, ThQ6, ThQ7, ThQ8, ThQ9, ThQ10). -/
import Derived.Test.YtkjmdgejbcphjaaGreatDoorThBQ12

section
/- Readings of arguments: bytes, numbers. -/
set_option linter.unusedSimpArgs false
set_option linter.unusedVariables false
namespace Go.Th
open Go

theorem kindMin_i64 : IntKind.i64.min = -9223372036854775808 := by decide
theorem kindMax_i64 : IntKind.i64.max = 9223372036854775807 := by decide
theorem kindMin_u8 : IntKind.u8.min = 0 := by decide
theorem kindMax_u8 : IntKind.u8.max = 255 := by decide
theorem lit_i64 {k : Int} (h : (Lit.int .i64 k).wf = true) : -9223372036854775808 ≤ k ∧ k ≤ 9223372036854775807 := by
  simp only [Lit.wf, Bool.and_eq_true, decide_eq_true_eq, kindMin_i64, kindMax_i64] at h
  omega
theorem lit_u8 {k : Int} (h : (Lit.int .u8 k).wf = true) : 0 ≤ k ∧ k ≤ 255 := by
  simp only [Lit.wf, Bool.and_eq_true, decide_eq_true_eq, kindMin_u8, kindMax_u8] at h
  omega
theorem has_u8s {S : St} {n : Nat} {es : List V} (hl : es.length = n * 1) (h : ∀ m, m < n → Has S (.int .u8) ((es.drop (m * 1)).take 1)) : ∃ bs : List UInt8, bs.length = n ∧ es = bytesV bs := by
  have hl : es.length = n := by omega
  subst hl
  induction es with
  | nil => exact ⟨[], rfl, rfl⟩
  | cons v es ih =>
    obtain ⟨bs, h1, h2⟩ := ih (by omega) (fun m hm => by
      have := h (m + 1) (by simp; omega)
      simpa using this)
    have h0 := h 0 (by simp)
    simp only [Has, Nat.zero_mul, List.drop_zero, List.take_succ_cons, List.take_zero] at h0
    obtain ⟨z, hz, hw⟩ := h0
    simp only [List.cons.injEq, and_true] at hz
    have hr := lit_u8 hw
    refine ⟨byteZ z :: bs, by simp [h1], ?_⟩
    rw [h2, hz]
    have : z = ((byteZ z).toNat : Int) := by rw [byteZ_toNat]; omega
    simp only [bytesV, List.map_cons]
    rw [← this]

def intsV (k : IntKind) (l : List Int) : List V := l.map (V.int k)
theorem intsV_length (k : IntKind) (l : List Int) : (intsV k l).length = l.length := by simp [intsV]
theorem intsV_get {k : IntKind} {l : List Int} {j : Nat} (h : j < l.length) : (intsV k l)[j]? = some (.int k l[j]) := by simp [intsV, h]
theorem intsV_ones (k : IntKind) (l : List Int) : (intsV k l).all V.one = true := by simp [intsV, List.all_map, Function.comp_def, V.one]
theorem has_i64s {S : St} {n : Nat} {es : List V} (hl : es.length = n * 1) (h : ∀ m, m < n → Has S (.int .i64) ((es.drop (m * 1)).take 1)) :
    ∃ l : List Int, l.length = n ∧ es = intsV .i64 l ∧ ∀ x ∈ l, -9223372036854775808 ≤ x ∧ x ≤ 9223372036854775807 := by
  have hl : es.length = n := by omega
  subst hl
  induction es with
  | nil => exact ⟨[], rfl, rfl, by simp⟩
  | cons v es ih =>
    obtain ⟨bs, h1, h2, h3⟩ := ih (by omega) (fun m hm => by
      have := h (m + 1) (by simp; omega)
      simpa using this)
    have h0 := h 0 (by simp)
    simp only [Has, Nat.zero_mul, List.drop_zero, List.take_succ_cons, List.take_zero] at h0
    obtain ⟨z, hz, hw⟩ := h0
    simp only [List.cons.injEq, and_true] at hz
    have hr := lit_i64 hw
    refine ⟨z :: bs, by simp [h1], by rw [h2, hz]; rfl, ?_⟩
    intro x hx
    rcases List.mem_cons.mp hx with rfl | hx
    · exact hr
    · exact h3 x hx

end Go.Th
end

section
/- Memory: blocks read and written; slices of numbers, of rows; what is lent. -/
set_option linter.unusedSimpArgs false
set_option linter.unusedVariables false
namespace Go.Th
open Go

theorem ld {S : St} {i o : Nat} {cs : List V} {own : Bool} {v : V} (h : S.get i = some (.cells cs own)) (hc : cs[o]? = some v) : loadV S (.ptr i o) = some v := by
  simp only [loadV, St.load1, h, hc]
theorem ldN {S : St} {i o n : Nat} {cs ds : List V} {own : Bool} (h : S.get i = some (.cells cs own)) (hl : o + n ≤ cs.length) (hd : (cs.drop o).take n = ds) : loadNV S n (.ptr i o) = some (.agg ds) := by
  simp only [loadNV, St.loads_of h hl, hd, Option.map_some]
theorem ldC {S : St} {i o n : Nat} {cs ds : List V} {own : Bool} (h : S.get i = some (.cells cs own)) (hl : o + n ≤ cs.length) (hd : (cs.drop o).take n = ds) : cellNV S n (.ptr i o) = some (.agg ds) := by
  simp only [cellNV, St.loads_of h hl, hd, Option.map_some]
theorem ldC1 {S : St} {i o : Nat} {cs : List V} {own : Bool} {v : V} (h : S.get i = some (.cells cs own)) (hc : cs[o]? = some v) : cell1V S (.ptr i o) = some v := by
  simp only [cell1V, St.load1, h, hc]

theorem newS_mk {S : St} (hw : S.Wf) {b : Blk} {k : St → Prop} (h : ∀ S', Grow S S' → S'.get S.next = some b → S'.next = S.next + 1 → k S') : newS S b k := by
  rintro S' rfl
  exact h _ ((Upd.refl hw []).new b) (by simp) rfl

theorem st_mk {S : St} (hw : S.Wf) {i o n : Nat} {cs : List V} {v : V} {k : St → Prop} (h : S.get i = some (.cells cs true)) (hn : v.cells.length = n) (hf : o + v.cells.length ≤ cs.length) (ho : v.cells.all V.one = true)
    (hk : ∀ S', Upd [i] S S' → S'.get i = some (.cells (over cs o v.cells) true) → S'.next = S.next → k S') : ifS (storeV S n (.ptr i o) v) k := by
  have e : storeV S n (.ptr i o) v = some (S.put i (some (.cells (over cs o v.cells) true))) := by
    simp only [storeV, hn, if_true, St.stores, h]
    rw [if_pos (by simp only [Bool.and_eq_true, decide_eq_true_eq]; exact ⟨by rw [← hn]; exact hf, ho⟩)]
  refine ifS_mk e (hk _ ((Upd.refl hw [i]).put (hw.lt h) (.inr (by simp)) _) (by simp) rfl)

abbrev IntsAt (S : St) (v : V) (l : List Int) : Prop := SlAt S 1 v l.length (intsV .i64 l)
theorem IntsAt.idx {S : St} {v : V} {l : List Int} (h : IntsAt S v l) {j : Nat} (hj : j < l.length) : idxAddrV 1 v (.int .i64 (j : Int)) = some (eltV 1 v j 0) := SlAt.idx h hj
theorem IntsAt.get {S : St} {v : V} {l : List Int} (h : IntsAt S v l) {j : Nat} (hj : j < l.length) : loadV S (eltV 1 v j 0) = some (.int .i64 l[j]) := by
  have := SlAt.load h (m := j) (off := 0) hj (by omega)
  rw [Nat.mul_one, Nat.add_zero, intsV_get hj] at this
  exact this
theorem IntsAt.length {S : St} {v : V} {l : List Int} (h : IntsAt S v l) : lenV S 2 v = some (.int .i64 l.length) := SlAt.len h
theorem SlAt.cells1 {S : St} {k : Nat} {v : V} {n : Nat} {cs : List V} (h : SlAt S k v n cs) : V.cells v = [v] := by
  rcases h.2.2 with ⟨rfl, _⟩ | ⟨i, o, c, t, rfl, _⟩ <;> rfl
theorem SlAt.one1 {S : St} {k : Nat} {v : V} {n : Nat} {cs : List V} (h : SlAt S k v n cs) : v.one = true := by
  rcases h.2.2 with ⟨rfl, _⟩ | ⟨i, o, c, t, rfl, _⟩ <;> rfl
def SlE (S : St) (k : Nat) (v : V) (es : List (List V)) : Prop := SlAt S k v es.length es.flatten ∧ ∀ e ∈ es, e.length = k

theorem flatten_get {α : Type} {k : Nat} : ∀ {es : List (List α)} (_ : ∀ e ∈ es, e.length = k) {j off : Nat} (hj : j < es.length) (_ : off < k), es.flatten[j * k + off]? = es[j][off]?
  | [], _, j, off, hj, _ => by simp at hj
  | e :: es, h, 0, off, hj, ho => by
    have he := h e (by simp)
    simp only [List.flatten_cons, Nat.zero_mul, Nat.zero_add, List.getElem_cons_zero]
    rw [List.getElem?_append_left (by omega)]
  | e :: es, h, j + 1, off, hj, ho => by
    have he := h e (by simp)
    simp only [List.flatten_cons, List.getElem_cons_succ]
    rw [List.getElem?_append_right (by rw [he, Nat.add_mul]; omega)]
    have := flatten_get (es := es) (fun e he => h e (by simp [he])) (j := j) (off := off) (by simpa using hj) ho
    rw [← this]; congr 1; rw [he, Nat.add_mul]; omega

theorem flatten_len {α : Type} {k : Nat} : ∀ {es : List (List α)} (_ : ∀ e ∈ es, e.length = k), es.flatten.length = es.length * k
  | [], _ => by simp
  | e :: es, h => by
    simp only [List.flatten_cons, List.length_append, h e (by simp), flatten_len (es := es) (fun e he => h e (by simp [he])), List.length_cons, Nat.add_mul, Nat.one_mul]
    omega

theorem flatten_elt {α : Type} {k : Nat} : ∀ {es : List (List α)} (_ : ∀ e ∈ es, e.length = k) {j : Nat} (hj : j < es.length), (es.flatten.drop (j * k)).take k = es[j]
  | [], _, j, hj => by simp at hj
  | e :: es, h, 0, hj => by
    have he := h e (by simp)
    simp only [List.flatten_cons, Nat.zero_mul, List.drop_zero, List.getElem_cons_zero]
    rw [List.take_left' he]
  | e :: es, h, j + 1, hj => by
    have he := h e (by simp)
    simp only [List.flatten_cons, List.getElem_cons_succ]
    rw [Nat.add_mul, Nat.one_mul, Nat.add_comm, ← List.drop_drop, List.drop_left' he]
    exact flatten_elt (es := es) (fun e he => h e (by simp [he])) (by simpa using hj)

section
variable {S : St} {k : Nat} {v : V} {es : List (List V)} (h : SlE S k v es)
include h
theorem SlE.len : lenV S 2 v = some (.int .i64 es.length) := h.1.len
theorem SlE.idx {j : Nat} (hj : j < es.length) : idxAddrV k v (.int .i64 (j : Int)) = some (eltV k v j 0) := h.1.idx hj
theorem SlE.fld {j : Nat} (hj : j < es.length) (f : Nat) : fieldAddrV f (eltV k v j 0) = some (eltV k v j f) := by rw [h.1.fld hj, Nat.zero_add]
theorem SlE.get {j off : Nat} (hj : j < es.length) (ho : off < k) : loadV S (eltV k v j off) = es[j][off]? := by
  rw [h.1.load hj ho, flatten_get h.2 hj ho]
theorem SlE.getN {j : Nat} (hj : j < es.length) (hk : 0 < k) : loadNV S k (eltV k v j 0) = some (.agg es[j]) := by
  rw [h.1.loadN hj hk, flatten_elt h.2 hj]
end
theorem SlE.grow {S S' : St} {k : Nat} {v : V} {es : List (List V)} (h : SlE S k v es) (g : Grow S S') : SlE S' k v es := ⟨h.1.grow g, h.2⟩
theorem SlE.upd {D : List Nat} {S S' : St} {k : Nat} {v : V} {es : List (List V)} (h : SlE S k v es) (g : Upd D S S') (hD : ∀ i ∈ v.block, i ∉ D) : SlE S' k v es := ⟨h.1.upd g hD, h.2⟩

abbrev Row := Int × List Int
def rowC (r : Row) (w : V) : List V := [.int .i64 r.1, w]
def rowsC : List Row → List V → List (List V)
  | r :: rs, w :: ws => rowC r w :: rowsC rs ws
  | _, _ => []
structure RowsAt' (S : St) (v : V) (rs : List Row) (ws : List V) : Prop where
  len : ws.length = rs.length
  sl : SlE S 2 v (rowsC rs ws)
  ints : ∀ j (hr : j < rs.length) (hw : j < ws.length), IntsAt S ws[j] rs[j].2
section
variable {S : St} {v : V} {rs : List Row} {ws : List V} (h : RowsAt' S v rs ws)
include h
end
abbrev BytesAt (S : St) (v : V) (l : List UInt8) : Prop := SlAt S 1 v l.length (bytesV l)
theorem BytesAt.get {S : St} {v : V} {l : List UInt8} (h : BytesAt S v l) {j : Nat} (hj : j < l.length) : loadV S (eltV 1 v j 0) = some (.int .u8 (l[j].toNat : Nat)) := by
  have := SlAt.load h (m := j) (off := 0) hj (by omega)
  rw [Nat.mul_one, Nat.add_zero, bytesV_get hj] at this
  exact this

theorem reps_nums (k : IntKind) (n : Nat) : reps n [V.int k 0] = intsV k (List.replicate n 0) := by
  induction n with
  | zero => rfl
  | succ n ih =>
    simp only [reps, intsV, List.replicate_succ, List.flatten_cons, List.map_cons, List.singleton_append] at ih ⊢
    rw [ih]

theorem mk_slice {S : St} {k bytes n : Nat} {zs : List V} (hb : bytes * n ≤ 281474976710656) (hn : n ≤ 4611686018427387904) : mkSliceV S k bytes zs (.int .i64 (n : Int)) (.int .i64 (n : Int)) = some (.slice S.next 0 n n k true, S.new (.cells (reps n zs) true)) := by
  have h3 : ((bytes * n : Nat) : Int) ≤ 281474976710656 := by omega
  rw [Int.natCast_mul] at h3
  unfold mkSliceV
  simp only
  rw [if_pos ⟨by omega, by omega, h3, by omega⟩]
  rfl

end Go.Th
end

section
/- Calls that leave the store; maps of numbers. -/
set_option linter.unusedSimpArgs false
set_option linter.unusedVariables false
namespace Go.Th
open Go

def Ty.flat : Ty → Bool
  | .any => false
  | _ => true
def atS : (ts : List Ty) → Cur ts → St → Cur ts
  | [], K, S => fun _ => K S
  | t :: ts, K, S => fun x => atS ts (K x) S

theorem V.plains_take : ∀ (a : List V) (n : Nat), V.plains a = true → V.plains (a.take n) = true
  | [], n, _ => by simp [V.plains]
  | v :: a, 0, _ => by simp [V.plains]
  | v :: a, n + 1, h => by
    simp only [V.plains, Bool.and_eq_true] at h
    simp only [List.take_succ_cons, V.plains, h.1, V.plains_take a n h.2, Bool.and_self]
theorem V.plains_drop : ∀ (a : List V) (n : Nat), V.plains a = true → V.plains (a.drop n) = true
  | [], n, _ => by simp [V.plains]
  | v :: a, 0, h => h
  | v :: a, n + 1, h => by
    simp only [V.plains, Bool.and_eq_true] at h
    simpa using V.plains_drop a n h.2

theorem group_plain : ∀ (ds : List DT) (vs : List V), V.plains vs = true → V.plains (group ds vs) = true
  | [], _, _ => rfl
  | .one _ :: ds, [], _ => rfl
  | .one _ :: ds, v :: vs, h => by
    simp only [V.plains, Bool.and_eq_true] at h
    simp only [group, V.plains, h.1, group_plain ds vs h.2, Bool.and_self]
  | .agg ts :: ds, vs, h => by
    simp only [group, V.plains, V.plain, V.plains_take _ _ h, group_plain ds _ (V.plains_drop _ _ h), Bool.and_self]

theorem tupled_plain {vs : List V} (h : V.plains vs = true) : (tupled vs).plain = true := by
  match vs with
  | [] => rfl
  | [v] => simpa [tupled, V.plains] using h
  | a :: b :: vs => exact h

theorem toV_plain {t : Ty} (ht : t.flat = true) (x : t.den) : (t.toV x).plain = true := by
  cases t with
  | any => cases ht
  | bool => rfl
  | int k => rfl
  | str => rfl

theorem Ret_gc : ∀ {ts : List Ty} {mk : List V → V} {K : Cur ts} {S S' : St} {r : Res} (_ : ts.all Ty.flat = true) (_ : ∀ vs, V.plains vs = true → (mk vs).plain = true), Ret ts mk (atS ts K S) r S' → r.plain = true ∧ Ret ts mk K r S
  | [], mk, K, S, S', r, _, hm, h => by
    obtain ⟨rfl, h2⟩ := h
    exact ⟨hm [] rfl, rfl, h2⟩
  | t :: ts, mk, K, S, S', r, ht, hm, h => by
    simp only [List.all_cons, Bool.and_eq_true] at ht
    obtain ⟨x, h⟩ := h
    have := Ret_gc (ts := ts) (K := K x) ht.2 (fun vs hv => hm (t.toV x :: vs) (by simp only [V.plains, toV_plain ht.1 x, hv, Bool.and_self])) h
    exact ⟨this.1, x, this.2⟩

theorem CallA.gcT {P : Program} {f : FuncId} {args : List V} {S : St} {ds : List DT} {K : Cur (flats ds)} (hp : (flats ds).all Ty.flat = true) (h : CallA P f args S.ro (retT ds (atS (flats ds) K S))) : CallA P f args S (retT ds K) :=
  CallA.gc (h.mono fun r S' hr => Ret_gc hp (fun vs hv => tupled_plain (group_plain ds vs hv)) hr)

theorem St.Wf.empty : St.empty.Wf := fun i _ => rfl

theorem CallA.wfT {P : Program} {f : FuncId} {args : List V} {S : St} {Q : Post} (h : S.Wf → CallA P f args S Q) : CallA P f args S Q :=
  CallA.wf fun hw => (h hw).mono fun _ _ hq _ => hq

theorem IntsAt.ro {S : St} {v : V} {l : List Int} (h : IntsAt S v l) : IntsAt S.ro v l := SlAt.ro h
def entI (es : List (Int × V)) : List (V × V) := es.map fun e => (.int .i64 e.1, e.2)
theorem findV_int (k : Int) : ∀ (es : List (Int × V)) (i : Nat), findV (.int .i64 k) (entI es) i = some ((es.findIdx? fun e => decide (k = e.1)).map fun j => (i + j, (es.getD j (0, .nilPtr)).2))
  | [], i => rfl
  | e :: es, i => by
    have ih := findV_int k es (i + 1)
    simp only [entI, List.map_cons] at ih ⊢
    simp only [findV, sameV, List.findIdx?_cons]
    by_cases h : k = e.1
    · simp [h]
    · simp only [h, decide_false, Bool.false_eq_true, if_false]
      rw [ih]
      cases List.findIdx? (fun e => decide (k = e.1)) es with
      | none => rfl
      | some j => simp; omega

def MapAt (S : St) (i : Nat) (es : List (Int × V)) : Prop := S.get i = some (.map (entI es) true)

theorem mapUpd_new {S : St} (hw : S.Wf) {i : Nat} {es : List (Int × V)} (h : MapAt S i es) {k : Int} (v : V) (hk : ∀ e ∈ es, e.1 ≠ k) : ∃ S', mapUpdV S 1 (.map i) (.int .i64 k) v = some S' ∧ MapAt S' i (es ++ [(k, v)]) ∧ Upd [i] S S' ∧ S'.next = S.next := by
  unfold MapAt at h
  have hf : keyFit 1 (.int .i64 k) = true := by unfold keyFit; rfl
  have hn : es.findIdx? (fun e => decide (k = e.1)) = none := by
    rw [List.findIdx?_eq_none_iff]
    intro e he; simpa using fun e' => hk e he e'.symm
  refine ⟨S.put i (some (.map (entI es ++ [(.int .i64 k, v)]) true)), ?_, ?_, (Upd.refl hw [i]).put (hw.lt h) (.inr (by simp)) _, rfl⟩
  · simp only [mapUpdV, rMapUpd, AX.ev, hf, if_true, h, findV_int, hn, Option.map_none]
  · unfold MapAt; simp [entI]

theorem mapUpd_old {S : St} (hw : S.Wf) {i : Nat} {es : List (Int × V)} (h : MapAt S i es) {k : Int} (v : V) {j : Nat} (hj : es.findIdx? (fun e => decide (k = e.1)) = some j) : ∃ S', mapUpdV S 1 (.map i) (.int .i64 k) v = some S' ∧ MapAt S' i (es.set j (k, v)) ∧ Upd [i] S S' ∧ S'.next = S.next := by
  unfold MapAt at h
  have hf : keyFit 1 (.int .i64 k) = true := by unfold keyFit; rfl
  refine ⟨S.put i (some (.map ((entI es).set j (.int .i64 k, v)) true)), ?_, ?_, (Upd.refl hw [i]).put (hw.lt h) (.inr (by simp)) _, rfl⟩
  · simp only [mapUpdV, rMapUpd, AX.ev, hf, if_true, h, findV_int, hj, Option.map_some, Nat.zero_add]
  · unfold MapAt; simp [entI, List.map_set]

theorem MapAt.upd {D : List Nat} {S S' : St} {i : Nat} {es : List (Int × V)} (h : MapAt S i es) (g : Upd D S S') (hD : i ∉ D) : MapAt S' i es := g.get h hD

end Go.Th
end

section
/- Lists that a call builds: bytes, numbers, rows. Reading a text. -/
set_option linter.unusedSimpArgs false
set_option linter.unusedVariables false
namespace Go.Th
open Go

structure Built (S0 S : St) (k : Nat) (v : V) (es : List (List V)) : Prop where
  grow : Grow S0 S
  acc : Acc S S0.next k v es.length es.flatten
  each : ∀ e ∈ es, e.length = k

theorem Built.nil {S0 S : St} (g : Grow S0 S) (k : Nat) : Built S0 S k .nilSlice [] := ⟨g, Acc.nil _ _ _, by simp⟩
theorem Built.from {S0 S : St} {k : Nat} {v : V} {es : List (List V)} (h : Built S0 S k v es) : ∀ i ∈ v.block, S0.next ≤ i := fun i hi => (h.acc.own i hi).1
theorem Built.sl {S0 S : St} {k : Nat} {v : V} {es : List (List V)} (h : Built S0 S k v es) : SlE S k v es := ⟨h.acc.at_, h.each⟩
theorem Built.next {S0 S S' : St} {k : Nat} {v : V} {es : List (List V)} (h : Built S0 S k v es) (g : Grow S S') : Built S0 S' k v es := ⟨h.grow.trans g, h.acc.grow g, h.each⟩
theorem Built.lt {S0 S : St} {k : Nat} {v : V} {es : List (List V)} (h : Built S0 S k v es) : ∀ i ∈ v.block, i < S.next := fun i hi => by
  obtain ⟨_, vs, hg⟩ := h.acc.own i hi
  exact h.grow.wf.lt hg

theorem Built.app {S0 S : St} {k : Nat} {v y : V} {es ds : List (List V)} (h : Built S0 S k v es) (hy : srcV k S y = some (ds.length, ds.flatten)) (hd : ∀ e ∈ ds, e.length = k) (ho : ds.flatten.all V.one = true) {bytes : Nat}
    (hb : (es.length + ds.length) * bytes ≤ 140737488355328) (hn : es.length + ds.length ≤ 4611686018427387904) {K : V → St → Prop}
    (hk : ∀ v' S', Built S0 S' k v' (es ++ ds) → Upd v.block S S' → (∀ i ∈ v'.block, i ∈ v.block ∨ S.next ≤ i) → K v' S') : ifP (appV S k bytes v y) K := by
  obtain ⟨v', S', e1, a1, u1, t1⟩ := h.acc.app h.grow.wf h.grow.le hy (flatten_len hd) ho hb hn
  refine ifP_mk e1 (hk v' S' ⟨h.grow.after u1 (fun i hi => .inl (h.from i hi)), ?_, ?_⟩ u1 t1)
  · rw [List.length_append, List.flatten_append]; exact a1
  · intro e he
    rcases List.mem_append.mp he with he | he
    · exact h.each e he
    · exact hd e he

theorem Built.push {S0 S : St} {k : Nat} {v : V} {es : List (List V)} (h : Built S0 S k v es) {e : List V} (he : e.length = k) (ho : e.all V.one = true) {bytes : Nat}
    (hb : (es.length + 1) * bytes ≤ 140737488355328) (hn : es.length + 1 ≤ 4611686018427387904) {K : V → St → Prop}
    (hk : ∀ v' S', Built S0 S' k v' (es ++ [e]) → Upd v.block S S' → (∀ i ∈ v'.block, i ∈ v.block ∨ S.next ≤ i) → K v' S') :
    newS S (.cells e true) fun S1 => ifP (appV S1 k bytes v (.slice S.next 0 1 1 k true)) K := by
  refine newS_mk h.grow.wf fun S1 g1 m1 n1 => ?_
  have hs : srcV k S1 (.slice S.next 0 1 1 k true) = some ([e].length, [e].flatten) := by
    simp only [srcV, if_true]
    rw [St.loads_of m1 (by omega)]
    simp [List.take_of_length_le (Nat.le_of_eq he)]
  refine (h.next g1).app hs (by simp [he]) (by simpa using ho) hb hn fun v' S' b' u t => hk v' S' b' (g1.mono (by simp) |>.trans u) fun i hi => ?_
  rcases t i hi with h' | h'
  · exact .inl h'
  · exact .inr (by omega)

def byteE (bs : List UInt8) : List (List V) := bs.map fun b => [V.int .u8 (b.toNat : Nat)]
def intE (l : List Int) : List (List V) := l.map fun x => [V.int .i64 x]
theorem byteE_flat (bs : List UInt8) : (byteE bs).flatten = bytesV bs := by
  induction bs with
  | nil => rfl
  | cons b bs ih => simp only [byteE, bytesV, List.map_cons, List.flatten_cons] at ih ⊢; rw [ih]; rfl
theorem intE_flat (l : List Int) : (intE l).flatten = intsV .i64 l := by
  induction l with
  | nil => rfl
  | cons b bs ih => simp only [intE, intsV, List.map_cons, List.flatten_cons] at ih ⊢; rw [ih]; rfl
theorem byteE_len (bs : List UInt8) : (byteE bs).length = bs.length := by simp [byteE]
theorem intE_len (l : List Int) : (intE l).length = l.length := by simp [intE]

abbrev BuiltB (S0 S : St) (v : V) (bs : List UInt8) : Prop := Built S0 S 1 v (byteE bs)
abbrev BuiltI (S0 S : St) (v : V) (l : List Int) : Prop := Built S0 S 1 v (intE l)
theorem BuiltB.at_ {S0 S : St} {v : V} {bs : List UInt8} (h : BuiltB S0 S v bs) : BytesAt S v bs := by
  have := h.acc.at_
  rwa [byteE_flat, byteE_len] at this
theorem BuiltI.at_ {S0 S : St} {v : V} {l : List Int} (h : BuiltI S0 S v l) : IntsAt S v l := by
  have := h.acc.at_
  rwa [intE_flat, intE_len] at this

theorem BuiltB.app {S0 S : St} {v y : V} {bs ds : List UInt8} (h : BuiltB S0 S v bs) (hy : srcV 1 S y = some (ds.length, bytesV ds)) (hl : bs.length + ds.length ≤ 140737488355328) {K : V → St → Prop}
    (hk : ∀ v' S', BuiltB S0 S' v' (bs ++ ds) → Upd v.block S S' → (∀ i ∈ v'.block, i ∈ v.block ∨ S.next ≤ i) → K v' S') : ifP (appV S 1 1 v y) K := by
  refine Built.app h (ds := byteE ds) (by rw [byteE_flat, byteE_len]; exact hy) (by simp [byteE]) (by rw [byteE_flat]; exact bytesV_ones _) (by simp only [byteE_len]; omega) (by simp only [byteE_len]; omega) fun v' S' b => hk v' S' ?_
  simpa [BuiltB, byteE] using b
theorem BuiltB.push {S0 S : St} {v : V} {bs : List UInt8} (h : BuiltB S0 S v bs) (b : UInt8) (hl : bs.length + 1 ≤ 140737488355328) {K : V → St → Prop}
    (hk : ∀ v' S', BuiltB S0 S' v' (bs ++ [b]) → Upd v.block S S' → (∀ i ∈ v'.block, i ∈ v.block ∨ S.next ≤ i) → K v' S') :
    newS S (.cells [V.int .u8 (b.toNat : Nat)] true) fun S1 => ifP (appV S1 1 1 v (.slice S.next 0 1 1 1 true)) K := by
  refine Built.push h rfl rfl (by simp only [byteE_len]; omega) (by simp only [byteE_len]; omega) fun v' S' b => hk v' S' ?_
  simpa [BuiltB, byteE] using b
theorem SlAt.bytes {S : St} {v : V} {n : Nat} {bs : List UInt8} (h : SlAt S 1 v n (bytesV bs)) : BytesAt S v bs := by
  have hl := h.2.1
  rw [bytesV_length, Nat.mul_one] at hl
  subst hl; exact h
theorem SlAt.ints {S : St} {v : V} {n : Nat} {l : List Int} (h : SlAt S 1 v n (intsV .i64 l)) : IntsAt S v l := by
  have hl := h.2.1
  rw [intsV_length, Nat.mul_one] at hl
  subst hl; exact h

theorem bytes_str {S : St} {v : V} {bs : List UInt8} (h : BytesAt S v bs) : convBSV S v = some (.str bs) := by
  rcases h.2.2 with ⟨rfl, h0⟩ | ⟨i, o, c, t, rfl, hc, hl⟩
  · have : bs = [] := List.length_eq_zero_iff.mp h0
    subst this; rfl
  · rw [Nat.mul_one] at hl
    simp only [convBSV, hl, bytesOf_bytesV, Option.map_some]

def rd (s : List UInt8) (bad : Bool) (n : Nat) : List UInt8 × Bool × List UInt8 :=
  if bad = true ∨ s.length < n then (s, true, List.replicate n 0) else (s.drop n, false, s.take n)
theorem rd_length (s bad n) : (rd s bad n).2.2.length = n := by
  unfold rd; split
  · simp
  · rename_i h; simp; omega
abbrev RdAt (S : St) (i : Nat) (s : List UInt8) (bad : Bool) : Prop := S.get i = some (.cells [.str s, .bool bad] true)

theorem num_take_succ {bs : List UInt8} {j : Nat} (h : j < bs.length) : num (bs.take (j + 1)) = num (bs.take j) + 256 ^ j * bs[j].toNat := by
  rw [List.take_add_one, num_append, List.getElem?_eq_getElem h, List.length_take, Nat.min_eq_left (by omega)]
  simp [num]
theorem num_take_lt (bs : List UInt8) (j : Nat) : num (bs.take j) < 256 ^ j := by
  refine Nat.lt_of_lt_of_le (num_lt _) (Nat.pow_le_pow_right (by omega) ?_)
  rw [List.length_take]; exact Nat.min_le_left _ _
theorem pow_le6 {j : Nat} (h : j ≤ 6) : 256 ^ j ≤ 281474976710656 := by
  have h1 : 256 ^ j ≤ 256 ^ 6 := Nat.pow_le_pow_right (by omega) h
  have h2 : (256 ^ 6 : Nat) = 281474976710656 := by decide
  omega
theorem shl_byte {x j : Nat} (hx : x < 256) (hj : j < 7) : IntKind.i64.wrap ((x : Int) * 2 ^ (min (Int.toNat ((8 * j : Nat) : Int)) (IntKind.bits .i64))) = ((256 ^ j * x : Nat) : Int) := by
  have h1 : min (Int.toNat ((8 * j : Nat) : Int)) (IntKind.bits .i64) = 8 * j := by
    have : IntKind.bits .i64 = 64 := rfl
    omega
  rw [h1]
  have h2 : (x : Int) * 2 ^ (8 * j) = ((256 ^ j * x : Nat) : Int) := by
    rw [Int.natCast_mul, Int.mul_comm, Int.pow_mul]; simp
  rw [h2]
  refine i64_nat ?_
  have := pow_le6 (j := j) (by omega)
  have h3 : 256 ^ j * x ≤ 256 ^ j * 255 := Nat.mul_le_mul_left _ (by omega)
  omega
theorem or_byte {a x j : Nat} (ha : a < 256 ^ j) (hx : x < 256) (hj : j < 7) : intBits .or .i64 a ((256 ^ j * x : Nat) : Int) = ((a + 256 ^ j * x : Nat) : Int) := by
  have h1 := pow_le6 (j := j) (by omega)
  have h3 : 256 ^ j * x ≤ 256 ^ j * 255 := Nat.mul_le_mul_left _ (by omega)
  rw [or_i64 (by omega) (by omega)]
  have e : 256 ^ j = 2 ^ (8 * j) := by rw [Nat.pow_mul]
  rw [e] at ha ⊢
  have := Nat.two_pow_add_eq_or_of_lt ha x
  rw [Nat.or_comm, ← this, Nat.add_comm]
theorem idx_str {s : List UInt8} {j : Nat} (h : j < s.length) : idxStrV (.str s) (.int .i64 (j : Int)) = some (.int .u8 (s[j].toNat : Nat)) := by
  simp only [idxStrV]
  rw [if_pos (by omega), Int.toNat_natCast, List.getElem?_eq_getElem h]; rfl

end Go.Th
end

section
/- Calls of plain results, their store kept. -/
set_option linter.unusedVariables false
namespace Go.Th
open Go

theorem CallA.gc1 {P : Program} {f : FuncId} {args : List V} {S : St} {t : Ty} (ht : t.flat = true) {K : t.den → St → Prop} (x : t.den) (hK : K x S)
    (h : ∀ K' : t.den → St → Prop, S.ro.Wf → (∀ S', K' x S') → CallA P f args S.ro (retT [.one t] K')) : CallA P f args S (retT [.one t] K) := by
  refine CallA.gcT (ds := [.one t]) (by simp [flats, DT.tys, ht]) (CallA.wfT fun hw => ?_)
  exact h (fun x _ => K x S) hw fun _ => hK

theorem CallA.gc2 {P : Program} {f : FuncId} {args : List V} {S : St} {t u : Ty} (ht : t.flat = true) (hu : u.flat = true) {K : t.den → u.den → St → Prop} (x : t.den) (y : u.den) (hK : K x y S)
    (h : ∀ K' : t.den → u.den → St → Prop, S.ro.Wf → (∀ S', K' x y S') → CallA P f args S.ro (retT [.one t, .one u] K')) : CallA P f args S (retT [.one t, .one u] K) := by
  refine CallA.gcT (ds := [.one t, .one u]) (by simp [flats, DT.tys, ht, hu]) (CallA.wfT fun hw => ?_)
  exact h (fun x y _ => K x y S) hw fun _ => hK

theorem Same.of_grow {S S' : St} (g : Grow S S') {R : List Nat} (h : ∀ i ∈ R, i < S.next) : Same R S S' := fun i hi => g.keep i (h i hi) (by simp)
theorem Same.refl (R : List Nat) (S : St) : Same R S S := fun _ _ => rfl

end Go.Th
end

section
/- Readings of arguments: rows. -/
set_option linter.unusedVariables false
set_option linter.unusedSimpArgs false
namespace Go.Th
open Go

theorem retT_true {r : Res} {S : St} (h : retT [.one .bool] (fun b _ => b = true) r S) : r = .ret (.bool true) := by
  obtain ⟨b, h1, rfl⟩ := h
  exact h1

end Go.Th
end

section
/- What stays; what is lent: more. -/
set_option linter.unusedSimpArgs false
set_option linter.unusedVariables false
namespace Go.Th
open Go

theorem same_upd {R D : List Nat} {S S' : St} (g : Upd D S S') (h : ∀ i ∈ R, i < S.next ∧ i ∉ D) : Same R S S' := fun i hi => g.keep i (h i hi).1 (h i hi).2
theorem sameK_mk {R : List Nat} {S S' : St} {k : Prop} (h : Same R S S') (hk : k) : sameK R S S' k := by
  cases R with
  | nil => exact hk
  | cons i R => exact ⟨h, hk⟩
end Go.Th
end
