/- What the row of one statement stands on: a store, abstract code, functions of the program and their laws (ThQ6). -/
import Derived.Test.YtdpehfhhbmmhjaaThBTopkOrder27

section
/- Calls that leave the store; maps of numbers. -/
set_option linter.unusedSimpArgs false
set_option linter.unusedVariables false
namespace Go.Th
open Go

/-! ## calls that leave the store -/
def Ty.flat : Ty → Bool
  | .any => false
  | _ => true
def atS : (ts : List Ty) → Cur ts → St → Cur ts
  | [], K, S => fun _ => K S
  | t :: ts, K, S => fun x => atS ts (K x) S

theorem V.plains_append : ∀ (a b : List V), V.plains (a ++ b) = (V.plains a && V.plains b)
  | [], b => by simp [V.plains]
  | v :: a, b => by simp only [List.cons_append, V.plains, V.plains_append a b, Bool.and_assoc]
theorem V.plains_take : ∀ (a : List V) (n : Nat), V.plains a = true → V.plains (a.take n) = true
  | [], n, _ => by simp [V.plains]
  | v :: a, 0, _ => by simp [V.plains]
  | v :: a, n + 1, h => by
    simp only [V.plains, Bool.and_eq_true] at h
    simp only [List.take_succ_cons, V.plains, h.1, V.plains_take a n h.2, Bool.and_self]
theorem V.plains_drop : ∀ (a : List V) (n : Nat), V.plains a = true → V.plains (a.drop n) = true
  | [], n, _ => by simp [V.plains]
  | v :: a, 0, h => h
  | v :: a, n + 1, h => by
    simp only [V.plains, Bool.and_eq_true] at h
    simpa using V.plains_drop a n h.2

theorem group_plain : ∀ (ds : List DT) (vs : List V), V.plains vs = true → V.plains (group ds vs) = true
  | [], _, _ => rfl
  | .one _ :: ds, [], _ => rfl
  | .one _ :: ds, v :: vs, h => by
    simp only [V.plains, Bool.and_eq_true] at h
    simp only [group, V.plains, h.1, group_plain ds vs h.2, Bool.and_self]
  | .agg ts :: ds, vs, h => by
    simp only [group, V.plains, V.plain, V.plains_take _ _ h, group_plain ds _ (V.plains_drop _ _ h), Bool.and_self]

theorem tupled_plain {vs : List V} (h : V.plains vs = true) : (tupled vs).plain = true := by
  match vs with
  | [] => rfl
  | [v] => simpa [tupled, V.plains] using h
  | a :: b :: vs => exact h

theorem toV_plain {t : Ty} (ht : t.flat = true) (x : t.den) : (t.toV x).plain = true := by
  cases t with
  | any => cases ht
  | bool => rfl
  | int k => rfl
  | str => rfl

theorem Ret_gc : ∀ {ts : List Ty} {mk : List V → V} {K : Cur ts} {S S' : St} {r : Res} (_ : ts.all Ty.flat = true) (_ : ∀ vs, V.plains vs = true → (mk vs).plain = true), Ret ts mk (atS ts K S) r S' → r.plain = true ∧ Ret ts mk K r S
  | [], mk, K, S, S', r, _, hm, h => by
    obtain ⟨rfl, h2⟩ := h
    exact ⟨hm [] rfl, rfl, h2⟩
  | t :: ts, mk, K, S, S', r, ht, hm, h => by
    simp only [List.all_cons, Bool.and_eq_true] at ht
    obtain ⟨x, h⟩ := h
    have := Ret_gc (ts := ts) (K := K x) ht.2 (fun vs hv => hm (t.toV x :: vs) (by simp only [V.plains, toV_plain ht.1 x, hv, Bool.and_self])) h
    exact ⟨this.1, x, this.2⟩

/-- What only looks, and tells no place: the store stays. -/
theorem CallA.gcT {P : Program} {f : FuncId} {args : List V} {S : St} {ds : List DT} {K : Cur (flats ds)} (hp : (flats ds).all Ty.flat = true) (h : CallA P f args S.ro (retT ds (atS (flats ds) K S))) : CallA P f args S (retT ds K) :=
  CallA.gc (h.mono fun r S' hr => Ret_gc hp (fun vs hv => tupled_plain (group_plain ds vs hv)) hr)

/-- What needs no store at all. -/
theorem CallA.closedT {P : Program} {f : FuncId} {args : List V} {S : St} {ds : List DT} {K : Cur (flats ds)} (ha : V.plains args = true) (hp : (flats ds).all Ty.flat = true) (h : CallA P f args St.empty (retT ds (atS (flats ds) K S))) : CallA P f args S (retT ds K) :=
  CallA.closed ha (h.mono fun r S' hr => Ret_gc hp (fun vs hv => tupled_plain (group_plain ds vs hv)) hr)

theorem St.Wf.ro {S : St} (h : S.Wf) : S.ro.Wf := fun i hi => by
  rw [St.get_ro, h i hi]; rfl
theorem St.Wf.empty : St.empty.Wf := fun i _ => rfl

theorem CallA.wfT {P : Program} {f : FuncId} {args : List V} {S : St} {Q : Post} (h : S.Wf → CallA P f args S Q) : CallA P f args S Q :=
  CallA.wf fun hw => (h hw).mono fun _ _ hq _ => hq

theorem IntsAt.ro {S : St} {v : V} {l : List Int} (h : IntsAt S v l) : IntsAt S.ro v l := SlAt.ro h
theorem RowsAt'.ro {S : St} {v : V} {rs : List Row} {ws : List V} (h : RowsAt' S v rs ws) : RowsAt' S.ro v rs ws :=
  ⟨h.len, ⟨SlAt.ro h.sl.1, h.sl.2⟩, fun j hr hw => SlAt.ro (h.ints j hr hw)⟩
theorem RowsAt.ro {S : St} {v : V} {rs : List Row} (h : RowsAt S v rs) : RowsAt S.ro v rs := let ⟨ws, h⟩ := h; ⟨ws, h.ro⟩

/-! ## maps whose keys are numbers -/
def entI (es : List (Int × V)) : List (V × V) := es.map fun e => (.int .i64 e.1, e.2)
theorem findV_int (k : Int) : ∀ (es : List (Int × V)) (i : Nat), findV (.int .i64 k) (entI es) i = some ((es.findIdx? fun e => decide (k = e.1)).map fun j => (i + j, (es.getD j (0, .nilPtr)).2))
  | [], i => rfl
  | e :: es, i => by
    have ih := findV_int k es (i + 1)
    simp only [entI, List.map_cons] at ih ⊢
    simp only [findV, sameV, List.findIdx?_cons]
    by_cases h : k = e.1
    · simp [h]
    · simp only [h, decide_false, Bool.false_eq_true, if_false]
      rw [ih]
      cases List.findIdx? (fun e => decide (k = e.1)) es with
      | none => rfl
      | some j => simp; omega

def MapAt (S : St) (i : Nat) (es : List (Int × V)) : Prop := S.get i = some (.map (entI es) true)

theorem lookup_int {S : St} {i : Nat} {es : List (Int × V)} (h : MapAt S i es) (z : V) (k : Int) : lookupV S 1 z false (.map i) (.int .i64 k) = some (match es.find? fun e => decide (k = e.1) with
    | some e => e.2
    | none => z) := by
  unfold MapAt at h
  have hf : keyFit 1 (.int .i64 k) = true := by unfold keyFit; rfl
  simp only [lookupV, rLookup, AX.ev, hf, if_true, h, findV_int]
  cases hi : es.findIdx? (fun e => decide (k = e.1)) with
  | none =>
    have : es.find? (fun e => decide (k = e.1)) = none := by
      rw [List.findIdx?_eq_none_iff] at hi
      rw [List.find?_eq_none]
      intro e he; simpa using hi e he
    simp [this, lookOut]
  | some j =>
    have hj := List.findIdx?_eq_some_iff_getElem.mp hi
    obtain ⟨hlt, hp, hbefore⟩ := hj
    have : es.find? (fun e => decide (k = e.1)) = some es[j] := by
      rw [List.find?_eq_some_iff_getElem]
      exact ⟨hp, j, hlt, rfl, fun q hq => by simpa using hbefore q hq⟩
    simp [this, lookOut, hlt]

theorem mapUpd_new {S : St} (hw : S.Wf) {i : Nat} {es : List (Int × V)} (h : MapAt S i es) {k : Int} (v : V) (hk : ∀ e ∈ es, e.1 ≠ k) : ∃ S', mapUpdV S 1 (.map i) (.int .i64 k) v = some S' ∧ MapAt S' i (es ++ [(k, v)]) ∧ Upd [i] S S' ∧ S'.next = S.next := by
  unfold MapAt at h
  have hf : keyFit 1 (.int .i64 k) = true := by unfold keyFit; rfl
  have hn : es.findIdx? (fun e => decide (k = e.1)) = none := by
    rw [List.findIdx?_eq_none_iff]
    intro e he; simpa using fun e' => hk e he e'.symm
  refine ⟨S.put i (some (.map (entI es ++ [(.int .i64 k, v)]) true)), ?_, ?_, (Upd.refl hw [i]).put (hw.lt h) (.inr (by simp)) _, rfl⟩
  · simp only [mapUpdV, rMapUpd, AX.ev, hf, if_true, h, findV_int, hn, Option.map_none]
  · unfold MapAt; simp [entI]

theorem mapUpd_old {S : St} (hw : S.Wf) {i : Nat} {es : List (Int × V)} (h : MapAt S i es) {k : Int} (v : V) {j : Nat} (hj : es.findIdx? (fun e => decide (k = e.1)) = some j) : ∃ S', mapUpdV S 1 (.map i) (.int .i64 k) v = some S' ∧ MapAt S' i (es.set j (k, v)) ∧ Upd [i] S S' ∧ S'.next = S.next := by
  unfold MapAt at h
  have hf : keyFit 1 (.int .i64 k) = true := by unfold keyFit; rfl
  refine ⟨S.put i (some (.map ((entI es).set j (.int .i64 k, v)) true)), ?_, ?_, (Upd.refl hw [i]).put (hw.lt h) (.inr (by simp)) _, rfl⟩
  · simp only [mapUpdV, rMapUpd, AX.ev, hf, if_true, h, findV_int, hj, Option.map_some, Nat.zero_add]
  · unfold MapAt; simp [entI, List.map_set]

theorem MapAt.upd {D : List Nat} {S S' : St} {i : Nat} {es : List (Int × V)} (h : MapAt S i es) (g : Upd D S S') (hD : i ∉ D) : MapAt S' i es := g.get h hD

end Go.Th
end
