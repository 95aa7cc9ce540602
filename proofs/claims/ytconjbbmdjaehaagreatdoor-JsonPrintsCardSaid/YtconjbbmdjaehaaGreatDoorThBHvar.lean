/- What the row of one statement stands on: a store, abstract code, functions of the program and their laws (ThQ4, ThQ5, ThQ6, ThQ7, ThQ8, ThQ9, ThQ10, ThHvar). -/
import Derived.Test.YtconjbbmdjaehaaGreatDoorThBQ12

section
/- Readings of arguments: bytes, numbers. -/
set_option linter.unusedSimpArgs false
set_option linter.unusedVariables false
namespace Go.Th
open Go

def intsV (k : IntKind) (l : List Int) : List V := l.map (V.int k)
end Go.Th
end

section
/- Memory: blocks read and written; slices of numbers, of rows; what is lent. -/
set_option linter.unusedSimpArgs false
set_option linter.unusedVariables false
namespace Go.Th
open Go

theorem ld {S : St} {i o : Nat} {cs : List V} {own : Bool} {v : V} (h : S.get i = some (.cells cs own)) (hc : cs[o]? = some v) : loadV S (.ptr i o) = some v := by
  simp only [loadV, St.load1, h, hc]
theorem ldN {S : St} {i o n : Nat} {cs ds : List V} {own : Bool} (h : S.get i = some (.cells cs own)) (hl : o + n ≤ cs.length) (hd : (cs.drop o).take n = ds) : loadNV S n (.ptr i o) = some (.agg ds) := by
  simp only [loadNV, St.loads_of h hl, hd, Option.map_some]
theorem ldC {S : St} {i o n : Nat} {cs ds : List V} {own : Bool} (h : S.get i = some (.cells cs own)) (hl : o + n ≤ cs.length) (hd : (cs.drop o).take n = ds) : cellNV S n (.ptr i o) = some (.agg ds) := by
  simp only [cellNV, St.loads_of h hl, hd, Option.map_some]
theorem ldC1 {S : St} {i o : Nat} {cs : List V} {own : Bool} {v : V} (h : S.get i = some (.cells cs own)) (hc : cs[o]? = some v) : cell1V S (.ptr i o) = some v := by
  simp only [cell1V, St.load1, h, hc]

theorem newS_mk {S : St} (hw : S.Wf) {b : Blk} {k : St → Prop} (h : ∀ S', Grow S S' → S'.get S.next = some b → S'.next = S.next + 1 → k S') : newS S b k := by
  rintro S' rfl
  exact h _ ((Upd.refl hw []).new b) (by simp) rfl

theorem st_mk {S : St} (hw : S.Wf) {i o n : Nat} {cs : List V} {v : V} {k : St → Prop} (h : S.get i = some (.cells cs true)) (hn : v.cells.length = n) (hf : o + v.cells.length ≤ cs.length) (ho : v.cells.all V.one = true)
    (hk : ∀ S', Upd [i] S S' → S'.get i = some (.cells (over cs o v.cells) true) → S'.next = S.next → k S') : ifS (storeV S n (.ptr i o) v) k := by
  have e : storeV S n (.ptr i o) v = some (S.put i (some (.cells (over cs o v.cells) true))) := by
    simp only [storeV, hn, if_true, St.stores, h]
    rw [if_pos (by simp only [Bool.and_eq_true, decide_eq_true_eq]; exact ⟨by rw [← hn]; exact hf, ho⟩)]
  refine ifS_mk e (hk _ ((Upd.refl hw [i]).put (hw.lt h) (.inr (by simp)) _) (by simp) rfl)

abbrev IntsAt (S : St) (v : V) (l : List Int) : Prop := SlAt S 1 v l.length (intsV .i64 l)
theorem SlAt.cells1 {S : St} {k : Nat} {v : V} {n : Nat} {cs : List V} (h : SlAt S k v n cs) : V.cells v = [v] := by
  rcases h.2.2 with ⟨rfl, _⟩ | ⟨i, o, c, t, rfl, _⟩ <;> rfl
theorem SlAt.one1 {S : St} {k : Nat} {v : V} {n : Nat} {cs : List V} (h : SlAt S k v n cs) : v.one = true := by
  rcases h.2.2 with ⟨rfl, _⟩ | ⟨i, o, c, t, rfl, _⟩ <;> rfl
theorem SlAt.block_lt {S : St} (hw : S.Wf) {k : Nat} {v : V} {n : Nat} {cs : List V} (h : SlAt S k v n cs) (hn : 0 < n * k) : ∀ i ∈ v.block, i < S.next := by
  rcases h.2.2 with ⟨rfl, h0⟩ | ⟨i, o, c, t, rfl, _, hl⟩
  · simp [V.block]
  · obtain ⟨vs, own, hg, _⟩ := St.loads_pos hl hn
    simp only [V.block, List.mem_singleton]; rintro j rfl
    exact hw.lt hg

def SlE (S : St) (k : Nat) (v : V) (es : List (List V)) : Prop := SlAt S k v es.length es.flatten ∧ ∀ e ∈ es, e.length = k

theorem flatten_len {α : Type} {k : Nat} : ∀ {es : List (List α)} (_ : ∀ e ∈ es, e.length = k), es.flatten.length = es.length * k
  | [], _ => by simp
  | e :: es, h => by
    simp only [List.flatten_cons, List.length_append, h e (by simp), flatten_len (es := es) (fun e he => h e (by simp [he])), List.length_cons, Nat.add_mul, Nat.one_mul]
    omega

theorem flatten_elt {α : Type} {k : Nat} : ∀ {es : List (List α)} (_ : ∀ e ∈ es, e.length = k) {j : Nat} (hj : j < es.length), (es.flatten.drop (j * k)).take k = es[j]
  | [], _, j, hj => by simp at hj
  | e :: es, h, 0, hj => by
    have he := h e (by simp)
    simp only [List.flatten_cons, Nat.zero_mul, List.drop_zero, List.getElem_cons_zero]
    rw [List.take_left' he]
  | e :: es, h, j + 1, hj => by
    have he := h e (by simp)
    simp only [List.flatten_cons, List.getElem_cons_succ]
    rw [Nat.add_mul, Nat.one_mul, Nat.add_comm, ← List.drop_drop, List.drop_left' he]
    exact flatten_elt (es := es) (fun e he => h e (by simp [he])) (by simpa using hj)

section
variable {S : St} {k : Nat} {v : V} {es : List (List V)} (h : SlE S k v es)
include h
theorem SlE.len : lenV S 2 v = some (.int .i64 es.length) := h.1.len
theorem SlE.idx {j : Nat} (hj : j < es.length) : idxAddrV k v (.int .i64 (j : Int)) = some (eltV k v j 0) := h.1.idx hj
theorem SlE.getN {j : Nat} (hj : j < es.length) (hk : 0 < k) : loadNV S k (eltV k v j 0) = some (.agg es[j]) := by
  rw [h.1.loadN hj hk, flatten_elt h.2 hj]
end
theorem SlE.upd {D : List Nat} {S S' : St} {k : Nat} {v : V} {es : List (List V)} (h : SlE S k v es) (g : Upd D S S') (hD : ∀ i ∈ v.block, i ∉ D) : SlE S' k v es := ⟨h.1.upd g hD, h.2⟩

abbrev Row := Int × List Int
def rowC (r : Row) (w : V) : List V := [.int .i64 r.1, w]
def rowsC : List Row → List V → List (List V)
  | r :: rs, w :: ws => rowC r w :: rowsC rs ws
  | _, _ => []
structure RowsAt' (S : St) (v : V) (rs : List Row) (ws : List V) : Prop where
  len : ws.length = rs.length
  sl : SlE S 2 v (rowsC rs ws)
  ints : ∀ j (hr : j < rs.length) (hw : j < ws.length), IntsAt S ws[j] rs[j].2
section
variable {S : St} {v : V} {rs : List Row} {ws : List V} (h : RowsAt' S v rs ws)
include h
end
abbrev BytesAt (S : St) (v : V) (l : List UInt8) : Prop := SlAt S 1 v l.length (bytesV l)
end Go.Th
end

section
/- Calls that leave the store; maps of numbers. -/
set_option linter.unusedSimpArgs false
set_option linter.unusedVariables false
namespace Go.Th
open Go

end Go.Th
end

section
/- Lists that a call builds: bytes, numbers, rows. Reading a text. -/
set_option linter.unusedSimpArgs false
set_option linter.unusedVariables false
namespace Go.Th
open Go

structure Built (S0 S : St) (k : Nat) (v : V) (es : List (List V)) : Prop where
  grow : Grow S0 S
  acc : Acc S S0.next k v es.length es.flatten
  each : ∀ e ∈ es, e.length = k

theorem SlAt.bytes {S : St} {v : V} {n : Nat} {bs : List UInt8} (h : SlAt S 1 v n (bytesV bs)) : BytesAt S v bs := by
  have hl := h.2.1
  rw [bytesV_length, Nat.mul_one] at hl
  subst hl; exact h
theorem bytes_str {S : St} {v : V} {bs : List UInt8} (h : BytesAt S v bs) : convBSV S v = some (.str bs) := by
  rcases h.2.2 with ⟨rfl, h0⟩ | ⟨i, o, c, t, rfl, hc, hl⟩
  · have : bs = [] := List.length_eq_zero_iff.mp h0
    subst this; rfl
  · rw [Nat.mul_one] at hl
    simp only [convBSV, hl, bytesOf_bytesV, Option.map_some]

def rd (s : List UInt8) (bad : Bool) (n : Nat) : List UInt8 × Bool × List UInt8 :=
  if bad = true ∨ s.length < n then (s, true, List.replicate n 0) else (s.drop n, false, s.take n)
theorem idx_str {s : List UInt8} {j : Nat} (h : j < s.length) : idxStrV (.str s) (.int .i64 (j : Int)) = some (.int .u8 (s[j].toNat : Nat)) := by
  simp only [idxStrV]
  rw [if_pos (by omega), Int.toNat_natCast, List.getElem?_eq_getElem h]; rfl

end Go.Th
end

section
/- Calls of plain results, their store kept. -/
set_option linter.unusedVariables false
namespace Go.Th
open Go

theorem Same.of_grow {S S' : St} (g : Grow S S') {R : List Nat} (h : ∀ i ∈ R, i < S.next) : Same R S S' := fun i hi => g.keep i (h i hi) (by simp)
end Go.Th
end

section
/- Readings of arguments: rows. -/
set_option linter.unusedVariables false
set_option linter.unusedSimpArgs false
namespace Go.Th
open Go

theorem retT_true {r : Res} {S : St} (h : retT [.one .bool] (fun b _ => b = true) r S) : r = .ret (.bool true) := by
  obtain ⟨b, h1, rfl⟩ := h
  exact h1

end Go.Th
end

section
/- What stays; what is lent: more. -/
set_option linter.unusedSimpArgs false
set_option linter.unusedVariables false
namespace Go.Th
open Go

theorem sameK_mk {R : List Nat} {S S' : St} {k : Prop} (h : Same R S S') (hk : k) : sameK R S S' k := by
  cases R with
  | nil => exact hk
  | cons i R => exact ⟨h, hk⟩
end Go.Th
end

section
/- Package variables that hold an error. -/
set_option linter.unusedSimpArgs false
set_option linter.unusedVariables false
namespace Go.Th.L
open Go Go.Th

def GV (gs : List Nat) (S : St) : Prop := ∀ g ∈ gs, ∃ t, S.get g = some (.glob g [.iface t .junk])
theorem GV.upd {gs D : List Nat} {S S' : St} (h : GV gs S) (u : Upd D S S') (hD : ∀ i ∈ D, (∃ cs, S.get i = some (.cells cs true)) ∨ S.next ≤ i) : GV gs S' := fun g hg => by
  obtain ⟨t, ht⟩ := h g hg
  refine ⟨t, u.get ht fun hi => ?_⟩
  rcases hD g hi with ⟨cs, h1⟩ | h1
  · rw [ht] at h1; cases h1
  · have := u.wf0.lt ht; omega
end Go.Th.L
end
