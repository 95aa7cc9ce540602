/- What the row of one statement stands on: a store, abstract code, functions of the program and their laws (ThHkeep). -/
import Derived.Test.YtcdbfhamhcaclaaThBQ10
import Derived.Test.YtcdbfhamhcaclaaThBGslicesStr

section
/- keep: lists of numbers and rows lent, given back, compared. -/
set_option linter.unusedSimpArgs false
set_option linter.unusedVariables false
namespace Go.Th.L
open Go Go.Th
variable {P : Program} {N : Nat → Nat}

theorem wrap_succ {j : Nat} (h : j < 4611686018427387905) : IntKind.i64.wrap ((j : Int) + 1) = ((j + 1 : Nat) : Int) := wrap_nat h

def keep_Bytes.Spec (P : Program) (N : Nat → Nat) : Prop := ∀ (x y : V) (a b : List UInt8) (S : St) (K : Bool → St → Prop), BytesAt S x a → BytesAt S y b → K (decide (a = b)) S → CallA P (N Fn.keep_Bytes) [x, y] S (retT [.one .bool] K)

theorem keep_Bytes.spec (hF : keep_Bytes.Ok P N) : keep_Bytes.Spec P N := by
  intro x y a b S K hx hy h
  have hle := hx.le
  refine keep_Bytes.run hF ⟨_, hx.len, _, hy.len, ifC_ndec (fun hne => ?_) (fun heq => ?_)⟩
  · have e : a ≠ b := fun e => hne (by rw [e])
    rwa [decide_eq_false e] at h
  · refine Loop1.ind (fun n x S' => S' = S ∧ ∃ j : Nat, x = j ∧ j + n = a.length ∧ a.take j = b.take j) a.length ⟨rfl, 0, rfl, by omega, by simp⟩ ?_
    rintro n _ _ ⟨rfl, j, rfl, hj, hab⟩
    refine ⟨_, hx.len, ifC_dec (fun hlt => ?_) (fun hge => ?_)⟩
    · have hja : j < a.length := by omega
      have hjb : j < b.length := by omega
      refine ifS_mk (hx.idx hja) ⟨_, BytesAt.get hx hja, ifS_mk (hy.idx hjb) ⟨_, BytesAt.get hy hjb, ifC_ndec (fun hne => ?_) (fun heq => ?_)⟩⟩
      · rwa [decide_eq_false (ne_of_get hja hjb fun e => hne (by rw [e]))] at h
      · exact setI_mk (wrap_succ (by omega)) ⟨n - 1, by omega, rfl, j + 1, rfl, by omega, take_succ_eq hab hja hjb (UInt8.toNat_inj.mp (by omega))⟩
    · have : a = b := by
        rw [List.take_of_length_le (by omega), List.take_of_length_le (by omega)] at hab
        exact hab
      rwa [decide_eq_true this] at h

abbrev LentI (S : St) (B : Nat) (x : V) (l : List Int) : Prop := Lent S B 1 x l.length 1 (intsV .i64 l) (intsV .i64 [-77])

structure LentR (S : St) (B : Nat) (x : V) (rs : List Row) (ws : List V) : Prop where
  len : ws.length = rs.length
  list : Lent S B 2 x rs.length 1 (rowsC rs ws).flatten [.int .i64 (-77), .nilSlice]
  vecs : ∀ j (hw : j < ws.length) (hr : j < rs.length), LentI S B ws[j] rs[j].2
  apart : ∀ j (hw : j < ws.length), ∀ i ∈ (ws[j]).block, i ∉ x.block
  apart2 : ∀ j k (hj : j < ws.length) (hk : k < ws.length), j < k → ∀ i ∈ (ws[j]).block, i ∉ (ws[k]).block

def lentD (x : V) (ws : List V) : List Nat := x.block ++ ws.flatMap V.block

theorem LentR.rows {S : St} {B : Nat} {x : V} {rs : List Row} {ws : List V} (h : LentR S B x rs ws) : RowsAt' S x rs ws :=
  ⟨h.len, ⟨by have := h.list.sl; rwa [← rowsC_length h.len] at this, rowsC_two⟩, fun j hr hw => (h.vecs j hw hr).sl⟩

theorem LentR.upd {D : List Nat} {S S' : St} {B : Nat} {x : V} {rs : List Row} {ws : List V} (h : LentR S B x rs ws) (g : Upd D S S') (hD : ∀ i ∈ lentD x ws, i ∉ D) : LentR S' B x rs ws :=
  ⟨h.len, h.list.upd g (fun i hi => hD i (List.mem_append_left _ hi)), fun j hw hr => (h.vecs j hw hr).upd g (fun i hi => hD i (List.mem_append_right _ (List.mem_flatMap.mpr ⟨_, List.getElem_mem hw, hi⟩))), h.apart, h.apart2⟩
theorem LentR.grow {S S' : St} {B : Nat} {x : V} {rs : List Row} {ws : List V} (h : LentR S B x rs ws) (g : Grow S S') : LentR S' B x rs ws := h.upd g (by simp)
theorem LentR.range {S : St} (hw : S.Wf) {B : Nat} {x : V} {rs : List Row} {ws : List V} (h : LentR S B x rs ws) : ∀ i ∈ lentD x ws, B ≤ i ∧ i < S.next := by
  intro i hi
  rcases List.mem_append.mp hi with hi | hi
  · exact ⟨h.list.from i hi, h.list.lt hw i hi⟩
  · obtain ⟨w, hw', hi⟩ := List.mem_flatMap.mp hi
    obtain ⟨j, hj, rfl⟩ := List.getElem_of_mem hw'
    have := h.vecs j hj (by rw [← h.len]; exact hj)
    exact ⟨this.from i hi, this.lt hw i hi⟩

theorem over_row {es : List (List V)} (h : ∀ e ∈ es, e.length = 2) {j : Nat} (hj : j < es.length) (e : List V) (he : e.length = 2) : over es.flatten (j * 2) e = (es.set j e).flatten := by
  rw [over_at (by rw [flatten_len h, he]; have : (j + 1) * 2 ≤ es.length * 2 := Nat.mul_le_mul_right _ hj; omega), he]
  induction es generalizing j with
  | nil => simp at hj
  | cons a es ih =>
    have ha := h a (by simp)
    cases j with
    | zero => simp [ha]
    | succ j =>
      have := ih (fun e he => h e (by simp [he])) (j := j) (by simpa using hj)
      simp only [List.flatten_cons, List.set_cons_succ, ← this]
      rw [Nat.add_mul, Nat.one_mul, Nat.add_comm (j * 2) 2, List.take_append, List.drop_append, List.take_of_length_le (by omega), List.drop_of_length_le (by omega), ha]
      simp only [List.nil_append, List.append_assoc]
      congr 3
      omega

end Go.Th.L
end
