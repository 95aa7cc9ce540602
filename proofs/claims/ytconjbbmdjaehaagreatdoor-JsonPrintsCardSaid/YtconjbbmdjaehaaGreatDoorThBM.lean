/- What the row of one statement stands on: a store, abstract code, functions of the program and their laws (ThM). -/
import Derived.Test.YtconjbbmdjaehaaGreatDoorThBR4

section
/- What grows of a store, and slices that a call builds for itself. -/
set_option linter.unusedSimpArgs false
set_option linter.unusedVariables false
namespace Go.Th
open Go.RowKit Go.Lib

def St.Wf (S : St) : Prop := ∀ i, S.next ≤ i → S.get i = none

theorem St.Wf.lt {S : St} (h : S.Wf) {i : Nat} {b : Blk} (hi : S.get i = some b) : i < S.next := by
  rcases Nat.lt_or_ge i S.next with h' | h'
  · exact h'
  · rw [h i h'] at hi; cases hi

theorem St.Wf.new {S : St} (h : S.Wf) (b : Blk) : (S.new b).Wf := by
  intro i hi
  simp only [St.next_new] at hi
  rw [St.get_new, if_neg (by omega)]
  exact h i (by omega)

theorem St.Wf.put {S : St} (h : S.Wf) {i : Nat} (hi : i < S.next) (b : Option Blk) : (S.put i b).Wf := by
  intro j hj
  simp only [St.next_put] at hj
  rw [St.get_put, if_neg (by omega)]
  exact h j hj

structure Upd (D : List Nat) (S S' : St) : Prop where
  wf0 : S.Wf
  wf : S'.Wf
  le : S.next ≤ S'.next
  keep : ∀ i, i < S.next → i ∉ D → S'.get i = S.get i

abbrev Grow (S S' : St) : Prop := Upd [] S S'

theorem Upd.refl {S : St} (h : S.Wf) (D : List Nat) : Upd D S S := ⟨h, h, Nat.le_refl _, fun _ _ _ => rfl⟩
theorem Upd.trans {D : List Nat} {S S' S2 : St} (h : Upd D S S') (k : Upd D S' S2) : Upd D S S2 :=
  ⟨h.wf0, k.wf, Nat.le_trans h.le k.le, fun i hi hD => by rw [k.keep i (Nat.lt_of_lt_of_le hi h.le) hD, h.keep i hi hD]⟩
theorem Upd.mono {D D' : List Nat} {S S' : St} (h : Upd D S S') (hs : ∀ i ∈ D, i ∈ D' ∨ S.next ≤ i) : Upd D' S S' :=
  ⟨h.wf0, h.wf, h.le, fun i hi hD => h.keep i hi fun hd => by rcases hs i hd with h' | h'; exact hD h'; omega⟩
theorem Upd.after {D D' : List Nat} {S S' S2 : St} (h : Upd D S S') (k : Upd D' S' S2) (hs : ∀ i ∈ D', S.next ≤ i ∨ i ∈ D) : Upd D S S2 :=
  ⟨h.wf0, k.wf, Nat.le_trans h.le k.le, fun i hi hD => by
    rw [k.keep i (Nat.lt_of_lt_of_le hi h.le) (fun hd => by rcases hs i hd with h' | h'; omega; exact hD h'), h.keep i hi hD]⟩
theorem Upd.new {D : List Nat} {S S' : St} (h : Upd D S S') (b : Blk) : Upd D S (S'.new b) :=
  ⟨h.wf0, h.wf.new b, by simp only [St.next_new]; have := h.le; omega, fun i hi hD => by
    rw [St.get_new, if_neg (by have := h.le; omega), h.keep i hi hD]⟩
theorem Upd.put {D : List Nat} {S S' : St} (h : Upd D S S') {i : Nat} (hi : i < S'.next) (hD : S.next ≤ i ∨ i ∈ D) (b : Option Blk) : Upd D S (S'.put i b) :=
  ⟨h.wf0, h.wf.put hi b, h.le, fun j hj hDj => by
    rw [St.get_put, if_neg (by rintro rfl; rcases hD with h' | h'; omega; exact hDj h'), h.keep j hj hDj]⟩
theorem Upd.get {D : List Nat} {S S' : St} (h : Upd D S S') {i : Nat} {b : Blk} (hi : S.get i = some b) (hD : i ∉ D) : S'.get i = some b := by
  rw [h.keep i (h.wf0.lt hi) hD]; exact hi
theorem Grow.get {S S' : St} (h : Grow S S') {i : Nat} {b : Blk} (hi : S.get i = some b) : S'.get i = some b := Upd.get h hi (by simp)

theorem SlAt.upd {D : List Nat} {S S' : St} {k : Nat} {v : V} {n : Nat} {cs : List V} (h : SlAt S k v n cs) (g : Upd D S S') (hD : ∀ i ∈ v.block, i ∉ D) : SlAt S' k v n cs := by
  obtain ⟨h1, h2, h3⟩ := h
  refine ⟨h1, h2, ?_⟩
  rcases h3 with h | ⟨i, o, c, t, rfl, hc, hl⟩
  · exact .inl h
  · refine .inr ⟨i, o, c, t, rfl, hc, ?_⟩
    by_cases hz : n * k = 0
    · rw [hz] at hl ⊢
      rw [St.loads_zero hl]; simp [St.loads]
    · obtain ⟨vs, own, hg, h4, rfl⟩ := St.loads_pos hl (by omega)
      exact St.loads_of (g.get hg (hD i (by simp [V.block]))) h4
theorem SlAt.src {S : St} {k : Nat} {v : V} {n : Nat} {cs : List V} (h : SlAt S k v n cs) : srcV k S v = some (n, cs) := by
  obtain ⟨h1, h2, h3⟩ := h
  rcases h3 with ⟨rfl, rfl⟩ | ⟨i, o, c, t, rfl, hc, hl⟩
  · have : cs = [] := List.length_eq_zero_iff.mp (by simpa using h2)
    subst this; rfl
  · simp only [srcV, if_true, hl, Option.map_some]

theorem SlAt.loadN {S : St} {k : Nat} {v : V} {n : Nat} {cs : List V} (h : SlAt S k v n cs) {m : Nat} (hm : m < n) (hk : 0 < k) : loadNV S k (eltV k v m 0) = some (.agg ((cs.drop (m * k)).take k)) := by
  obtain ⟨h1, h2, h3⟩ := h
  rcases h3 with ⟨rfl, rfl⟩ | ⟨i, o, c, t, rfl, hc, hld⟩
  · omega
  · have hlt : m * k + k ≤ n * k := by
      have : (m + 1) * k ≤ n * k := Nat.mul_le_mul_right _ hm
      rw [Nat.succ_mul] at this; omega
    obtain ⟨vs, own, hg, hl, hcs⟩ := St.loads_pos hld (by omega)
    simp only [loadNV, eltV, Nat.add_zero]
    rw [St.loads_of hg (by omega), Option.map_some, hcs, List.drop_take, List.drop_drop, List.take_take, Nat.min_eq_left (by omega)]

def roomOk (S : St) (k : Nat) (v : V) : Prop :=
  match v with
  | .slice i o _ c _ _ => ∃ vs, S.get i = some (.cells vs true) ∧ o + c * k ≤ vs.length
  | _ => True

structure Acc (S : St) (B k : Nat) (v : V) (n : Nat) (cs : List V) : Prop where
  at_ : SlAt S k v n cs
  ones : cs.all V.one = true
  own : ∀ i ∈ v.block, B ≤ i ∧ ∃ vs, S.get i = some (.cells vs true)
  room : roomOk S k v

theorem Acc.nil (S : St) (B k : Nat) : Acc S B k .nilSlice 0 [] :=
  ⟨⟨by omega, by simp, .inl ⟨rfl, rfl⟩⟩, rfl, by simp [V.block], trivial⟩

theorem Acc.upd {D : List Nat} {S S' : St} {B k : Nat} {v : V} {n : Nat} {cs : List V} (h : Acc S B k v n cs) (g : Upd D S S') (hD : ∀ i ∈ v.block, i ∉ D) : Acc S' B k v n cs := by
  refine ⟨h.at_.upd g hD, h.ones, fun i hi => ?_, ?_⟩
  · obtain ⟨h1, vs, h2⟩ := h.own i hi
    exact ⟨h1, vs, g.get h2 (hD i hi)⟩
  · have hr := h.room
    cases v <;> try trivial
    rename_i i o l c k' t
    obtain ⟨vs, h1, h2⟩ := hr
    exact ⟨vs, g.get h1 (hD i (by simp [V.block])), h2⟩
theorem Acc.below {S : St} {B B' k : Nat} {v : V} {n : Nat} {cs : List V} (h : Acc S B k v n cs) (hb : B' ≤ B) : Acc S B' k v n cs :=
  ⟨h.at_, h.ones, fun i hi => ⟨Nat.le_trans hb (h.own i hi).1, (h.own i hi).2⟩, h.room⟩

theorem Acc.fresh {S : St} (hw : S.Wf) {B k : Nat} (hB : B ≤ S.next) {n : Nat} (hn : n ≤ 4611686018427387904) {cs : List V} (hl : cs.length = n * k) (ho : cs.all V.one = true) (t : Bool) : Acc (S.new (.cells cs true)) B k (.slice S.next 0 n n k t) n cs := by
  have hg : (S.new (.cells cs true)).get S.next = some (.cells cs true) := by simp
  refine ⟨⟨hn, hl, .inr ⟨S.next, 0, n, t, rfl, Nat.le_refl _, ?_⟩⟩, ho, ?_, ⟨cs, hg, by omega⟩⟩
  · rw [St.loads_of hg (by omega), List.drop_zero, ← hl, List.take_length]
  · simp only [V.block, List.mem_singleton]; rintro i rfl; exact ⟨hB, cs, hg⟩

theorem over_at {cs vs : List V} {o : Nat} (h : o + vs.length ≤ cs.length) : over cs o vs = cs.take o ++ vs ++ cs.drop (o + vs.length) := by
  apply List.ext_getElem?
  intro j
  rw [over_get _ _ _ _ h]
  by_cases h1 : j < o
  · rw [if_neg (by omega), List.append_assoc, List.getElem?_append_left (by simp; omega), List.getElem?_take, if_pos h1]
  · by_cases h2 : j < o + vs.length
    · rw [if_pos ⟨by omega, h2⟩, List.append_assoc, List.getElem?_append_right (by simp; omega), List.getElem?_append_left (by simp; omega)]
      congr 1; simp; omega
    · rw [if_neg (by omega), List.append_assoc, List.getElem?_append_right (by simp; omega), List.getElem?_append_right (by simp; omega), List.getElem?_drop]
      congr 1; simp; omega

theorem Acc.app {S : St} (hw : S.Wf) {B k : Nat} (hB : B ≤ S.next) {v y : V} {n m : Nat} {cs ds : List V} (h : Acc S B k v n cs) (hy : srcV k S y = some (m, ds)) (hd : ds.length = m * k) (ho : ds.all V.one = true) {bytes : Nat}
    (hb : (n + m) * bytes ≤ 140737488355328) (hn : n + m ≤ 4611686018427387904) :
    ∃ v' S', appV S k bytes v y = some (v', S') ∧ Acc S' B k v' (n + m) (cs ++ ds) ∧ Upd v.block S S' ∧ ∀ i ∈ v'.block, i ∈ v.block ∨ S.next ≤ i := by
  obtain ⟨⟨h1, h2, h3⟩, hone, hown, hroom⟩ := h
  have hlen : (cs ++ ds).length = (n + m) * k := by rw [List.length_append, h2, hd, Nat.add_mul]
  have hones : (cs ++ ds).all V.one = true := by rw [List.all_append, hone, ho]; rfl
  rcases h3 with ⟨rfl, rfl⟩ | ⟨i, o, c, t, rfl, hc, hld⟩
  · have hc0 : cs = [] := List.length_eq_zero_iff.mp (by simpa using h2)
    subst hc0
    by_cases hm : m = 0
    · subst hm
      have hd0 : ds = [] := List.length_eq_zero_iff.mp (by simpa using hd)
      subst hd0
      exact ⟨.nilSlice, S, by simp [appV, rApp, AX.ev, hy], Acc.nil S B k, Upd.refl hw _, by simp [V.block]⟩
    · refine ⟨.slice S.next 0 m m k false, S.new (.cells ds true), ?_, ?_, (Upd.refl hw _).new _, by simp [V.block]⟩
      · simp only [appV, rApp, AX.ev, hy, if_neg hm]
        rw [if_pos ⟨by simpa using hb, by simpa using hn⟩]
      · simpa using Acc.fresh hw hB (by omega) hd ho false
  · obtain ⟨hBi, vs, hg⟩ := hown i (by simp [V.block])
    obtain ⟨vs2, hg2, hr⟩ := hroom
    rw [hg] at hg2; cases hg2
    have hl : o + n * k ≤ vs.length := by
      have : n * k ≤ c * k := Nat.mul_le_mul_right _ hc
      omega
    have hcs : (vs.drop o).take (n * k) = cs := by
      rw [St.loads_of hg hl] at hld; exact Option.some.inj hld
    have hi := hw.lt hg
    by_cases hm : m = 0
    · subst hm
      have hd0 : ds = [] := List.length_eq_zero_iff.mp (by simpa using hd)
      subst hd0
      refine ⟨.slice i o n c k t, S, by simp [appV, rApp, AX.ev, hy], ?_, Upd.refl hw _, fun j hj => .inl hj⟩
      simp only [Nat.add_zero, List.append_nil]
      exact ⟨⟨h1, h2, .inr ⟨i, o, c, t, rfl, hc, hld⟩⟩, hone, hown, ⟨vs, hg, hr⟩⟩
    · by_cases hrm : n + m ≤ c
      · have hfit : o + n * k + ds.length ≤ vs.length := by
          have : (n + m) * k ≤ c * k := Nat.mul_le_mul_right _ hrm
          rw [Nat.add_mul] at this; omega
        refine ⟨.slice i o (n + m) c k t, S.put i (some (.cells (over vs (o + n * k) ds) true)), ?_, ?_, (Upd.refl hw _).put hi (.inr (by simp [V.block])) _, fun j hj => .inl (by simpa [V.block] using hj)⟩
        · simp only [appV, rApp, AX.ev, hy, if_neg hm, if_pos hrm, St.stores, hg, ne_eq, not_true_eq_false, if_false]
          rw [if_pos (by simp only [Bool.and_eq_true, decide_eq_true_eq]; exact ⟨hfit, ho⟩)]
        · have hgp : (S.put i (some (.cells (over vs (o + n * k) ds) true))).get i = some (.cells (over vs (o + n * k) ds) true) := by simp
          refine ⟨⟨hn, hlen, .inr ⟨i, o, c, t, rfl, hrm, ?_⟩⟩, hones, ?_, ⟨_, hgp, by rw [over_length]; exact hr⟩⟩
          · rw [St.loads_of hgp (by rw [over_length]; have : (n + m) * k ≤ c * k := Nat.mul_le_mul_right _ hrm; omega)]
            congr 1
            rw [over_at hfit, ← hcs]
            rw [List.append_assoc, List.drop_append, List.length_take, Nat.min_eq_left (by omega), List.drop_take, show o - (o + n * k) = 0 by omega, List.drop_zero, ← List.append_assoc, List.take_append_of_le_length, List.take_of_length_le]
            · congr 2; omega
            · simp only [List.length_append, List.length_take, List.length_drop]; rw [Nat.add_mul]; omega
            · simp only [List.length_append, List.length_take, List.length_drop]; rw [Nat.add_mul]; omega
          · simp only [V.block, List.mem_singleton]; rintro j rfl; exact ⟨hBi, _, hgp⟩
      · have hcell : ((vs.drop o).take (n * k) ++ ds).length = (n + m) * k := by rw [hcs]; exact hlen
        by_cases ht : t = true
        · subst ht
          refine ⟨.slice S.next 0 (n + m) (n + m) k false, S.new (.cells ((vs.drop o).take (n * k) ++ ds) true), ?_, ?_, (Upd.refl hw _).new _, fun j hj => .inr (by simp [V.block] at hj; omega)⟩
          · simp only [appV, rApp, AX.ev, hy, if_neg hm, if_neg hrm, hg, ne_eq, not_true_eq_false, if_false]
            rw [if_pos ⟨hb, hn⟩, if_pos (by omega)]
            rfl
          · have := Acc.fresh (S := S) (cs := (vs.drop o).take (n * k) ++ ds) hw hB hn hcell (by rw [hcs]; exact hones) false
            rw [hcs] at this ⊢
            exact this
        · have ht' : t = false := by simpa using ht
          subst ht'
          have hkill : (S.put i none).Wf := hw.put hi none
          refine ⟨.slice S.next 0 (n + m) (n + m) k false, (S.put i none).new (.cells ((vs.drop o).take (n * k) ++ ds) true), ?_, ?_, ((Upd.refl hw _).put hi (.inr (by simp [V.block])) _).new _, fun j hj => .inr (by simp [V.block] at hj; omega)⟩
          · simp only [appV, rApp, AX.ev, hy, if_neg hm, if_neg hrm, hg, ne_eq, not_true_eq_false, if_false]
            rw [if_pos ⟨hb, hn⟩, if_pos (by omega)]
            simp only [Bool.false_eq_true, if_false, ho, Bool.and_self, if_true]
          · have := Acc.fresh (S := S.put i none) (cs := (vs.drop o).take (n * k) ++ ds) hkill (B := B) (k := k) (by simpa using hB) hn hcell (by rw [hcs]; exact hones) false
            rw [hcs] at this ⊢
            exact this

theorem over_ones {cs xs : List V} {a : Nat} (hc : cs.all V.one = true) (hx : xs.all V.one = true) (h : a + xs.length ≤ cs.length) : (over cs a xs).all V.one = true := by
  rw [over_at h, List.all_append, List.all_append, hx]
  rw [List.all_eq_true] at hc
  simp only [Bool.and_true, Bool.and_eq_true, List.all_eq_true]
  exact ⟨fun v hv => hc v (List.mem_of_mem_take hv), fun v hv => hc v (List.mem_of_mem_drop hv)⟩

def V.start : V → Nat × Nat
  | .slice i o _ _ _ _ => (i, o)
  | _ => (0, 0)

theorem Acc.write {S : St} (hw : S.Wf) {B k : Nat} {v : V} {n : Nat} {cs : List V} (h : Acc S B k v n cs) {a : Nat} {xs : List V} (hx : xs.all V.one = true) (hl : a + xs.length ≤ n * k) (hp : 0 < xs.length) :
    ∃ S', S.stores v.start.1 (v.start.2 + a) xs = some S' ∧ Acc S' B k v n (over cs a xs) ∧ Upd v.block S S' := by
  obtain ⟨⟨h1, h2, h3⟩, hone, hown, hroom⟩ := h
  rcases h3 with ⟨rfl, rfl⟩ | ⟨i, o, c, t, rfl, hc, hld⟩
  · omega
  · obtain ⟨hBi, vs, hg⟩ := hown i (by simp [V.block])
    obtain ⟨vs2, hg2, hr⟩ := hroom
    rw [hg] at hg2; cases hg2
    have hi := hw.lt hg
    have hnc : n * k ≤ c * k := Nat.mul_le_mul_right _ hc
    have hlv : o + n * k ≤ vs.length := by omega
    have hcs : (vs.drop o).take (n * k) = cs := by
      rw [St.loads_of hg hlv] at hld; exact Option.some.inj hld
    have hfit : o + a + xs.length ≤ vs.length := by omega
    have hgp : (S.put i (some (.cells (over vs (o + a) xs) true))).get i = some (.cells (over vs (o + a) xs) true) := by simp
    refine ⟨S.put i (some (.cells (over vs (o + a) xs) true)), ?_, ⟨⟨h1, by rw [over_length]; exact h2, .inr ⟨i, o, c, t, rfl, hc, ?_⟩⟩, over_ones hone hx (by omega), ?_, ⟨_, hgp, by rw [over_length]; exact hr⟩⟩, (Upd.refl hw _).put hi (.inr (by simp [V.block])) _⟩
    · show S.stores i (o + a) xs = _
      simp only [St.stores, hg]
      rw [if_pos (by simp only [Bool.and_eq_true, decide_eq_true_eq]; exact ⟨hfit, hx⟩)]
    · rw [St.loads_of hgp (by rw [over_length]; exact hlv)]
      congr 1
      apply List.ext_getElem?
      intro j
      rw [over_get _ _ _ _ (by omega), List.getElem?_take, List.getElem?_drop, over_get _ _ _ _ hfit, ← hcs, List.getElem?_take, List.getElem?_drop]
      by_cases hj : j < n * k
      · rw [if_pos hj, if_pos hj]
        by_cases hj2 : a ≤ j ∧ j < a + xs.length
        · rw [if_pos hj2, if_pos (by omega)]
          congr 1; omega
        · rw [if_neg hj2, if_neg (by omega)]
      · rw [if_neg hj, if_neg hj, if_neg (by omega)]
    · simp only [V.block, List.mem_singleton]; rintro j rfl; exact ⟨hBi, _, hgp⟩

theorem Acc.put {S : St} (hw : S.Wf) {B k : Nat} {v : V} {n : Nat} {cs : List V} (h : Acc S B k v n cs) {m off : Nat} {x : V} (hm : m < n) (ho : off + x.cells.length ≤ k) (hx : x.cells.all V.one = true) (hp : 0 < x.cells.length) :
    ∃ S', storeV S x.cells.length (eltV k v m off) x = some S' ∧ Acc S' B k v n (over cs (m * k + off) x.cells) ∧ Upd v.block S S' := by
  have hmul : (m + 1) * k ≤ n * k := Nat.mul_le_mul_right _ hm
  rw [Nat.succ_mul] at hmul
  obtain ⟨S', h1, h2, h3⟩ := h.write hw (a := m * k + off) hx (by omega) hp
  refine ⟨S', ?_, h2, h3⟩
  rcases h.at_.2.2 with ⟨rfl, rfl⟩ | ⟨i, o, c, t, rfl, _⟩
  · omega
  · have h1 : S.stores i (o + (m * k + off)) x.cells = some S' := h1
    simp only [storeV, eltV, if_true]
    rw [← h1]; congr 1; omega

theorem bnds_l {len cap l : Nat} {k : IntKind} (h1 : l ≤ len) : bnds len cap (some (.int k l)) none none = some (l, len, cap) := by
  simp only [bnds, Option.isSome_none, Bool.false_eq_true, if_false]
  rw [if_pos ⟨by omega, by omega⟩]
  simp
theorem bnds_h {len cap h : Nat} {k : IntKind} (h2 : h ≤ cap) : bnds len cap none (some (.int k h)) none = some (0, h, cap) := by
  simp only [bnds]
  rw [if_pos ⟨by omega, by omega⟩]
  simp

theorem sliceStr_from {s : List UInt8} {l : Nat} {k : IntKind} (h : l ≤ s.length) : sliceStrV (.str s) (some (.int k l)) none = some (.str (s.drop l)) := by
  simp only [sliceStrV, bnds_l h, Option.map_some, List.take_length]
theorem sliceStr_to {s : List UInt8} {h : Nat} {k : IntKind} (h1 : h ≤ s.length) : sliceStrV (.str s) none (some (.int k h)) = some (.str (s.take h)) := by
  simp only [sliceStrV, bnds_h h1, Option.map_some, List.drop_zero]
end Go.Th
end
