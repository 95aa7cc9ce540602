/- What the row of one statement stands on: a store, abstract code, functions of the program and their laws (ThC). -/
import Derived.Test.YtconjbbmdjaehaaGreatDoorThBB
import Derived.Laws.Entries
import Derived.Laws.CopyRow
import Derived.Lib.ConvBytes

section
/- The operations of the abstract calculus, and the program's operations read as such. -/
namespace Go.Th
open Go.RowKit

inductive AX where
  | tmp (i : Nat)
  | con (v : V)
  | fn (f : FuncId)
  deriving Inhabited

def V.undef : V := .tuple []

def AX.ev (fr : List V) : AX → V
  | .tmp i => fr.getD i .undef
  | .con v => v
  | .fn f => .func (.func f) [] []

def V.ofPlain : Value → Option V
  | .bool b => some (.bool b)
  | .int k n => some (.int k n)
  | .string s => some (.str s.data.toList)
  | .pointer none => some .nilPtr
  | .slice none 0 0 => some .nilSlice
  | .map none => some .nilMap
  | .nilFunc => some .nilFunc
  | .nilIface => some .nilIface
  | _ => none

def V.ofPlains : List Value → Option (List V)
  | [] => some []
  | u :: us => match V.ofPlain u, V.ofPlains us with
    | some v, some vs => some (v :: vs)
    | _, _ => none

def V.ofConst (u : Value) : Option V :=
  match u with
  | .agg cs => (V.ofPlains cs.toList).map .agg
  | .tuple cs => (V.ofPlains cs.toList).map .tuple
  | u => V.ofPlain u

def AX.of : Operand → Option AX
  | .tmp t => some (.tmp t)
  | .const v => (V.ofConst v).map .con
  | .func f => some (.fn f)
  | .global g => some (.con (.glob g 0))

theorem V.ofPlain_rel {m : LM} {u : Value} {v : V} (h : V.ofPlain u = some v) : VR m v u := by
  unfold V.ofPlain at h
  split at h
  all_goals first
    | (cases h; simp only [VR]; done)
    | (cases h)

theorem V.ofPlains_rel {m : LM} : ∀ {us : List Value} {vs : List V}, V.ofPlains us = some vs → VRs m vs us
  | [], vs, h => by simp only [V.ofPlains, Option.some.injEq] at h; subst h; simp [VRs]
  | u :: us, vs, h => by
    simp only [V.ofPlains] at h
    split at h
    · rename_i v vs' h1 h2
      cases h
      simp only [VRs]
      exact ⟨u, us, rfl, V.ofPlain_rel h1, V.ofPlains_rel h2⟩
    · cases h

theorem V.ofConst_rel {m : LM} {u : Value} {v : V} (h : V.ofConst u = some v) : VR m v u := by
  unfold V.ofConst at h
  split at h
  · rename_i cs
    cases hc : V.ofPlains cs.toList with
    | none => rw [hc] at h; cases h
    | some vs => rw [hc] at h; cases h; simp only [VR]; exact ⟨cs, rfl, V.ofPlains_rel hc⟩
  · rename_i cs
    cases hc : V.ofPlains cs.toList with
    | none => rw [hc] at h; cases h
    | some vs => rw [hc] at h; cases h; simp only [VR]; exact ⟨cs, rfl, V.ofPlains_rel hc⟩
  · exact V.ofPlain_rel h

theorem VR.undef (m : LM) : VR m V.undef undef := by simp only [V.undef, VR, Go.undef]; exact ⟨#[], rfl, by simp [VRs]⟩

theorem VRs.getD {m : LM} {fr : List V} {us : List Value} (h : VRs m fr us) (i : Nat) : VR m (fr.getD i .undef) (us.getD i Go.undef) := by
  simp only [List.getD]
  cases hv : fr[i]? with
  | some v =>
    obtain ⟨u, hu, r⟩ := h.get hv
    rw [hu]; exact r
  | none =>
    have hl := h.length
    have : us[i]? = none := by rw [List.getElem?_eq_none_iff] at hv ⊢; omega
    rw [this]; exact VR.undef m

theorem AX.of_rel {m : LM} {fr : List V} {a : Act} {x : Operand} {ax : AX} (h : AX.of x = some ax) (hf : VRs m fr a.tmps.toList) : VR m (ax.ev fr) (a.eval x) := by
  cases x with
  | tmp t =>
    simp only [AX.of, Option.some.injEq] at h; subst h
    have := hf.getD t
    simpa [AX.ev, Act.eval, Array.getD_eq_getD_getElem?, List.getD] using this
  | const v =>
    simp only [AX.of] at h
    cases hc : V.ofConst v with
    | none => rw [hc] at h; cases h
    | some v' => rw [hc] at h; cases h; exact V.ofConst_rel hc
  | global g =>
    simp only [AX.of, Option.some.injEq] at h; subst h
    simp only [AX.ev, VR]; rfl
  | func f =>
    simp only [AX.of, Option.some.injEq] at h; subst h
    simp only [AX.ev, Act.eval, VR]
    exact ⟨#[], #[], rfl, by simp [VRs], by simp [VRs]⟩

def AX.ofs : List Operand → Option (List AX)
  | [] => some []
  | x :: xs => match AX.of x, AX.ofs xs with
    | some a, some as => some (a :: as)
    | _, _ => none

theorem AX.ofs_rel {m : LM} {fr : List V} {a : Act} (hf : VRs m fr a.tmps.toList) : ∀ {xs : List Operand} {axs : List AX}, AX.ofs xs = some axs → VRs m (axs.map (·.ev fr)) (xs.map a.eval)
  | [], axs, h => by simp only [AX.ofs, Option.some.injEq] at h; subst h; simp [VRs]
  | x :: xs, axs, h => by
    simp only [AX.ofs] at h
    split at h
    · rename_i a1 as h1 h2
      cases h
      simp only [List.map_cons, VRs]
      exact ⟨_, _, rfl, AX.of_rel h1 hf, AX.ofs_rel hf h2⟩
    · cases h

def V.cells : V → List V
  | .agg cs => cs
  | v => [v]

def V.one : V → Bool
  | .agg _ | .tuple _ => false
  | _ => true

theorem VR.cells {m : LM} {v : V} {u : Value} (h : VR m v u) : VRs m v.cells u.cells.toList := by
  cases v with
  | agg cs =>
    simp only [VR] at h
    obtain ⟨cs', rfl, h⟩ := h
    exact h
  | tuple cs =>
    have h' := h
    simp only [VR] at h
    obtain ⟨cs', rfl, _⟩ := h
    simp only [V.cells, Value.cells, VRs]
    exact ⟨_, [], rfl, h', rfl⟩
  | junk =>
    have h' := h
    simp only [VR] at h
    have e : u.cells = #[u] := by cases u <;> first | rfl | simp [Value.oneCell'] at h
    rw [e]
    simp only [V.cells, VRs]
    exact ⟨_, [], rfl, h', rfl⟩
  | _ =>
    have h' := h
    simp only [VR] at h
    first
      | (subst h; simp only [V.cells, Value.cells, VRs]; exact ⟨_, [], rfl, h', rfl⟩)
      | (obtain ⟨x, h⟩ := h
         first
           | (obtain ⟨_, rfl⟩ := h; simp only [V.cells, Value.cells, VRs]; exact ⟨_, [], rfl, h', rfl⟩)
           | (obtain ⟨rfl, _⟩ := h; simp only [V.cells, Value.cells, VRs]; exact ⟨_, [], rfl, h', rfl⟩)
           | (obtain ⟨y, rfl, _⟩ := h; simp only [V.cells, Value.cells, VRs]; exact ⟨_, [], rfl, h', rfl⟩)
           | (obtain ⟨y, z, _, rfl, _⟩ := h; simp only [V.cells, Value.cells, VRs]; exact ⟨_, [], rfl, h', rfl⟩))

theorem VR.one {m : LM} {v : V} {u : Value} (h : VR m v u) (hv : v.one = true) : u.oneCell' = true := by
  cases v with
  | agg cs => simp [V.one] at hv
  | tuple cs => simp [V.one] at hv
  | junk => simpa only [VR] using h
  | _ =>
    simp only [VR] at h
    first
      | (subst h; rfl)
      | (obtain ⟨x, h⟩ := h
         first
           | (obtain ⟨_, rfl⟩ := h; rfl)
           | (obtain ⟨rfl, _⟩ := h; rfl)
           | (obtain ⟨y, rfl, _⟩ := h; rfl)
           | (obtain ⟨y, z, _, rfl, _⟩ := h; rfl))

def over : List V → Nat → List V → List V
  | [], _, _ => []
  | c :: cs, 0, [] => c :: cs
  | _ :: cs, 0, v :: vs => v :: over cs 0 vs
  | c :: cs, n + 1, vs => c :: over cs n vs

theorem over_length : ∀ (cs : List V) (n : Nat) (vs : List V), (over cs n vs).length = cs.length
  | [], _, _ => rfl
  | _ :: _, 0, [] => rfl
  | _ :: cs, 0, _ :: vs => by simp [over, over_length cs 0 vs]
  | _ :: cs, n + 1, vs => by simp [over, over_length cs n vs]

theorem over_nil : ∀ (cs : List V) (n : Nat), over cs n [] = cs
  | [], _ => rfl
  | _ :: _, 0 => rfl
  | c :: cs, n + 1 => by simp [over, over_nil cs n]

theorem over_get : ∀ (cs : List V) (n : Nat) (vs : List V) (j : Nat), n + vs.length ≤ cs.length →
    (over cs n vs)[j]? = if n ≤ j ∧ j < n + vs.length then vs[j - n]? else cs[j]?
  | [], n, vs, j, h => by
    have h2 : ¬ (n ≤ j ∧ j < n + vs.length) := by simp at h; simp [h]
    simp only [over]
    rw [if_neg h2]
  | c :: cs, 0, [], j, h => by simp [over]
  | c :: cs, 0, v :: vs, j, h => by
    simp only [over]
    cases j with
    | zero => simp
    | succ j =>
      simp only [List.getElem?_cons_succ, List.length_cons, Nat.zero_le, true_and, Nat.zero_add, Nat.sub_zero]
      rw [over_get cs 0 vs j (by simp at h ⊢; omega)]
      by_cases hj : j < vs.length
      · simp [hj]
      · simp [hj]
  | c :: cs, n + 1, vs, j, h => by
    simp only [over]
    cases j with
    | zero => simp
    | succ j =>
      simp only [List.getElem?_cons_succ]
      rw [over_get cs n vs j (by simp at h; omega)]
      by_cases hj : n ≤ j ∧ j < n + vs.length
      · rw [if_pos hj, if_pos (by omega)]
        congr 1; omega
      · rw [if_neg hj, if_neg (by omega)]

theorem addr_add (b x n : Nat) : (⟨b, x, none⟩ : Addr).add n = ⟨b, x + n, none⟩ := by
  unfold Addr.add
  split
  · rename_i h; subst h; rfl
  · rfl

def St.cells (S : St) (i : Nat) : Option (List V) :=
  match S.get i with
  | some (.cells vs _) => some vs
  | _ => none

def St.loads (S : St) (i o n : Nat) : Option (List V) :=
  if n = 0 then some [] else
  match S.get i with
  | some (.cells vs _) => if o + n ≤ vs.length then some ((vs.drop o).take n) else none
  | _ => none

theorem St.loads_pos {S : St} {i o n : Nat} {vs : List V} (h : S.loads i o n = some vs) (hn : 0 < n) : ∃ cs own, S.get i = some (.cells cs own) ∧ o + n ≤ cs.length ∧ vs = (cs.drop o).take n := by
  unfold St.loads at h
  rw [if_neg (by omega)] at h
  split at h
  · rename_i cs own hg
    split at h
    · cases h; exact ⟨cs, own, hg, by assumption, rfl⟩
    · cases h
  · cases h

theorem St.loads_of {S : St} {i o n : Nat} {cs : List V} {own : Bool} (hg : S.get i = some (.cells cs own)) (h : o + n ≤ cs.length) : S.loads i o n = some ((cs.drop o).take n) := by
  unfold St.loads
  by_cases hn : n = 0
  · subst hn; simp
  · rw [if_neg hn, hg]; simp only [if_pos h]

theorem St.loads_len {S : St} {i o n : Nat} {vs : List V} (h : S.loads i o n = some vs) : vs.length = n := by
  by_cases hn : n = 0
  · subst hn; simp [St.loads] at h; subst h; rfl
  · obtain ⟨cs, own, _, h1, rfl⟩ := St.loads_pos h (by omega)
    simp; omega

def St.load1 (S : St) (i o : Nat) : Option V :=
  match S.get i with
  | some (.cells vs _) => vs[o]?
  | some (.obj _ _ vs) => vs[o]?
  | _ => none

def St.gl1 (S : St) (g o : Nat) : Option V :=
  match S.get g with
  | some (.glob g' vs) => if g' = g then vs[o]? else none
  | _ => none

def St.stores (S : St) (i o : Nat) (vs : List V) : Option St :=
  match S.get i with
  | some (.cells cs true) => if o + vs.length ≤ cs.length && vs.all V.one then some (S.put i (some (.cells (over cs o vs) true))) else none
  | some (.dead n) => if o + vs.length ≤ n && vs.all V.one then some (S.put i (some (.dead n))) else none
  | some (.obj t n cs) => if o + vs.length ≤ cs.length && vs.all V.one then some (S.put i (some (.obj t n (over cs o vs)))) else none
  | _ => none

theorem Sim.cell {m : LM} {S : St} {base : Nat} {w0 w : World} (h : Sim m S base w0 w) {i o : Nat} {vs : List V} {own : Bool} (hi : S.get i = some (.cells vs own)) {v : V} (hv : vs[o]? = some v) :
    ∃ L u, m i = some L ∧ w.cell? ⟨L.block, L.off + o, none⟩ = some u ∧ VR m v u := by
  obtain ⟨L, h1, h2, _⟩ := h.blk i _ hi
  obtain ⟨u, hu, r⟩ := h2.2.1 o v hv
  exact ⟨L, u, h1, hu, r⟩

theorem Sim.gl1 {m : LM} {S : St} {base : Nat} {w0 w : World} (h : Sim m S base w0 w) {g o : Nat} {v : V} (hv : S.gl1 g o = some v) : ∃ u, w.cell? ⟨g, o, none⟩ = some u ∧ VR m v u := by
  unfold St.gl1 at hv
  split at hv
  · rename_i g' vs hg
    split at hv
    · rename_i e
      subst e
      obtain ⟨L, _, h2, _⟩ := h.blk _ _ hg
      exact h2.glob_cell hv
    · cases hv
  · cases hv

theorem Sim.loads {P : Program} {m : LM} {S : St} {base : Nat} {w0 w : World} (h : Sim m S base w0 w) {i o n : Nat} {vs : List V} (hv : S.loads i o n = some vs) {L : Loc} (hL : m i = some L) :
    ∃ us, (loadCells ⟨L.block, L.off + o, none⟩ n).run P w = .ok us.toArray w ∧ VRs m vs us ∧ (∀ j u, us[j]? = some u → w.cell? ⟨L.block, L.off + o + j, none⟩ = some u) ∧ us.length = n := by
  by_cases h0 : n = 0
  · subst h0
    simp only [St.loads, if_true, Option.some.injEq] at hv
    subst hv
    exact ⟨[], by simp [loadCells, loadCellsFrom], by simp [VRs], by simp, rfl⟩
  unfold St.loads at hv
  rw [if_neg h0] at hv
  split at hv
  · rename_i cs own hi
    split at hv
    · rename_i hn
      cases hv
      obtain ⟨L', h1, h2, _⟩ := h.blk i _ hi
      rw [h1] at hL; cases hL
      have hc : ∀ j, j < n → ∃ u, w.cell? ⟨L.block, L.off + o + j, none⟩ = some u ∧ ∃ v, cs[o + j]? = some v ∧ VR m v u := by
        intro j hj
        have hl : o + j < cs.length := by omega
        obtain ⟨u, hu, r⟩ := h2.2.1 (o + j) cs[o + j] (List.getElem?_eq_getElem hl)
        exact ⟨u, by rw [Nat.add_assoc]; exact hu, cs[o + j], List.getElem?_eq_getElem hl, r⟩
      refine ⟨(List.range n).map fun j => (w.cell? ⟨L.block, L.off + o + j, none⟩).getD Go.undef, ?_, ?_, ?_, by simp⟩
      · apply run_loadCells
        intro j hj
        obtain ⟨u, hu, _⟩ := hc j hj
        rw [addr_add, hu]; rfl
      · apply VRs.of_get
        · simp; omega
        · intro j v hj
          rw [List.getElem?_take] at hj
          split at hj
          · rename_i hjn
            rw [List.getElem?_drop] at hj
            obtain ⟨u, hu, v', hv', r⟩ := hc j hjn
            rw [hj] at hv'; cases hv'
            refine ⟨u, ?_, r⟩
            simp [hjn, hu]
          · cases hj
      · intro j u hj
        rw [List.getElem?_map] at hj
        by_cases hjn : j < n
        · obtain ⟨u', hu, _⟩ := hc j hjn
          simp [hjn, hu] at hj
          subst hj; exact hu
        · simp [List.getElem?_eq_none (show (List.range n).length ≤ j by simp; omega)] at hj
    · cases hv
  · cases hv

theorem run_stores {P : Program} (b : Nat) (t : TypeId) (fz : Nat × Nat) : ∀ (us : List Value) (x i : Nat) (cs : Array Value) (w : World), w.heap[b]? = some (.cells cs t fz) → x + i + us.length ≤ cs.size →
    Unfz fz cs.size → (∀ u ∈ us, u.oneCell' = true) →
    ∃ cs', (storeCells ⟨b, x, none⟩ us i).run P w = .ok () (setAt w b (.cells cs' t fz)) ∧ cs'.size = cs.size ∧
      (∀ j, cs'[j]? = if x + i ≤ j ∧ j < x + i + us.length then us[j - (x + i)]? else cs[j]?)
  | [], x, i, cs, w, h, _, _, _ => ⟨cs, by rw [setAt_id w b _ h]; rfl, rfl, fun j => by
      have : ¬ (x + i ≤ j ∧ j < x + i + ([] : List Value).length) := by simp
      rw [if_neg this]⟩
  | u :: us, x, i, cs, w, h, hl, hf, h1 => by
    have hlt : x + i < cs.size := by simp at hl; omega
    have hb : b < w.heap.size := by
      rcases Nat.lt_or_ge b w.heap.size with h' | h'
      · exact h'
      · simp [Array.getElem?_eq_none h'] at h
    have hcell : w.cell? ⟨b, x + i, none⟩ = some cs[x + i] := by simp [World.cell?, h, hlt]
    have hfz : w.frozen? ⟨b, x + i, none⟩ = false := by
      rw [frozen_setAt w b _ cs t fz h]
      have := hf.not hlt
      simp only [Bool.and_eq_false_iff, decide_eq_false_iff_not]
      omega
    have hset := setCell_setAt w b (x + i) u cs t fz h
    obtain ⟨cs', h2, h3, h4⟩ := run_stores b t fz us x (i + 1) (cs.setIfInBounds (x + i) u) (setAt w b (.cells (cs.setIfInBounds (x + i) u) t fz)) (setAt_same w b _ hb)
      (by simp at hl ⊢; omega) (by simpa using hf) (fun v hv => h1 v (by simp [hv]))
    refine ⟨cs', ?_, by simpa using h3, ?_⟩
    · rw [setAt_setAt] at h2
      simp only [storeCells, Sem.run_bind, addr_add]
      rw [run_store P w _ u .plain (h1 u (by simp)), hcell]
      simp only [hfz, Bool.false_eq_true, if_false, Result.andThen_ok]
      rw [hset]
      exact h2
    · intro j
      rw [h4 j]
      by_cases hj : x + (i + 1) ≤ j ∧ j < x + (i + 1) + us.length
      · rw [if_pos hj, if_pos (by simp; omega)]
        have : j - (x + i) = (j - (x + (i + 1))) + 1 := by omega
        rw [this, List.getElem?_cons_succ]
      · rw [if_neg hj, Array.getElem?_setIfInBounds]
        by_cases e : x + i = j
        · subst e
          rw [if_pos rfl, if_pos hlt, if_pos (by simp)]
          simp
        · rw [if_neg e, if_neg (by simp; omega)]

theorem Sim.stores {P : Program} {m : LM} {S S' : St} {base : Nat} {w0 w : World} (h : Sim m S base w0 w) {i o : Nat} {vs : List V} (hs : S.stores i o vs = some S') {L : Loc} (hL : m i = some L)
    {us : List Value} (hr : VRs m vs us) : ∃ w', (storeCells ⟨L.block, L.off + o, none⟩ us).run P w = .ok () w' ∧ Sim m S' base w0 w' := by
  unfold St.stores at hs
  split at hs
  · rename_i cs hi
    split at hs
    · rename_i hc
      cases hs
      simp only [Bool.and_eq_true, decide_eq_true_eq] at hc
      obtain ⟨hle, hone⟩ := hc
      obtain ⟨L', h1, h2, _⟩ := h.blk i _ hi
      rw [h1] at hL; cases hL
      obtain ⟨g0, g1, g3, g2⟩ := h2
      obtain ⟨hown, ccs, t, fz, hb, hsz, hfz⟩ := g2 rfl
      have hroom := g3 hown
      have hlen := hr.length
      have h1c : ∀ u ∈ us, u.oneCell' = true := by
        intro u hu
        obtain ⟨j, hj⟩ := List.getElem?_of_mem hu
        have hjl : j < vs.length := by
          rcases Nat.lt_or_ge j us.length with h' | h'
          · omega
          · simp [List.getElem?_eq_none h'] at hj
        obtain ⟨u', hu', r⟩ := hr.get (List.getElem?_eq_getElem hjl)
        rw [hj] at hu'; cases hu'
        refine r.one ?_
        rw [List.all_eq_true] at hone
        exact hone _ (List.getElem_mem hjl)
      obtain ⟨cs', r1, r2, r3⟩ := run_stores (P := P) L.block t fz us (L.off + o) 0 ccs w hb (by omega) (by rw [hsz]; exact hfz) h1c
      refine ⟨_, r1, h.putBlk hi rfl h1 _ _ ?_⟩
      refine ⟨by simpa using g0, ?_, fun _ => by rw [over_length]; exact hroom, fun _ => ⟨hown, cs', t, fz, setAt_same w _ _ g0, by omega, hfz⟩⟩
      intro j v hj
      rw [over_get cs o vs j hle] at hj
      rw [cell_setAt w _ _ t fz g0, r3]
      by_cases hin : o ≤ j ∧ j < o + vs.length
      · rw [if_pos hin] at hj
        rw [if_pos (by omega)]
        obtain ⟨u, hu, r⟩ := hr.get hj
        refine ⟨u, ?_, r⟩
        rw [← hu]; congr 1; omega
      · rw [if_neg hin] at hj
        rw [if_neg (by omega)]
        obtain ⟨u, hu, r⟩ := g1 j v hj
        refine ⟨u, ?_, r⟩
        rw [← hu]
        simp [World.cell?, hb]
    · cases hs
  · rename_i n hi
    split at hs
    · rename_i hc
      cases hs
      simp only [Bool.and_eq_true, decide_eq_true_eq] at hc
      obtain ⟨hle, hone⟩ := hc
      obtain ⟨L', h1, h2, _⟩ := h.blk i _ hi
      rw [h1] at hL; cases hL
      obtain ⟨hown, hroom, ccs, t, fz, hb, hsz, hfz⟩ := h2
      have hlen := hr.length
      have h1c : ∀ u ∈ us, u.oneCell' = true := by
        intro u hu
        obtain ⟨j, hj⟩ := List.getElem?_of_mem hu
        have hjl : j < vs.length := by
          rcases Nat.lt_or_ge j us.length with h' | h'
          · omega
          · simp [List.getElem?_eq_none h'] at hj
        obtain ⟨u', hu', r⟩ := hr.get (List.getElem?_eq_getElem hjl)
        rw [hj] at hu'; cases hu'
        refine r.one ?_
        rw [List.all_eq_true] at hone
        exact hone _ (List.getElem_mem hjl)
      have g0 : L.block < w.heap.size := by
        rcases Nat.lt_or_ge L.block w.heap.size with h' | h'
        · exact h'
        · simp [Array.getElem?_eq_none h'] at hb
      obtain ⟨cs', r1, r2, r3⟩ := run_stores (P := P) L.block t fz us (L.off + o) 0 ccs w hb (by omega) (by rw [hsz]; exact hfz) h1c
      exact ⟨_, r1, h.putBlk hi rfl h1 _ _ ⟨hown, hroom, cs', t, fz, setAt_same w _ _ g0, by omega, hfz⟩⟩
    · cases hs
  · rename_i t0 n0 cs hi
    split at hs
    · rename_i hc
      cases hs
      simp only [Bool.and_eq_true, decide_eq_true_eq] at hc
      obtain ⟨hle, hone⟩ := hc
      obtain ⟨L', h1, h2, _⟩ := h.blk i _ hi
      rw [h1] at hL; cases hL
      obtain ⟨⟨g0, g1, g3, g2⟩, goff, ccs0, gty⟩ := h2
      obtain ⟨hown, ccs, t, fz, hb, hsz, hfz⟩ := g2 rfl
      have hroom := g3 hown
      obtain ⟨rfl, rfl⟩ : t0 = t ∧ fz = (0, 0) := by rw [gty] at hb; cases hb; exact ⟨rfl, rfl⟩
      have hlen := hr.length
      have h1c : ∀ u ∈ us, u.oneCell' = true := by
        intro u hu
        obtain ⟨j, hj⟩ := List.getElem?_of_mem hu
        have hjl : j < vs.length := by
          rcases Nat.lt_or_ge j us.length with h' | h'
          · omega
          · simp [List.getElem?_eq_none h'] at hj
        obtain ⟨u', hu', r⟩ := hr.get (List.getElem?_eq_getElem hjl)
        rw [hj] at hu'; cases hu'
        refine r.one ?_
        rw [List.all_eq_true] at hone
        exact hone _ (List.getElem_mem hjl)
      obtain ⟨cs', r1, r2, r3⟩ := run_stores (P := P) L.block t0 (0, 0) us (L.off + o) 0 ccs w hb (by omega) (by rw [hsz]; exact hfz) h1c
      refine ⟨_, r1, h.putBlk hi rfl h1 _ _ ?_⟩
      refine ⟨⟨by simpa using g0, ?_, fun _ => by rw [over_length]; exact hroom, fun _ => ⟨hown, cs', t0, (0, 0), setAt_same w _ _ g0, by omega, hfz⟩⟩, goff, cs', setAt_same w _ _ g0⟩
      intro j v hj
      rw [over_get cs o vs j hle] at hj
      rw [cell_setAt w _ _ t0 (0, 0) g0, r3]
      by_cases hin : o ≤ j ∧ j < o + vs.length
      · rw [if_pos hin] at hj
        rw [if_pos (by omega)]
        obtain ⟨u, hu, r⟩ := hr.get hj
        refine ⟨u, ?_, r⟩
        rw [← hu]; congr 1; omega
      · rw [if_neg hin] at hj
        rw [if_neg (by omega)]
        obtain ⟨u, hu, r⟩ := g1 j v hj
        refine ⟨u, ?_, r⟩
        rw [← hu]
        simp [World.cell?, hb]
    · cases hs
  · cases hs

end Go.Th
end
