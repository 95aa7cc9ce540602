/- What the row of one statement stands on: a store, abstract code, functions of the program and their laws (ThD5). -/
import Derived.Test.YtconjbbmdjaehaaGreatDoorThBH
import Derived.Maps.RangeRun

section
/- Ranges over maps, maps whose keys are pointers, clear. -/
set_option linter.unusedSimpArgs false
set_option linter.unusedVariables false
namespace Go.Th
open Go.RowKit Go.Lib

def rangeP (S : St) (v : V) : Option (V → St → Prop) :=
  match v with
  | .map i => match S.get i with
    | some (.map es own) => some fun v S' => ∃ bs c, bs.length = es.length ∧ bs.Nodup ∧ (∀ b ∈ bs, b < c) ∧ v = .ptr S.next 0 ∧ S' = (S.put i (some (.mapX es bs c own))).new (.iter i c [] c)
    | _ => none
  | _ => none

def nextP (S : St) (v : V) : Option (V → St → Prop) :=
  match v with
  | .ptr j 0 => match S.get j with
    | some (.iter i since seen st) => match S.get i with
      | some (.mapX es bs c own) => if since = c ∧ st = c then some fun v S' =>
          (∃ (t b : Nat) (k x : V), es[t]? = some (k, x) ∧ bs[t]? = some b ∧ b ∉ seen ∧ v = .tuple [.bool true, k, x] ∧ S' = S.put j (some (.iter i c (seen ++ [b]) c))) ∨
          ((∀ b ∈ bs, b ∈ seen) ∧ v = .tuple [.bool false] ∧ S' = S.put i (some (.map es own)))
        else none
      | _ => none
    | _ => none
  | _ => none

def stampV : List (V × V) → List Nat → Nat → Option V
  | e :: es, b :: bs, x => if b = x then some (.tuple [e.1, e.2]) else stampV es bs x
  | _, _, _ => none

def entryV (S : St) (v : V) : Option V :=
  match v with
  | .ptr j 0 => match S.get j with
    | some (.iter i since seen st) => match S.get i with
      | some (.mapX es bs c own) => if st = c then match seen.getLast? with
          | some b => stampV es bs b
          | none => none
        else none
      | _ => none
    | _ => none
  | _ => none

def rRange (x : AX) : List V → St → AR := fun fr S =>
  match rangeP S (x.ev fr) with
  | some p => .any p
  | none => .stuck
def rNext (x : AX) : List V → St → AR := fun fr S =>
  match nextP S (x.ev fr) with
  | some p => .any p
  | none => .stuck
def rEntry (x : AX) : List V → St → AR := fun fr S =>
  match entryV S (x.ev fr) with
  | some v => .val v S
  | none => .stuck

theorem EntR.len {m : LM} : ∀ {es : List (V × V)} {ces : List MapEntry}, EntR m es ces → ces.length = es.length
  | [], _, h => by simp only [EntR] at h; subst h; rfl
  | (k, v) :: es, _, h => by
    obtain ⟨e, es', rfl, _, _, h3⟩ := h
    simp [h3.len]

theorem Sim.reblk {m : LM} {S : St} {base : Nat} {w0 w : World} (h : Sim m S base w0 w) {i : Nat} {b b' : Blk} {L : Loc} (hi : S.get i = some b) (hL : m i = some L) (ho : b'.own = b.own) (hR : BlkR m L w b') : Sim m (S.put i (some b')) base w0 w := by
  refine ⟨h.below, h.base_le, ?_, h.freshM, ?_, ?_⟩
  · intro j hj
    simp only [St.next_put] at hj
    rw [St.get_put]
    by_cases e : j = i
    · subst e; rw [h.freshS j hj] at hi; cases hi
    · rw [if_neg e]; exact h.freshS j hj
  · intro j b2 hj
    rw [St.get_put] at hj
    by_cases e : j = i
    · subst e
      rw [if_pos rfl] at hj; cases hj
      obtain ⟨L', h1, h2, h3⟩ := h.blk _ _ hi
      rw [hL] at h1; cases h1
      exact ⟨L, hL, hR, fun hb => h3 (by rw [← ho]; exact hb)⟩
    · rw [if_neg e] at hj
      exact h.blk j b2 hj
  · intro j k b1 b2 L1 L2 hjk h1 h2 ho1 g1 g2
    rw [St.get_put] at h1 h2
    have f1 : ∃ c1, S.get j = some c1 ∧ c1.own = true := by
      split at h1
      · rename_i e; subst e; cases h1; exact ⟨b, hi, by rw [← ho]; exact ho1⟩
      · exact ⟨b1, h1, ho1⟩
    have f2 : ∃ c2, S.get k = some c2 := by
      split at h2
      · rename_i e; subst e; exact ⟨b, hi⟩
      · exact ⟨b2, h2⟩
    obtain ⟨c1, e1, o1⟩ := f1
    obtain ⟨c2, e2⟩ := f2
    exact h.apart j k c1 c2 L1 L2 hjk e1 e2 o1 g1 g2

theorem VR.tuple2 {m : LM} {a b : V} {x y : Value} (h1 : VR m a x) (h2 : VR m b y) : VR m (.tuple [a, b]) (.tuple #[x, y]) := by
  simp only [VR]
  exact ⟨_, rfl, by simp only [VRs]; exact ⟨_, _, rfl, h1, _, _, rfl, h2, rfl⟩⟩
theorem VR.tuple3 {m : LM} {a b c : V} {x y z : Value} (h1 : VR m a x) (h2 : VR m b y) (h3 : VR m c z) : VR m (.tuple [a, b, c]) (.tuple #[x, y, z]) := by
  simp only [VR]
  exact ⟨_, rfl, by simp only [VRs]; exact ⟨_, _, rfl, h1, _, _, rfl, h2, _, _, rfl, h3, rfl⟩⟩

theorem EntR.back {m : LM} : ∀ {es : List (V × V)} {ces : List MapEntry}, EntR m es ces → ∀ {j : Nat} {e : MapEntry}, ces[j]? = some e → ∃ p, es[j]? = some p ∧ VR m p.1 e.key ∧ VR m p.2 e.val
  | [], _, h, _, _, hj => by simp only [EntR] at h; subst h; simp at hj
  | (k, v) :: es, _, h, j, e, hj => by
    obtain ⟨e', es', rfl, h1, h2, h3⟩ := h
    cases j with
    | zero => simp at hj; subst hj; exact ⟨_, rfl, h1, h2⟩
    | succ j => simpa using h3.back (by simpa using hj)

theorem ok_range {P : Program} {o : Oper} {t kt e : TypeId} {x : Operand} {ax : AX} (ho : o.op = .range t x) (hx : AX.of x = some ax) (ht : P.underlying t = some (.map kt e)) : OpOk P o (rRange ax) :=
  OpOk.one fun m S base w0 w fr a hS hf => by
    have rx := AX.of_rel hx hf
    unfold rRange
    cases hp : rangeP S (ax.ev fr) with
    | none => exact .inl rfl
    | some p =>
      refine .inr ?_
      unfold rangeP at hp
      split at hp
      · rename_i i hev
        rw [hev] at rx
        obtain ⟨L, hL, hu⟩ := rx.map_inv
        split at hp
        · rename_i es own hg
          cases hp
          obtain ⟨L', g1, ⟨ces, clock, g2, g3, g4, g5⟩, _⟩ := hS.blk _ _ hg
          rw [hL] at g1; cases g1
          have hne : i ≠ S.next := fun e => by
            have := hS.freshM S.next (Nat.le_refl _)
            rw [← e, hL] at this; cases this
          have s1 := hS.reblk (b' := .mapX es (ces.toList.map (·.born)) clock own) hg hL rfl ⟨ces, g2, g3, g4, g5, rfl⟩
          have s2 := s1.newBlk (.mapIter (some L.block) clock #[] clock) (.iter i clock [] clock) ⟨w.heap.size, 0, 0, true⟩ rfl
            ⟨rfl, L, by rw [LM.put_other _ _ (by rw [St.next_put]; exact hne)]; exact hL, (MapKept.heap_alloc w _).1⟩
          rw [St.next_put] at s2
          refine ⟨_, _, _, .pointer (some ⟨w.heap.size, 0, none⟩), _, _, rfl, ⟨ces.toList.map (·.born), clock, by rw [List.length_map, g3.len], g5, fun b hb => ?_, rfl, rfl⟩, ?_, LM.ext_put _ (hS.freshM _ (Nat.le_refl _)), s2, ?_⟩
          · obtain ⟨x, hx, rfl⟩ := List.mem_map.1 hb
            exact g4 x hx
          · simp [execOp, ho, hu, Instr.range, run_underlying ht, getObj_map g2]
          · simp only [VR]
            exact ⟨_, LM.put_same _ _ _, by simp⟩
        · cases hp
      · cases hp

theorem ok_next {P : Program} {o : Oper} {x : Operand} {ax : AX} (ho : o.op = .next x false) (hx : AX.of x = some ax) : OpOk P o (rNext ax) :=
  OpOk.one fun m S base w0 w fr a hS hf => by
    have rx := AX.of_rel hx hf
    unfold rNext
    cases hp : nextP S (ax.ev fr) with
    | none => exact .inl rfl
    | some p =>
      refine .inr ?_
      unfold nextP at hp
      split at hp
      · rename_i j hev
        rw [hev] at rx
        obtain ⟨L, hL, hu⟩ := rx.ptr_inv
        split at hp
        · rename_i i since seen st hg
          split at hp
          · rename_i es bs c own hgm
            split at hp
            · rename_i hc
              obtain ⟨rfl, rfl⟩ := hc
              cases hp
              obtain ⟨L', g1, ⟨g0, Li, g2, g3⟩, _⟩ := hS.blk _ _ hg
              rw [hL] at g1; cases g1
              obtain ⟨Lm, k1, ⟨ces, k2, k3, k4, k5, k6⟩, _⟩ := hS.blk _ _ hgm
              rw [g2] at k1; cases k1
              rw [g0] at hu
              simp only [Nat.add_zero] at hu
              rcases run_next_at (P := P) w o.type L.block Li.block st st seen.toArray ces st g3 k2 k4 (Nat.le_refl _) with ⟨h0, hrun⟩ | ⟨e, he, w1, hw1, hrun⟩
              · refine ⟨_, .tuple [.bool false], _, .tuple #[.bool false], w, m, rfl, .inr ⟨fun b hb => ?_, rfl, rfl⟩, ?_, Ext.refl m, hS.reblk hgm g2 rfl ⟨ces, st, k2, k3, k4, k5⟩, ?_⟩
                · rw [← k6] at hb
                  obtain ⟨x, hx, rfl⟩ := List.mem_map.1 hb
                  have h1 : leftOf ces seen.toArray = #[] := Array.eq_empty_of_size_eq_zero h0
                  unfold leftOf at h1
                  rw [Array.filter_eq_empty_iff] at h1
                  have := h1 x (by simpa using hx)
                  simpa using this
                · simp [execOp, ho, hu, hrun]
                · simp only [VR]
                  exact ⟨_, rfl, by simp only [VRs]; exact ⟨_, _, rfl, VR.bool_mk _ _, rfl⟩⟩
              · unfold leftOf at he
                simp only [Array.toList_filter, List.mem_filter, Bool.not_eq_true', List.contains_toArray] at he
                obtain ⟨he1, he2⟩ := he
                obtain ⟨t, ht⟩ := List.getElem?_of_mem he1
                obtain ⟨p, hp, hk, hv⟩ := k3.back ht
                have hS1 : Sim m S base w0 w1 := by rcases hw1 with rfl | rfl; exact hS; exact hS.draw
                have hlt : L.block < w1.heap.size := by
                  have : L.block < w.heap.size := (Array.getElem?_eq_some_iff.1 g3).1
                  rcases hw1 with rfl | rfl <;> exact this
                have s2 := hS1.putBlk hg rfl hL (.mapIter (some Li.block) st (seen.toArray.push e.born) st) (.iter i st (seen ++ [e.born]) st) ⟨g0, Li, g2, by rw [setAt_same _ _ _ hlt]; simp⟩
                refine ⟨_, .tuple [.bool true, p.1, p.2], _, .tuple #[.bool true, e.key, e.val], _, m, rfl, .inl ⟨t, e.born, p.1, p.2, hp, ?_, ?_, rfl, rfl⟩, ?_, Ext.refl m, s2, VR.tuple3 (VR.bool_mk _ _) hk hv⟩
                · rw [← k6, List.getElem?_map, ht]; rfl
                · intro hm; simp [hm] at he2
                · simp [execOp, ho, hu, hrun]; rfl
            · cases hp
          · cases hp
        · cases hp
      · cases hp

theorem stampV_spec : ∀ {es : List (V × V)} {bs : List Nat} {b : Nat} {v : V}, stampV es bs b = some v → ∃ (t : Nat) (p : V × V), es[t]? = some p ∧ bs[t]? = some b ∧ v = .tuple [p.1, p.2]
  | [], bs, b, v, h => by simp [stampV] at h
  | e :: es, [], b, v, h => by simp [stampV] at h
  | e :: es, x :: bs, b, v, h => by
    simp only [stampV] at h
    split at h
    · rename_i he
      subst he
      cases h
      exact ⟨0, e, rfl, rfl, rfl⟩
    · obtain ⟨t, p, h1, h2, h3⟩ := stampV_spec h
      exact ⟨t + 1, p, by simp [h1], by simp [h2], h3⟩

theorem ok_entry {P : Program} {o : Oper} {x : Operand} {ax : AX} (ho : o.op = .entry x) (hx : AX.of x = some ax) : OpOk P o (rEntry ax) :=
  OpOk.pure fun m S base w0 w fr a hS hf => by
    have rx := AX.of_rel hx hf
    unfold rEntry
    cases hp : entryV S (ax.ev fr) with
    | none => exact .inl rfl
    | some v =>
      refine .inr ?_
      unfold entryV at hp
      split at hp
      · rename_i j hev
        rw [hev] at rx
        obtain ⟨L, hL, hu⟩ := rx.ptr_inv
        split at hp
        · rename_i i since seen st hg
          split at hp
          · rename_i es bs c own hgm
            split at hp
            · rename_i hc
              subst hc
              split at hp
              · rename_i b hlast
                obtain ⟨L', g1, ⟨g0, Li, g2, g3⟩, _⟩ := hS.blk _ _ hg
                rw [hL] at g1; cases g1
                obtain ⟨Lm, k1, ⟨ces, k2, k3, k4, k5, k6⟩, _⟩ := hS.blk _ _ hgm
                rw [g2] at k1; cases k1
                rw [g0] at hu
                simp only [Nat.add_zero] at hu
                obtain ⟨t, p, h1, h2, rfl⟩ := stampV_spec hp
                rw [← k6, List.getElem?_map] at h2
                cases hct : ces.toList[t]? with
                | none => rw [hct] at h2; cases h2
                | some e =>
                  rw [hct] at h2
                  simp only [Option.map_some, Option.some.injEq] at h2
                  obtain ⟨e', q1, q2, q3⟩ := k3.get h1
                  rw [hct] at q1; cases q1
                  obtain ⟨pre, hpre⟩ := List.getLast?_eq_some_iff.1 hlast
                  have hr : w.heap[L.block]? = some (.mapIter (some Li.block) since (pre.toArray.push e.born) st) := by
                    rw [g3, hpre, ← h2]; simp
                  have := run_entry_at (P := P) w L.block Li.block since pre.toArray ces st e hr k2 (List.mem_of_getElem? hct) k5
                  exact ⟨_, _, rfl, by simp [execOp, ho, hu, this], VR.tuple2 q2 q3⟩
              · cases hp
            · cases hp
          · cases hp
        · cases hp
      · cases hp

theorem zeroCells_list (z : Array Value) : ∀ n, (Builtin.zeroCells z n).toList = (List.replicate n z.toList).flatten := by
  intro n
  induction n with
  | zero => simp [Builtin.zeroCells]
  | succ n ih =>
    rw [List.replicate_succ', List.flatten_append, ← ih]
    simp only [Builtin.zeroCells, Array.toList_map, Array.toList_range, Nat.succ_mul, List.range_add, List.map_append, List.map_map, List.flatten_cons, List.flatten_nil, List.append_nil]
    congr 1
    apply List.ext_getElem?
    intro j
    rw [List.getElem?_map]
    rcases Nat.lt_or_ge j z.size with h | h
    · rw [List.getElem?_range h]
      simp [Nat.mod_eq_of_lt h, h]
    · simp [h]

def rClear (k : Nat) (zs : List V) (x : AX) : List V → St → AR := fun fr S =>
  match x.ev fr with
  | .nilSlice => .val .undef S
  | .slice i o l _ k' _ => if k' ≠ k then .stuck else if l = 0 then .val .undef S else
    match S.stores i o (reps l zs) with
    | some S' => .val .undef S'
    | none => .stuck
  | _ => .stuck

theorem ok_clear {P : Program} {o : Oper} {s e : TypeId} {x : Operand} {ax : AX} {i : TypeInfo} {z : Value} {zs : List V} (ho : o.op = .call ⟨.builtin .clear, #[x], #[s]⟩) (hx : AX.of x = some ax)
    (hs : P.underlying s = some (.slice e)) (hi : P.info? e = some i) (hz : i.zero = some z) (hzs : V.ofPlains z.cells.toList = some zs) : OpOk P o (rClear i.size zs ax) :=
  OpOk.world fun m S base w0 w fr a hS hf => by
    have rx := AX.of_rel hx hf
    have hex : ∀ {w' : World}, (Builtin.clear_ #[s] o.type #[a.eval x]).run P w = .ok (.tuple #[]) w' → (execOp a.eval o).run P w = .ok (.value (.tuple #[])) w' := by
      intro w' h
      obtain ⟨cs, hcs⟩ := exec_builtin (P := P) (a := a) ho w
      rw [hcs]
      have : (#[x].map a.eval) = #[a.eval x] := by simp
      rw [this]
      simp only [builtin, Sem.run_bind, h, Result.andThen_ok, Sem.run_pure]
    unfold rClear
    split
    · rename_i hev
      rw [hev] at rx
      refine .inr ⟨_, _, S, w, m, rfl, hex ?_, Ext.refl m, hS, VR.undef m⟩
      simp [Builtin.clear_, run_underlying hs, rx.nilSlice_inv]
    · rename_i j off l c k' t hev
      rw [hev] at rx
      split
      · exact .inl rfl
      · rename_i hk
        simp only [ne_eq, Decidable.not_not] at hk
        subst hk
        obtain ⟨L, x', cap', hL, hxe, hok⟩ := rx.slice_inv
        split
        · rename_i h0
          subst h0
          refine .inr ⟨_, _, S, w, m, rfl, hex ?_, Ext.refl m, hS, VR.undef m⟩
          simp [Builtin.clear_, run_underlying hs, hxe]
        · rename_i h0
          split
          · rename_i S' hst
            have hx' : x' = ⟨L.block, L.off + off, none⟩ := hok.place (by have := hok.len_le; have := hok.cap_le; omega)
            subst hx'
            have hzr : VRs m (reps l zs) (Builtin.zeroCells z.cells l).toList := by
              have := reps_rel (m := m) (V.ofPlains_rel hzs) l
              rw [zeroCells_list]; exact this
            obtain ⟨w', hw, hS'⟩ := hS.stores (P := P) hst hL hzr
            refine .inr ⟨_, _, S', w', m, rfl, hex ?_, Ext.refl m, hS', VR.undef m⟩
            cases l with
            | zero => exact absurd rfl h0
            | succ l => simp [Builtin.clear_, run_underlying hs, hxe, zeroValue, typeInfo, hi, hz, hw]
          · exact .inl rfl
    · exact .inl rfl

def St.ownCells (S : St) (i : Nat) : Option Nat :=
  match S.get i with
  | some (.cells vs true) => some vs.length
  | _ => none
def ltO (n : Nat) : Option Nat → Bool
  | some m => Nat.blt n m
  | none => false
def sameP (S : St) : V → V → Option Bool
  | .ptr i o, .ptr j p => if i = j then some (decide (o = p)) else if ltO o (S.ownCells i) && ltO p (S.ownCells j) then some false else none
  | _, _ => none

def findP (S : St) (key : V) : List (V × V) → Nat → Option (Option (Nat × V))
  | [], _ => some none
  | (k, v) :: es, i => match sameP S key k with
    | some true => some (some (i, v))
    | some false => findP S key es (i + 1)
    | none => none

theorem St.ownCells_lt {S : St} {i o : Nat} (h : ltO o (S.ownCells i) = true) : ∃ vs, S.get i = some (.cells vs true) ∧ o < vs.length := by
  unfold St.ownCells ltO at h
  split at h
  · rename_i n hn
    split at hn
    · rename_i vs hg
      cases hn
      exact ⟨vs, hg, by simpa using h⟩
    · cases hn
  · cases h

theorem plain_block {m : LM} {S : St} {base : Nat} {w0 w : World} (hS : Sim m S base w0 w) {i : Nat} {vs : List V} {L : Loc} (hi : S.get i = some (.cells vs true)) (hL : m i = some L) : ∃ cs t fz, w.heap[L.block]? = some (.cells cs t fz) ∧ fz.1 = fz.2 := by
  obtain ⟨L', g1, ⟨_, _, _, go⟩, _⟩ := hS.blk i _ hi
  rw [hL] at g1; cases g1
  obtain ⟨_, cs, t, fz, h1, _, h3⟩ := go rfl
  exact ⟨cs, t, fz, h1, h3⟩

theorem run_sameAddr_plain {P : Program} (w : World) {a b : Addr} {ca cb : Array Value} {ta tb : TypeId} {fa fb : Nat × Nat} (hne : a.block ≠ b.block) (ha : w.heap[a.block]? = some (.cells ca ta fa)) (hb : w.heap[b.block]? = some (.cells cb tb fb))
    (h1 : fa.1 = fa.2) (h2 : fb.1 = fb.2) : (sameAddr a b).run P w = .ok false w := by
  have f1 : ∀ o : Nat, ¬ (fa.1 ≤ o ∧ o < fa.2) := fun o h => by omega
  have f2 : ∀ o : Nat, ¬ (fb.1 ≤ o ∧ o < fb.2) := fun o h => by omega
  have e1 : ∀ o s, w.frozen? ⟨a.block, o, s⟩ = false := fun o s => by
    obtain ⟨lo, hi⟩ := fa
    simp [World.frozen?, ha]
    intro h; have := f1 o; simp at this; omega
  have e2 : ∀ o s, w.frozen? ⟨b.block, o, s⟩ = false := fun o s => by
    obtain ⟨lo, hi⟩ := fb
    simp [World.frozen?, hb]
    intro h; have := f2 o; simp at this; omega
  have e1' : w.frozen? a = false := by obtain ⟨x, y, z⟩ := a; exact e1 y z
  have e2' : w.frozen? b = false := by obtain ⟨x, y, z⟩ := b; exact e2 y z
  simp [sameAddr, hne, e1, e2, e1', e2', ha, hb, noView, viewAt, World.shape?, mayBeOne, stringish]

theorem sameP_rel {P : Program} {m : LM} {S : St} {base : Nat} {w0 w : World} (hS : Sim m S base w0 w) {kt e : TypeId} {i : TypeInfo} {x y : V} {a b : Value} {r : Bool} (hk : P.underlying kt = some (.pointer e)) (hi : P.info? e = some i) (hsz : i.size ≠ 0)
    (h : sameP S x y = some r) (hx : VR m x a) (hy : VR m y b) : (Op.equal kt a b).run P w = .ok r w ∧ (r = true → a = b ∧ Instr.sameBits 10000 b a = true) := by
  unfold sameP at h
  split at h
  · rename_i i1 o1 j1 p1
    obtain ⟨L, hL, rfl⟩ := hx.ptr_inv
    obtain ⟨L', hL', rfl⟩ := hy.ptr_inv
    have heq : ∀ (u v : Addr), (Op.equal kt (.pointer (some u)) (.pointer (some v))).run P w = (sameAddr u v).run P w := fun u v => by
      have h : ∀ d : Nat, (Op.equalIn (d + 1) kt (.pointer (some u)) (.pointer (some v))).run P w = (sameAddr u v).run P w := fun d => by
        simp [Op.equalIn, run_underlying hk, sizeOf, typeInfo, hi, hsz]
      exact h 9999
    split at h
    · rename_i e
      subst e
      rw [hL] at hL'; cases hL'
      cases h
      refine ⟨?_, fun hr => ?_⟩
      · rw [heq]
        by_cases ho : o1 = p1
        · subst ho; simp [sameAddr]
        · have : ¬ (L.off + o1 = L.off + p1) := by omega
          simp [sameAddr, ho]
      · have : o1 = p1 := by simpa using hr
        subst this
        exact ⟨rfl, by simp [Instr.sameBits]⟩
    · rename_i hne
      split at h
      · rename_i hc
        cases h
        simp only [Bool.and_eq_true] at hc
        obtain ⟨vs1, g1, _⟩ := St.ownCells_lt hc.1
        obtain ⟨vs2, g2, _⟩ := St.ownCells_lt hc.2
        obtain ⟨c1, t1, f1, k1, k2⟩ := plain_block hS g1 hL
        obtain ⟨c2, t2, f2, k3, k4⟩ := plain_block hS g2 hL'
        refine ⟨?_, fun hr => by cases hr⟩
        rw [heq]
        exact run_sameAddr_plain w (hS.apart _ _ _ _ _ _ hne g1 g2 rfl hL hL') k1 k3 k2 k4
      · cases h
  · cases h

theorem findP_rel {P : Program} {m : LM} {S : St} {base : Nat} {w0 w : World} (hS : Sim m S base w0 w) {kt e : TypeId} {i : TypeInfo} {key : V} {ku : Value} (hk : P.underlying kt = some (.pointer e)) (hi : P.info? e = some i) (hsz : i.size ≠ 0) (hku : VR m key ku) :
    ∀ {es : List (V × V)} {ces : List MapEntry} {n : Nat} {r : Option (Nat × V)}, findP S key es n = some r → EntR m es ces →
    ∃ r', (Instr.findAsking kt ku ces n).run P w = .ok r' w ∧ (match r, r' with | none, none => True | some (j, v), some (j', u) => j = j' ∧ VR m v u ∧ n ≤ j ∧ j < n + es.length ∧ ∃ k, es[j - n]? = some (k, v) ∧ sameP S key k = some true | _, _ => False)
  | [], ces, n, r, h, he => by
    simp only [findP, Option.some.injEq] at h; subst h
    simp only [EntR] at he; subst he
    exact ⟨none, by simp [Instr.findAsking], trivial⟩
  | (k, v) :: es, ces, n, r, h, he => by
    obtain ⟨e', es', rfl, h1, h2, h3⟩ := he
    simp only [findP] at h
    split at h
    · rename_i hs
      cases h
      have hr := (sameP_rel hS hk hi hsz hs hku h1).1
      refine ⟨some (n, e'.val), by simp [Instr.findAsking, hr], rfl, h2, Nat.le_refl _, by simp, k, by simp, hs⟩
    · rename_i hs
      have hr := (sameP_rel hS hk hi hsz hs hku h1).1
      obtain ⟨r', g1, g2⟩ := findP_rel hS hk hi hsz hku h h3
      refine ⟨r', by simp [Instr.findAsking, hr, g1], ?_⟩
      revert g2
      cases r <;> cases r' <;> simp
      rename_i p q
      obtain ⟨j, v'⟩ := p
      obtain ⟨j', u'⟩ := q
      simp
      intro a b c d k' f g
      refine ⟨a, b, by omega, by omega, k', ?_, g⟩
      have : j - n = (j - (n + 1)) + 1 := by omega
      rw [this, List.getElem?_cons_succ]; exact f
    · cases h

theorem run_findKeyP {P : Program} {m : LM} {S : St} {base : Nat} {w0 w : World} (hS : Sim m S base w0 w) {kt e : TypeId} {i : TypeInfo} {key : V} {ku : Value} (hk : P.underlying kt = some (.pointer e)) (hi : P.info? e = some i) (hsz : i.size ≠ 0) (hku : VR m key ku)
    {es : List (V × V)} {ces : List MapEntry} {r : Option (Nat × V)} (h : findP S key es 0 = some r) (he : EntR m es ces) :
    ∃ r', (Instr.findKey kt ku ces).run P w = .ok r' w ∧ (match r, r' with | none, none => True | some (j, v), some (j', u) => j = j' ∧ VR m v u ∧ j < es.length ∧ ∃ k, es[j]? = some (k, v) ∧ sameP S key k = some true | _, _ => False) := by
  obtain ⟨r', h1, h2⟩ := findP_rel hS hk hi hsz hku h he
  refine ⟨r', ?_, ?_⟩
  · cases ces with
    | nil =>
      simp only [Instr.findKey, Sem.run_bind, run_underlying hk, Result.andThen_ok, Instr.findNow]
      simpa [Instr.findAsking] using h1
    | cons c ces =>
      simp only [Instr.findKey, Sem.run_bind, run_underlying hk, Result.andThen_ok, Instr.findNow, Instr.sameNow]
      exact h1
  · revert h2
    cases r <;> cases r' <;> simp

def rLookupP (zero : V) (ok : Bool) (x ix : AX) : List V → St → AR := fun fr S =>
  match x.ev fr with
  | .map i => match S.get i with
    | some (.map es _) => match findP S (ix.ev fr) es 0 with
      | some (some (_, v)) => .val (lookOut ok v true) S
      | some none => .val (lookOut ok zero false) S
      | none => .stuck
    | _ => .stuck
  | _ => .stuck

theorem run_checkKeyP {P : Program} {kt e : TypeId} {ku : Value} (hd : P.underlying kt = some (.pointer e)) (b : Bool) (w : World) : (Instr.checkKey b 10000 kt ku).run P w = .ok () w := by
  show (Instr.checkKey b (9999 + 1) kt ku).run P w = .ok () w
  unfold Instr.checkKey
  simp [run_underlying hd]

theorem ok_lookupP {P : Program} {o : Oper} {t kt e ke : TypeId} {x ix : Operand} {ax ai : AX} {ok : Bool} {i ki : TypeInfo} {z : Value} {zv : V} (ho : o.op = .lookup t x ix ok) (hx : AX.of x = some ax) (hix : AX.of ix = some ai)
    (ht : P.underlying t = some (.map kt e)) (hk : P.underlying kt = some (.pointer ke)) (hki : P.info? ke = some ki) (hks : ki.size ≠ 0) (hi : P.info? e = some i) (hz : i.zero = some z) (hzv : V.ofConst z = some zv) : OpOk P o (rLookupP zv ok ax ai) :=
  OpOk.pure fun m S base w0 w fr a hS hf => by
    have rx := AX.of_rel hx hf
    have ri := AX.of_rel hix hf
    have rz : VR m zv z := V.ofConst_rel hzv
    have hout : ∀ (v : V) (u : Value) (b : Bool), VR m v u → VR m (lookOut ok v b) (if ok then .tuple #[u, .bool b] else u) := by
      intro v u b hv
      cases ok
      · simpa [lookOut] using hv
      · simp only [lookOut, if_true, VR]
        exact ⟨_, rfl, by simp only [VRs]; exact ⟨_, _, rfl, hv, _, _, rfl, VR.bool_mk _ _, rfl⟩⟩
    unfold rLookupP
    split
    · rename_i j hev
      rw [hev] at rx
      obtain ⟨L, hL, hu⟩ := rx.map_inv
      split
      · rename_i es own hg
        obtain ⟨L', g1, ⟨ces, clock, g2, g3, _⟩, _⟩ := hS.blk _ _ hg
        rw [hL] at g1; cases g1
        have hck := run_checkKeyP (P := P) (ku := a.eval ix) hk ces.isEmpty w
        split
        · rename_i p v hfd
          obtain ⟨r', hfk, q2⟩ := run_findKeyP hS hk hki hks ri hfd g3
          cases r' with
          | none => exact q2.elim
          | some pr =>
            obtain ⟨j', u⟩ := pr
            obtain ⟨_, q3, _⟩ := q2
            refine .inr ⟨_, _, rfl, ?_, hout _ u true q3⟩
            cases ok <;> simp [execOp, ho, hu, Instr.lookup, run_underlying ht, getObj_map g2, hck, hfk]
        · rename_i hfd
          obtain ⟨r', hfk, q2⟩ := run_findKeyP hS hk hki hks ri hfd g3
          cases r' with
          | some pr => exact q2.elim
          | none =>
            refine .inr ⟨_, _, rfl, ?_, hout _ z false rz⟩
            cases ok <;> simp [execOp, ho, hu, Instr.lookup, run_underlying ht, getObj_map g2, hck, hfk, zeroValue, typeInfo, hi, hz]
        · exact .inl rfl
      · exact .inl rfl
    · exact .inl rfl

def rMapUpdP (x ky y : AX) : List V → St → AR := fun fr S =>
  match x.ev fr with
  | .map i => match S.get i with
    | some (.map es true) => match findP S (ky.ev fr) es 0 with
      | some (some (j, _)) => .val .undef (S.put i (some (.map (es.set j (ky.ev fr, y.ev fr)) true)))
      | some none => .val .undef (S.put i (some (.map (es ++ [(ky.ev fr, y.ev fr)]) true)))
      | none => .stuck
    | _ => .stuck
  | _ => .stuck

theorem ok_mapUpdP {P : Program} {o : Oper} {t kt e ke : TypeId} {x ky y : Operand} {ax ak ay : AX} {ki : TypeInfo} (ho : o.op = .mapUpdate t x ky y ∨ o.op = .insert t x ky y) (hx : AX.of x = some ax) (hk0 : AX.of ky = some ak) (hy : AX.of y = some ay)
    (ht : P.underlying t = some (.map kt e)) (hk : P.underlying kt = some (.pointer ke)) (hki : P.info? ke = some ki) (hks : ki.size ≠ 0) : OpOk P o (rMapUpdP ax ak ay) :=
  OpOk.unit fun m S base w0 w fr a hS hf => by
    have rx := AX.of_rel hx hf
    have rk := AX.of_rel hk0 hf
    have ry := AX.of_rel hy hf
    have hex : ∀ {w' : World}, (Instr.mapUpdate t (a.eval x) (a.eval ky) (a.eval y)).run P w = .ok () w' → (execOp a.eval o).run P w = .ok .skip w' := by
      intro w' h
      rcases ho with ho | ho <;> simp [execOp, ho, h]
    unfold rMapUpdP
    split
    · rename_i j hev
      rw [hev] at rx
      obtain ⟨L, hL, hu⟩ := rx.map_inv
      split
      · rename_i es hg
        obtain ⟨L', g1, ⟨ces, clock, g2, g3, g4, g5⟩, _⟩ := hS.blk _ _ hg
        rw [hL] at g1; cases g1
        have hlt : L.block < w.heap.size := (Array.getElem?_eq_some_iff.1 g2).1
        have hck := run_checkKeyP (P := P) (ku := a.eval ky) hk false w
        split
        · rename_i p v hfd
          obtain ⟨r', hfk, q2⟩ := run_findKeyP hS hk hki hks rk hfd g3
          cases r' with
          | none => exact q2.elim
          | some pr =>
            obtain ⟨j', u⟩ := pr
            obtain ⟨rfl, q3, q4, k', e1, e2⟩ := q2
            obtain ⟨ent, e3, e4, e5⟩ := g3.get e1
            have e3' : ces[p]? = some ent := by simpa using e3
            have hsame := (sameP_rel (P := P) hS hk hki hks e2 rk e4).2 rfl
            have hkt := run_keyThatStays (P := P) (w := w) hsame.2
            have hput := hS.putBlk hg rfl hL (.map (ces.modify p fun e => { e with key := a.eval ky, val := a.eval y }) clock) (.map (es.set p (ak.ev fr, ay.ev fr)) true) (by
              refine ⟨_, clock, setAt_same w _ _ hlt, ?_, ?_, ?_⟩
              · rw [Array.toList_modify]
                exact g3.set p (fun e he => ⟨rk, ry⟩)
              · intro x hx
                rw [Array.toList_modify] at hx
                obtain ⟨q, hq⟩ := List.getElem?_of_mem hx
                rw [List.getElem?_modify] at hq
                cases hc : ces.toList[q]? with
                | none => simp [hc] at hq
                | some x0 =>
                  have := g4 x0 (List.mem_of_getElem? hc)
                  simp [hc] at hq
                  subst hq
                  split <;> exact this
              · have : (ces.modify p fun e => { e with key := a.eval ky, val := a.eval y }).toList.map (·.born) = ces.toList.map (·.born) := by
                  rw [Array.toList_modify]
                  apply List.ext_getElem?
                  intro q
                  rw [List.getElem?_map, List.getElem?_map, List.getElem?_modify]
                  cases hc : ces.toList[q]? with
                  | none => simp
                  | some x0 => simp; split <;> rfl
                rw [this]; exact g5)
            refine .inr ⟨_, _, m, rfl, hex ?_, Ext.refl m, hput⟩
            simp [Instr.mapUpdate, run_underlying ht, hu, getObj_map g2, hck, hfk, e3', hkt, setObj_map _ g2]
        · rename_i hfd
          obtain ⟨r', hfk, q2⟩ := run_findKeyP hS hk hki hks rk hfd g3
          cases r' with
          | some pr => exact q2.elim
          | none =>
            have hput := hS.putBlk hg rfl hL (.map (ces.push { key := a.eval ky, val := a.eval y, born := clock }) (clock + 1)) (.map (es ++ [(ak.ev fr, ay.ev fr)]) true) (by
              refine ⟨_, clock + 1, setAt_same w _ _ hlt, ?_, ?_, ?_⟩
              · rw [Array.toList_push]
                exact EntR.append (e := { key := a.eval ky, val := a.eval y, born := clock }) rk ry g3
              · intro x hx
                rw [Array.toList_push, List.mem_append] at hx
                rcases hx with hx | hx
                · have := g4 x hx; omega
                · simp at hx; subst hx; simp
              · rw [Array.toList_push, List.map_append, List.nodup_append]
                refine ⟨g5, by simp, ?_⟩
                intro b hb b' hb' he
                obtain ⟨x, hx, rfl⟩ := List.mem_map.1 hb
                have := g4 x hx
                simp at hb'
                omega)
            refine .inr ⟨_, _, m, rfl, hex ?_, Ext.refl m, hput⟩
            simp [Instr.mapUpdate, run_underlying ht, hu, getObj_map g2, hck, hfk, setObj_map _ g2]
        · exact .inl rfl
      · exact .inl rfl
    · exact .inl rfl
def rPanicV (x : AX) : List V → St → AR := fun fr _ =>
  match x.ev fr with
  | .iface t v => .panic (.iface t v)
  | _ => .stuck
theorem ok_panicV {P : Program} {o : Oper} {x : Operand} {ax : AX} (ho : o.op = .panic x) (h : AX.of x = some ax) : OpOk P o (rPanicV ax) := by
  intro m S base w0 w fr a hS hf
  have rx := AX.of_rel h hf
  unfold rPanicV
  cases he : ax.ev fr with
  | iface t v =>
    rw [he] at rx
    obtain ⟨v', hu, hv⟩ := rx.iface_inv
    exact ⟨.iface t v', by simp [execOp, ho, hu, Instr.panic], by simp only [VR]; exact ⟨v', rfl, hv⟩⟩
  | _ => trivial
end Go.Th
end
