/- What the row of one statement stands on: a store, abstract code, functions of the program and their laws (ThD). -/
import Derived.Test.YtconjbbmdjaehaaGreatDoorThBC
import Derived.Laws.AppendOwn
import Derived.Laws.MakeOwn
import Derived.Laws.BytesString
import Derived.Laws.Strings

section
/- The abstract operations: what each does to the store, and that the program's operation does the same to the world. -/
namespace Go.Th
open Go.RowKit

inductive AR where
  | val (v : V) (S : St)
  | call (f : FuncId) (args : List V)
  | panic (v : V)
  | any (p : V → St → Prop)   -- one of these
  | stuck

def OpOk (P : Program) (o : Oper) (run : List V → St → AR) : Prop :=
  ∀ (m : LM) (S : St) (base : Nat) (w0 w : World) (fr : List V) (a : Act), Sim m S base w0 w → VRs m fr a.tmps.toList →
    match run fr S with
    | .val v S' => ∃ u w' m', (execOp a.eval o).run P w = .ok (.value u) w' ∧ Ext m m' ∧ Sim m' S' base w0 w' ∧ VR m' v u ∨
        ((execOp a.eval o).run P w = .ok .skip w' ∧ u = Go.undef ∧ Ext m m' ∧ Sim m' S' base w0 w' ∧ VR m' v u)
    | .call f args => ∃ args', VRs m args args'.toList ∧ ((f < P.funcs.size ∧ (execOp a.eval o).run P w = .ok (.enter f args') w) ∨ (P.funcs.size ≤ f ∧ (execOp a.eval o).run P w = (Instr.yield (f - P.funcs.size) args').run P w))
    | .panic v => ∃ u, (execOp a.eval o).run P w = .halt (.panic u) w ∧ VR m v u
    | .any p => ∃ v S' u w' m', p v S' ∧ (execOp a.eval o).run P w = .ok (.value u) w' ∧ Ext m m' ∧ Sim m' S' base w0 w' ∧ VR m' v u
    | .stuck => True

theorem OpOk.pure {P : Program} {o : Oper} {run : List V → St → AR}
    (h : ∀ (m : LM) (S : St) (base : Nat) (w0 w : World) (fr : List V) (a : Act), Sim m S base w0 w → VRs m fr a.tmps.toList →
      run fr S = .stuck ∨ ∃ v u, run fr S = .val v S ∧ (execOp a.eval o).run P w = .ok (.value u) w ∧ VR m v u) : OpOk P o run := by
  intro m S base w0 w fr a hS hf
  rcases h m S base w0 w fr a hS hf with e | ⟨v, u, e, hr, r⟩
  · rw [e]; trivial
  · rw [e]; exact ⟨u, w, m, .inl ⟨hr, Ext.refl m, hS, r⟩⟩

theorem OpOk.world {P : Program} {o : Oper} {run : List V → St → AR}
    (h : ∀ (m : LM) (S : St) (base : Nat) (w0 w : World) (fr : List V) (a : Act), Sim m S base w0 w → VRs m fr a.tmps.toList →
      run fr S = .stuck ∨ ∃ v u S' w' m', run fr S = .val v S' ∧ (execOp a.eval o).run P w = .ok (.value u) w' ∧ Ext m m' ∧ Sim m' S' base w0 w' ∧ VR m' v u) : OpOk P o run := by
  intro m S base w0 w fr a hS hf
  rcases h m S base w0 w fr a hS hf with e | ⟨v, u, S', w', m', e, hr, r⟩
  · rw [e]; trivial
  · rw [e]; exact ⟨u, w', m', .inl ⟨hr, r⟩⟩

theorem OpOk.unit {P : Program} {o : Oper} {run : List V → St → AR}
    (h : ∀ (m : LM) (S : St) (base : Nat) (w0 w : World) (fr : List V) (a : Act), Sim m S base w0 w → VRs m fr a.tmps.toList →
      run fr S = .stuck ∨ ∃ S' w' m', run fr S = .val .undef S' ∧ (execOp a.eval o).run P w = .ok .skip w' ∧ Ext m m' ∧ Sim m' S' base w0 w') : OpOk P o run := by
  intro m S base w0 w fr a hS hf
  rcases h m S base w0 w fr a hS hf with e | ⟨S', w', m', e, hr, hx, r⟩
  · rw [e]; trivial
  · rw [e]; exact ⟨Go.undef, w', m', .inr ⟨hr, rfl, hx, r, VR.undef m'⟩⟩

theorem OpOk.one {P : Program} {o : Oper} {run : List V → St → AR}
    (h : ∀ (m : LM) (S : St) (base : Nat) (w0 w : World) (fr : List V) (a : Act), Sim m S base w0 w → VRs m fr a.tmps.toList →
      run fr S = .stuck ∨ ∃ p v S' u w' m', run fr S = .any p ∧ p v S' ∧ (execOp a.eval o).run P w = .ok (.value u) w' ∧ Ext m m' ∧ Sim m' S' base w0 w' ∧ VR m' v u) : OpOk P o run := by
  intro m S base w0 w fr a hS hf
  rcases h m S base w0 w fr a hS hf with e | ⟨p, v, S', u, w', m', e, r⟩
  · rw [e]; trivial
  · rw [e]; exact ⟨v, S', u, w', m', r⟩

section inv
variable {m : LM} {u : Value}
theorem VR.int_inv {k : IntKind} {n : Int} (h : VR m (.int k n) u) : u = .int k n := by simpa only [VR] using h
theorem VR.bool_inv {b : Bool} (h : VR m (.bool b) u) : u = .bool b := by simpa only [VR] using h
theorem VR.str_inv {s : List UInt8} (h : VR m (.str s) u) : u = .string ⟨s.toArray⟩ := by simpa only [VR] using h
theorem VR.nilPtr_inv (h : VR m .nilPtr u) : u = .pointer none := by simpa only [VR] using h
theorem VR.ptr_inv {i o : Nat} (h : VR m (.ptr i o) u) : ∃ L, m i = some L ∧ u = .pointer (some ⟨L.block, L.off + o, none⟩) := by simpa only [VR] using h
theorem VR.nilSlice_inv (h : VR m .nilSlice u) : u = .slice none 0 0 := by simpa only [VR] using h
theorem VR.slice_inv {i o l c k : Nat} {t : Bool} (h : VR m (.slice i o l c k t) u) : ∃ L x c', m i = some L ∧ u = .slice (some x) l c' ∧ SliceOk L o l c k t x c' := by simpa only [VR] using h
theorem VR.nilMap_inv (h : VR m .nilMap u) : u = .map none := by simpa only [VR] using h
theorem VR.map_inv {i : Nat} (h : VR m (.map i) u) : ∃ L, m i = some L ∧ u = .map (some L.block) := by simpa only [VR] using h
theorem VR.func_inv {fn : Fn} {fs cs : List V} (h : VR m (.func fn fs cs) u) : ∃ fs' cs', u = .func fn fs' cs' ∧ VRs m fs fs'.toList ∧ VRs m cs cs'.toList := by simpa only [VR] using h
theorem VR.iface_inv {t : TypeId} {v : V} (h : VR m (.iface t v) u) : ∃ v', u = .iface t v' ∧ VR m v v' := by simpa only [VR] using h
theorem VR.agg_inv {cs : List V} (h : VR m (.agg cs) u) : ∃ cs', u = .agg cs' ∧ VRs m cs cs'.toList := by simpa only [VR] using h
theorem VR.tuple_inv {cs : List V} (h : VR m (.tuple cs) u) : ∃ cs', u = .tuple cs' ∧ VRs m cs cs'.toList := by simpa only [VR] using h
theorem VR.int_mk (m : LM) (k : IntKind) (n : Int) : VR m (.int k n) (.int k n) := by simp only [VR]
theorem VR.bool_mk (m : LM) (b : Bool) : VR m (.bool b) (.bool b) := by simp only [VR]
theorem VR.str_mk (m : LM) (s : List UInt8) : VR m (.str s) (.string ⟨s.toArray⟩) := by simp only [VR]
end inv

def rMove (x : AX) : List V → St → AR := fun fr S => .val (x.ev fr) S

theorem ok_move {P : Program} {o : Oper} {x : Operand} {ax : AX} (ho : o.op = .move x ∨ o.op = .assign x) (h : AX.of x = some ax) : OpOk P o (rMove ax) :=
  OpOk.pure fun m S base w0 w fr a hS hf => .inr ⟨_, a.eval x, rfl, by rcases ho with ho | ho <;> simp [execOp, ho], AX.of_rel h hf⟩

def rPick (c x y : AX) : List V → St → AR := fun fr S =>
  match c.ev fr with
  | .bool b => .val (if b then x.ev fr else y.ev fr) S
  | _ => .stuck

theorem ok_pick {P : Program} {o : Oper} {c x y : Operand} {ac ax ay : AX} (ho : o.op = .pick c x y) (hc : AX.of c = some ac) (hx : AX.of x = some ax) (hy : AX.of y = some ay) : OpOk P o (rPick ac ax ay) :=
  OpOk.pure fun m S base w0 w fr a hS hf => by
    have rc := AX.of_rel hc hf
    have rx := AX.of_rel hx hf
    have ry := AX.of_rel hy hf
    unfold rPick
    split
    · rename_i b hb
      rw [hb] at rc
      have := rc.bool_inv
      refine .inr ⟨_, if b then a.eval x else a.eval y, rfl, ?_, ?_⟩
      · simp only [execOp, ho, this]
        cases b <;> simp [asBool]
      · cases b <;> simp <;> assumption
    · exact .inl rfl

theorem heap_alloc_new' (w : World) (o : Obj) : (w.alloc o).heap[w.heap.size]? = some o := heap_alloc_new w o

theorem Sim.newCells {m : LM} {S : St} {base : Nat} {w0 w : World} (h : Sim m S base w0 w) {vs : List V} {cs : Array Value} (hr : VRs m vs (cs.toList.take vs.length)) (t : TypeId) (fz : Nat × Nat)
    (hfz : Unfz fz cs.size) :
    Sim (m.put S.next ⟨w.heap.size, 0, cs.size, true⟩) (S.new (.cells vs true)) base w0 (w.alloc (.cells cs t fz)) := by
  have hx : Ext m (m.put S.next ⟨w.heap.size, 0, cs.size, true⟩) := LM.ext_put _ (h.freshM _ (Nat.le_refl _))
  have hl : vs.length ≤ cs.size := by
    have := hr.length
    simp at this; omega
  refine h.newBlk _ _ _ rfl ⟨by simp, ?_, fun _ => by simpa using hl, fun _ => ⟨rfl, cs, t, fz, heap_alloc_new' w _, rfl, hfz⟩⟩
  intro j v hj
  have hjl : j < vs.length := by
    rcases Nat.lt_or_ge j vs.length with h' | h'
    · exact h'
    · simp [List.getElem?_eq_none h'] at hj
  obtain ⟨u, hu, r⟩ := hr.get hj
  refine ⟨u, ?_, VR.mono hx _ _ r⟩
  rw [List.getElem?_take, if_pos hjl] at hu
  simp only [World.cell?, heap_alloc_new', Nat.zero_add]
  simpa using hu

theorem Sim.newSeen {m : LM} {S : St} {base : Nat} {w0 w : World} (h : Sim m S base w0 w) {vs : List V} {cs : Array Value} (hr : VRs m vs (cs.toList.take vs.length)) (t : TypeId) (fz : Nat × Nat) :
    Sim (m.put S.next ⟨w.heap.size, 0, cs.size, true⟩) (S.new (.cells vs false)) base w0 (w.alloc (.cells cs t fz)) := by
  have hx : Ext m (m.put S.next ⟨w.heap.size, 0, cs.size, true⟩) := LM.ext_put _ (h.freshM _ (Nat.le_refl _))
  have hl : vs.length ≤ cs.size := by
    have := hr.length
    simp at this; omega
  refine h.newBlk _ _ _ rfl ⟨by simp, ?_, fun _ => by simpa using hl, fun h => by cases h⟩
  intro j v hj
  have hjl : j < vs.length := by
    rcases Nat.lt_or_ge j vs.length with h' | h'
    · exact h'
    · simp [List.getElem?_eq_none h'] at hj
  obtain ⟨u, hu, r⟩ := hr.get hj
  refine ⟨u, ?_, VR.mono hx _ _ r⟩
  rw [List.getElem?_take, if_pos hjl] at hu
  simp only [World.cell?, heap_alloc_new', Nat.zero_add]
  simpa using hu

theorem take_of_length {vs : List V} {us : List Value} (h : us.length = vs.length) : us.take vs.length = us := by rw [← h]; exact List.take_length

def rAlloc (zs : List V) : List V → St → AR := fun _ S => .val (.ptr S.next 0) (S.new (.cells zs true))

theorem ok_alloc {P : Program} {o : Oper} {e : TypeId} {i : TypeInfo} {z : Value} {zs : List V} (ho : o.op = .alloc e) (hi : P.info? e = some i) (hz : i.zero = some z) (hzs : V.ofPlains z.cells.toList = some zs) : OpOk P o (rAlloc zs) :=
  OpOk.world fun m S base w0 w fr a hS hf => by
    have hr : VRs m zs z.cells.toList := V.ofPlains_rel hzs
    refine .inr ⟨_, .pointer (some ⟨w.heap.size, 0, none⟩), _, w.alloc (.cells z.cells e), _, rfl, ?_, LM.ext_put _ (hS.freshM _ (Nat.le_refl _)),
      hS.newCells (by rw [take_of_length hr.length]; exact hr) e (0, 0) rfl, ?_⟩
    · simp [execOp, ho, Instr.alloc, zeroValue, typeInfo, hi, hz, newVar, newRow]
    · simp only [VR]
      exact ⟨_, LM.put_same m _ _, rfl⟩

theorem Sim.newObj {m : LM} {S : St} {base : Nat} {w0 w : World} (h : Sim m S base w0 w) {vs : List V} {cs : Array Value} (hr : VRs m vs cs.toList) (t : TypeId) :
    Sim (m.put S.next ⟨w.heap.size, 0, cs.size, true⟩) (S.new (.obj t vs.length vs)) base w0 (w.alloc (.cells cs t)) := by
  have hx : Ext m (m.put S.next ⟨w.heap.size, 0, cs.size, true⟩) := LM.ext_put _ (h.freshM _ (Nat.le_refl _))
  have hl : vs.length = cs.size := by
    have := hr.length
    simp at this; omega
  refine h.newBlk _ _ _ rfl ⟨⟨by simp, ?_, fun _ => by show 0 + vs.length ≤ cs.size; omega, fun _ => ⟨rfl, cs, t, (0, 0), heap_alloc_new' w _, rfl, rfl⟩⟩, ⟨rfl, hl⟩, cs, heap_alloc_new' w _⟩
  intro j v hj
  obtain ⟨u, hu, r⟩ := hr.get hj
  refine ⟨u, ?_, VR.mono hx _ _ r⟩
  simp only [World.cell?, heap_alloc_new', Nat.zero_add]
  simpa using hu
def rAllocT (t : TypeId) (zs : List V) : List V → St → AR := fun _ S => .val (.ptr S.next 0) (S.new (.obj t zs.length zs))
theorem ok_allocT {P : Program} {o : Oper} {e : TypeId} {i : TypeInfo} {z : Value} {zs : List V} (ho : o.op = .alloc e) (hi : P.info? e = some i) (hz : i.zero = some z) (hzs : V.ofPlains z.cells.toList = some zs) : OpOk P o (rAllocT e zs) :=
  OpOk.world fun m S base w0 w fr a hS hf => by
    have hr : VRs m zs z.cells.toList := V.ofPlains_rel hzs
    refine .inr ⟨_, .pointer (some ⟨w.heap.size, 0, none⟩), _, w.alloc (.cells z.cells e), _, rfl, ?_, LM.ext_put _ (hS.freshM _ (Nat.le_refl _)),
      hS.newObj hr e, ?_⟩
    · simp [execOp, ho, Instr.alloc, zeroValue, typeInfo, hi, hz, newVar, newRow]
    · simp only [VR]
      exact ⟨_, LM.put_same m _ _, rfl⟩

def rBox (x : AX) : List V → St → AR := fun fr S => .val (.ptr S.next 0) (S.new (.cells (x.ev fr).cells true))

theorem ok_box {P : Program} {o : Oper} {e : TypeId} {x : Operand} {ax : AX} (ho : o.op = .box e x) (hx : AX.of x = some ax) : OpOk P o (rBox ax) :=
  OpOk.world fun m S base w0 w fr a hS hf => by
    have hr := (AX.of_rel hx hf).cells
    refine .inr ⟨_, .pointer (some ⟨w.heap.size, 0, none⟩), _, w.alloc (.cells (a.eval x).cells e), _, rfl, ?_, LM.ext_put _ (hS.freshM _ (Nat.le_refl _)),
      hS.newCells (by rw [take_of_length hr.length]; exact hr) e (0, 0) rfl, ?_⟩
    · simp [execOp, ho, Instr.box, newVar, newRow]
    · simp only [VR]
      exact ⟨_, LM.put_same m _ _, rfl⟩

def rLoad1 (x : AX) : List V → St → AR := fun fr S =>
  match x.ev fr with
  | .ptr i o => match S.load1 i o with
    | some v => .val v S
    | none => .stuck
  | .glob g o => match S.gl1 g o with
    | some v => .val v S
    | none => .stuck
  | _ => .stuck

def rLoadN (n : Nat) (x : AX) : List V → St → AR := fun fr S =>
  match x.ev fr with
  | .ptr i o => match S.loads i o n with
    | some vs => .val (.agg vs) S
    | none => .stuck
  | _ => .stuck

def isAggD : TypeDesc → Bool
  | .struct _ | .array _ _ => true
  | _ => false

theorem run_isAgg {P : Program} {t : TypeId} {d : TypeDesc} (h : P.underlying t = some d) (w : World) : (isAgg t).run P w = .ok (isAggD d) w := by
  simp only [isAgg, Sem.run_bind, run_underlying h, Result.andThen_ok]
  cases d <;> simp [isAggD]

theorem Sim.load1 {m : LM} {S : St} {base : Nat} {w0 w : World} (h : Sim m S base w0 w) {i o : Nat} {v : V} (hv : S.load1 i o = some v) {L : Loc} (hL : m i = some L) :
    ∃ u, w.cell? ⟨L.block, L.off + o, none⟩ = some u ∧ VR m v u := by
  unfold St.load1 at hv
  split at hv
  · rename_i vs own hi
    obtain ⟨L', u, h1, h2, h3⟩ := h.cell hi hv
    rw [h1] at hL; cases hL
    exact ⟨u, h2, h3⟩
  · rename_i t n vs hi
    obtain ⟨L', h1, h2, _⟩ := h.blk i _ hi
    rw [h1] at hL; cases hL
    exact h2.1.2.1 o v hv
  · cases hv

theorem ok_load1 {P : Program} {o : Oper} {t : TypeId} {x : Operand} {ax : AX} {d : TypeDesc} (ho : o.op = .load t x) (hx : AX.of x = some ax) (hd : P.underlying t = some d) (ha : isAggD d = false) : OpOk P o (rLoad1 ax) :=
  OpOk.pure fun m S base w0 w fr a hS hf => by
    have rx := AX.of_rel hx hf
    unfold rLoad1
    split
    · rename_i i off he
      rw [he] at rx
      obtain ⟨L, hL, hu⟩ := rx.ptr_inv
      split
      · rename_i v hv
        obtain ⟨u, hc, r⟩ := hS.load1 hv hL
        refine .inr ⟨_, u, rfl, ?_, r⟩
        simp [execOp, ho, hu, Instr.loadAt, Instr.sureAddr, loadVar, run_isAgg hd, ha, hc]
      · exact .inl rfl
    · rename_i g off he
      rw [he] at rx
      have hu : a.eval x = .pointer (some ⟨g, off, none⟩) := by simpa only [VR] using rx
      split
      · rename_i v hv
        obtain ⟨u, hc, r⟩ := hS.gl1 hv
        refine .inr ⟨_, u, rfl, ?_, r⟩
        simp [execOp, ho, hu, Instr.loadAt, Instr.sureAddr, loadVar, run_isAgg hd, ha, hc]
      · exact .inl rfl
    · exact .inl rfl

theorem ok_loadN {P : Program} {o : Oper} {t : TypeId} {x : Operand} {ax : AX} {d : TypeDesc} {i : TypeInfo} (ho : o.op = .load t x) (hx : AX.of x = some ax) (hd : P.underlying t = some d) (ha : isAggD d = true)
    (hi : P.info? t = some i) : OpOk P o (rLoadN i.size ax) :=
  OpOk.pure fun m S base w0 w fr a hS hf => by
    have rx := AX.of_rel hx hf
    unfold rLoadN
    split
    · rename_i j off he
      rw [he] at rx
      obtain ⟨L, hL, hu⟩ := rx.ptr_inv
      split
      · rename_i vs hv
        obtain ⟨us, hc, r, _⟩ := hS.loads (P := P) hv hL
        refine .inr ⟨_, .agg us.toArray, rfl, ?_, ?_⟩
        · simp [execOp, ho, hu, Instr.loadAt, Instr.sureAddr, loadVar, run_isAgg hd, ha, sizeOf, typeInfo, hi, hc]
        · simp only [VR]; exact ⟨_, rfl, r⟩
      · exact .inl rfl
    · exact .inl rfl

def rStore (n : Nat) (x y : AX) : List V → St → AR := fun fr S =>
  match x.ev fr with
  | .ptr i o =>
    if (y.ev fr).cells.length = n then
      match S.stores i o (y.ev fr).cells with
      | some S' => .val .undef S'
      | none => .stuck
    else .stuck
  | _ => .stuck

theorem ok_store {P : Program} {o : Oper} {t : TypeId} {x y : Operand} {ax ay : AX} {i : TypeInfo} (ho : o.op = .store t x y) (hx : AX.of x = some ax) (hy : AX.of y = some ay) (hi : P.info? t = some i) : OpOk P o (rStore i.size ax ay) :=
  OpOk.unit fun m S base w0 w fr a hS hf => by
    have rx := AX.of_rel hx hf
    have ry := (AX.of_rel hy hf).cells
    unfold rStore
    split
    · rename_i j off he
      rw [he] at rx
      obtain ⟨L, hL, hu⟩ := rx.ptr_inv
      split
      · rename_i hn
        split
        · rename_i S' hs
          obtain ⟨w', hw, hS'⟩ := hS.stores (P := P) hs hL ry
          refine .inr ⟨S', w', m, rfl, ?_, Ext.refl m, hS'⟩
          have hl := ry.length
          rw [Array.length_toList] at hl
          simp [execOp, ho, hu, Instr.storeAt, Instr.sureAddr, storeVar, sizeOf, typeInfo, hi, hl, hn, hw]
        · exact .inl rfl
      · exact .inl rfl
    · exact .inl rfl

def rNilCheck (x : AX) : List V → St → AR := fun fr S =>
  match x.ev fr with
  | .ptr i o => .val (.ptr i o) S
  | .func (.func f) fs cs => .val (.func (.func f) fs cs) S
  | .iface t v => .val (.iface t v) S
  | _ => .stuck

theorem ok_nilCheck {P : Program} {o : Oper} {x : Operand} {ax : AX} (ho : o.op = .nilCheck x) (hx : AX.of x = some ax) : OpOk P o (rNilCheck ax) :=
  OpOk.pure fun m S base w0 w fr a hS hf => by
    have rx := AX.of_rel hx hf
    unfold rNilCheck
    split
    · rename_i i off he
      rw [he] at rx
      have r := rx
      obtain ⟨L, hL, hu⟩ := rx.ptr_inv
      exact .inr ⟨_, a.eval x, rfl, by simp [execOp, ho, hu], r⟩
    · rename_i f fs cs he
      rw [he] at rx
      have r := rx
      obtain ⟨fs', cs', hu, _⟩ := rx.func_inv
      exact .inr ⟨_, a.eval x, rfl, by simp [execOp, ho, hu], r⟩
    · rename_i t v he
      rw [he] at rx
      have r := rx
      obtain ⟨v', hu, _⟩ := rx.iface_inv
      exact .inr ⟨_, a.eval x, rfl, by simp [execOp, ho, hu], r⟩
    · exact .inl rfl

def intBits (op : BinOp) (k : IntKind) (x y : Int) : Int :=
  match op with
  | .and => k.wrap ((BitVec.ofInt k.bits x &&& BitVec.ofInt k.bits y).toNat)
  | .or => k.wrap ((BitVec.ofInt k.bits x ||| BitVec.ofInt k.bits y).toNat)
  | .xor => k.wrap ((BitVec.ofInt k.bits x ^^^ BitVec.ofInt k.bits y).toNat)
  | _ => k.wrap ((BitVec.ofInt k.bits x &&& ~~~(BitVec.ofInt k.bits y)).toNat)

def binV (op : BinOp) (x y : V) : Option V :=
  match x, y with
  | .int k a, .int k' b =>
    match op with
    | .shl => if b < 0 then none else some (.int k (k.wrap (a * 2 ^ (min b.toNat k.bits))))
    | .shr => if b < 0 then none else some (.int k (a.fdiv (2 ^ (min b.toNat k.bits))))
    | op =>
      if k ≠ k' then none else
      match op with
      | .add => some (.int k (k.wrap (a + b)))
      | .sub => some (.int k (k.wrap (a - b)))
      | .mul => some (.int k (k.wrap (a * b)))
      | .quo => if b = 0 then none else some (.int k (k.wrap (a.tdiv b)))
      | .rem => if b = 0 then none else some (.int k (a.tmod b))
      | .eql => some (.bool (decide (a = b)))
      | .neq => some (.bool (!decide (a = b)))
      | .lss => some (.bool (decide (a < b)))
      | .leq => some (.bool (decide (a ≤ b)))
      | .gtr => some (.bool (decide (b < a)))
      | .geq => some (.bool (decide (b ≤ a)))
      | op => some (.int k (intBits op k a b))
  | .str a, .str b =>
    match op with
    | .add => if a.length + b.length < 2 ^ 62 then some (.str (a ++ b)) else none
    | .eql => some (.bool (decide (a = b)))
    | .neq => some (.bool (!decide (a = b)))
    | .lss => some (.bool (Op.bytesLess a b))
    | .leq => some (.bool (Op.bytesLess a b || decide (a = b)))
    | .gtr => some (.bool (!(Op.bytesLess a b || decide (a = b))))
    | .geq => some (.bool (!Op.bytesLess a b))
    | _ => none
  | _, _ => none

theorem toList_mk (s : List UInt8) : (ByteArray.mk s.toArray).toList = s := by rw [ByteArray.toList_eq]
theorem size_mk (s : List UInt8) : (ByteArray.mk s.toArray).size = s.length := by simp [ByteArray.size]
theorem append_mk (s t : List UInt8) : ByteArray.mk s.toArray ++ ByteArray.mk t.toArray = ByteArray.mk (s ++ t).toArray := by
  apply ByteArray.ext
  simp

theorem beq_dec (a b : List UInt8) : (a == b) = decide (a = b) := by
  rw [Bool.eq_iff_iff]; simp

theorem run_binOp_plain {P : Program} {m : LM} {op : BinOp} {x y v : V} {a b : Value} (t : TypeId) (h : binV op x y = some v) (hx : VR m x a) (hy : VR m y b) (w : World) :
    ∃ u, (binOp op t a b).run P w = .ok u w ∧ VR m v u ∧ ((∃ k n, a = .int k n) ∨ ∃ s, a = .string s) := by
  unfold binV at h
  split at h
  · rename_i k n k' n'
    have ea := hx.int_inv; have eb := hy.int_inv
    subst ea; subst eb
    split at h
    · split at h
      · cases h
      · rename_i hn
        cases h
        refine ⟨_, ?_, VR.int_mk _ _ _, .inl ⟨_, _, rfl⟩⟩
        simp [binOp, Op.shift, hn]
    · split at h
      · cases h
      · rename_i hn
        cases h
        refine ⟨_, ?_, VR.int_mk _ _ _, .inl ⟨_, _, rfl⟩⟩
        simp [binOp, Op.shift, hn]
    · rename_i hshl hshr
      split at h
      · cases h
      · rename_i hk
        simp only [ne_eq, Decidable.not_not] at hk
        subst hk
        cases op
        case shl => exact absurd rfl hshl
        case shr => exact absurd rfl hshr
        case quo | rem =>
          dsimp only at h
          split at h
          · cases h
          · rename_i hn
            cases h
            refine ⟨_, ?_, VR.int_mk _ _ _, .inl ⟨_, _, rfl⟩⟩
            simp [binOp, Op.intDiv, hn]
        all_goals
          dsimp only at h
          simp only [Option.some.injEq] at h
          subst h
          refine ⟨_, ?_, (by first | exact VR.int_mk _ _ _ | exact VR.bool_mk _ _), .inl ⟨_, _, rfl⟩⟩
        all_goals simp [binOp, Op.intArith, Op.intBits, Op.intCmp, intBits]
        all_goals first | rfl | (congr 2; done) | skip
  · rename_i s s'
    have ea := hx.str_inv; have eb := hy.str_inv
    subst ea; subst eb
    cases op <;> simp only [reduceCtorEq] at h <;>
      first
      | (split at h
         · rename_i hn
           cases h
           refine ⟨_, ?_, VR.str_mk _ _, .inr ⟨_, rfl⟩⟩
           have hm : IntKind.i64.max = 9223372036854775807 := by decide
           have hn' : ¬ (9223372036854775807 < (s.length : Int) + (s'.length : Int)) := by omega
           simp [binOp, Op.stringOp, size_mk, append_mk, hm, hn']
         · cases h)
      | (simp only [Option.some.injEq] at h; subst h; refine ⟨_, ?_, VR.bool_mk _ _, .inr ⟨_, rfl⟩⟩; simp [binOp, Op.stringOp, beq_dec]; done)
  · cases h

def rBin (op : BinOp) (x y : AX) : List V → St → AR := fun fr S =>
  match binV op (x.ev fr) (y.ev fr) with
  | some v => .val v S
  | none => .stuck

theorem ok_bin {P : Program} {o : Oper} {op : BinOp} {t yt : TypeId} {x y : Operand} {ax ay : AX} (ho : o.op = .binOp op t x y yt) (hx : AX.of x = some ax) (hy : AX.of y = some ay) : OpOk P o (rBin op ax ay) :=
  OpOk.pure fun m S base w0 w fr a hS hf => by
    have rx := AX.of_rel hx hf
    have ry := AX.of_rel hy hf
    unfold rBin
    split
    · rename_i v hv
      obtain ⟨u, hr, r, hk⟩ := run_binOp_plain (P := P) t hv rx ry w
      refine .inr ⟨_, u, rfl, ?_, r⟩
      have hg : (eqGuard op t x y (a.eval x) (a.eval y)).run P w = .ok () w := by
        unfold eqGuard
        rcases hk with ⟨k, n, e⟩ | ⟨s, e⟩ <;> rw [e] <;> cases op <;> simp
      simp [execOp, ho, hg, hr]
    · exact .inl rfl

def unV (op : UnOp) (x : V) : Option V :=
  match op, x with
  | .neg, .int k n => some (.int k (k.wrap (0 - n)))
  | .xor, .int k n => some (.int k (intBits .xor k (if k.signed then -1 else k.max) n))
  | .not, .bool b => some (.bool (!b))
  | _, _ => none

def rUn (op : UnOp) (x : AX) : List V → St → AR := fun fr S =>
  match unV op (x.ev fr) with
  | some v => .val v S
  | none => .stuck

theorem ok_un {P : Program} {o : Oper} {op : UnOp} {t : TypeId} {x : Operand} {ax : AX} (ho : o.op = .unOp op t x) (hx : AX.of x = some ax) : OpOk P o (rUn op ax) :=
  OpOk.pure fun m S base w0 w fr a hS hf => by
    have rx := AX.of_rel hx hf
    unfold rUn
    split
    · rename_i v hv
      unfold unV at hv
      split at hv
      · rename_i k n he
        rw [he] at rx
        cases hv
        exact .inr ⟨_, _, rfl, by simp [execOp, ho, rx.int_inv, Op.unary, Op.intArith], VR.int_mk _ _ _⟩
      · rename_i k n he
        rw [he] at rx
        cases hv
        exact .inr ⟨_, _, rfl, by simp [execOp, ho, rx.int_inv, Op.unary, Op.intBits, intBits], VR.int_mk _ _ _⟩
      · rename_i b he
        rw [he] at rx
        cases hv
        exact .inr ⟨_, _, rfl, by simp [execOp, ho, rx.bool_inv, Op.unary], VR.bool_mk _ _⟩
      · cases hv
    · exact .inl rfl

end Go.Th
end
