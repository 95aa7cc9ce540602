/- What the row of one statement stands on: a store, abstract code, functions of the program and their laws (ThE). -/
import Derived.Test.YtconjbbmdjaehaaGreatDoorThBD
import Derived.MapKept
import Derived.Laws.Build

section
/- More abstract operations: conversions, slices, appends, copies, fields, indexes, maps, calls. -/
set_option linter.unusedSimpArgs false
set_option linter.unusedVariables false
namespace Go.Th
open Go.RowKit Go.Lib

def rConvInt (k : IntKind) (x : AX) : List V → St → AR := fun fr S =>
  match x.ev fr with
  | .int _ n => .val (.int k (k.wrap n)) S
  | _ => .stuck

theorem ok_convInt {P : Program} {o : Oper} {s d : TypeId} {k : IntKind} {sd : TypeDesc} {x : Operand} {ax : AX} (ho : o.op = .convert s d x) (hx : AX.of x = some ax) (hs : P.underlying s = some sd) (hd : P.underlying d = some (.int k)) : OpOk P o (rConvInt k ax) :=
  OpOk.pure fun m S base w0 w fr a hS hf => by
    have rx := AX.of_rel hx hf
    unfold rConvInt
    split
    · rename_i k' n he
      rw [he] at rx
      exact .inr ⟨_, _, rfl, by simp [execOp, ho, rx.int_inv, convert, run_underlying hs, run_underlying hd, Conv.intToInt], VR.int_mk _ _ _⟩
    · exact .inl rfl

def rConvStr (x : AX) : List V → St → AR := fun fr S =>
  match x.ev fr with
  | .str s => .val (.str s) S
  | _ => .stuck

theorem ok_convStr {P : Program} {o : Oper} {s d : TypeId} {sd : TypeDesc} {x : Operand} {ax : AX} (ho : o.op = .convert s d x) (hx : AX.of x = some ax) (hs : P.underlying s = some sd) (hd : P.underlying d = some .string) : OpOk P o (rConvStr ax) :=
  OpOk.pure fun m S base w0 w fr a hS hf => by
    have rx := AX.of_rel hx hf
    unfold rConvStr
    split
    · rename_i s he
      rw [he] at rx
      exact .inr ⟨_, _, rfl, by simp [execOp, ho, rx.str_inv, convert, run_underlying hs, run_underlying hd], VR.str_mk _ _⟩
    · exact .inl rfl

def bytesOf : List V → Option (List UInt8)
  | [] => some []
  | .int .u8 n :: r => (bytesOf r).map (UInt8.ofNat n.toNat :: ·)
  | _ => none

def rConvBS (x : AX) : List V → St → AR := fun fr S =>
  match x.ev fr with
  | .nilSlice => .val (.str []) S
  | .slice i o l _ 1 _ =>
    match S.loads i o l with
    | some vs => match bytesOf vs with
      | some s => .val (.str s) S
      | none => .stuck
    | none => .stuck
  | _ => .stuck

theorem bytesOf_rel {m : LM} : ∀ {vs : List V} {us : List Value} {s : List UInt8}, VRs m vs us → bytesOf vs = some s → ∃ ns : List Int, us = ns.map (Value.int .u8) ∧ s = ns.map fun n => UInt8.ofNat n.toNat
  | [], us, s, h, hb => by simp only [bytesOf, Option.some.injEq] at hb; subst hb; simp only [VRs] at h; exact ⟨[], h, rfl⟩
  | v :: vs, us, s, h, hb => by
    simp only [VRs] at h
    obtain ⟨u, us', rfl, h1, h2⟩ := h
    unfold bytesOf at hb
    split at hb
    · rename_i e; cases e
    · rename_i n r e
      cases e
      cases hr : bytesOf vs with
      | none => rw [hr] at hb; cases hb
      | some s' =>
        rw [hr] at hb; cases hb
        obtain ⟨ns, e1, e2⟩ := bytesOf_rel h2 hr
        exact ⟨n :: ns, by rw [h1.int_inv, e1]; rfl, by rw [e2]; rfl⟩
    · cases hb

theorem foldl_push_bytes' : ∀ (ns : List Int) (s : ByteArray), ns.foldl (fun r n => r.push (UInt8.ofNat n.toNat)) s = ⟨s.data ++ (ns.map fun n => UInt8.ofNat n.toNat).toArray⟩
  | [], s => by cases s; simp
  | n :: ns, s => by
    simp only [List.foldl_cons, foldl_push_bytes' ns]
    congr 1
    apply Array.ext'
    simp [ByteArray.push]

theorem slice_addr {L : Loc} {o l c k c' : Nat} {x : Addr} {t : Bool} (h : SliceOk L o l c k t x c') (hl : 0 < l) : x = ⟨L.block, L.off + o, none⟩ := h.place (by have := h.len_le; have := h.cap_le; omega)

theorem St.loads_zero {S : St} {i o : Nat} {vs : List V} (h : S.loads i o 0 = some vs) : vs = [] := by
  simpa [St.loads] using h.symm

theorem Sim.sliceCells {P : Program} {m : LM} {S : St} {base : Nat} {w0 w : World} (h : Sim m S base w0 w) {i o l c k n : Nat} {t : Bool} {L : Loc} {x : Addr} {c' : Nat} (hL : m i = some L) (hok : SliceOk L o l c k t x c')
    {vs : List V} (hv : S.loads i o n = some vs) (hn : n = 0 ∨ 0 < l) : ∃ us, (loadCells x n).run P w = .ok us.toArray w ∧ VRs m vs us ∧ us.length = n := by
  rcases Nat.eq_zero_or_pos n with e | e
  · subst e
    have := St.loads_zero hv
    subst this
    exact ⟨[], by simp [loadCells, loadCellsFrom], by simp [VRs], rfl⟩
  · have hx := slice_addr hok (by omega)
    subst hx
    obtain ⟨us, h1, h2, _, h4⟩ := h.loads (P := P) hv hL
    exact ⟨us, h1, h2, h4⟩

theorem ok_convBS {P : Program} {o : Oper} {s d e : TypeId} {x : Operand} {ax : AX} (ho : o.op = .convert s d x) (hx : AX.of x = some ax) (hs : P.underlying s = some (.slice e)) (he : P.underlying e = some (.int .u8)) (hd : P.underlying d = some .string) : OpOk P o (rConvBS ax) :=
  OpOk.pure fun m S base w0 w fr a hS hf => by
    have rx := AX.of_rel hx hf
    unfold rConvBS
    split
    · rename_i hev
      rw [hev] at rx
      refine .inr ⟨_, .string ⟨#[]⟩, rfl, ?_, VR.str_mk _ _⟩
      simp [execOp, ho, rx.nilSlice_inv, run_convert_bytes_string w s d e none 0 0 hs he hd, Conv.bytesToString]
      rfl
    · rename_i i off l c t hev
      rw [hev] at rx
      obtain ⟨L, y, c', hL, hu, hok⟩ := rx.slice_inv
      split
      · rename_i vs hv
        split
        · rename_i str hb
          obtain ⟨us, h1, h2, h3⟩ := hS.sliceCells (P := P) hL hok hv (by omega)
          obtain ⟨ns, e1, e2⟩ := bytesOf_rel h2 hb
          refine .inr ⟨_, _, rfl, ?_, VR.str_mk _ _⟩
          rw [e1] at h1
          have := run_bytesToString w y l c' ns h1
          simp only [execOp, ho, hu, Sem.run_bind, run_convert_bytes_string w s d e _ _ _ hs he hd, this, Result.andThen_ok, Sem.run_pure, foldl_push_bytes']
          subst e2
          rw [show ByteArray.empty.data = #[] from rfl, Array.empty_append]
        · exact .inl rfl
      · exact .inl rfl
    · exact .inl rfl

def bytesV (s : List UInt8) : List V := s.map fun b => .int .u8 b.toNat

def rConvSB (x : AX) : List V → St → AR := fun fr S =>
  match x.ev fr with
  | .str s => .val (.slice S.next 0 s.length s.length 1 false) (S.new (.cells (bytesV s) false))
  | _ => .stuck

theorem bytesV_rel (m : LM) : ∀ s : List UInt8, VRs m (bytesV s) (s.map fun b => Value.int .u8 b.toNat)
  | [] => by simp [bytesV, VRs]
  | b :: s => by
    simp only [bytesV, List.map_cons, VRs]
    exact ⟨_, _, rfl, VR.int_mk _ _ _, bytesV_rel m s⟩

theorem bytesWorld_eq (w : World) (e : TypeId) (s : ByteArray) : bytesWorld w e s = w.drew.alloc (.cells (bytesCells w e s) e ((bytesCells w e s).size, (bytesCells w e s).size + 1)) := by
  unfold bytesWorld World.freeze
  simp only [show (1 : Nat) ≠ 0 by decide, if_false]
  unfold World.alloc
  congr 1
  apply Array.ext_getElem?
  intro j
  rw [Array.getElem?_modify]
  have hz : w.drew.heap.size = w.heap.size := rfl
  by_cases hj : w.heap.size = j
  · subst hj
    rw [if_pos rfl, Array.getElem?_push, Array.getElem?_push, if_pos hz.symm, if_pos hz.symm]
    simp
  · rw [if_neg hj, Array.getElem?_push, Array.getElem?_push, if_neg (by omega), if_neg (by omega)]

theorem ok_convSB {P : Program} {o : Oper} {s d e : TypeId} {sd : TypeDesc} {x : Operand} {ax : AX} (ho : o.op = .convert s d x) (hx : AX.of x = some ax) (hs : P.underlying s = some sd) (hd : P.underlying d = some (.slice e)) (he : P.underlying e = some (.int .u8)) : OpOk P o (rConvSB ax) :=
  OpOk.world fun m S base w0 w fr a hS hf => by
    have rx := AX.of_rel hx hf
    unfold rConvSB
    split
    · rename_i str hev
      rw [hev] at rx
      have hu := rx.str_inv
      have hsz : (ByteArray.mk str.toArray).size = str.length := size_mk str
      have hge := grownCap_ge w (ByteArray.mk str.toArray).size 0 e
      have hcs : (bytesCells w e ⟨str.toArray⟩).toList = (str.map fun b => Value.int .u8 b.toNat) ++ List.replicate (grownCap w (ByteArray.mk str.toArray).size 0 e - (ByteArray.mk str.toArray).size) (.int .u8 0) := by
        simp [bytesCells]
      have hsize : (bytesCells w e ⟨str.toArray⟩).size = grownCap w (ByteArray.mk str.toArray).size 0 e := by
        rw [← Array.length_toList, hcs]; simp; omega
      refine .inr ⟨_, .slice (some ⟨w.heap.size, 0, none⟩) (ByteArray.mk str.toArray).size (grownCap w (ByteArray.mk str.toArray).size 0 e), _, bytesWorld w e ⟨str.toArray⟩, _, rfl, ?_,
        LM.ext_put ⟨w.heap.size, 0, (bytesCells w e ⟨str.toArray⟩).size, true⟩ (hS.freshM _ (Nat.le_refl _)), ?_, ?_⟩
      · simp [execOp, ho, hu, run_convert_string_bytes w s d e _ hs hd he]
      · rw [bytesWorld_eq]
        have := hS.draw.newSeen (vs := bytesV str) (cs := bytesCells w e ⟨str.toArray⟩) (by
          rw [hcs, List.take_append_of_le_length (by simp [bytesV])]
          rw [List.take_of_length_le (by simp [bytesV])]
          exact bytesV_rel m str) e ((bytesCells w e ⟨str.toArray⟩).size, (bytesCells w e ⟨str.toArray⟩).size + 1)
        exact this
      · simp only [VR]
        refine ⟨_, _, grownCap w (ByteArray.mk str.toArray).size 0 e, LM.put_same m _ _, by rw [hsz], ⟨Nat.le_refl _, by omega, by simp, fun _ => rfl, fun _ => rfl, fun _ _ => ?_, fun _ _ h => by omega⟩⟩
        simp [hsize]
    · exact .inl rfl

def rConvBB (_ : AX) : List V → St → AR := fun _ _ => .stuck

theorem ok_convBB {P : Program} {o : Oper} {ax : AX} : OpOk P o (rConvBB ax) := by
  intro m S base w0 w fr a hS hf
  trivial

def rMkFunc (fn : Fn) (first captured : List AX) : List V → St → AR := fun fr S => .val (.func fn (first.map (·.ev fr)) (captured.map (·.ev fr))) S

theorem ok_mkFunc {P : Program} {o : Oper} {fn : Fn} {fs cs : Array Operand} {afs acs : List AX} (ho : o.op = .makeFunc fn fs cs) (h1 : AX.ofs fs.toList = some afs) (h2 : AX.ofs cs.toList = some acs) : OpOk P o (rMkFunc fn afs acs) :=
  OpOk.pure fun m S base w0 w fr a hS hf => by
    refine .inr ⟨_, .func fn (fs.map a.eval) (cs.map a.eval), rfl, by simp [execOp, ho, Instr.makeFunc], ?_⟩
    simp only [VR]
    exact ⟨_, _, rfl, by simpa using AX.ofs_rel hf h1, by simpa using AX.ofs_rel hf h2⟩

def rMkMap : List V → St → AR := fun _ S => .val (.map S.next) (S.new (.map [] true))

theorem ok_mkMap {P : Program} {o : Oper} {t : TypeId} (ho : o.op = .makeMap t none) : OpOk P o rMkMap :=
  OpOk.world fun m S base w0 w fr a hS hf => by
    refine .inr ⟨_, .map (some w.heap.size), _, w.alloc (.map #[] 0), _, rfl, ?_, LM.ext_put ⟨w.heap.size, 0, 0, true⟩ (hS.freshM _ (Nat.le_refl _)), hS.newBlk _ _ _ rfl ?_, ?_⟩
    · simp [execOp, ho, Instr.makeMap]
    · exact ⟨#[], 0, heap_alloc_new w _, by simp [EntR], by simp, by simp⟩
    · simp only [VR]; exact ⟨_, LM.put_same m _ _, rfl⟩

def rMkIface (t : TypeId) (x : AX) : List V → St → AR := fun fr S => .val (.iface t (x.ev fr)) S

theorem ok_mkIface {P : Program} {o : Oper} {t : TypeId} {x : Operand} {ax : AX} (ho : o.op = .makeInterface t x) (hx : AX.of x = some ax) (ht : P.concrete t = true) : OpOk P o (rMkIface t ax) :=
  OpOk.pure fun m S base w0 w fr a hS hf => by
    refine .inr ⟨_, .iface t (a.eval x), rfl, by simp [execOp, ho, run_makeInterface w t _ ht], ?_⟩
    simp only [VR]
    exact ⟨_, rfl, AX.of_rel hx hf⟩

def reps (n : Nat) (zs : List V) : List V := (List.replicate n zs).flatten

def rMkSlice (k bytes : Nat) (zs : List V) (l c : AX) : List V → St → AR := fun fr S =>
  match l.ev fr, c.ev fr with
  | .int _ l, .int _ c =>
    if 0 ≤ l ∧ l ≤ c ∧ (bytes : Int) * c ≤ 281474976710656 ∧ c ≤ 9223372036854775807 then
      .val (.slice S.next 0 l.toNat c.toNat k true) (S.new (.cells (reps c.toNat zs) true))
    else .stuck
  | _, _ => .stuck

theorem reps_rel {m : LM} {zs : List V} {us : List Value} (h : VRs m zs us) : ∀ n, VRs m (reps n zs) (List.replicate n us).flatten
  | 0 => by simp [reps, VRs]
  | n + 1 => by
    have := reps_rel h n
    simp only [reps, List.replicate_succ, List.flatten_cons] at this ⊢
    exact h.append this

theorem madeCells_eq (z : Array Value) (n : Nat) : (madeCells z (n * z.size)).toList = (List.replicate n z.toList).flatten := by
  by_cases hz : z.size = 0
  · have : z.toList = [] := by rw [← List.length_eq_zero_iff, Array.length_toList]; exact hz
    have e0 : n * z.size = 0 := by rw [hz]; simp
    rw [e0, this]
    simp [madeCells]
  · apply List.ext_getElem?
    intro j
    have hl : (List.replicate n z.toList).flatten.length = n * z.size := by simp
    by_cases hj : j < n * z.size
    · have h1 : (madeCells z (n * z.size)).toList[j]? = some (z[j % z.size]!) := by
        simp [madeCells, hj]
      rw [h1]
      have hmod : j % z.size < z.size := Nat.mod_lt _ (by omega)
      clear h1 hl
      induction n generalizing j with
      | zero => simp at hj
      | succ n ih =>
        rw [List.replicate_succ, List.flatten_cons]
        by_cases hlt : j < z.size
        · rw [List.getElem?_append_left (by simpa using hlt)]
          rw [Nat.mod_eq_of_lt hlt]
          simp [hlt]
        · rw [List.getElem?_append_right (by simp; omega)]
          rw [Array.length_toList]
          have hm : (j - z.size) % z.size = j % z.size := by
            rw [Nat.mod_eq_sub_mod (by omega : z.size ≤ j)]
          have := ih (j - z.size) (by rw [Nat.succ_mul] at hj; omega) (by rw [hm]; exact hmod)
          rw [hm] at this
          exact this
    · rw [List.getElem?_eq_none (by simp [madeCells]; omega), List.getElem?_eq_none (by rw [hl]; omega)]

theorem ok_mkSlice {P : Program} {o : Oper} {t e : TypeId} {l c : Operand} {al ac : AX} {i : TypeInfo} {z : Value} {zs : List V} (ho : o.op = .makeSlice t l c) (hl : AX.of l = some al) (hc : AX.of c = some ac)
    (ht : P.underlying t = some (.slice e)) (hi : P.info? e = some i) (hz : i.zero = some z) (hzs : V.ofPlains z.cells.toList = some zs) (hsz : z.cells.size = i.size) : OpOk P o (rMkSlice i.size i.bytes zs al ac) :=
  OpOk.world fun m S base w0 w fr a hS hf => by
    have rl := AX.of_rel hl hf
    have rc := AX.of_rel hc hf
    unfold rMkSlice
    split
    · rename_i kl l' kc c' hel hec
      rw [hel] at rl; rw [hec] at rc
      split
      · rename_i hcond
        obtain ⟨h0, h1, h2, h3⟩ := hcond
        have hr : VRs m zs z.cells.toList := V.ofPlains_rel hzs
        have hm := madeCells_eq z.cells c'.toNat
        rw [hsz] at hm
        have hms : (madeCells z.cells (c'.toNat * i.size)).size = c'.toNat * i.size := size_madeCells _ _
        refine .inr ⟨_, .slice (some ⟨w.heap.size, 0, none⟩) l'.toNat c'.toNat, _, w.alloc (.cells (madeCells z.cells (c'.toNat * i.size)) e), _, rfl, ?_, LM.ext_put _ (hS.freshM _ (Nat.le_refl _)),
          hS.newCells (vs := reps c'.toNat zs) ?_ e (0, 0) rfl, ?_⟩
        · simp [execOp, ho, rl.int_inv, rc.int_inv, run_make w t e i z ht hi hz kl kc l' c' h0 h1 h2 h3]
        · have hrr := reps_rel hr c'.toNat
          rw [hm, take_of_length hrr.length]
          exact hrr
        · simp only [VR]
          refine ⟨_, _, c'.toNat, LM.put_same m _ _, rfl, ⟨by omega, Nat.le_refl _, fun _ => rfl, fun _ => rfl, fun _ => rfl, fun _ _ => ?_, fun _ h => by cases h⟩⟩
          simp [hms]
      · exact .inl rfl
    · exact .inl rfl

def fillV : List V → List (Nat × Nat × V) → Option (List V)
  | cs, [] => some cs
  | cs, (off, size, v) :: r => if v.cells.length = size ∧ off + size ≤ cs.length then fillV (over cs off v.cells) r else none

theorem foldl_set_rel {m : LM} : ∀ (vs : List V) (us : List Value) (cs : List V) (acc : Array Value) (off j0 : Nat), VRs m vs us → VRs m cs acc.toList → off + j0 + vs.length ≤ cs.length →
    VRs m (over cs (off + j0) vs) (((us.zipIdx j0).foldl (fun cs (x : Value × Nat) => cs.setIfInBounds (off + x.2) x.1) acc).toList)
  | [], us, cs, acc, off, j0, hv, hc, hl => by
    simp only [VRs] at hv; subst hv
    rw [over_nil]
    simpa using hc
  | v :: vs, us, cs, acc, off, j0, hv, hc, hl => by
    simp only [VRs] at hv
    obtain ⟨u, us', rfl, h0, h1⟩ := hv
    simp only [List.zipIdx_cons, List.foldl_cons]
    have hstep : VRs m (over cs (off + j0) [v]) (acc.setIfInBounds (off + j0) u).toList := by
      apply VRs.of_get
      · rw [over_length]; simpa using hc.length
      · intro j x hj
        rw [over_get cs (off + j0) [v] j (by simp at hl ⊢; omega)] at hj
        by_cases hjj : off + j0 ≤ j ∧ j < off + j0 + [v].length
        · rw [if_pos hjj] at hj
          have e : j = off + j0 := by simp at hjj; omega
          subst e
          simp at hj; subst hj
          have hsz : off + j0 < acc.size := by have := hc.length; simp at this hl; omega
          exact ⟨u, by simp [hsz], h0⟩
        · rw [if_neg hjj] at hj
          obtain ⟨u', hu', r⟩ := hc.get hj
          refine ⟨u', ?_, r⟩
          have hne : off + j0 ≠ j := by intro e; simp at hjj; omega
          rw [Array.toList_setIfInBounds, List.getElem?_set_ne hne]
          exact hu'
    have := foldl_set_rel vs us' (over cs (off + j0) [v]) (acc.setIfInBounds (off + j0) u) off (j0 + 1) h1 hstep (by rw [over_length]; simp at hl; omega)
    have hov : over (over cs (off + j0) [v]) (off + (j0 + 1)) vs = over cs (off + j0) (v :: vs) := by
      apply List.ext_getElem?
      intro j
      rw [over_get _ _ _ _ (by rw [over_length]; simp at hl; omega), over_get _ _ _ _ (by simp at hl ⊢; omega), over_get _ _ _ _ (by simp at hl ⊢; omega)]
      by_cases h1 : off + (j0 + 1) ≤ j ∧ j < off + (j0 + 1) + vs.length
      · rw [if_pos h1, if_pos (by simp; omega)]
        have : j - (off + j0) = (j - (off + (j0 + 1))) + 1 := by omega
        rw [this, List.getElem?_cons_succ]
      · rw [if_neg h1]
        by_cases h2 : off + j0 ≤ j ∧ j < off + j0 + [v].length
        · have e : j = off + j0 := by simp at h2; omega
          rw [if_pos h2, if_pos (by simp; omega), e]
          simp
        · rw [if_neg h2, if_neg (by simp at h1 h2 ⊢; omega)]
    rw [hov] at this
    exact this

theorem fill_rel {m : LM} {place : Nat → Option (Nat × Nat)} : ∀ (parts : List (Nat × Nat × V)) (us : List (Nat × Value)) (cs cs' : List V) (acc : Array Value), fillV cs parts = some cs' → VRs m cs acc.toList →
    us.length = parts.length → (∀ (j : Nat) (p : Nat × Nat × V), parts[j]? = some p → ∃ q : Nat × Value, us[j]? = some q ∧ place q.1 = some (p.1, p.2.1) ∧ VR m p.2.2 q.2) →
    ∃ acc', Instr.fill place acc us = some acc' ∧ VRs m cs' acc'.toList
  | [], us, cs, cs', acc, hf, hc, hl, h => by
    simp only [fillV, Option.some.injEq] at hf; subst hf
    have : us = [] := List.length_eq_zero_iff.mp (by simpa using hl)
    subst this
    exact ⟨acc, rfl, hc⟩
  | (off, size, v) :: r, us, cs, cs', acc, hf, hc, hl, h => by
    simp only [fillV] at hf
    split at hf
    · rename_i hcond
      obtain ⟨hs, hle⟩ := hcond
      cases us with
      | nil => simp at hl
      | cons q us' =>
        obtain ⟨q', hq, hp, hr⟩ := h 0 _ rfl
        simp at hq; subst hq
        have hcells := hr.cells
        have hlen := hcells.length
        have hz := foldl_set_rel v.cells q.2.cells.toList cs acc off 0 hcells hc (by omega)
        obtain ⟨acc', h1, h2⟩ := fill_rel r us' _ cs' _ hf (by simpa using hz) (by simpa using hl) (fun j p hj => by simpa using h (j + 1) p (by simpa using hj))
        refine ⟨acc', ?_, h2⟩
        obtain ⟨qi, qv⟩ := q
        simp only [Instr.fill, hp]
        have hsz : qv.cells.size = size := by rw [Array.length_toList] at hlen; simp at hlen; omega
        have hacc : acc.size = cs.length := by have := hc.length; simpa using this
        rw [if_neg (by simp [hsz, hacc]; omega)]
        rw [← h1]
        congr 1
        rw [← Array.foldl_toList]
        simp
    · cases hf

def rBuild (zs : List V) (parts : List (Nat × Nat × AX)) : List V → St → AR := fun fr S =>
  match fillV zs (parts.map fun p => (p.1, p.2.1, p.2.2.ev fr)) with
  | some cs => .val (.agg cs) S
  | none => .stuck

def partsOf (place : Nat → Option (Nat × Nat)) : List (Nat × Operand) → Option (List (Nat × Nat × AX))
  | [] => some []
  | (i, x) :: r => match place i, AX.of x, partsOf place r with
    | some (off, size), some ax, some l => some ((off, size, ax) :: l)
    | _, _, _ => none

theorem partsOf_rel {m : LM} {fr : List V} {a : Act} (hf : VRs m fr a.tmps.toList) {place : Nat → Option (Nat × Nat)} : ∀ {ps : List (Nat × Operand)} {l : List (Nat × Nat × AX)}, partsOf place ps = some l →
    ps.length = l.length ∧ ∀ (j : Nat) (p : Nat × Nat × V), (l.map fun p => (p.1, p.2.1, p.2.2.ev fr))[j]? = some p → ∃ q : Nat × Value, (ps.map fun (x : Nat × Operand) => (x.1, a.eval x.2))[j]? = some q ∧ place q.1 = some (p.1, p.2.1) ∧ VR m p.2.2 q.2
  | [], l, h => by simp only [partsOf, Option.some.injEq] at h; subst h; simp
  | (i, x) :: r, l, h => by
    simp only [partsOf] at h
    split at h
    · rename_i off size ax l' h1 h2 h3
      cases h
      obtain ⟨g1, g2⟩ := partsOf_rel hf h3
      refine ⟨by simp [g1], fun j p hj => ?_⟩
      cases j with
      | zero =>
        simp at hj; subst hj
        exact ⟨_, rfl, h1, AX.of_rel h2 hf⟩
      | succ j =>
        simp only [List.map_cons, List.getElem?_cons_succ] at hj ⊢
        exact g2 j p hj
    · cases h

def buildInfo (P : Program) (t : TypeId) : Option (List V × (Nat → Option (Nat × Nat))) :=
  match P.info? t, P.underlying t with
  | some it, some (.array _ e) =>
    match it.zero, P.info? e with
    | some z, some ie => (V.ofPlains z.cells.toList).map fun zs => (zs, fun i => some (i * ie.size, ie.size))
    | _, _ => none
  | some it, some (.struct fields) =>
    match it.zero, fields.toList.mapM (fun f => (P.info? f.type).map fun i => (f.offset, i.size)) with
    | some z, some places => (V.ofPlains z.cells.toList).map fun zs => (zs, (places.toArray[·]?))
    | _, _ => none
  | _, _ => none

theorem buildInfo_ok {P : Program} {t : TypeId} {zs : List V} {place : Nat → Option (Nat × Nat)} (h : buildInfo P t = some (zs, place)) :
    ∃ z : Value, V.ofPlains z.cells.toList = some zs ∧ ∀ us, P.built t us = Instr.fill place z.cells us := by
  unfold buildInfo at h
  unfold Program.built
  cases hi : P.info? t with
  | none => simp [hi] at h
  | some it =>
    cases hu : P.underlying t with
    | none => simp [hi, hu] at h
    | some d =>
      cases d <;> simp only [hi, hu] at h <;> try (cases h; done)
      case array n e =>
        split at h
        · rename_i z ie hz hie
          cases hp : V.ofPlains z.cells.toList with
          | none => simp [hp] at h
          | some zs' =>
            simp [hp] at h
            obtain ⟨rfl, rfl⟩ := h
            exact ⟨z, hp, fun us => by simp [hz, hie]⟩
        · cases h
      case struct fields =>
        split at h
        · rename_i z places hz hpl
          cases hp : V.ofPlains z.cells.toList with
          | none => simp [hp] at h
          | some zs' =>
            simp [hp] at h
            obtain ⟨rfl, rfl⟩ := h
            exact ⟨z, hp, fun us => by simp [hz, hpl]⟩
        · cases h

theorem ok_build {P : Program} {o : Oper} {t : TypeId} {parts : Array (Nat × Operand)} {zs : List V} {place : Nat → Option (Nat × Nat)} {l : List (Nat × Nat × AX)} (ho : o.op = .build t parts)
    (hb : buildInfo P t = some (zs, place)) (hp : partsOf place parts.toList = some l) : OpOk P o (rBuild zs l) :=
  OpOk.pure fun m S base w0 w fr a hS hf => by
    obtain ⟨z, hz, hbu⟩ := buildInfo_ok hb
    obtain ⟨h1, h2⟩ := partsOf_rel hf hp
    unfold rBuild
    split
    · rename_i cs hc
      obtain ⟨acc', g1, g2⟩ := fill_rel (m := m) (place := place) _ (parts.toList.map fun (x : Nat × Operand) => (x.1, a.eval x.2)) zs cs z.cells hc (V.ofPlains_rel hz) (by simpa using h1) h2
      refine .inr ⟨_, .agg acc', rfl, ?_, by simp only [VR]; exact ⟨_, rfl, g2⟩⟩
      have hb2 : P.built t (parts.map fun (x : Nat × Operand) => (x.1, a.eval x.2)).toList = some acc' := by
        rw [hbu, Array.toList_map]; exact g1
      simp [execOp, ho, run_build w t _ acc' hb2]
    · exact .inl rfl

def rBuildSlice (k n : Nat) (zs : List V) (parts : List (Nat × Nat × AX)) : List V → St → AR := fun fr S =>
  match fillV zs (parts.map fun p => (p.1, p.2.1, p.2.2.ev fr)) with
  | some cs => .val (.slice S.next 0 n n k true) (S.new (.cells cs true))
  | none => .stuck

theorem fillV_length : ∀ {ps : List (Nat × Nat × V)} {cs cs' : List V}, fillV cs ps = some cs' → cs'.length = cs.length
  | [], cs, cs', h => by simp only [fillV, Option.some.injEq] at h; rw [h]
  | (off, size, v) :: r, cs, cs', h => by
    simp only [fillV] at h
    split at h
    · rw [fillV_length h, over_length]
    · cases h

theorem ok_buildSlice {P : Program} {o : Oper} {t e : TypeId} {n : Nat} {parts : Array (Nat × Operand)} {i : TypeInfo} {z : Value} {zs : List V} {l : List (Nat × Nat × AX)} (ho : o.op = .buildSlice t n parts)
    (ht : P.underlying t = some (.slice e)) (hi : P.info? e = some i) (hz : i.zero = some z) (hzs : V.ofPlains z.cells.toList = some zs) (hsz : z.cells.size = i.size) (hn : n * i.size ≤ 16777216)
    (hp : partsOf (fun j => some (j * i.size, i.size)) parts.toList = some l) : OpOk P o (rBuildSlice i.size n (reps n zs) l) :=
  OpOk.world fun m S base w0 w fr a hS hf => by
    obtain ⟨h1, h2⟩ := partsOf_rel hf hp
    unfold rBuildSlice
    split
    · rename_i cs hc
      have hr : VRs m zs z.cells.toList := V.ofPlains_rel hzs
      have hm := madeCells_eq z.cells n
      rw [hsz] at hm
      have hrr := reps_rel hr n
      rw [← hm] at hrr
      obtain ⟨acc', g1, g2⟩ := fill_rel (m := m) (place := fun j => some (j * i.size, i.size)) _ (parts.toList.map fun (x : Nat × Operand) => (x.1, a.eval x.2)) _ cs (madeCells z.cells (n * i.size)) hc hrr (by simpa using h1) h2
      have hlen : acc'.size = n * i.size := by
        have e1 := g2.length
        have e2 := fillV_length hc
        have e3 := hrr.length
        simp only [Array.length_toList] at e1 e3
        rw [size_madeCells] at e3
        omega
      refine .inr ⟨_, .slice (some ⟨w.heap.size, 0, none⟩) n n, _, w.alloc (.cells acc' e), _, rfl, ?_, LM.ext_put _ (hS.freshM _ (Nat.le_refl _)),
        hS.newCells (vs := cs) (by rw [take_of_length g2.length]; exact g2) e (0, 0) rfl, ?_⟩
      · have hn' : ¬ (16777216 < n * i.size) := by omega
        by_cases h0 : n * i.size = 0
        · have hm0 : madeCells z.cells (n * i.size) = #[] := by rw [h0]; simp [madeCells]
          rw [hm0] at g1
          have : Instr.fill (fun j => some (j * i.size, i.size)) #[] (parts.map fun (x : Nat × Operand) => (x.1, a.eval x.2)).toList = some acc' := by rw [Array.toList_map]; exact g1
          simp [execOp, ho, Instr.buildSlice, run_underlying ht, sizeOf, typeInfo, hi, h0, newRow, Array.range_zero', this] at *
          simp [this]
        · have : Instr.fill (fun j => some (j * i.size, i.size)) (madeCells z.cells (n * i.size)) (parts.map fun (x : Nat × Operand) => (x.1, a.eval x.2)).toList = some acc' := by rw [Array.toList_map]; exact g1
          unfold madeCells at this
          simp [execOp, ho, Instr.buildSlice, run_underlying ht, sizeOf, typeInfo, hi, hz, zeroValue, hn', h0, newRow] at *
          simp [this]
      · simp only [VR]
        exact ⟨_, _, n, LM.put_same m _ _, rfl, ⟨Nat.le_refl _, Nat.le_refl _, fun _ => rfl, fun _ => rfl, fun _ => rfl, fun _ _ => by simp [hlen], fun _ h => by cases h⟩⟩
    · exact .inl rfl

end Go.Th
end
