/- What the row of one statement stands on: a store, abstract code, functions of the program and their laws (ThH). -/
import Derived.Test.YtdpehfhhbmmhjaaThBTopkOrder7

section
/- Copy, maps, calls. -/
set_option linter.unusedSimpArgs false
set_option linter.unusedVariables false
namespace Go.Th
open Go.RowKit Go.Lib

/-! ## copy -/
def rCopy (k : Nat) (x y : AX) : List V → St → AR := fun fr S =>
  match srcV k S (y.ev fr) with
  | none => .stuck
  | some (n, news) =>
    match x.ev fr with
    | .nilSlice => .val (.int .i64 0) S
    | .slice i o l _ k' _ =>
      if k' ≠ k then .stuck
      else if min n l = 0 then .val (.int .i64 0) S
      else match S.stores i o (news.take (min n l * k)) with
        | some S' => .val (.int .i64 (min n l : Nat)) S'
        | none => .stuck
    | _ => .stuck

theorem firstCells_less {P : Program} {m : LM} {S : St} {base : Nat} {w0 w : World} (hS : Sim m S base w0 w) {k n n' : Nat} {y : V} {vs : List V} {u : Value} (hy : srcV k S y = some (n, vs)) (hr : VR m y u) (hn : n' ≤ n) :
    ∃ us, (Builtin.firstCells k n' u).run P w = .ok us.toArray w ∧ VRs m (vs.take (n' * k)) us := by
  unfold srcV at hy
  split at hy
  · cases hy
    rw [hr.nilSlice_inv]
    exact ⟨[], by simp [Builtin.firstCells], by simp [VRs]⟩
  · rename_i i o l c k' t
    split at hy
    · rename_i hk
      subst hk
      cases hl : S.loads i o (l * k') with
      | none => rw [hl] at hy; cases hy
      | some vs' =>
        rw [hl] at hy; cases hy
        obtain ⟨L, x, c', hL, hu, hok⟩ := hr.slice_inv
        subst hu
        by_cases h0 : n' = 0
        · subst h0
          exact ⟨[], by simp [Builtin.firstCells, loadCells, loadCellsFrom], by simp [VRs]⟩
        · have hx := slice_addr hok (by omega)
          subst hx
          have hl' : S.loads i o (n' * k') = some (vs.take (n' * k')) := by
            have hle : n' * k' ≤ n * k' := Nat.mul_le_mul_right _ hn
            by_cases hz : n * k' = 0
            · have hz' : n' * k' = 0 := by omega
              rw [hz] at hl
              rw [hz', St.loads_zero hl]
              simp [St.loads]
            · obtain ⟨cs, own, hg, h1, rfl⟩ := St.loads_pos hl (by omega)
              rw [St.loads_of hg (by omega), List.take_take, Nat.min_eq_left hle]
          obtain ⟨us, h1, h2, _⟩ := hS.loads (P := P) hl' hL
          exact ⟨us, by simpa [Builtin.firstCells] using h1, h2⟩
    · cases hy
  · rename_i s
    split at hy
    · rename_i hk
      subst hk
      cases hy
      rw [hr.str_inv]
      refine ⟨(s.take n').map fun b => Value.int .u8 b.toNat, ?_, ?_⟩
      · simp only [Builtin.firstCells, Sem.run_pure, extract_mk]
        congr 1
        apply Array.ext'
        simp
      · have : (bytesV s).take (n' * 1) = bytesV (s.take n') := by simp [bytesV, List.map_take]
        rw [this]; exact bytesV_rel m _
    · cases hy
  · cases hy

theorem ok_copy {P : Program} {o : Oper} {s u e : TypeId} {x y : Operand} {ax ay : AX} {i : TypeInfo} (ho : o.op = .call ⟨.builtin .copy, #[x, y], #[s, u]⟩) (hx : AX.of x = some ax) (hy : AX.of y = some ay)
    (hs : P.underlying s = some (.slice e)) (hi : P.info? e = some i) : OpOk P o (rCopy i.size ax ay) :=
  OpOk.world fun m S base w0 w fr a hS hf => by
    have rx := AX.of_rel hx hf
    have ry := AX.of_rel hy hf
    have hex : ∀ {v : Value} {w' : World}, (Builtin.copy_ #[s, u] o.type #[a.eval x, a.eval y]).run P w = .ok v w' → (execOp a.eval o).run P w = .ok (.value v) w' := by
      intro v w' h
      obtain ⟨cs, hcs⟩ := exec_builtin (P := P) (a := a) ho w
      rw [hcs]
      have : (#[x, y].map a.eval) = #[a.eval x, a.eval y] := by simp
      rw [this]
      simp only [builtin, Sem.run_bind, h, Result.andThen_ok, Sem.run_pure]
    unfold rCopy
    split
    · exact .inl rfl
    · rename_i n news hsrc
      obtain ⟨hlen, _⟩ := srcV_rel (P := P) hS hsrc ry
      split
      · rename_i hev
        rw [hev] at rx
        obtain ⟨us, hc, _⟩ := firstCells_less (P := P) (n' := Nat.min n 0) hS hsrc ry (Nat.min_le_left _ _)
        refine .inr ⟨_, .int .i64 0, S, w, m, rfl, hex ?_, Ext.refl m, hS, VR.int_mk _ _ _⟩
        simp only [Nat.min_zero] at hc
        simp [Builtin.copy_, run_underlying hs, rx.nilSlice_inv, hlen, sizeOf, typeInfo, hi, hc, goInt]
      · rename_i j off l c k' t hev
        rw [hev] at rx
        split
        · exact .inl rfl
        · rename_i hk
          simp only [ne_eq, Decidable.not_not] at hk
          subst hk
          obtain ⟨L, x', cap', hL, hxe, hok⟩ := rx.slice_inv
          obtain ⟨us, hc, hus⟩ := firstCells_less (P := P) (n' := Nat.min n l) hS hsrc ry (Nat.min_le_left _ _)
          split
          · rename_i h0
            have h0' : Nat.min n l = 0 := h0
            rw [h0'] at hc hus
            have : us = [] := by simpa [VRs] using hus
            subst this
            refine .inr ⟨_, .int .i64 0, S, w, m, rfl, hex ?_, Ext.refl m, hS, VR.int_mk _ _ _⟩
            simp [Builtin.copy_, run_underlying hs, hxe, hlen, sizeOf, typeInfo, hi, h0', hc, goInt, storeCells]
          · rename_i h0
            split
            · rename_i S' hst
              have hx' : x' = ⟨L.block, L.off + off, none⟩ := hok.place (by have := hok.len_le; have := hok.cap_le; omega)
              subst hx'
              obtain ⟨w', hw, hS'⟩ := hS.stores (P := P) hst hL hus
              refine .inr ⟨_, .int .i64 (min n l : Nat), S', w', m, rfl, hex ?_, Ext.refl m, hS', VR.int_mk _ _ _⟩
              simp [Builtin.copy_, run_underlying hs, hxe, hlen, sizeOf, typeInfo, hi, hc, goInt, hw]
            · exact .inl rfl
      · exact .inl rfl

/-! ## maps -/
def sameV : V → V → Option Bool
  | .int k a, .int k' b => if k = k' then some (decide (a = b)) else none
  | .str a, .str b => some (decide (a = b))
  | _, _ => none

/-- Where a key stands. -/
def findV (key : V) : List (V × V) → Nat → Option (Option (Nat × V))
  | [], _ => some none
  | (k, v) :: r, i =>
    match sameV key k with
    | some true => some (some (i, v))
    | some false => findV key r (i + 1)
    | none => none

def keyKind : TypeDesc → Nat
  | .int _ => 1
  | .string => 2
  | _ => 0

def keyFit : Nat → V → Bool
  | 1, .int _ _ => true
  | 2, .str _ => true
  | _, _ => false

theorem sameV_rel {m : LM} {d : TypeDesc} {x y : V} {a b : Value} {r : Bool} (h : sameV x y = some r) (hf : keyFit (keyKind d) x = true) (hx : VR m x a) (hy : VR m y b) : Instr.sameNow d a b = some r := by
  unfold sameV at h
  split at h
  · rename_i k n k' n'
    rw [hx.int_inv, hy.int_inv]
    split at h
    · rename_i hk
      cases h
      cases d <;> simp [keyKind, keyFit] at hf
      subst hk
      simp [Instr.sameNow]
      rfl
    · cases h
  · rename_i s s'
    cases h
    rw [hx.str_inv, hy.str_inv]
    cases d <;> simp [keyKind, keyFit] at hf
    simp only [Instr.sameNow]
    congr 1
    rw [Bool.eq_iff_iff, MapKept.bytes_beq]
    simp
  · cases h

theorem findV_rel {m : LM} {d : TypeDesc} {key : V} {ku : Value} (hf : keyFit (keyKind d) key = true) (hk : VR m key ku) : ∀ {es : List (V × V)} {ces : List MapEntry} {i : Nat} {r : Option (Nat × V)}, findV key es i = some r → EntR m es ces →
    ∃ r', Instr.findNow d ku ces i = some r' ∧ (match r, r' with | none, none => True | some (j, v), some (j', u) => j = j' ∧ VR m v u ∧ i ≤ j ∧ j < i + es.length | _, _ => False)
  | [], ces, i, r, h, he => by
    simp only [findV, Option.some.injEq] at h; subst h
    simp only [EntR] at he; subst he
    exact ⟨none, rfl, trivial⟩
  | (k, v) :: es, ces, i, r, h, he => by
    obtain ⟨e, es', rfl, h1, h2, h3⟩ := he
    simp only [findV] at h
    split at h
    · rename_i hs
      cases h
      refine ⟨some (i, e.val), ?_, rfl, h2, Nat.le_refl _, by simp⟩
      simp [Instr.findNow, sameV_rel hs hf hk h1]
    · rename_i hs
      obtain ⟨r', g1, g2⟩ := findV_rel hf hk h h3
      refine ⟨r', by simp [Instr.findNow, sameV_rel hs hf hk h1, g1], ?_⟩
      revert g2
      cases r <;> cases r' <;> simp
      rename_i p q
      obtain ⟨j, v'⟩ := p
      obtain ⟨j', u'⟩ := q
      simp
      intro a b c d
      exact ⟨a, b, by omega, by omega⟩
    · cases h

theorem run_checkKeyV {P : Program} {m : LM} {kt : TypeId} {d : TypeDesc} {key : V} {ku : Value} (hd : P.underlying kt = some d) (hf : keyFit (keyKind d) key = true) (hk : VR m key ku) (e : Bool) (w : World) : (Instr.checkKey e 10000 kt ku).run P w = .ok () w := by
  show (Instr.checkKey e (9999 + 1) kt ku).run P w = .ok () w
  unfold Instr.checkKey
  simp only [Sem.run_bind, run_underlying hd, Result.andThen]
  cases d <;> simp [keyKind, keyFit] at hf
  · cases key <;> simp at hf
    rw [hk.int_inv]; simp
  · cases key <;> simp at hf
    rw [hk.str_inv]; simp

theorem run_findKeyV {P : Program} {kt : TypeId} {d : TypeDesc} {ku : Value} {ces : List MapEntry} {r : Option (Nat × Value)} (hd : P.underlying kt = some d) (h : Instr.findNow d ku ces 0 = some r) (w : World) : (Instr.findKey kt ku ces).run P w = .ok r w := by
  simp [Instr.findKey, run_underlying hd, Result.andThen, h]

def lookOut (ok : Bool) (v : V) (b : Bool) : V := if ok then .tuple [v, .bool b] else v

def rLookup (kk : Nat) (zero : V) (ok : Bool) (x ix : AX) : List V → St → AR := fun fr S =>
  if keyFit kk (ix.ev fr) then
    match x.ev fr with
    | .nilMap => .val (lookOut ok zero false) S
    | .map i => match S.get i with
      | some (.map es _) => match findV (ix.ev fr) es 0 with
        | some (some (_, v)) => .val (lookOut ok v true) S
        | some none => .val (lookOut ok zero false) S
        | none => .stuck
      | _ => .stuck
    | _ => .stuck
  else .stuck

theorem ok_lookup {P : Program} {o : Oper} {t kt e : TypeId} {d : TypeDesc} {x ix : Operand} {ax ai : AX} {ok : Bool} {i : TypeInfo} {z : Value} {zv : V} (ho : o.op = .lookup t x ix ok) (hx : AX.of x = some ax) (hix : AX.of ix = some ai)
    (ht : P.underlying t = some (.map kt e)) (hk : P.underlying kt = some d) (hi : P.info? e = some i) (hz : i.zero = some z) (hzv : V.ofConst z = some zv) : OpOk P o (rLookup (keyKind d) zv ok ax ai) :=
  OpOk.pure fun m S base w0 w fr a hS hf => by
    have rx := AX.of_rel hx hf
    have ri := AX.of_rel hix hf
    have rz : VR m zv z := V.ofConst_rel hzv
    have hout : ∀ (v : V) (u : Value) (b : Bool), VR m v u → VR m (lookOut ok v b) (if ok then .tuple #[u, .bool b] else u) := by
      intro v u b hv
      cases ok
      · simpa [lookOut] using hv
      · simp only [lookOut, if_true, VR]
        exact ⟨_, rfl, by simp only [VRs]; exact ⟨_, _, rfl, hv, _, _, rfl, VR.bool_mk _ _, rfl⟩⟩
    unfold rLookup
    split
    · rename_i hkf
      split
      · rename_i hev
        rw [hev] at rx
        refine .inr ⟨_, _, rfl, ?_, hout _ z false rz⟩
        have hck := run_checkKeyV (P := P) hk hkf ri true w
        have hfk := run_findKeyV (P := P) (kt := kt) (ku := a.eval ix) (ces := []) hk rfl w
        cases ok <;> simp [execOp, ho, rx.nilMap_inv, Instr.lookup, run_underlying ht, hck, hfk, zeroValue, typeInfo, hi, hz]
      · rename_i j hev
        rw [hev] at rx
        obtain ⟨L, hL, hu⟩ := rx.map_inv
        split
        · rename_i es own hg
          obtain ⟨L', g1, ⟨ces, clock, g2, g3, _⟩, _⟩ := hS.blk _ _ hg
          rw [hL] at g1; cases g1
          have hck := run_checkKeyV (P := P) hk hkf ri ces.isEmpty w
          split
          · rename_i p v hfd
            obtain ⟨r', q1, q2⟩ := findV_rel hkf ri hfd g3
            have hfk := run_findKeyV (P := P) (kt := kt) hk q1 w
            cases r' with
            | none => exact q2.elim
            | some pr =>
              obtain ⟨j', u⟩ := pr
              obtain ⟨_, q3, _⟩ := q2
              refine .inr ⟨_, _, rfl, ?_, hout _ u true q3⟩
              cases ok <;> simp [execOp, ho, hu, Instr.lookup, run_underlying ht, getObj_map g2, hck, hfk]
          · rename_i hfd
            obtain ⟨r', q1, q2⟩ := findV_rel hkf ri hfd g3
            have hfk := run_findKeyV (P := P) (kt := kt) hk q1 w
            cases r' with
            | some pr => exact q2.elim
            | none =>
              refine .inr ⟨_, _, rfl, ?_, hout _ z false rz⟩
              cases ok <;> simp [execOp, ho, hu, Instr.lookup, run_underlying ht, getObj_map g2, hck, hfk, zeroValue, typeInfo, hi, hz]
          · exact .inl rfl
        · exact .inl rfl
      · exact .inl rfl
    · exact .inl rfl

theorem EntR.get {m : LM} : ∀ {es : List (V × V)} {ces : List MapEntry}, EntR m es ces → ∀ {j : Nat} {p : V × V}, es[j]? = some p → ∃ e, ces[j]? = some e ∧ VR m p.1 e.key ∧ VR m p.2 e.val
  | [], _, _, _, _, hj => by simp at hj
  | (k, v) :: es, _, h, j, p, hj => by
    obtain ⟨e, es', rfl, h1, h2, h3⟩ := h
    cases j with
    | zero => simp at hj; subst hj; exact ⟨e, rfl, h1, h2⟩
    | succ j => simpa using h3.get (by simpa using hj)

theorem EntR.set {m : LM} : ∀ {es : List (V × V)} {ces : List MapEntry} (j : Nat) {k v : V} {f : MapEntry → MapEntry}, EntR m es ces → (∀ e, ces[j]? = some e → VR m k (f e).key ∧ VR m v (f e).val) → EntR m (es.set j (k, v)) (ces.modify j f)
  | [], _, j, _, _, _, h, _ => by simp only [EntR] at h; subst h; simp [EntR]
  | (k0, v0) :: es, _, 0, k, v, f, h, hf => by
    obtain ⟨e, es', rfl, h1, h2, h3⟩ := h
    obtain ⟨g1, g2⟩ := hf e rfl
    exact ⟨f e, es', rfl, g1, g2, h3⟩
  | (k0, v0) :: es, _, j + 1, k, v, f, h, hf => by
    obtain ⟨e, es', rfl, h1, h2, h3⟩ := h
    exact ⟨e, es'.modify j f, rfl, h1, h2, h3.set j (fun e he => hf e (by simpa using he))⟩

theorem EntR.append {m : LM} {k v : V} {e : MapEntry} (h1 : VR m k e.key) (h2 : VR m v e.val) : ∀ {es : List (V × V)} {ces : List MapEntry}, EntR m es ces → EntR m (es ++ [(k, v)]) (ces ++ [e])
  | [], _, h => by simp only [EntR] at h; subst h; exact ⟨e, [], rfl, h1, h2, rfl⟩
  | (k0, v0) :: es, _, h => by
    obtain ⟨e0, es', rfl, g1, g2, g3⟩ := h
    exact ⟨e0, es' ++ [e], rfl, g1, g2, g3.append h1 h2⟩

theorem EntR.erase {m : LM} : ∀ {es : List (V × V)} {ces : List MapEntry} (j : Nat), EntR m es ces → EntR m (es.eraseIdx j) (ces.eraseIdx j)
  | [], _, j, h => by simp only [EntR] at h; subst h; simp [EntR]
  | (k0, v0) :: es, _, 0, h => by
    obtain ⟨e, es', rfl, h1, h2, h3⟩ := h
    exact h3
  | (k0, v0) :: es, _, j + 1, h => by
    obtain ⟨e, es', rfl, h1, h2, h3⟩ := h
    exact ⟨e, es'.eraseIdx j, rfl, h1, h2, h3.erase j⟩

/-- An entry stored. -/
def rMapUpd (kk : Nat) (x ky y : AX) : List V → St → AR := fun fr S =>
  if keyFit kk (ky.ev fr) then
    match x.ev fr with
    | .map i => match S.get i with
      | some (.map es true) => match findV (ky.ev fr) es 0 with
        | some (some (j, _)) => .val .undef (S.put i (some (.map (es.set j (ky.ev fr, y.ev fr)) true)))
        | some none => .val .undef (S.put i (some (.map (es ++ [(ky.ev fr, y.ev fr)]) true)))
        | none => .stuck
      | _ => .stuck
    | _ => .stuck
  else .stuck

theorem findV_same {key : V} : ∀ {es : List (V × V)} {i j : Nat} {v : V}, findV key es i = some (some (j, v)) → ∃ k, es[j - i]? = some (k, v) ∧ sameV key k = some true ∧ i ≤ j
  | [], i, j, v, h => by simp [findV] at h
  | (k, v0) :: es, i, j, v, h => by
    simp only [findV] at h
    split at h
    · rename_i hs
      simp only [Option.some.injEq, Prod.mk.injEq] at h
      obtain ⟨rfl, rfl⟩ := h
      exact ⟨k, by simp, hs, Nat.le_refl _⟩
    · obtain ⟨k', h1, h2, h3⟩ := findV_same h
      refine ⟨k', ?_, h2, by omega⟩
      have : j - i = (j - (i + 1)) + 1 := by omega
      rw [this, List.getElem?_cons_succ]; exact h1
    · cases h

theorem sameV_eq {m : LM} {x y : V} {a b : Value} (h : sameV x y = some true) (hx : VR m x a) (hy : VR m y b) : a = b ∧ Instr.sameBits 10000 b a = true := by
  unfold sameV at h
  split at h
  · split at h
    · rename_i hk
      subst hk
      simp at h
      subst h
      rw [hx.int_inv, hy.int_inv]
      exact ⟨rfl, by simp [Instr.sameBits]⟩
    · cases h
  · simp at h
    subst h
    rw [hx.str_inv, hy.str_inv]
    refine ⟨rfl, ?_⟩
    simp only [Instr.sameBits]
    rw [MapKept.bytes_beq]
  · cases h

theorem run_keyThatStays {P : Program} {w : World} {a b : Value} (h : Instr.sameBits 10000 a b = true) : (Instr.keyThatStays a b).run P w = .ok b w := by
  simp [Instr.keyThatStays, h]

theorem setObj_map {P : Program} {w : World} {r : Nat} {es : Array MapEntry} {clock : Nat} (o : Obj) (hb : w.heap[r]? = some (.map es clock)) : (setObj r o).run P w = .ok () (setAt w r o) := by
  simp [setObj, Sem.run, hb, setAt]

theorem ok_mapUpd {P : Program} {o : Oper} {t kt e : TypeId} {d : TypeDesc} {x ky y : Operand} {ax ak ay : AX} (ho : o.op = .mapUpdate t x ky y ∨ o.op = .insert t x ky y) (hx : AX.of x = some ax) (hk0 : AX.of ky = some ak) (hy : AX.of y = some ay)
    (ht : P.underlying t = some (.map kt e)) (hk : P.underlying kt = some d) : OpOk P o (rMapUpd (keyKind d) ax ak ay) :=
  OpOk.unit fun m S base w0 w fr a hS hf => by
    have rx := AX.of_rel hx hf
    have rk := AX.of_rel hk0 hf
    have ry := AX.of_rel hy hf
    have hex : ∀ {w' : World}, (Instr.mapUpdate t (a.eval x) (a.eval ky) (a.eval y)).run P w = .ok () w' → (execOp a.eval o).run P w = .ok .skip w' := by
      intro w' h
      rcases ho with ho | ho <;> simp [execOp, ho, h]
    unfold rMapUpd
    split
    · rename_i hkf
      split
      · rename_i j hev
        rw [hev] at rx
        obtain ⟨L, hL, hu⟩ := rx.map_inv
        split
        · rename_i es hg
          obtain ⟨L', g1, ⟨ces, clock, g2, g3, g4, g5⟩, _⟩ := hS.blk _ _ hg
          rw [hL] at g1; cases g1
          have hlt : L.block < w.heap.size := (Array.getElem?_eq_some_iff.1 g2).1
          have hck := run_checkKeyV (P := P) hk hkf rk false w
          split
          · rename_i p v hfd
            obtain ⟨r', q1, q2⟩ := findV_rel hkf rk hfd g3
            have hfk := run_findKeyV (P := P) (kt := kt) hk q1 w
            cases r' with
            | none => exact q2.elim
            | some pr =>
              obtain ⟨j', u⟩ := pr
              obtain ⟨rfl, q3, _, q4⟩ := q2
              obtain ⟨k', e1, e2, _⟩ := findV_same hfd
              simp only [Nat.sub_zero] at e1
              obtain ⟨ent, e3, e4, e5⟩ := g3.get e1
              have e3' : ces[p]? = some ent := by simpa using e3
              have hsame := sameV_eq e2 rk e4
              have hkt := run_keyThatStays (P := P) (w := w) hsame.2
              have hput := hS.putBlk hg rfl hL (.map (ces.modify p fun e => { e with key := a.eval ky, val := a.eval y }) clock) (.map (es.set p (ak.ev fr, ay.ev fr)) true) (by
                refine ⟨_, clock, setAt_same w _ _ hlt, ?_, ?_, ?_⟩
                · rw [Array.toList_modify]
                  exact g3.set p (fun e he => ⟨rk, ry⟩)
                · intro x hx
                  rw [Array.toList_modify] at hx
                  obtain ⟨q, hq⟩ := List.getElem?_of_mem hx
                  rw [List.getElem?_modify] at hq
                  cases hc : ces.toList[q]? with
                  | none => simp [hc] at hq
                  | some x0 =>
                    have := g4 x0 (List.mem_of_getElem? hc)
                    simp [hc] at hq
                    subst hq
                    split <;> exact this
                · have : (ces.modify p fun e => { e with key := a.eval ky, val := a.eval y }).toList.map (·.born) = ces.toList.map (·.born) := by
                    rw [Array.toList_modify]
                    apply List.ext_getElem?
                    intro q
                    rw [List.getElem?_map, List.getElem?_map, List.getElem?_modify]
                    cases hc : ces.toList[q]? with
                    | none => simp
                    | some x0 => simp; split <;> rfl
                  rw [this]; exact g5)
              refine .inr ⟨_, _, m, rfl, hex ?_, Ext.refl m, hput⟩
              simp [Instr.mapUpdate, run_underlying ht, hu, getObj_map g2, hck, hfk, e3', hkt, setObj_map _ g2]
          · rename_i hfd
            obtain ⟨r', q1, q2⟩ := findV_rel hkf rk hfd g3
            have hfk := run_findKeyV (P := P) (kt := kt) hk q1 w
            cases r' with
            | some pr => exact q2.elim
            | none =>
              have hput := hS.putBlk hg rfl hL (.map (ces.push { key := a.eval ky, val := a.eval y, born := clock }) (clock + 1)) (.map (es ++ [(ak.ev fr, ay.ev fr)]) true) (by
                refine ⟨_, clock + 1, setAt_same w _ _ hlt, ?_, ?_, ?_⟩
                · rw [Array.toList_push]
                  exact EntR.append (e := { key := a.eval ky, val := a.eval y, born := clock }) rk ry g3
                · intro x hx
                  rw [Array.toList_push, List.mem_append] at hx
                  rcases hx with hx | hx
                  · have := g4 x hx; omega
                  · simp at hx; subst hx; simp
                · rw [Array.toList_push, List.map_append, List.nodup_append]
                  refine ⟨g5, by simp, ?_⟩
                  intro b hb b' hb' he
                  obtain ⟨x, hx, rfl⟩ := List.mem_map.1 hb
                  have := g4 x hx
                  simp at hb'
                  omega)
              refine .inr ⟨_, _, m, rfl, hex ?_, Ext.refl m, hput⟩
              simp [Instr.mapUpdate, run_underlying ht, hu, getObj_map g2, hck, hfk, setObj_map _ g2]
          · exact .inl rfl
        · exact .inl rfl
      · exact .inl rfl
    · exact .inl rfl

def rDelete (kk : Nat) (x ky : AX) : List V → St → AR := fun fr S =>
  if keyFit kk (ky.ev fr) then
    match x.ev fr with
    | .nilMap => .val .undef S
    | .map i => match S.get i with
      | some (.map es true) => match findV (ky.ev fr) es 0 with
        | some (some (j, _)) => .val .undef (S.put i (some (.map (es.eraseIdx j) true)))
        | some none => .val .undef (S.put i (some (.map es true)))
        | none => .stuck
      | _ => .stuck
    | _ => .stuck
  else .stuck

theorem ok_delete {P : Program} {o : Oper} {t kt e t2 : TypeId} {d : TypeDesc} {x ky : Operand} {ax ak : AX} (ho : o.op = .call ⟨.builtin .delete, #[x, ky], #[t, t2]⟩) (hx : AX.of x = some ax) (hk0 : AX.of ky = some ak)
    (ht : P.underlying t = some (.map kt e)) (hk : P.underlying kt = some d) : OpOk P o (rDelete (keyKind d) ax ak) :=
  OpOk.world fun m S base w0 w fr a hS hf => by
    have rx := AX.of_rel hx hf
    have rk := AX.of_rel hk0 hf
    have hex : ∀ {v : Value} {w' : World}, (Builtin.delete_ #[t, t2] o.type #[a.eval x, a.eval ky]).run P w = .ok v w' → (execOp a.eval o).run P w = .ok (.value v) w' := by
      intro v w' h
      obtain ⟨cs, hcs⟩ := exec_builtin (P := P) (a := a) ho w
      rw [hcs]
      have : (#[x, ky].map a.eval) = #[a.eval x, a.eval ky] := by simp
      rw [this]
      simp only [builtin, Sem.run_bind, h, Result.andThen_ok, Sem.run_pure]
    unfold rDelete
    split
    · rename_i hkf
      split
      · rename_i hev
        rw [hev] at rx
        refine .inr ⟨_, Go.undef, S, w, m, rfl, hex ?_, Ext.refl m, hS, VR.undef m⟩
        simp [Builtin.delete_, run_underlying ht, rx.nilMap_inv, run_checkKeyV (P := P) hk hkf rk true w, Go.undef]
      · rename_i j hev
        rw [hev] at rx
        obtain ⟨L, hL, hu⟩ := rx.map_inv
        split
        · rename_i es hg
          obtain ⟨L', g1, ⟨ces, clock, g2, g3, g4, g5⟩, _⟩ := hS.blk _ _ hg
          rw [hL] at g1; cases g1
          have hlt : L.block < w.heap.size := (Array.getElem?_eq_some_iff.1 g2).1
          have hck := run_checkKeyV (P := P) hk hkf rk ces.isEmpty w
          split
          · rename_i p v hfd
            obtain ⟨r', q1, q2⟩ := findV_rel hkf rk hfd g3
            have hfk := run_findKeyV (P := P) (kt := kt) hk q1 w
            cases r' with
            | none => exact q2.elim
            | some pr =>
              obtain ⟨j', u⟩ := pr
              obtain ⟨rfl, q3, _, q4⟩ := q2
              have herase : (ces.eraseIdxIfInBounds p).toList = ces.toList.eraseIdx p := by
                unfold Array.eraseIdxIfInBounds
                split
                · simp
                · rename_i hp
                  rw [List.eraseIdx_of_length_le (by simpa using hp)]
              have hput := hS.putBlk hg rfl hL (.map (ces.eraseIdxIfInBounds p) clock) (.map (es.eraseIdx p) true) (by
                refine ⟨_, clock, setAt_same w _ _ hlt, ?_, ?_, ?_⟩
                · rw [herase]; exact g3.erase p
                · intro x hx
                  rw [herase] at hx
                  exact g4 x ((List.eraseIdx_sublist _ _).subset hx)
                · rw [herase]
                  exact ((List.eraseIdx_sublist ces.toList p).map (·.born)).nodup g5)
              refine .inr ⟨_, Go.undef, _, _, m, rfl, hex ?_, Ext.refl m, hput, VR.undef m⟩
              simp [Builtin.delete_, run_underlying ht, hu, getObj_map g2, hck, hfk, setObj_map _ g2, Go.undef]
          · rename_i hfd
            obtain ⟨r', q1, q2⟩ := findV_rel hkf rk hfd g3
            have hfk := run_findKeyV (P := P) (kt := kt) hk q1 w
            cases r' with
            | some pr => exact q2.elim
            | none =>
              have hput := hS.putBlk hg rfl hL (.map ces clock) (.map es true) ⟨_, clock, setAt_same w _ _ hlt, g3, g4, g5⟩
              refine .inr ⟨_, Go.undef, _, _, m, rfl, hex ?_, Ext.refl m, hput, VR.undef m⟩
              simp [Builtin.delete_, run_underlying ht, hu, getObj_map g2, hck, hfk, setObj_map _ g2, Go.undef]
          · exact .inl rfl
        · exact .inl rfl
      · exact .inl rfl
    · exact .inl rfl

/-! ## calls -/
/-- May a function be entered: it has a body, and is not the one of the run-time's own. -/
def canEnter (P : Program) (f : FuncId) : Bool :=
  match P.funcs[f]? with
  | some fn => !(fn.name == "runtime.NumGoroutine") && fn.body.isSome
  | none => false

theorem run_callFunc {P : Program} {f : FuncId} (h : canEnter P f = true) (args : Array Value) (w : World) : (callFunc f args).run P w = .ok (.enter f args) w := by
  unfold canEnter at h
  split at h
  · rename_i fn hf
    simp only [Bool.and_eq_true, Bool.not_eq_true'] at h
    have hb : ¬ (fn.body = none) := by cases hx : fn.body <;> simp_all
    have hn : ¬ (fn.name = "runtime.NumGoroutine") := by simpa using h.1
    simp [callFunc, hf, hn, hb]
  · cases h

/-- Which functions may be called by value, and which function a method of a type is (and how its receiver is had: as it is, or out of memory). -/
structure Env where
  can : Nat → Bool
  meth : String → TypeId → Option (FuncId × Nat)

/-- A method's function, and how its receiver is had: 0: as it is; 1: one cell at the pointer; n + 2: n cells at the pointer. -/
def methEntry (P : Program) (name : String) (t : TypeId) : Option (FuncId × Nat) :=
  match P.info? t with
  | none => none
  | some i =>
    match i.methods.find? (·.name == name) with
    | none => none
    | some m =>
      match m.path.toList, m.func with
      | [], some (f, ptr) =>
        if canEnter P f then
          match P.underlying t, ptr with
          | some (.pointer _), true => some (f, 0)
          | some (.pointer e), false => match P.underlying e, P.info? e with
            | some d, some ie => if isAggD d then some (f, ie.size + 2) else some (f, 1)
            | _, _ => none
          | some _, false => some (f, 0)
          | _, _ => none
        else none
      | _, _ => none

def EnvOk (P : Program) (ok : Env) : Prop := (∀ f, ok.can f = true → canEnter P f = true) ∧ ∀ name t r, ok.meth name t = some r → methEntry P name t = some r

/-- All that the program has. -/
def envP (P : Program) : Env := ⟨canEnter P, methEntry P⟩
theorem envP_ok (P : Program) : EnvOk P (envP P) := ⟨fun _ h => h, fun _ _ _ h => h⟩

def rCallF (f : FuncId) (args : List AX) : List V → St → AR := fun fr _ => .call f (args.map (·.ev fr))

theorem ok_callF {P : Program} {o : Oper} {f : FuncId} {args : Array Operand} {ts : Array TypeId} {axs : List AX} (ho : o.op = .call ⟨.value (.func f), args, ts⟩) (hx : AX.ofs args.toList = some axs) (hf : canEnter P f = true) : OpOk P o (rCallF f axs) := by
  intro m S base w0 w fr a hS hfr
  refine ⟨args.map a.eval, ?_, ?_⟩
  · simp [execOp, ho, resolve, Act.eval, Deferred.ofValue, invoke, run_callFunc hf]
  · rw [Array.toList_map]; exact AX.ofs_rel hfr hx

/-- A function value is called. -/
def rCallV (ok : Env) (x : AX) (args : List AX) : List V → St → AR := fun fr _ =>
  match x.ev fr with
  | .func (.func f) fs cs => if ok.can f then .call f (fs ++ args.map (·.ev fr) ++ cs) else .stuck
  | _ => .stuck

theorem ok_callV {P : Program} {o : Oper} {ok : Env} {x : Operand} {ax : AX} {args : Array Operand} {ts : Array TypeId} {axs : List AX} (ho : o.op = .call ⟨.value x, args, ts⟩) (hx0 : AX.of x = some ax) (hx : AX.ofs args.toList = some axs) (hok : EnvOk P ok) : OpOk P o (rCallV ok ax axs) := by
  intro m S base w0 w fr a hS hfr
  have rx := AX.of_rel hx0 hfr
  have key : (∃ f fs cs, ax.ev fr = .func (.func f) fs cs ∧ ok.can f = true ∧ rCallV ok ax axs fr S = .call f (fs ++ axs.map (·.ev fr) ++ cs)) ∨ rCallV ok ax axs fr S = .stuck := by
    unfold rCallV
    split
    · rename_i f fs cs hev
      split
      · rename_i hf
        exact .inl ⟨f, fs, cs, hev, hf, rfl⟩
      · exact .inr rfl
    · exact .inr rfl
  rcases key with ⟨f, fs, cs, hev, hf, e⟩ | e
  · rw [e]
    rw [hev] at rx
    obtain ⟨fs', cs', hu, h1, h2⟩ := rx.func_inv
    refine ⟨fs' ++ args.map a.eval ++ cs', ?_, ?_⟩
    · simp [execOp, ho, resolve, hu, Deferred.ofValue, invoke, run_callFunc (hok.1 f hf)]
    · simp only [Array.toList_append, Array.toList_map]
      exact (h1.append (AX.ofs_rel hfr hx)).append h2
  · rw [e]; trivial

end Go.Th
end
