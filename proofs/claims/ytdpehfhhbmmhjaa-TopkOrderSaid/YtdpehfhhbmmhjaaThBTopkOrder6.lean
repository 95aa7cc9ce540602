/- What the row of one statement stands on: a store, abstract code, functions of the program and their laws (ThF). -/
import Derived.Test.YtdpehfhhbmmhjaaThBTopkOrder5
import Derived.Laws.Slices

section
/- Slicing, addresses, indexes, lengths, appends, copies. -/
set_option linter.unusedSimpArgs false
set_option linter.unusedVariables false
namespace Go.Th
open Go.RowKit Go.Lib

/-! ## addresses -/
def rFieldAddr (off : Nat) (x : AX) : List V → St → AR := fun fr S =>
  match x.ev fr with
  | .ptr i o => .val (.ptr i (o + off)) S
  | _ => .stuck

theorem ok_fieldAddr {P : Program} {o : Oper} {s : TypeId} {x : Operand} {ax : AX} {n : Nat} {fields : Array Field} {f : Field} {i : TypeInfo} (ho : o.op = .fieldAddr s x n) (hx : AX.of x = some ax)
    (hs : P.underlying s = some (.struct fields)) (hf0 : fields[n]? = some f) (hi : P.info? f.type = some i) (hne : i.size ≠ 0) : OpOk P o (rFieldAddr f.offset ax) :=
  OpOk.pure fun m S base w0 w fr a hS hf => by
    have rx := AX.of_rel hx hf
    unfold rFieldAddr
    split
    · rename_i j off he
      rw [he] at rx
      obtain ⟨L, hL, hu⟩ := rx.ptr_inv
      refine .inr ⟨_, .pointer (some ⟨L.block, L.off + off + f.offset, none⟩), rfl, ?_, ?_⟩
      · simp [execOp, ho, hu, Instr.fieldAt, run_underlying hs, hf0, Instr.sureAddr, fieldPlace, sizeOf, typeInfo, hi, hne, addr_add]
      · simp only [VR]; exact ⟨L, hL, by rw [Nat.add_assoc]⟩
    · exact .inl rfl

def rIdxAddr (k : Nat) (x ix : AX) : List V → St → AR := fun fr S =>
  match x.ev fr, ix.ev fr with
  | .slice i o l _ k' _, .int _ n => if k' = k ∧ 0 ≤ n ∧ n < l then .val (.ptr i (o + n.toNat * k)) S else .stuck
  | _, _ => .stuck

theorem ok_idxAddr {P : Program} {o : Oper} {t e : TypeId} {x ix : Operand} {ax ai : AX} {i : TypeInfo} (ho : o.op = .indexAddr t x ix) (hx : AX.of x = some ax) (hix : AX.of ix = some ai)
    (ht : P.underlying t = some (.slice e)) (hi : P.info? e = some i) : OpOk P o (rIdxAddr i.size ax ai) :=
  OpOk.pure fun m S base w0 w fr a hS hf => by
    have rx := AX.of_rel hx hf
    have ri := AX.of_rel hix hf
    unfold rIdxAddr
    split
    · rename_i j off l c k t' kk n hex hei
      rw [hex] at rx; rw [hei] at ri
      split
      · rename_i hc
        obtain ⟨hk, h0, h1⟩ := hc
        subst hk
        obtain ⟨L, y, c', hL, hu, hok⟩ := rx.slice_inv
        have hy := slice_addr hok (by omega)
        subst hy
        refine .inr ⟨_, .pointer (some ⟨L.block, L.off + off + n.toNat * i.size, none⟩), rfl, ?_, ?_⟩
        · have hb : 0 ≤ n ∧ n < (l : Int) := ⟨h0, h1⟩
          simp [execOp, ho, hu, ri.int_inv, Instr.indexAt, asIntOf, run_underlying ht, hb, sizeOf, typeInfo, hi, addr_add]
        · simp only [VR]; exact ⟨L, hL, by rw [Nat.add_assoc]⟩
      · exact .inl rfl
    · exact .inl rfl

/-- An element of an array variable. -/
def rIdxAddrArr (len k : Nat) (x ix : AX) : List V → St → AR := fun fr S =>
  match x.ev fr, ix.ev fr with
  | .ptr i o, .int _ n => if 0 ≤ n ∧ n < len then .val (.ptr i (o + n.toNat * k)) S else .stuck
  | _, _ => .stuck

theorem ok_idxAddrArr {P : Program} {o : Oper} {t e : TypeId} {len : Nat} {x ix : Operand} {ax ai : AX} {i : TypeInfo} (ho : o.op = .indexAddr t x ix) (hx : AX.of x = some ax) (hix : AX.of ix = some ai)
    (ht : P.underlying t = some (.array len e)) (hi : P.info? e = some i) : OpOk P o (rIdxAddrArr len i.size ax ai) :=
  OpOk.pure fun m S base w0 w fr a hS hf => by
    have rx := AX.of_rel hx hf
    have ri := AX.of_rel hix hf
    unfold rIdxAddrArr
    split
    · rename_i j off kk n hex hei
      rw [hex] at rx; rw [hei] at ri
      split
      · rename_i hc
        obtain ⟨h0, h1⟩ := hc
        obtain ⟨L, hL, hu⟩ := rx.ptr_inv
        refine .inr ⟨_, .pointer (some ⟨L.block, L.off + off + n.toNat * i.size, none⟩), rfl, ?_, ?_⟩
        · have hb : 0 ≤ n ∧ n < (len : Int) := ⟨h0, h1⟩
          simp [execOp, ho, hu, ri.int_inv, Instr.indexAt, asIntOf, run_underlying ht, Instr.sureAddr, hb, sizeOf, typeInfo, hi, addr_add]
        · simp only [VR]; exact ⟨L, hL, by rw [Nat.add_assoc]⟩
      · exact .inl rfl
    · exact .inl rfl

/-! ## parts of aggregates -/
/-- The part of an aggregate: one cell, or n. -/
def partV (n : Option Nat) (cs : List V) (off : Nat) : Option V :=
  match n with
  | none => cs[off]?
  | some n => if off + n ≤ cs.length then some (.agg ((cs.drop off).take n)) else none

def partInfo (P : Program) (t : TypeId) : Option (Option Nat) :=
  match P.underlying t, P.info? t with
  | some d, some i => if isAggD d then some (some i.size) else some none
  | _, _ => none

theorem partV_rel {P : Program} {m : LM} {t : TypeId} {n : Option Nat} {cs : List V} {us : Array Value} {off : Nat} {v : V} (hp : partInfo P t = some n) (hr : VRs m cs us.toList) (hv : partV n cs off = some v) (w : World) :
    ∃ u, (part t us off).run P w = .ok u w ∧ VR m v u := by
  unfold partInfo at hp
  cases hd : P.underlying t with
  | none => simp [hd] at hp
  | some d =>
    cases hi : P.info? t with
    | none => simp [hd, hi] at hp
    | some i =>
      simp only [hd, hi] at hp
      by_cases ha : isAggD d = true
      · simp only [ha, if_true, Option.some.injEq] at hp
        subst hp
        simp only [partV] at hv
        split at hv
        · cases hv
          have h := (hr.drop off).take i.size
          refine ⟨.agg (us.extract off (off + i.size)), ?_, ?_⟩
          · simp [part, run_isAgg hd, ha, sizeOf, typeInfo, hi]
          · simp only [VR]
            refine ⟨_, rfl, ?_⟩
            have : (us.extract off (off + i.size)).toList = (us.toList.drop off).take i.size := by
              simp [Array.toList_extract]
            rw [this]; exact h
        · cases hv
      · simp only [ha, if_false, Option.some.injEq, Bool.false_eq_true] at hp
        subst hp
        simp only [partV] at hv
        obtain ⟨u, hu, r⟩ := hr.get hv
        refine ⟨u, ?_, r⟩
        have ha' : isAggD d = false := by simpa using ha
        have hu' : us[off]? = some u := by simpa using hu
        simp [part, run_isAgg hd, ha', hu']

def rField (n : Option Nat) (off : Nat) (x : AX) : List V → St → AR := fun fr S =>
  match x.ev fr with
  | .agg cs => match partV n cs off with
    | some v => .val v S
    | none => .stuck
  | _ => .stuck

theorem ok_field {P : Program} {o : Oper} {s : TypeId} {x : Operand} {ax : AX} {j : Nat} {fields : Array Field} {f : Field} {n : Option Nat} (ho : o.op = .field s x j) (hx : AX.of x = some ax)
    (hs : P.underlying s = some (.struct fields)) (hf0 : fields[j]? = some f) (hn : partInfo P f.type = some n) : OpOk P o (rField n f.offset ax) :=
  OpOk.pure fun m S base w0 w fr a hS hf => by
    have rx := AX.of_rel hx hf
    unfold rField
    split
    · rename_i cs he
      rw [he] at rx
      obtain ⟨us, hu, hr⟩ := rx.agg_inv
      split
      · rename_i v hv
        obtain ⟨u, h1, h2⟩ := partV_rel hn hr hv w
        exact .inr ⟨_, u, rfl, by simp [execOp, ho, hu, Instr.field, run_underlying hs, hf0, asAgg, h1], h2⟩
      · exact .inl rfl
    · exact .inl rfl

def rIdxStr (x ix : AX) : List V → St → AR := fun fr S =>
  match x.ev fr, ix.ev fr with
  | .str s, .int _ n => if 0 ≤ n then match s[n.toNat]? with
      | some b => .val (.int .u8 b.toNat) S
      | none => .stuck
    else .stuck
  | _, _ => .stuck

theorem getElem?_mk (s : List UInt8) (n : Nat) : (ByteArray.mk s.toArray)[n]? = s[n]? := by
  by_cases h : n < s.length
  · rw [ByteArray.getElem?_lt' _ _ (by rw [size_mk]; exact h), List.getElem?_eq_getElem h]
    rfl
  · rw [ByteArray.getElem?_ge' _ _ (by rw [size_mk]; exact h), List.getElem?_eq_none (by omega)]

theorem ok_idxStr {P : Program} {o : Oper} {t : TypeId} {x ix : Operand} {ax ai : AX} (ho : o.op = .index t x ix) (hx : AX.of x = some ax) (hix : AX.of ix = some ai)
    (ht : P.underlying t = some .string) : OpOk P o (rIdxStr ax ai) :=
  OpOk.pure fun m S base w0 w fr a hS hf => by
    have rx := AX.of_rel hx hf
    have ri := AX.of_rel hix hf
    unfold rIdxStr
    split
    · rename_i s kk n hex hei
      rw [hex] at rx; rw [hei] at ri
      split
      · rename_i h0
        split
        · rename_i b hb
          exact .inr ⟨_, .int .u8 b.toNat, rfl, by simp [execOp, ho, rx.str_inv, ri.int_inv, Instr.index, asIntOf, run_underlying ht, h0, getElem?_mk, hb], VR.int_mk _ _ _⟩
        · exact .inl rfl
      · exact .inl rfl
    · exact .inl rfl

def rIdxArr (len k : Nat) (pn : Option Nat) (x ix : AX) : List V → St → AR := fun fr S =>
  match x.ev fr, ix.ev fr with
  | .agg cs, .int _ n => if 0 ≤ n ∧ n < len then match partV pn cs (n.toNat * k) with
      | some v => .val v S
      | none => .stuck
    else .stuck
  | _, _ => .stuck

theorem ok_idxArr {P : Program} {o : Oper} {t e : TypeId} {len : Nat} {x ix : Operand} {ax ai : AX} {i : TypeInfo} {pn : Option Nat} (ho : o.op = .index t x ix) (hx : AX.of x = some ax) (hix : AX.of ix = some ai)
    (ht : P.underlying t = some (.array len e)) (hi : P.info? e = some i) (hpn : partInfo P e = some pn) : OpOk P o (rIdxArr len i.size pn ax ai) :=
  OpOk.pure fun m S base w0 w fr a hS hf => by
    have rx := AX.of_rel hx hf
    have ri := AX.of_rel hix hf
    unfold rIdxArr
    split
    · rename_i cs kk n hex hei
      rw [hex] at rx; rw [hei] at ri
      obtain ⟨us, hu, hr⟩ := rx.agg_inv
      split
      · rename_i hc
        obtain ⟨h0, h1⟩ := hc
        split
        · rename_i v hv
          obtain ⟨u, g1, g2⟩ := partV_rel hpn hr hv w
          have hb : 0 ≤ n ∧ n < (len : Int) := ⟨h0, h1⟩
          exact .inr ⟨_, u, rfl, by simp [execOp, ho, hu, ri.int_inv, Instr.index, asIntOf, run_underlying ht, hb, sizeOf, typeInfo, hi, g1], g2⟩
        · exact .inl rfl
      · exact .inl rfl
    · exact .inl rfl

def rExtract (n : Nat) (x : AX) : List V → St → AR := fun fr S =>
  match x.ev fr with
  | .tuple vs => match vs[n]? with
    | some v => .val v S
    | none => .stuck
  | _ => .stuck

theorem ok_extract {P : Program} {o : Oper} {x : Operand} {ax : AX} {n : Nat} (ho : o.op = .extract x n) (hx : AX.of x = some ax) : OpOk P o (rExtract n ax) :=
  OpOk.pure fun m S base w0 w fr a hS hf => by
    have rx := AX.of_rel hx hf
    unfold rExtract
    split
    · rename_i vs he
      rw [he] at rx
      obtain ⟨us, hu, hr⟩ := rx.tuple_inv
      split
      · rename_i v hv
        obtain ⟨u, g1, g2⟩ := hr.get hv
        have g1' : us[n]? = some u := by simpa using g1
        exact .inr ⟨_, u, rfl, by simp [execOp, ho, hu, Instr.extract, g1'], g2⟩
      · exact .inl rfl
    · exact .inl rfl

/-! ## slicing -/
/-- The bounds of a slicing, where the capacity is at least (or just) so much. -/
def bnds (len cap : Nat) (lo hi mx : Option V) : Option (Nat × Nat × Nat) :=
  let m : Option Nat := match mx with
    | some (.int _ n) => if 0 ≤ n ∧ n ≤ cap then some n.toNat else none
    | some _ => none
    | none => some cap
  match m with
  | none => none
  | some m =>
    let h : Option Nat := match hi with
      | some (.int _ n) => if 0 ≤ n ∧ n ≤ m then some n.toNat else none
      | some _ => none
      | none => if mx.isSome then none else some len
    match h with
    | none => none
    | some h =>
      match lo with
      | some (.int _ n) => if 0 ≤ n ∧ n ≤ h then some (n.toNat, h, m) else none
      | some _ => none
      | none => some (0, h, m)

def VRo (m : LM) : Option V → Option Value → Prop
  | none, none => True
  | some v, some u => VR m v u
  | _, _ => False

theorem run_bnds {P : Program} {m : LM} {isS : Bool} {len cap cap' : Nat} {lo hi mx : Option V} {lo' hi' mx' : Option Value} {l h c : Nat} (hb : bnds len cap lo hi mx = some (l, h, c)) (hcap : cap ≤ cap')
    (h1 : VRo m lo lo') (h2 : VRo m hi hi') (h3 : VRo m mx mx') (w : World) :
    (Instr.sliceBounds isS len cap' lo' hi' mx').run P w = .ok (l, h, if mx.isSome then c else cap') w ∧ (mx = none → c = cap) ∧ l ≤ h ∧ (hi.isSome ∨ h = len) ∧ (hi.isSome → h ≤ c) ∧ c ≤ cap := by
  unfold bnds at hb
  cases mx with
  | none =>
    cases mx' with
    | some _ => exact h3.elim
    | none =>
      simp only at hb
      cases hi with
      | none =>
        cases hi' with
        | some _ => exact h2.elim
        | none =>
          simp only [Option.isSome_none, Bool.false_eq_true, if_false] at hb
          cases lo with
          | none =>
            cases lo' with
            | some _ => exact h1.elim
            | none =>
              simp only [Option.some.injEq, Prod.mk.injEq] at hb
              obtain ⟨rfl, rfl, rfl⟩ := hb
              simp [Instr.sliceBounds]
          | some lv =>
            cases lo' with
            | none => exact h1.elim
            | some lu =>
              cases lv <;> simp only at hb <;> try (cases hb; done)
              rename_i kl nl
              split at hb
              · rename_i hc
                cases hb
                simp only [VRo] at h1
                rw [h1.int_inv]
                have := run_sliceBound (P := P) w kl nl len (.sliceB) hc.1 hc.2
                simp [Instr.sliceBounds, this]; omega
              · cases hb
      | some hv =>
        cases hi' with
        | none => exact h2.elim
        | some hu =>
          cases hv <;> simp only at hb <;> try (cases hb; done)
          rename_i kh nh
          simp only [VRo] at h2
          rw [h2.int_inv]
          by_cases hc : 0 ≤ nh ∧ nh ≤ (cap : Int)
          · simp only [hc, and_self, if_true] at hb
            have hb1 := fun code => run_sliceBound (P := P) w kh nh cap' code hc.1 (by omega)
            cases lo with
            | none =>
              cases lo' with
              | some _ => exact h1.elim
              | none =>
                simp only [Option.some.injEq, Prod.mk.injEq] at hb
                obtain ⟨rfl, rfl, rfl⟩ := hb
                cases isS <;> simp [Instr.sliceBounds, hb1] <;> omega
            | some lv =>
              cases lo' with
              | none => exact h1.elim
              | some lu =>
                cases lv <;> simp only at hb <;> try (cases hb; done)
                rename_i kl nl
                split at hb
                · rename_i hc2
                  cases hb
                  simp only [VRo] at h1
                  rw [h1.int_inv]
                  have hb2 := run_sliceBound (P := P) w kl nl nh.toNat (.sliceB) hc2.1 hc2.2
                  cases isS <;> simp [Instr.sliceBounds, hb1, hb2] <;> omega
                · cases hb
          · simp [hc] at hb
  | some mv =>
    cases mx' with
    | none => exact h3.elim
    | some mu =>
      cases mv <;> simp only at hb <;> try (cases hb; done)
      rename_i km nm
      simp only [VRo] at h3
      rw [h3.int_inv]
      by_cases hm : 0 ≤ nm ∧ nm ≤ (cap : Int)
      · simp only [hm, and_self, if_true] at hb
        have hb0 := fun code => run_sliceBound (P := P) w km nm cap' code hm.1 (by omega)
        cases hi with
        | none => simp at hb
        | some hv =>
          cases hi' with
          | none => exact h2.elim
          | some hu =>
            cases hv <;> simp only at hb <;> try (cases hb; done)
            rename_i kh nh
            simp only [VRo] at h2
            rw [h2.int_inv]
            by_cases hc : 0 ≤ nh ∧ nh ≤ (nm.toNat : Int)
            · simp only [hc, and_self, if_true] at hb
              have hb1 := run_sliceBound (P := P) w kh nh nm.toNat (.slice3B) hc.1 hc.2
              cases lo with
              | none =>
                cases lo' with
                | some _ => exact h1.elim
                | none =>
                  simp only [Option.some.injEq, Prod.mk.injEq] at hb
                  obtain ⟨rfl, rfl, rfl⟩ := hb
                  cases isS <;> simp [Instr.sliceBounds, hb0, hb1] <;> omega
              | some lv =>
                cases lo' with
                | none => exact h1.elim
                | some lu =>
                  cases lv <;> simp only at hb <;> try (cases hb; done)
                  rename_i kl nl
                  split at hb
                  · rename_i hc2
                    cases hb
                    simp only [VRo] at h1
                    rw [h1.int_inv]
                    have hb2 := run_sliceBound (P := P) w kl nl nh.toNat (.slice3C) hc2.1 hc2.2
                    cases isS <;> simp [Instr.sliceBounds, hb0, hb1, hb2] <;> omega
                  · cases hb
            · rw [if_neg hc] at hb; cases hb
      · rw [if_neg hm] at hb; cases hb

def AX.ofo : Option Operand → Option (Option AX)
  | none => some none
  | some x => (AX.of x).map some

theorem AX.ofo_rel {m : LM} {fr : List V} {a : Act} {x : Option Operand} {ax : Option AX} (h : AX.ofo x = some ax) (hf : VRs m fr a.tmps.toList) : VRo m (ax.map (·.ev fr)) (x.map a.eval) := by
  cases x with
  | none => simp only [AX.ofo, Option.some.injEq] at h; subst h; trivial
  | some x =>
    simp only [AX.ofo] at h
    cases hx : AX.of x with
    | none => rw [hx] at h; cases h
    | some a' => rw [hx] at h; cases h; exact AX.of_rel hx hf

def rSliceStr (x : AX) (lo hi : Option AX) : List V → St → AR := fun fr S =>
  match x.ev fr with
  | .str s => match bnds s.length s.length (lo.map (·.ev fr)) (hi.map (·.ev fr)) none with
    | some (l, h, _) => .val (.str ((s.take h).drop l)) S
    | none => .stuck
  | _ => .stuck

theorem extract_mk (s : List UInt8) (l h : Nat) : (ByteArray.mk s.toArray).extract l h = ⟨((s.take h).drop l).toArray⟩ := by
  apply ByteArray.ext
  apply Array.ext'
  rw [ByteArray.data_extract]
  simp [List.drop_take]

theorem ok_sliceStr {P : Program} {o : Oper} {t : TypeId} {x : Operand} {ax : AX} {lo hi : Option Operand} {alo ahi : Option AX} (ho : o.op = .slice t x lo hi none) (hx : AX.of x = some ax) (hlo : AX.ofo lo = some alo)
    (hhi : AX.ofo hi = some ahi) (ht : P.underlying t = some .string) : OpOk P o (rSliceStr ax alo ahi) :=
  OpOk.pure fun m S base w0 w fr a hS hf => by
    have rx := AX.of_rel hx hf
    have rlo := AX.ofo_rel hlo hf
    have rhi := AX.ofo_rel hhi hf
    unfold rSliceStr
    split
    · rename_i s he
      rw [he] at rx
      split
      · rename_i l h c hb
        obtain ⟨h1, h2⟩ := run_bnds (P := P) (isS := false) (mx' := none) hb (Nat.le_refl _) rlo rhi trivial w
        refine .inr ⟨_, .string ⟨((s.take h).drop l).toArray⟩, rfl, ?_, VR.str_mk _ _⟩
        simp [execOp, ho, rx.str_inv, Instr.sliceAt, Instr.slice, run_underlying ht, size_mk, h1, extract_mk]
      · exact .inl rfl
    · exact .inl rfl

def rSliceSl (k : Nat) (x : AX) (lo hi mx : Option AX) : List V → St → AR := fun fr S =>
  match x.ev fr with
  | .slice i o l c k' t => if k' = k then match bnds l c (lo.map (·.ev fr)) (hi.map (·.ev fr)) (mx.map (·.ev fr)) with
      | some (lo', hi', c') => .val (.slice i (o + lo' * k) (hi' - lo') (c' - lo') k (t || mx.isSome)) S
      | none => .stuck
    else .stuck
  | .nilSlice => match bnds 0 0 (lo.map (·.ev fr)) (hi.map (·.ev fr)) (mx.map (·.ev fr)) with
    | some (_, _, _) => .val .nilSlice S
    | none => .stuck
  | _ => .stuck

theorem ok_sliceSl {P : Program} {o : Oper} {t e : TypeId} {x : Operand} {ax : AX} {lo hi mx : Option Operand} {alo ahi amx : Option AX} {i : TypeInfo} (ho : o.op = .slice t x lo hi mx) (hx : AX.of x = some ax) (hlo : AX.ofo lo = some alo)
    (hhi : AX.ofo hi = some ahi) (hmx : AX.ofo mx = some amx) (ht : P.underlying t = some (.slice e)) (hi' : P.info? e = some i) : OpOk P o (rSliceSl i.size ax alo ahi amx) :=
  OpOk.pure fun m S base w0 w fr a hS hf => by
    have rx := AX.of_rel hx hf
    have rlo := AX.ofo_rel hlo hf
    have rhi := AX.ofo_rel hhi hf
    have rmx := AX.ofo_rel hmx hf
    unfold rSliceSl
    split
    · rename_i j off l c k t' he
      rw [he] at rx
      split
      · rename_i hk
        subst hk
        split
        · rename_i l' h' c2 hb
          obtain ⟨L, y, c', hL, hu, hok⟩ := rx.slice_inv
          obtain ⟨h1, h2, h3, h4, h5, h6⟩ := run_bnds (P := P) (isS := true) hb hok.cap_le rlo rhi rmx w
          have hln := hok.len_le
          have hcl := hok.cap_le
          have hhc : h' ≤ c2 ∨ (amx = none ∧ h' ≤ c) := by
            rcases h4 with h4 | h4
            · exact .inl (h5 h4)
            · by_cases hm : (amx.map (·.ev fr)) = none
              · right
                refine ⟨by simpa using hm, by omega⟩
              · left
                -- a maximum without a high bound is none
                unfold bnds at hb
                cases amx with
                | none => simp at hm
                | some am =>
                  cases ahi with
                  | none => simp at hb; split at hb <;> simp at hb
                  | some ah => exact h5 rfl
          refine .inr ⟨_, .slice (some (if (if (amx.map (·.ev fr)).isSome then c2 else c') = l' then y else y.add (l' * i.size))) (h' - l') ((if (amx.map (·.ev fr)).isSome then c2 else c') - l'), rfl, ?_, ?_⟩
          · simp only [execOp, ho, hu, Instr.sliceAt, Instr.slice, Sem.run_bind, run_underlying ht, Result.andThen_ok, h1, sizeOf, typeInfo, run_program, hi', Sem.run_pure, Option.map_some, addr_add]
            rw [apply_ite some]
          · simp only [VR]
            cases amx with
            | none =>
              have hc2 := h2 rfl
              subst hc2
              simp only [Option.map_none, Option.isSome_none, Bool.false_eq_true, if_false, Bool.or_false]
              by_cases he' : c' = l'
              · refine ⟨L, y, c' - l', hL, by rw [if_pos he'], ⟨by omega, by omega, fun ht => by have := hok.tight ht; omega, fun h => by omega, hok.here, fun ho h => by omega⟩⟩
              · refine ⟨L, y.add (l' * i.size), c' - l', hL, by rw [if_neg he'], ⟨by omega, by omega, fun ht => by have := hok.tight ht; omega, fun h => by rw [hok.place (by omega), addr_add, Nat.add_assoc], fun ho => by rw [hok.place (by omega), addr_add], fun ho h => ?_⟩⟩
                have := hok.room ho (by omega)
                have hs : (c' - l') * i.size + l' * i.size = c' * i.size := by rw [← Nat.add_mul]; congr 1; omega
                omega
            | some am =>
              simp only [Option.map_some, Option.isSome_some, if_true, Bool.or_true]
              have hle : h' ≤ c2 := by
                rcases hhc with h | h
                · exact h
                · cases h.1
              by_cases he' : c2 = l'
              · refine ⟨L, y, c2 - l', hL, by rw [if_pos he'], ⟨by omega, Nat.le_refl _, fun _ => rfl, fun h => by omega, hok.here, fun ho h => by omega⟩⟩
              · refine ⟨L, y.add (l' * i.size), c2 - l', hL, by rw [if_neg he'], ⟨by omega, Nat.le_refl _, fun _ => rfl, fun h => by rw [hok.place (by omega), addr_add, Nat.add_assoc], fun ho => by rw [hok.place (by omega), addr_add], fun ho h => ?_⟩⟩
                have := hok.room ho (by omega)
                have hs : (c2 - l') * i.size + l' * i.size = c2 * i.size := by rw [← Nat.add_mul]; congr 1; omega
                have hm : c2 * i.size ≤ c' * i.size := Nat.mul_le_mul_right _ (by omega)
                omega
        · exact .inl rfl
      · exact .inl rfl
    · rename_i he
      rw [he] at rx
      split
      · rename_i l' h' c2 hb
        obtain ⟨h1, h2, h3, h4, h5, h6⟩ := run_bnds (P := P) (isS := true) hb (Nat.le_refl _) rlo rhi rmx w
        refine .inr ⟨_, .slice none 0 0, rfl, ?_, by simp only [VR]⟩
        have hh : h' = 0 ∧ l' = 0 ∧ c2 = 0 := by
          rcases h4 with h4 | h4
          · have := h5 h4; omega
          · omega
        obtain ⟨rfl, rfl, rfl⟩ := hh
        have hz : (if (amx.map (·.ev fr)).isSome = true then 0 else 0) = 0 := by split <;> rfl
        simp only [execOp, ho, rx.nilSlice_inv, Instr.sliceAt, Instr.slice, Sem.run_bind, run_underlying ht, Result.andThen_ok, h1, sizeOf, typeInfo, run_program, hi', Sem.run_pure, hz, if_true, Nat.sub_self]
      · exact .inl rfl
    · exact .inl rfl

/-- A slice of an array variable. -/
def rSliceArr (n k : Nat) (x : AX) (lo hi mx : Option AX) : List V → St → AR := fun fr S =>
  match x.ev fr with
  | .ptr i o => match S.cells i with
    | some vs => if o + n * k ≤ vs.length then match bnds n n (lo.map (·.ev fr)) (hi.map (·.ev fr)) (mx.map (·.ev fr)) with
        | some (lo', hi', c') => .val (.slice i (o + lo' * k) (hi' - lo') (c' - lo') k true) S
        | none => .stuck
      else .stuck
    | none => .stuck
  | _ => .stuck

theorem bnds_le {n : Nat} {lo hi mx : Option V} {l h c : Nat} (hb : bnds n n lo hi mx = some (l, h, c)) : l ≤ h ∧ h ≤ c ∧ c ≤ n := by
  unfold bnds at hb
  cases mx with
  | none =>
    simp only at hb
    cases hi with
    | none =>
      simp only [Option.isSome_none, Bool.false_eq_true, if_false] at hb
      cases lo with
      | none => simp at hb; omega
      | some lv =>
        cases lv <;> simp only at hb <;> try (cases hb; done)
        split at hb
        · cases hb; omega
        · cases hb
    | some hv =>
      cases hv <;> simp only at hb <;> try (cases hb; done)
      rename_i kh nh
      by_cases hc : 0 ≤ nh ∧ nh ≤ (n : Int)
      · simp only [hc, and_self, if_true] at hb
        cases lo with
        | none => simp at hb; omega
        | some lv =>
          cases lv <;> simp only at hb <;> try (cases hb; done)
          split at hb
          · cases hb; omega
          · cases hb
      · simp [hc] at hb
  | some mv =>
    cases mv <;> simp only at hb <;> try (cases hb; done)
    rename_i km nm
    by_cases hm : 0 ≤ nm ∧ nm ≤ (n : Int)
    · simp only [hm, and_self, if_true] at hb
      cases hi with
      | none => simp at hb
      | some hv =>
        cases hv <;> simp only at hb <;> try (cases hb; done)
        rename_i kh nh
        by_cases hc : 0 ≤ nh ∧ nh ≤ (nm.toNat : Int)
        · simp only [hc, and_self, if_true] at hb
          cases lo with
          | none => simp at hb; omega
          | some lv =>
            cases lv <;> simp only at hb <;> try (cases hb; done)
            split at hb
            · cases hb; omega
            · cases hb
        · rw [if_neg hc] at hb; cases hb
    · rw [if_neg hm] at hb; cases hb

theorem ok_sliceArr {P : Program} {o : Oper} {t e : TypeId} {n : Nat} {x : Operand} {ax : AX} {lo hi mx : Option Operand} {alo ahi amx : Option AX} {i : TypeInfo} (ho : o.op = .slice t x lo hi mx) (hx : AX.of x = some ax) (hlo : AX.ofo lo = some alo)
    (hhi : AX.ofo hi = some ahi) (hmx : AX.ofo mx = some amx) (ht : P.underlying t = some (.array n e)) (hi' : P.info? e = some i) : OpOk P o (rSliceArr n i.size ax alo ahi amx) :=
  OpOk.pure fun m S base w0 w fr a hS hf => by
    have rx := AX.of_rel hx hf
    have rlo := AX.ofo_rel hlo hf
    have rhi := AX.ofo_rel hhi hf
    have rmx := AX.ofo_rel hmx hf
    unfold rSliceArr
    split
    · rename_i j off he
      rw [he] at rx
      obtain ⟨L, hL, hu⟩ := rx.ptr_inv
      split
      · rename_i vs hvs
        split
        · rename_i hle
          split
          · rename_i l' h' c2 hb
            obtain ⟨h1, h2, _⟩ := run_bnds (P := P) (isS := false) hb (Nat.le_refl _) rlo rhi rmx w
            obtain ⟨h3, h4, h5⟩ := bnds_le hb
            have hcc : (if (amx.map (·.ev fr)).isSome = true then c2 else n) = c2 := by
              cases amx with
              | none => have := h2 rfl; simp [this]
              | some _ => rfl
            rw [hcc] at h1
            refine .inr ⟨_, .slice (some (if c2 = l' then ⟨L.block, L.off + off, none⟩ else ⟨L.block, L.off + off + l' * i.size, none⟩)) (h' - l') (c2 - l'), rfl, ?_, ?_⟩
            · simp only [execOp, ho, hu, Instr.sliceAt, Instr.sureAddr, Sem.run_bind, run_underlying ht, Result.andThen_ok, h1, sizeOf, typeInfo, run_program, hi', Sem.run_pure, addr_add]
            · simp only [VR]
              have hroom : L.own = true → L.off + (off + n * i.size) ≤ L.size := by
                intro hown
                unfold St.cells at hvs
                split at hvs
                · rename_i vs' own hg
                  cases hvs
                  obtain ⟨L', g1, g2, g3⟩ := hS.blk j _ hg
                  rw [hL] at g1; cases g1
                  have := g2.2.2.1 hown
                  omega
                · cases hvs
              by_cases he' : c2 = l'
              · exact ⟨L, ⟨L.block, L.off + off, none⟩, c2 - l', hL, by rw [if_pos he'], ⟨by omega, Nat.le_refl _, fun _ => rfl, fun h => by omega, fun _ => rfl, fun ho h => by omega⟩⟩
              · refine ⟨L, ⟨L.block, L.off + off + l' * i.size, none⟩, c2 - l', hL, by rw [if_neg he'], ⟨by omega, Nat.le_refl _, fun _ => rfl, fun h => by rw [Nat.add_assoc], fun _ => rfl, fun ho h => ?_⟩⟩
                have := hroom ho
                have hs : (c2 - l') * i.size + l' * i.size = c2 * i.size := by rw [← Nat.add_mul]; congr 1; omega
                have hm : c2 * i.size ≤ n * i.size := Nat.mul_le_mul_right _ h5
                omega
          · exact .inl rfl
        · exact .inl rfl
      · exact .inl rfl
    · exact .inl rfl

end Go.Th
end
