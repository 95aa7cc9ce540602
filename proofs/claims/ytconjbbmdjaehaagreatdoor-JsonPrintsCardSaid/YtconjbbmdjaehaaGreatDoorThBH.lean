/- What the row of one statement stands on: a store, abstract code, functions of the program and their laws (ThF, ThG, ThH). -/
import Derived.Test.YtconjbbmdjaehaaGreatDoorThBE
import Derived.Laws.Slices

section
/- Slicing, addresses, indexes, lengths, appends, copies. -/
set_option linter.unusedSimpArgs false
set_option linter.unusedVariables false
namespace Go.Th
open Go.RowKit Go.Lib

def rFieldAddr (off : Nat) (x : AX) : List V → St → AR := fun fr S =>
  match x.ev fr with
  | .ptr i o => .val (.ptr i (o + off)) S
  | _ => .stuck

theorem ok_fieldAddr {P : Program} {o : Oper} {s : TypeId} {x : Operand} {ax : AX} {n : Nat} {fields : Array Field} {f : Field} {i : TypeInfo} (ho : o.op = .fieldAddr s x n) (hx : AX.of x = some ax)
    (hs : P.underlying s = some (.struct fields)) (hf0 : fields[n]? = some f) (hi : P.info? f.type = some i) (hne : i.size ≠ 0) : OpOk P o (rFieldAddr f.offset ax) :=
  OpOk.pure fun m S base w0 w fr a hS hf => by
    have rx := AX.of_rel hx hf
    unfold rFieldAddr
    split
    · rename_i j off he
      rw [he] at rx
      obtain ⟨L, hL, hu⟩ := rx.ptr_inv
      refine .inr ⟨_, .pointer (some ⟨L.block, L.off + off + f.offset, none⟩), rfl, ?_, ?_⟩
      · simp [execOp, ho, hu, Instr.fieldAt, run_underlying hs, hf0, Instr.sureAddr, fieldPlace, sizeOf, typeInfo, hi, hne, addr_add]
      · simp only [VR]; exact ⟨L, hL, by rw [Nat.add_assoc]⟩
    · exact .inl rfl

def rIdxAddr (k : Nat) (x ix : AX) : List V → St → AR := fun fr S =>
  match x.ev fr, ix.ev fr with
  | .slice i o l _ k' _, .int _ n => if k' = k ∧ 0 ≤ n ∧ n < l then .val (.ptr i (o + n.toNat * k)) S else .stuck
  | _, _ => .stuck

theorem ok_idxAddr {P : Program} {o : Oper} {t e : TypeId} {x ix : Operand} {ax ai : AX} {i : TypeInfo} (ho : o.op = .indexAddr t x ix) (hx : AX.of x = some ax) (hix : AX.of ix = some ai)
    (ht : P.underlying t = some (.slice e)) (hi : P.info? e = some i) : OpOk P o (rIdxAddr i.size ax ai) :=
  OpOk.pure fun m S base w0 w fr a hS hf => by
    have rx := AX.of_rel hx hf
    have ri := AX.of_rel hix hf
    unfold rIdxAddr
    split
    · rename_i j off l c k t' kk n hex hei
      rw [hex] at rx; rw [hei] at ri
      split
      · rename_i hc
        obtain ⟨hk, h0, h1⟩ := hc
        subst hk
        obtain ⟨L, y, c', hL, hu, hok⟩ := rx.slice_inv
        have hy := slice_addr hok (by omega)
        subst hy
        refine .inr ⟨_, .pointer (some ⟨L.block, L.off + off + n.toNat * i.size, none⟩), rfl, ?_, ?_⟩
        · have hb : 0 ≤ n ∧ n < (l : Int) := ⟨h0, h1⟩
          simp [execOp, ho, hu, ri.int_inv, Instr.indexAt, asIntOf, run_underlying ht, hb, sizeOf, typeInfo, hi, addr_add]
        · simp only [VR]; exact ⟨L, hL, by rw [Nat.add_assoc]⟩
      · exact .inl rfl
    · exact .inl rfl

def rIdxAddrArr (len k : Nat) (x ix : AX) : List V → St → AR := fun fr S =>
  match x.ev fr, ix.ev fr with
  | .ptr i o, .int _ n => if 0 ≤ n ∧ n < len then .val (.ptr i (o + n.toNat * k)) S else .stuck
  | _, _ => .stuck

theorem ok_idxAddrArr {P : Program} {o : Oper} {t e : TypeId} {len : Nat} {x ix : Operand} {ax ai : AX} {i : TypeInfo} (ho : o.op = .indexAddr t x ix) (hx : AX.of x = some ax) (hix : AX.of ix = some ai)
    (ht : P.underlying t = some (.array len e)) (hi : P.info? e = some i) : OpOk P o (rIdxAddrArr len i.size ax ai) :=
  OpOk.pure fun m S base w0 w fr a hS hf => by
    have rx := AX.of_rel hx hf
    have ri := AX.of_rel hix hf
    unfold rIdxAddrArr
    split
    · rename_i j off kk n hex hei
      rw [hex] at rx; rw [hei] at ri
      split
      · rename_i hc
        obtain ⟨h0, h1⟩ := hc
        obtain ⟨L, hL, hu⟩ := rx.ptr_inv
        refine .inr ⟨_, .pointer (some ⟨L.block, L.off + off + n.toNat * i.size, none⟩), rfl, ?_, ?_⟩
        · have hb : 0 ≤ n ∧ n < (len : Int) := ⟨h0, h1⟩
          simp [execOp, ho, hu, ri.int_inv, Instr.indexAt, asIntOf, run_underlying ht, Instr.sureAddr, hb, sizeOf, typeInfo, hi, addr_add]
        · simp only [VR]; exact ⟨L, hL, by rw [Nat.add_assoc]⟩
      · exact .inl rfl
    · exact .inl rfl

def partV (n : Option Nat) (cs : List V) (off : Nat) : Option V :=
  match n with
  | none => cs[off]?
  | some n => if off + n ≤ cs.length then some (.agg ((cs.drop off).take n)) else none

def partInfo (P : Program) (t : TypeId) : Option (Option Nat) :=
  match P.underlying t, P.info? t with
  | some d, some i => if isAggD d then some (some i.size) else some none
  | _, _ => none

theorem partV_rel {P : Program} {m : LM} {t : TypeId} {n : Option Nat} {cs : List V} {us : Array Value} {off : Nat} {v : V} (hp : partInfo P t = some n) (hr : VRs m cs us.toList) (hv : partV n cs off = some v) (w : World) :
    ∃ u, (part t us off).run P w = .ok u w ∧ VR m v u := by
  unfold partInfo at hp
  cases hd : P.underlying t with
  | none => simp [hd] at hp
  | some d =>
    cases hi : P.info? t with
    | none => simp [hd, hi] at hp
    | some i =>
      simp only [hd, hi] at hp
      by_cases ha : isAggD d = true
      · simp only [ha, if_true, Option.some.injEq] at hp
        subst hp
        simp only [partV] at hv
        split at hv
        · cases hv
          have h := (hr.drop off).take i.size
          refine ⟨.agg (us.extract off (off + i.size)), ?_, ?_⟩
          · simp [part, run_isAgg hd, ha, sizeOf, typeInfo, hi]
          · simp only [VR]
            refine ⟨_, rfl, ?_⟩
            have : (us.extract off (off + i.size)).toList = (us.toList.drop off).take i.size := by
              simp [Array.toList_extract]
            rw [this]; exact h
        · cases hv
      · simp only [ha, if_false, Option.some.injEq, Bool.false_eq_true] at hp
        subst hp
        simp only [partV] at hv
        obtain ⟨u, hu, r⟩ := hr.get hv
        refine ⟨u, ?_, r⟩
        have ha' : isAggD d = false := by simpa using ha
        have hu' : us[off]? = some u := by simpa using hu
        simp [part, run_isAgg hd, ha', hu']

def rField (n : Option Nat) (off : Nat) (x : AX) : List V → St → AR := fun fr S =>
  match x.ev fr with
  | .agg cs => match partV n cs off with
    | some v => .val v S
    | none => .stuck
  | _ => .stuck

theorem ok_field {P : Program} {o : Oper} {s : TypeId} {x : Operand} {ax : AX} {j : Nat} {fields : Array Field} {f : Field} {n : Option Nat} (ho : o.op = .field s x j) (hx : AX.of x = some ax)
    (hs : P.underlying s = some (.struct fields)) (hf0 : fields[j]? = some f) (hn : partInfo P f.type = some n) : OpOk P o (rField n f.offset ax) :=
  OpOk.pure fun m S base w0 w fr a hS hf => by
    have rx := AX.of_rel hx hf
    unfold rField
    split
    · rename_i cs he
      rw [he] at rx
      obtain ⟨us, hu, hr⟩ := rx.agg_inv
      split
      · rename_i v hv
        obtain ⟨u, h1, h2⟩ := partV_rel hn hr hv w
        exact .inr ⟨_, u, rfl, by simp [execOp, ho, hu, Instr.field, run_underlying hs, hf0, asAgg, h1], h2⟩
      · exact .inl rfl
    · exact .inl rfl

def rIdxStr (x ix : AX) : List V → St → AR := fun fr S =>
  match x.ev fr, ix.ev fr with
  | .str s, .int _ n => if 0 ≤ n then match s[n.toNat]? with
      | some b => .val (.int .u8 b.toNat) S
      | none => .stuck
    else .stuck
  | _, _ => .stuck

theorem getElem?_mk (s : List UInt8) (n : Nat) : (ByteArray.mk s.toArray)[n]? = s[n]? := by
  by_cases h : n < s.length
  · rw [ByteArray.getElem?_lt' _ _ (by rw [size_mk]; exact h), List.getElem?_eq_getElem h]
    rfl
  · rw [ByteArray.getElem?_ge' _ _ (by rw [size_mk]; exact h), List.getElem?_eq_none (by omega)]

theorem ok_idxStr {P : Program} {o : Oper} {t : TypeId} {x ix : Operand} {ax ai : AX} (ho : o.op = .index t x ix) (hx : AX.of x = some ax) (hix : AX.of ix = some ai)
    (ht : P.underlying t = some .string) : OpOk P o (rIdxStr ax ai) :=
  OpOk.pure fun m S base w0 w fr a hS hf => by
    have rx := AX.of_rel hx hf
    have ri := AX.of_rel hix hf
    unfold rIdxStr
    split
    · rename_i s kk n hex hei
      rw [hex] at rx; rw [hei] at ri
      split
      · rename_i h0
        split
        · rename_i b hb
          exact .inr ⟨_, .int .u8 b.toNat, rfl, by simp [execOp, ho, rx.str_inv, ri.int_inv, Instr.index, asIntOf, run_underlying ht, h0, getElem?_mk, hb], VR.int_mk _ _ _⟩
        · exact .inl rfl
      · exact .inl rfl
    · exact .inl rfl

def rIdxArr (len k : Nat) (pn : Option Nat) (x ix : AX) : List V → St → AR := fun fr S =>
  match x.ev fr, ix.ev fr with
  | .agg cs, .int _ n => if 0 ≤ n ∧ n < len then match partV pn cs (n.toNat * k) with
      | some v => .val v S
      | none => .stuck
    else .stuck
  | _, _ => .stuck

theorem ok_idxArr {P : Program} {o : Oper} {t e : TypeId} {len : Nat} {x ix : Operand} {ax ai : AX} {i : TypeInfo} {pn : Option Nat} (ho : o.op = .index t x ix) (hx : AX.of x = some ax) (hix : AX.of ix = some ai)
    (ht : P.underlying t = some (.array len e)) (hi : P.info? e = some i) (hpn : partInfo P e = some pn) : OpOk P o (rIdxArr len i.size pn ax ai) :=
  OpOk.pure fun m S base w0 w fr a hS hf => by
    have rx := AX.of_rel hx hf
    have ri := AX.of_rel hix hf
    unfold rIdxArr
    split
    · rename_i cs kk n hex hei
      rw [hex] at rx; rw [hei] at ri
      obtain ⟨us, hu, hr⟩ := rx.agg_inv
      split
      · rename_i hc
        obtain ⟨h0, h1⟩ := hc
        split
        · rename_i v hv
          obtain ⟨u, g1, g2⟩ := partV_rel hpn hr hv w
          have hb : 0 ≤ n ∧ n < (len : Int) := ⟨h0, h1⟩
          exact .inr ⟨_, u, rfl, by simp [execOp, ho, hu, ri.int_inv, Instr.index, asIntOf, run_underlying ht, hb, sizeOf, typeInfo, hi, g1], g2⟩
        · exact .inl rfl
      · exact .inl rfl
    · exact .inl rfl

def rExtract (n : Nat) (x : AX) : List V → St → AR := fun fr S =>
  match x.ev fr with
  | .tuple vs => match vs[n]? with
    | some v => .val v S
    | none => .stuck
  | _ => .stuck

theorem ok_extract {P : Program} {o : Oper} {x : Operand} {ax : AX} {n : Nat} (ho : o.op = .extract x n) (hx : AX.of x = some ax) : OpOk P o (rExtract n ax) :=
  OpOk.pure fun m S base w0 w fr a hS hf => by
    have rx := AX.of_rel hx hf
    unfold rExtract
    split
    · rename_i vs he
      rw [he] at rx
      obtain ⟨us, hu, hr⟩ := rx.tuple_inv
      split
      · rename_i v hv
        obtain ⟨u, g1, g2⟩ := hr.get hv
        have g1' : us[n]? = some u := by simpa using g1
        exact .inr ⟨_, u, rfl, by simp [execOp, ho, hu, Instr.extract, g1'], g2⟩
      · exact .inl rfl
    · exact .inl rfl

def bnds (len cap : Nat) (lo hi mx : Option V) : Option (Nat × Nat × Nat) :=
  let m : Option Nat := match mx with
    | some (.int _ n) => if 0 ≤ n ∧ n ≤ cap then some n.toNat else none
    | some _ => none
    | none => some cap
  match m with
  | none => none
  | some m =>
    let h : Option Nat := match hi with
      | some (.int _ n) => if 0 ≤ n ∧ n ≤ m then some n.toNat else none
      | some _ => none
      | none => if mx.isSome then none else some len
    match h with
    | none => none
    | some h =>
      match lo with
      | some (.int _ n) => if 0 ≤ n ∧ n ≤ h then some (n.toNat, h, m) else none
      | some _ => none
      | none => some (0, h, m)

def VRo (m : LM) : Option V → Option Value → Prop
  | none, none => True
  | some v, some u => VR m v u
  | _, _ => False

theorem run_bnds {P : Program} {m : LM} {isS : Bool} {len cap cap' : Nat} {lo hi mx : Option V} {lo' hi' mx' : Option Value} {l h c : Nat} (hb : bnds len cap lo hi mx = some (l, h, c)) (hcap : cap ≤ cap')
    (h1 : VRo m lo lo') (h2 : VRo m hi hi') (h3 : VRo m mx mx') (w : World) :
    (Instr.sliceBounds isS len cap' lo' hi' mx').run P w = .ok (l, h, if mx.isSome then c else cap') w ∧ (mx = none → c = cap) ∧ l ≤ h ∧ (hi.isSome ∨ h = len) ∧ (hi.isSome → h ≤ c) ∧ c ≤ cap := by
  unfold bnds at hb
  cases mx with
  | none =>
    cases mx' with
    | some _ => exact h3.elim
    | none =>
      simp only at hb
      cases hi with
      | none =>
        cases hi' with
        | some _ => exact h2.elim
        | none =>
          simp only [Option.isSome_none, Bool.false_eq_true, if_false] at hb
          cases lo with
          | none =>
            cases lo' with
            | some _ => exact h1.elim
            | none =>
              simp only [Option.some.injEq, Prod.mk.injEq] at hb
              obtain ⟨rfl, rfl, rfl⟩ := hb
              simp [Instr.sliceBounds]
          | some lv =>
            cases lo' with
            | none => exact h1.elim
            | some lu =>
              cases lv <;> simp only at hb <;> try (cases hb; done)
              rename_i kl nl
              split at hb
              · rename_i hc
                cases hb
                simp only [VRo] at h1
                rw [h1.int_inv]
                have := run_sliceBound (P := P) w kl nl len (.sliceB) hc.1 hc.2
                simp [Instr.sliceBounds, this]; omega
              · cases hb
      | some hv =>
        cases hi' with
        | none => exact h2.elim
        | some hu =>
          cases hv <;> simp only at hb <;> try (cases hb; done)
          rename_i kh nh
          simp only [VRo] at h2
          rw [h2.int_inv]
          by_cases hc : 0 ≤ nh ∧ nh ≤ (cap : Int)
          · simp only [hc, and_self, if_true] at hb
            have hb1 := fun code => run_sliceBound (P := P) w kh nh cap' code hc.1 (by omega)
            cases lo with
            | none =>
              cases lo' with
              | some _ => exact h1.elim
              | none =>
                simp only [Option.some.injEq, Prod.mk.injEq] at hb
                obtain ⟨rfl, rfl, rfl⟩ := hb
                cases isS <;> simp [Instr.sliceBounds, hb1] <;> omega
            | some lv =>
              cases lo' with
              | none => exact h1.elim
              | some lu =>
                cases lv <;> simp only at hb <;> try (cases hb; done)
                rename_i kl nl
                split at hb
                · rename_i hc2
                  cases hb
                  simp only [VRo] at h1
                  rw [h1.int_inv]
                  have hb2 := run_sliceBound (P := P) w kl nl nh.toNat (.sliceB) hc2.1 hc2.2
                  cases isS <;> simp [Instr.sliceBounds, hb1, hb2] <;> omega
                · cases hb
          · simp [hc] at hb
  | some mv =>
    cases mx' with
    | none => exact h3.elim
    | some mu =>
      cases mv <;> simp only at hb <;> try (cases hb; done)
      rename_i km nm
      simp only [VRo] at h3
      rw [h3.int_inv]
      by_cases hm : 0 ≤ nm ∧ nm ≤ (cap : Int)
      · simp only [hm, and_self, if_true] at hb
        have hb0 := fun code => run_sliceBound (P := P) w km nm cap' code hm.1 (by omega)
        cases hi with
        | none => simp at hb
        | some hv =>
          cases hi' with
          | none => exact h2.elim
          | some hu =>
            cases hv <;> simp only at hb <;> try (cases hb; done)
            rename_i kh nh
            simp only [VRo] at h2
            rw [h2.int_inv]
            by_cases hc : 0 ≤ nh ∧ nh ≤ (nm.toNat : Int)
            · simp only [hc, and_self, if_true] at hb
              have hb1 := run_sliceBound (P := P) w kh nh nm.toNat (.slice3B) hc.1 hc.2
              cases lo with
              | none =>
                cases lo' with
                | some _ => exact h1.elim
                | none =>
                  simp only [Option.some.injEq, Prod.mk.injEq] at hb
                  obtain ⟨rfl, rfl, rfl⟩ := hb
                  cases isS <;> simp [Instr.sliceBounds, hb0, hb1] <;> omega
              | some lv =>
                cases lo' with
                | none => exact h1.elim
                | some lu =>
                  cases lv <;> simp only at hb <;> try (cases hb; done)
                  rename_i kl nl
                  split at hb
                  · rename_i hc2
                    cases hb
                    simp only [VRo] at h1
                    rw [h1.int_inv]
                    have hb2 := run_sliceBound (P := P) w kl nl nh.toNat (.slice3C) hc2.1 hc2.2
                    cases isS <;> simp [Instr.sliceBounds, hb0, hb1, hb2] <;> omega
                  · cases hb
            · rw [if_neg hc] at hb; cases hb
      · rw [if_neg hm] at hb; cases hb

def AX.ofo : Option Operand → Option (Option AX)
  | none => some none
  | some x => (AX.of x).map some

theorem AX.ofo_rel {m : LM} {fr : List V} {a : Act} {x : Option Operand} {ax : Option AX} (h : AX.ofo x = some ax) (hf : VRs m fr a.tmps.toList) : VRo m (ax.map (·.ev fr)) (x.map a.eval) := by
  cases x with
  | none => simp only [AX.ofo, Option.some.injEq] at h; subst h; trivial
  | some x =>
    simp only [AX.ofo] at h
    cases hx : AX.of x with
    | none => rw [hx] at h; cases h
    | some a' => rw [hx] at h; cases h; exact AX.of_rel hx hf

def rSliceStr (x : AX) (lo hi : Option AX) : List V → St → AR := fun fr S =>
  match x.ev fr with
  | .str s => match bnds s.length s.length (lo.map (·.ev fr)) (hi.map (·.ev fr)) none with
    | some (l, h, _) => .val (.str ((s.take h).drop l)) S
    | none => .stuck
  | _ => .stuck

theorem extract_mk (s : List UInt8) (l h : Nat) : (ByteArray.mk s.toArray).extract l h = ⟨((s.take h).drop l).toArray⟩ := by
  apply ByteArray.ext
  apply Array.ext'
  rw [ByteArray.data_extract]
  simp [List.drop_take]

theorem ok_sliceStr {P : Program} {o : Oper} {t : TypeId} {x : Operand} {ax : AX} {lo hi : Option Operand} {alo ahi : Option AX} (ho : o.op = .slice t x lo hi none) (hx : AX.of x = some ax) (hlo : AX.ofo lo = some alo)
    (hhi : AX.ofo hi = some ahi) (ht : P.underlying t = some .string) : OpOk P o (rSliceStr ax alo ahi) :=
  OpOk.pure fun m S base w0 w fr a hS hf => by
    have rx := AX.of_rel hx hf
    have rlo := AX.ofo_rel hlo hf
    have rhi := AX.ofo_rel hhi hf
    unfold rSliceStr
    split
    · rename_i s he
      rw [he] at rx
      split
      · rename_i l h c hb
        obtain ⟨h1, h2⟩ := run_bnds (P := P) (isS := false) (mx' := none) hb (Nat.le_refl _) rlo rhi trivial w
        refine .inr ⟨_, .string ⟨((s.take h).drop l).toArray⟩, rfl, ?_, VR.str_mk _ _⟩
        simp [execOp, ho, rx.str_inv, Instr.sliceAt, Instr.slice, run_underlying ht, size_mk, h1, extract_mk]
      · exact .inl rfl
    · exact .inl rfl

def rSliceSl (k : Nat) (x : AX) (lo hi mx : Option AX) : List V → St → AR := fun fr S =>
  match x.ev fr with
  | .slice i o l c k' t => if k' = k then match bnds l c (lo.map (·.ev fr)) (hi.map (·.ev fr)) (mx.map (·.ev fr)) with
      | some (lo', hi', c') => .val (.slice i (o + lo' * k) (hi' - lo') (c' - lo') k (t || mx.isSome)) S
      | none => .stuck
    else .stuck
  | .nilSlice => match bnds 0 0 (lo.map (·.ev fr)) (hi.map (·.ev fr)) (mx.map (·.ev fr)) with
    | some (_, _, _) => .val .nilSlice S
    | none => .stuck
  | _ => .stuck

theorem ok_sliceSl {P : Program} {o : Oper} {t e : TypeId} {x : Operand} {ax : AX} {lo hi mx : Option Operand} {alo ahi amx : Option AX} {i : TypeInfo} (ho : o.op = .slice t x lo hi mx) (hx : AX.of x = some ax) (hlo : AX.ofo lo = some alo)
    (hhi : AX.ofo hi = some ahi) (hmx : AX.ofo mx = some amx) (ht : P.underlying t = some (.slice e)) (hi' : P.info? e = some i) : OpOk P o (rSliceSl i.size ax alo ahi amx) :=
  OpOk.pure fun m S base w0 w fr a hS hf => by
    have rx := AX.of_rel hx hf
    have rlo := AX.ofo_rel hlo hf
    have rhi := AX.ofo_rel hhi hf
    have rmx := AX.ofo_rel hmx hf
    unfold rSliceSl
    split
    · rename_i j off l c k t' he
      rw [he] at rx
      split
      · rename_i hk
        subst hk
        split
        · rename_i l' h' c2 hb
          obtain ⟨L, y, c', hL, hu, hok⟩ := rx.slice_inv
          obtain ⟨h1, h2, h3, h4, h5, h6⟩ := run_bnds (P := P) (isS := true) hb hok.cap_le rlo rhi rmx w
          have hln := hok.len_le
          have hcl := hok.cap_le
          have hhc : h' ≤ c2 ∨ (amx = none ∧ h' ≤ c) := by
            rcases h4 with h4 | h4
            · exact .inl (h5 h4)
            · by_cases hm : (amx.map (·.ev fr)) = none
              · right
                refine ⟨by simpa using hm, by omega⟩
              · left
                -- a maximum without a high bound is none
                unfold bnds at hb
                cases amx with
                | none => simp at hm
                | some am =>
                  cases ahi with
                  | none => simp at hb; split at hb <;> simp at hb
                  | some ah => exact h5 rfl
          refine .inr ⟨_, .slice (some (if (if (amx.map (·.ev fr)).isSome then c2 else c') = l' then y else y.add (l' * i.size))) (h' - l') ((if (amx.map (·.ev fr)).isSome then c2 else c') - l'), rfl, ?_, ?_⟩
          · simp only [execOp, ho, hu, Instr.sliceAt, Instr.slice, Sem.run_bind, run_underlying ht, Result.andThen_ok, h1, sizeOf, typeInfo, run_program, hi', Sem.run_pure, Option.map_some, addr_add]
            rw [apply_ite some]
          · simp only [VR]
            cases amx with
            | none =>
              have hc2 := h2 rfl
              subst hc2
              simp only [Option.map_none, Option.isSome_none, Bool.false_eq_true, if_false, Bool.or_false]
              by_cases he' : c' = l'
              · refine ⟨L, y, c' - l', hL, by rw [if_pos he'], ⟨by omega, by omega, fun ht => by have := hok.tight ht; omega, fun h => by omega, hok.here, fun ho h => by omega, fun ho ht h => by have := hok.top ho ht h; omega⟩⟩
              · refine ⟨L, y.add (l' * i.size), c' - l', hL, by rw [if_neg he'], ⟨by omega, by omega, fun ht => by have := hok.tight ht; omega, fun h => by rw [hok.place (by omega), addr_add, Nat.add_assoc], fun ho => by rw [hok.place (by omega), addr_add], fun ho h => ?_, fun ho ht h => by have := hok.top ho ht h; omega⟩⟩
                have := hok.room ho (by omega)
                have hs : (c' - l') * i.size + l' * i.size = c' * i.size := by rw [← Nat.add_mul]; congr 1; omega
                omega
            | some am =>
              simp only [Option.map_some, Option.isSome_some, if_true, Bool.or_true]
              have hle : h' ≤ c2 := by
                rcases hhc with h | h
                · exact h
                · cases h.1
              by_cases he' : c2 = l'
              · refine ⟨L, y, c2 - l', hL, by rw [if_pos he'], ⟨by omega, Nat.le_refl _, fun _ => rfl, fun h => by omega, hok.here, fun ho h => by omega, fun _ h => by cases h⟩⟩
              · refine ⟨L, y.add (l' * i.size), c2 - l', hL, by rw [if_neg he'], ⟨by omega, Nat.le_refl _, fun _ => rfl, fun h => by rw [hok.place (by omega), addr_add, Nat.add_assoc], fun ho => by rw [hok.place (by omega), addr_add], fun ho h => ?_, fun _ h => by cases h⟩⟩
                have := hok.room ho (by omega)
                have hs : (c2 - l') * i.size + l' * i.size = c2 * i.size := by rw [← Nat.add_mul]; congr 1; omega
                have hm : c2 * i.size ≤ c' * i.size := Nat.mul_le_mul_right _ (by omega)
                omega
        · exact .inl rfl
      · exact .inl rfl
    · rename_i he
      rw [he] at rx
      split
      · rename_i l' h' c2 hb
        obtain ⟨h1, h2, h3, h4, h5, h6⟩ := run_bnds (P := P) (isS := true) hb (Nat.le_refl _) rlo rhi rmx w
        refine .inr ⟨_, .slice none 0 0, rfl, ?_, by simp only [VR]⟩
        have hh : h' = 0 ∧ l' = 0 ∧ c2 = 0 := by
          rcases h4 with h4 | h4
          · have := h5 h4; omega
          · omega
        obtain ⟨rfl, rfl, rfl⟩ := hh
        have hz : (if (amx.map (·.ev fr)).isSome = true then 0 else 0) = 0 := by split <;> rfl
        simp only [execOp, ho, rx.nilSlice_inv, Instr.sliceAt, Instr.slice, Sem.run_bind, run_underlying ht, Result.andThen_ok, h1, sizeOf, typeInfo, run_program, hi', Sem.run_pure, hz, if_true, Nat.sub_self]
      · exact .inl rfl
    · exact .inl rfl

def rSliceArr (n k : Nat) (x : AX) (lo hi mx : Option AX) : List V → St → AR := fun fr S =>
  match x.ev fr with
  | .ptr i o => match S.cells i with
    | some vs => if o + n * k ≤ vs.length then match bnds n n (lo.map (·.ev fr)) (hi.map (·.ev fr)) (mx.map (·.ev fr)) with
        | some (lo', hi', c') => .val (.slice i (o + lo' * k) (hi' - lo') (c' - lo') k true) S
        | none => .stuck
      else .stuck
    | none => .stuck
  | _ => .stuck

theorem bnds_le {n : Nat} {lo hi mx : Option V} {l h c : Nat} (hb : bnds n n lo hi mx = some (l, h, c)) : l ≤ h ∧ h ≤ c ∧ c ≤ n := by
  unfold bnds at hb
  cases mx with
  | none =>
    simp only at hb
    cases hi with
    | none =>
      simp only [Option.isSome_none, Bool.false_eq_true, if_false] at hb
      cases lo with
      | none => simp at hb; omega
      | some lv =>
        cases lv <;> simp only at hb <;> try (cases hb; done)
        split at hb
        · cases hb; omega
        · cases hb
    | some hv =>
      cases hv <;> simp only at hb <;> try (cases hb; done)
      rename_i kh nh
      by_cases hc : 0 ≤ nh ∧ nh ≤ (n : Int)
      · simp only [hc, and_self, if_true] at hb
        cases lo with
        | none => simp at hb; omega
        | some lv =>
          cases lv <;> simp only at hb <;> try (cases hb; done)
          split at hb
          · cases hb; omega
          · cases hb
      · simp [hc] at hb
  | some mv =>
    cases mv <;> simp only at hb <;> try (cases hb; done)
    rename_i km nm
    by_cases hm : 0 ≤ nm ∧ nm ≤ (n : Int)
    · simp only [hm, and_self, if_true] at hb
      cases hi with
      | none => simp at hb
      | some hv =>
        cases hv <;> simp only at hb <;> try (cases hb; done)
        rename_i kh nh
        by_cases hc : 0 ≤ nh ∧ nh ≤ (nm.toNat : Int)
        · simp only [hc, and_self, if_true] at hb
          cases lo with
          | none => simp at hb; omega
          | some lv =>
            cases lv <;> simp only at hb <;> try (cases hb; done)
            split at hb
            · cases hb; omega
            · cases hb
        · rw [if_neg hc] at hb; cases hb
    · rw [if_neg hm] at hb; cases hb

theorem ok_sliceArr {P : Program} {o : Oper} {t e : TypeId} {n : Nat} {x : Operand} {ax : AX} {lo hi mx : Option Operand} {alo ahi amx : Option AX} {i : TypeInfo} (ho : o.op = .slice t x lo hi mx) (hx : AX.of x = some ax) (hlo : AX.ofo lo = some alo)
    (hhi : AX.ofo hi = some ahi) (hmx : AX.ofo mx = some amx) (ht : P.underlying t = some (.array n e)) (hi' : P.info? e = some i) : OpOk P o (rSliceArr n i.size ax alo ahi amx) :=
  OpOk.pure fun m S base w0 w fr a hS hf => by
    have rx := AX.of_rel hx hf
    have rlo := AX.ofo_rel hlo hf
    have rhi := AX.ofo_rel hhi hf
    have rmx := AX.ofo_rel hmx hf
    unfold rSliceArr
    split
    · rename_i j off he
      rw [he] at rx
      obtain ⟨L, hL, hu⟩ := rx.ptr_inv
      split
      · rename_i vs hvs
        split
        · rename_i hle
          split
          · rename_i l' h' c2 hb
            obtain ⟨h1, h2, _⟩ := run_bnds (P := P) (isS := false) hb (Nat.le_refl _) rlo rhi rmx w
            obtain ⟨h3, h4, h5⟩ := bnds_le hb
            have hcc : (if (amx.map (·.ev fr)).isSome = true then c2 else n) = c2 := by
              cases amx with
              | none => have := h2 rfl; simp [this]
              | some _ => rfl
            rw [hcc] at h1
            refine .inr ⟨_, .slice (some (if c2 = l' then ⟨L.block, L.off + off, none⟩ else ⟨L.block, L.off + off + l' * i.size, none⟩)) (h' - l') (c2 - l'), rfl, ?_, ?_⟩
            · simp only [execOp, ho, hu, Instr.sliceAt, Instr.sureAddr, Sem.run_bind, run_underlying ht, Result.andThen_ok, h1, sizeOf, typeInfo, run_program, hi', Sem.run_pure, addr_add]
            · simp only [VR]
              have hroom : L.own = true → L.off + (off + n * i.size) ≤ L.size := by
                intro hown
                unfold St.cells at hvs
                split at hvs
                · rename_i vs' own hg
                  cases hvs
                  obtain ⟨L', g1, g2, g3⟩ := hS.blk j _ hg
                  rw [hL] at g1; cases g1
                  have := g2.2.2.1 hown
                  omega
                · cases hvs
              by_cases he' : c2 = l'
              · exact ⟨L, ⟨L.block, L.off + off, none⟩, c2 - l', hL, by rw [if_pos he'], ⟨by omega, Nat.le_refl _, fun _ => rfl, fun h => by omega, fun _ => rfl, fun ho h => by omega, fun _ h => by cases h⟩⟩
              · refine ⟨L, ⟨L.block, L.off + off + l' * i.size, none⟩, c2 - l', hL, by rw [if_neg he'], ⟨by omega, Nat.le_refl _, fun _ => rfl, fun h => by rw [Nat.add_assoc], fun _ => rfl, fun ho h => ?_, fun _ h => by cases h⟩⟩
                have := hroom ho
                have hs : (c2 - l') * i.size + l' * i.size = c2 * i.size := by rw [← Nat.add_mul]; congr 1; omega
                have hm : c2 * i.size ≤ n * i.size := Nat.mul_le_mul_right _ h5
                omega
          · exact .inl rfl
        · exact .inl rfl
      · exact .inl rfl
    · exact .inl rfl

end Go.Th
end

section
/- Built-in functions, maps, calls. -/
set_option linter.unusedSimpArgs false
set_option linter.unusedVariables false
namespace Go.Th
open Go.RowKit Go.Lib

theorem exec_builtin {P : Program} {o : Oper} {a : Act} {b : Builtin} {args : Array Operand} {ts : Array TypeId} (ho : o.op = .call ⟨.builtin b, args, ts⟩) (w : World) :
    ∃ cs, (execOp a.eval o).run P w = (builtin b ts o.type cs (args.map a.eval)).run P w := by
  refine ⟨?cs, ?h⟩
  rotate_left
  · simp only [execOp, ho, resolve, pure_bind, invoke]
    rfl

theorem getObj_map {P : Program} {w : World} {r : Nat} {es : Array MapEntry} {clock : Nat} (hb : w.heap[r]? = some (.map es clock)) : (getObj r).run P w = .ok (.map es clock) w := by
  simp [getObj, Sem.run, hb]

def rLen (x : AX) : List V → St → AR := fun fr S =>
  match x.ev fr with
  | .str s => .val (.int .i64 s.length) S
  | .slice _ _ l _ _ _ => .val (.int .i64 l) S
  | .nilSlice => .val (.int .i64 0) S
  | .nilMap => .val (.int .i64 0) S
  | .map i => match S.get i with
    | some (.map es _) => .val (.int .i64 es.length) S
    | _ => .stuck
  | _ => .stuck

def lenKind : TypeDesc → Nat
  | .string => 1
  | .slice _ => 2
  | .map _ _ => 3
  | _ => 0

def rLenK (n : Nat) (x : AX) : List V → St → AR := fun fr S =>
  match n, x.ev fr with
  | 1, .str s => .val (.int .i64 s.length) S
  | 2, .slice _ _ l _ _ _ => .val (.int .i64 l) S
  | 2, .nilSlice => .val (.int .i64 0) S
  | 3, .nilMap => .val (.int .i64 0) S
  | 3, .map i => match S.get i with
    | some (.map es _) => .val (.int .i64 es.length) S
    | _ => .stuck
  | _, _ => .stuck

theorem EntR.length {m : LM} : ∀ {es : List (V × V)} {ces : List MapEntry}, EntR m es ces → ces.length = es.length
  | [], _, h => by simp only [EntR] at h; simp [h]
  | (k, v) :: es, _, h => by
    obtain ⟨e, es', rfl, _, _, h3⟩ := h
    simp [h3.length]

theorem ok_len {P : Program} {o : Oper} {x : Operand} {ax : AX} {t : TypeId} {d : TypeDesc} (ho : o.op = .call ⟨.builtin .len, #[x], #[t]⟩) (hx : AX.of x = some ax) (ht : P.underlying t = some d) : OpOk P o (rLenK (lenKind d) ax) :=
  OpOk.pure fun m S base w0 w fr a hS hf => by
    have rx := AX.of_rel hx hf
    unfold rLenK
    split
    · rename_i s h1 he
      rw [he] at rx
      cases d <;> simp [lenKind] at h1
      exact .inr ⟨_, .int .i64 s.length, rfl, by obtain ⟨cs, hcs⟩ := exec_builtin (P := P) (a := a) ho w; rw [hcs]; simp [builtin, Builtin.len_, run_underlying ht, rx.str_inv, size_mk, goInt], VR.int_mk _ _ _⟩
    · rename_i l _ _ _ h1 he
      rw [he] at rx
      cases d <;> simp [lenKind] at h1
      obtain ⟨L, y, c', hL, hu, hok⟩ := rx.slice_inv
      exact .inr ⟨_, .int .i64 l, rfl, by obtain ⟨cs, hcs⟩ := exec_builtin (P := P) (a := a) ho w; rw [hcs]; simp [builtin, Builtin.len_, run_underlying ht, hu, goInt], VR.int_mk _ _ _⟩
    · rename_i h1 he
      rw [he] at rx
      cases d <;> simp [lenKind] at h1
      exact .inr ⟨_, .int .i64 0, rfl, by obtain ⟨cs, hcs⟩ := exec_builtin (P := P) (a := a) ho w; rw [hcs]; simp [builtin, Builtin.len_, run_underlying ht, rx.nilSlice_inv, goInt], VR.int_mk _ _ _⟩
    · rename_i h1 he
      rw [he] at rx
      cases d <;> simp [lenKind] at h1
      exact .inr ⟨_, .int .i64 0, rfl, by obtain ⟨cs, hcs⟩ := exec_builtin (P := P) (a := a) ho w; rw [hcs]; simp [builtin, Builtin.len_, run_underlying ht, rx.nilMap_inv, goInt], VR.int_mk _ _ _⟩
    · rename_i i h1 he
      rw [he] at rx
      cases d <;> simp [lenKind] at h1
      split
      · rename_i es own hg
        obtain ⟨L, hL, hu⟩ := rx.map_inv
        obtain ⟨L', g1, ⟨ces, clock, g2, g3, _⟩, _⟩ := hS.blk _ _ hg
        rw [hL] at g1; cases g1
        have hl : ces.size = es.length := by have := g3.length; simpa using this
        exact .inr ⟨_, .int .i64 es.length, rfl, by obtain ⟨cs, hcs⟩ := exec_builtin (P := P) (a := a) ho w; rw [hcs]; simp [builtin, Builtin.len_, run_underlying ht, hu, goInt, getObj_map g2, hl], VR.int_mk _ _ _⟩
      · exact .inl rfl
    · exact .inl rfl

def foldMM (f : Int → Int → Int) : Int → List V → Option Int
  | a, [] => some a
  | a, .int _ b :: r => foldMM f (f a b) r
  | _, _ :: _ => none

def rMinMax (f : Int → Int → Int) (xs : List AX) : List V → St → AR := fun fr S =>
  match (xs.map (·.ev fr) : List V) with
  | V.int k a :: r => match foldMM f a r with
    | some n => .val (.int k n) S
    | none => .stuck
  | _ => .stuck

def goMin (a b : Int) : Int := if b < a then b else a
def goMax (a b : Int) : Int := if b > a then b else a

theorem run_foldMin {P : Program} {m : LM} (w : World) {k : IntKind} : ∀ (r : List V) (us : List Value) (a n : Int), foldMM goMin a r = some n → VRs m r us → (us.foldlM Builtin.min2 (.int k a)).run P w = .ok (.int k n) w
  | [], us, a, n, h, hr => by
    simp only [foldMM, Option.some.injEq] at h; subst h
    simp only [VRs] at hr; subst hr; simp
  | v :: r, us, a, n, h, hr => by
    simp only [VRs] at hr
    obtain ⟨u, us', rfl, h1, h2⟩ := hr
    cases v <;> simp only [foldMM] at h <;> try (cases h; done)
    rw [h1.int_inv]
    simp only [List.foldlM_cons, Builtin.min2, pure_bind]
    exact run_foldMin w r us' _ n h h2

theorem run_foldMax {P : Program} {m : LM} (w : World) {k : IntKind} : ∀ (r : List V) (us : List Value) (a n : Int), foldMM goMax a r = some n → VRs m r us → (us.foldlM Builtin.max2 (.int k a)).run P w = .ok (.int k n) w
  | [], us, a, n, h, hr => by
    simp only [foldMM, Option.some.injEq] at h; subst h
    simp only [VRs] at hr; subst hr; simp
  | v :: r, us, a, n, h, hr => by
    simp only [VRs] at hr
    obtain ⟨u, us', rfl, h1, h2⟩ := hr
    cases v <;> simp only [foldMM] at h <;> try (cases h; done)
    rw [h1.int_inv]
    simp only [List.foldlM_cons, Builtin.max2, pure_bind]
    exact run_foldMax w r us' _ n h h2

theorem ok_min {P : Program} {o : Oper} {xs : Array Operand} {axs : List AX} {ts : Array TypeId} (ho : o.op = .call ⟨.builtin .min, xs, ts⟩) (hx : AX.ofs xs.toList = some axs) : OpOk P o (rMinMax goMin axs) :=
  OpOk.pure fun m S base w0 w fr a hS hf => by
    have rx := AX.ofs_rel hf hx
    unfold rMinMax
    split
    · rename_i k n0 r he
      rw [he] at rx
      simp only [VRs] at rx
      obtain ⟨u, us, hus, h1, h2⟩ := rx
      split
      · rename_i n hn
        refine .inr ⟨_, .int k n, rfl, ?_, VR.int_mk _ _ _⟩
        obtain ⟨cs, hcs⟩ := exec_builtin (P := P) (a := a) ho w
        rw [hcs]
        have hl : (xs.map a.eval).toList = u :: us := by rw [Array.toList_map]; exact hus
        rw [h1.int_inv] at hl
        simp only [builtin, Builtin.min_, hl, Sem.run_bind, run_foldMin w r us n0 n hn h2, Result.andThen_ok, Sem.run_pure]
      · exact .inl rfl
    · exact .inl rfl

theorem ok_max {P : Program} {o : Oper} {xs : Array Operand} {axs : List AX} {ts : Array TypeId} (ho : o.op = .call ⟨.builtin .max, xs, ts⟩) (hx : AX.ofs xs.toList = some axs) : OpOk P o (rMinMax goMax axs) :=
  OpOk.pure fun m S base w0 w fr a hS hf => by
    have rx := AX.ofs_rel hf hx
    unfold rMinMax
    split
    · rename_i k n0 r he
      rw [he] at rx
      simp only [VRs] at rx
      obtain ⟨u, us, hus, h1, h2⟩ := rx
      split
      · rename_i n hn
        refine .inr ⟨_, .int k n, rfl, ?_, VR.int_mk _ _ _⟩
        obtain ⟨cs, hcs⟩ := exec_builtin (P := P) (a := a) ho w
        rw [hcs]
        have hl : (xs.map a.eval).toList = u :: us := by rw [Array.toList_map]; exact hus
        rw [h1.int_inv] at hl
        simp only [builtin, Builtin.max_, hl, Sem.run_bind, run_foldMax w r us n0 n hn h2, Result.andThen_ok, Sem.run_pure]
      · exact .inl rfl
    · exact .inl rfl

def srcV (k : Nat) (S : St) (y : V) : Option (Nat × List V) :=
  match y with
  | .nilSlice => some (0, [])
  | .slice i o l _ k' _ => if k' = k then (S.loads i o (l * k)).map fun vs => (l, vs) else none
  | .str s => if k = 1 then some (s.length, bytesV s) else none
  | _ => none

theorem srcV_rel {P : Program} {m : LM} {S : St} {base : Nat} {w0 w : World} (hS : Sim m S base w0 w) {k n : Nat} {y : V} {vs : List V} {u : Value} (hy : srcV k S y = some (n, vs)) (hr : VR m y u) :
    (Builtin.lenOf u).run P w = .ok n w ∧ ∃ us, (∀ w', w'.heap = w.heap → (Builtin.firstCells k n u).run P w' = .ok us.toArray w') ∧ VRs m vs us ∧ vs.length = n * k := by
  unfold srcV at hy
  split at hy
  · cases hy
    rw [hr.nilSlice_inv]
    exact ⟨by simp [Builtin.lenOf], [], fun w' _ => by simp [Builtin.firstCells], by simp [VRs], by simp⟩
  · rename_i i o l c k' t
    split at hy
    · rename_i hk
      subst hk
      cases hl : S.loads i o (l * k') with
      | none => rw [hl] at hy; cases hy
      | some vs' =>
        rw [hl] at hy; cases hy
        obtain ⟨L, x, c', hL, hu, hok⟩ := hr.slice_inv
        subst hu
        have hlen : vs.length = n * k' := St.loads_len hl
        refine ⟨by simp [Builtin.lenOf], ?_⟩
        by_cases hn : n = 0
        · subst hn
          have : vs = [] := List.length_eq_zero_iff.mp (by simpa using hlen)
          subst this
          exact ⟨[], fun w' _ => by simp [Builtin.firstCells, loadCells, loadCellsFrom], by simp [VRs], by simp⟩
        · have hx := slice_addr hok (by omega)
          subst hx
          obtain ⟨us, h1, h2, h3, h4⟩ := hS.loads (P := P) hl hL
          refine ⟨us, fun w' hw' => ?_, h2, hlen⟩
          have := run_loadCells_list (P := P) w' ⟨L.block, L.off + o, none⟩ us (fun j v hj => by
            rw [addr_add]
            have := h3 j v hj
            simpa [World.cell?, hw'] using this)
          rw [h4] at this
          simpa [Builtin.firstCells] using this
    · cases hy
  · rename_i s
    split at hy
    · rename_i hk
      subst hk
      cases hy
      rw [hr.str_inv]
      refine ⟨by simp [Builtin.lenOf, size_mk], s.map fun b => Value.int .u8 b.toNat, fun w' _ => ?_, bytesV_rel m s, by simp [bytesV]⟩
      simp only [Builtin.firstCells, Sem.run_pure, extract_mk]
      congr 1
      apply Array.ext'
      simp
    · cases hy
  · cases hy

def rApp (k bytes : Nat) (x y : AX) : List V → St → AR := fun fr S =>
  match srcV k S (y.ev fr) with
  | none => .stuck
  | some (n, news) =>
    match x.ev fr with
    | .nilSlice =>
      if n = 0 then .val .nilSlice S
      else if n * bytes ≤ 140737488355328 ∧ n ≤ 4611686018427387904 then .val (.slice S.next 0 n n k false) (S.new (.cells news true))
      else .stuck
    | .slice i o l c k' t =>
      if k' ≠ k then .stuck
      else if n = 0 then .val (.slice i o l c k t) S
      else if l + n ≤ c then
        match S.stores i (o + l * k) news with
        | some S' => .val (.slice i o (l + n) c k t) S'
        | none => .stuck
      else if (l + n) * bytes ≤ 140737488355328 ∧ l + n ≤ 4611686018427387904 then
        match S.get i with
        | some (.cells vs own) =>
          if o + l * k ≤ vs.length then
            if t then .val (.slice S.next 0 (l + n) (l + n) k false) (S.new (.cells ((vs.drop o).take (l * k) ++ news) true))
            else if own && news.all V.one then .val (.slice S.next 0 (l + n) (l + n) k false) ((S.put i none).new (.cells ((vs.drop o).take (l * k) ++ news) true))
            else .stuck
          else .stuck
        | _ => .stuck
      else .stuck
    | _ => .stuck

section appendRuns
variable {P : Program} {s u e : TypeId} {i : TypeInfo} {z : Value} (hs : P.underlying s = some (.slice e)) (hu : (∃ e', P.underlying u = some (.slice e')) ∨ P.underlying u = some .string)
  (hi : P.info? e = some i) (hz : i.zero = some z)
include hs hu hi

theorem run_app_room {w w' : World} {ty : TypeId} {b : Option Addr} {l c n : Nat} {y : Value} {us : List Value} (hlen : (Builtin.lenOf y).run P w = .ok n w) (hc : (Builtin.firstCells i.size n y).run P w = .ok us.toArray w) (hroom : l + n ≤ c)
    (hst : match b with | some a => (storeCells (a.add (l * i.size)) us).run P w = .ok () w' | none => w' = w) :
    (Builtin.append_ #[s, u] ty #[.slice b l c, y]).run P w = .ok (.slice b (l + n) c) w' := by
  cases b with
  | none =>
    subst hst
    rcases hu with ⟨e', hu⟩ | hu <;> simp [Builtin.append_, run_underlying hs, run_underlying hu, sizeOf, typeInfo, hi, hlen, hroom, hc]
  | some a =>
    rcases hu with ⟨e', hu⟩ | hu <;> simp [Builtin.append_, run_underlying hs, run_underlying hu, sizeOf, typeInfo, hi, hlen, hroom, hc, hst]

include hz
theorem run_app_grow {w : World} {ty : TypeId} {b : Option Addr} {l c n : Nat} {y : Value} {us olds : List Value} (hlen : (Builtin.lenOf y).run P w = .ok n w) (hc : (Builtin.firstCells i.size n y).run P w.drew = .ok us.toArray w.drew)
    (ho : (Builtin.firstCells i.size l (.slice b l c)).run P w.drew = .ok olds.toArray w.drew) (hg : c < l + n) (h63 : l + n ≤ 4611686018427387904) (hfit : (l + n) * i.bytes ≤ 140737488355328) :
    (Builtin.append_ #[s, u] ty #[.slice b l c, y]).run P w = .ok (.slice (some ⟨w.heap.size, 0, none⟩) (l + n) (grownCap w (l + n) c e))
      (w.drew.alloc (.cells (olds ++ us ++ (Builtin.zeroCells z.cells (grownCap w (l + n) c e - (l + n))).toList).toArray e)) := by
  have hn : ¬ (l + n ≤ c) := by omega
  have h63' : ¬ (9223372036854775807 < ((l : Int) + (n : Int))) := by omega
  have h48' : ¬ (281474976710656 < Builtin.nextslicecap (l + n) c * i.bytes) := by
    have := growslice_fits hg hfit
    omega
  rcases hu with ⟨e', hu⟩ | hu <;> simp [Builtin.append_, run_underlying hs, run_underlying hu, sizeOf, typeInfo, zeroValue, hi, hz, hlen, hn, h63', h48', Question.forced, hc, ho, newRow, grownCap]
  all_goals
    congr 2
    apply Array.ext'
    simp
end appendRuns

theorem zeroCells_size (z : Array Value) (n : Nat) : (Builtin.zeroCells z n).size = n * z.size := by simp [Builtin.zeroCells]

theorem drop_take_loads {S : St} {i o n : Nat} {vs : List V} {own : Bool} (hg : S.get i = some (.cells vs own)) (hle : o + n ≤ vs.length) : S.loads i o n = some ((vs.drop o).take n) := by
  exact St.loads_of hg hle

set_option maxHeartbeats 1000000 in
theorem ok_app {P : Program} {o : Oper} {s u e : TypeId} {x y : Operand} {ax ay : AX} {i : TypeInfo} {z : Value} (ho : o.op = .call ⟨.builtin .append, #[x, y], #[s, u]⟩) (hx : AX.of x = some ax) (hy : AX.of y = some ay)
    (hs : P.underlying s = some (.slice e)) (hu : (∃ e', P.underlying u = some (.slice e')) ∨ P.underlying u = some .string) (hi : P.info? e = some i) (hz : i.zero = some z) (hzs : z.cells.size = i.size) : OpOk P o (rApp i.size i.bytes ax ay) :=
  OpOk.world fun m S base w0 w fr a hS hf => by
    have rx := AX.of_rel hx hf
    have ry := AX.of_rel hy hf
    have hex : ∀ {v : Value} {w' : World}, (Builtin.append_ #[s, u] o.type #[a.eval x, a.eval y]).run P w = .ok v w' → (execOp a.eval o).run P w = .ok (.value v) w' := by
      intro v w' h
      obtain ⟨cs, hcs⟩ := exec_builtin (P := P) (a := a) ho w
      rw [hcs]
      have : (#[x, y].map a.eval) = #[a.eval x, a.eval y] := by simp
      rw [this]
      simp only [builtin, Sem.run_bind, h, Result.andThen_ok, Sem.run_pure]
    unfold rApp
    split
    · exact .inl rfl
    · rename_i n news hsrc
      obtain ⟨hlen, us, hcells, hus, hnl⟩ := srcV_rel (P := P) hS hsrc ry
      have husl : us.length = n * i.size := by rw [hus.length, hnl]
      have grow : ∀ (l cap' : Nat) (b : Option Addr) (olds : List Value) (oldv : List V) (S0 : St) (hS0 : Sim m S0 base w0 w) (hnx : S0.next = S.next), a.eval x = .slice b l cap' →
          (Builtin.firstCells i.size l (.slice b l cap')).run P w.drew = .ok olds.toArray w.drew → VRs m oldv olds → oldv.length = l * i.size → cap' < l + n → l + n ≤ 4611686018427387904 → (l + n) * i.bytes ≤ 140737488355328 →
          ∃ u' w' m', (execOp a.eval o).run P w = .ok (.value u') w' ∧ Ext m m' ∧ Sim m' (S0.new (.cells (oldv ++ news) true)) base w0 w' ∧ VR m' (.slice S.next 0 (l + n) (l + n) i.size false) u' := by
        intro l cap' b olds oldv S0 hS0 hnx hev hold hor hol hg h63 hfit
        have hrun := run_app_grow (P := P) (ty := o.type) (y := a.eval y) hs hu hi hz hlen (hcells w.drew rfl) hold hg h63 hfit
        rw [← hev] at hrun
        have hge := grownCap_ge w (l + n) cap' e
        have hsize : (olds ++ us ++ (Builtin.zeroCells z.cells (grownCap w (l + n) cap' e - (l + n))).toList).toArray.size = grownCap w (l + n) cap' e * i.size := by
          have h1 := hor.length
          have h2 := zeroCells_size z.cells (grownCap w (l + n) cap' e - (l + n))
          simp only [List.size_toArray, List.length_append, Array.length_toList, h1, hol, husl, h2, hzs]
          rw [← Nat.add_mul, ← Nat.add_mul]
          congr 1; omega
        have hx := hS0.draw.newCells (vs := oldv ++ news) (cs := (olds ++ us ++ (Builtin.zeroCells z.cells (grownCap w (l + n) cap' e - (l + n))).toList).toArray) (by
          have hl2 : (oldv ++ news).length = (olds ++ us).length := by simp [hor.length, hus.length]
          rw [hl2]
          show VRs m (oldv ++ news) ((olds ++ us ++ _).take (olds ++ us).length)
          rw [List.take_left']
          · exact hor.append hus
          · rfl) e (0, 0) rfl
        rw [hnx] at hx
        refine ⟨_, _, _, hex hrun, LM.ext_put _ (hS.freshM _ (Nat.le_refl _)), hx, ?_⟩
        simp only [VR]
        refine ⟨_, _, grownCap w (l + n) cap' e, LM.put_same m _ _, rfl, ⟨Nat.le_refl _, hge, by simp, fun _ => rfl, fun _ => rfl, fun _ _ => ?_, fun _ _ _ => grownCap_le_maxLen w (l + n) cap' e (by unfold maxLen; omega)⟩⟩
        simp only [Nat.zero_add]
        rw [hsize]
        exact Nat.le_refl _
      split
      · rename_i hev
        rw [hev] at rx
        have hxe := rx.nilSlice_inv
        split
        · rename_i hn0
          subst hn0
          refine .inr ⟨_, .slice none 0 0, S, w, m, rfl, hex ?_, Ext.refl m, hS, by simp only [VR]⟩
          rw [hxe]
          exact run_app_room (P := P) (b := none) hs hu hi hlen (hcells w rfl) (Nat.le_refl _) rfl
        · rename_i hn0
          split
          · rename_i hfit
            obtain ⟨u', w', m', h1, h2, h3, h4⟩ := grow 0 0 none [] [] S hS rfl hxe (by simp [Builtin.firstCells]) (by simp [VRs]) (by simp) (by omega) (by omega) (by simpa using hfit.1)
            simp only [Nat.zero_add, List.nil_append] at h3 h4
            exact .inr ⟨_, u', _, w', m', rfl, h1, h2, h3, h4⟩
          · exact .inl rfl
      · rename_i j off l c k' t hev
        rw [hev] at rx
        split
        · exact .inl rfl
        · rename_i hk
          simp only [ne_eq, Decidable.not_not] at hk
          subst hk
          obtain ⟨L, x', cap', hL, hxe, hok⟩ := rx.slice_inv
          have hcl := hok.cap_le
          have hll := hok.len_le
          split
          · rename_i hn0
            subst hn0
            have hus0 : us = [] := List.length_eq_zero_iff.mp (by simpa using husl)
            refine .inr ⟨_, .slice (some x') l cap', S, w, m, rfl, hex ?_, Ext.refl m, hS, by simp only [VR]; exact ⟨L, x', cap', hL, rfl, hok⟩⟩
            rw [hxe]
            exact run_app_room (P := P) (b := some x') hs hu hi hlen (hcells w rfl) (by omega) (by rw [hus0]; rfl)
          · rename_i hn0
            split
            · rename_i hroom
              split
              · rename_i S' hst
                have hx' : x' = ⟨L.block, L.off + off, none⟩ := hok.place (by omega)
                subst hx'
                obtain ⟨w', hw, hS'⟩ := hS.stores (P := P) hst hL hus
                refine .inr ⟨_, .slice (some ⟨L.block, L.off + off, none⟩) (l + n) cap', S', w', m, rfl, hex ?_, Ext.refl m, hS', ?_⟩
                · rw [hxe]
                  exact run_app_room (P := P) (b := some ⟨L.block, L.off + off, none⟩) hs hu hi hlen (hcells w rfl) (by omega) (by
                    show (storeCells ((⟨L.block, L.off + off, none⟩ : Addr).add (l * i.size)) us).run P w = _
                    rw [addr_add, Nat.add_assoc]; exact hw)
                · simp only [VR]
                  exact ⟨L, _, cap', hL, rfl, ⟨hroom, hcl, hok.tight, hok.place, hok.here, hok.room, hok.top⟩⟩
              · exact .inl rfl
            · rename_i hroom
              split
              · rename_i hfit
                split
                · rename_i vs own hg
                  split
                  · rename_i hle
                    have hload := drop_take_loads (n := l * i.size) hg hle
                    have holdl : ((vs.drop off).take (l * i.size)).length = l * i.size := by rw [List.length_take, List.length_drop]; omega
                    have hold : ∃ olds, (∀ w', w'.heap = w.heap → (Builtin.firstCells i.size l (.slice (some x') l cap')).run P w' = .ok olds.toArray w') ∧ VRs m ((vs.drop off).take (l * i.size)) olds := by
                      have := srcV_rel (P := P) (k := i.size) (n := l) (y := .slice j off l c i.size t) (vs := (vs.drop off).take (l * i.size)) (u := a.eval x) hS (by simp [srcV, hload]) (by rw [hxe]; simp only [VR]; exact ⟨L, x', cap', hL, rfl, hok⟩)
                      obtain ⟨_, olds, h1, h2, _⟩ := this
                      rw [hxe] at h1
                      exact ⟨olds, h1, h2⟩
                    obtain ⟨olds, hold1, hold2⟩ := hold
                    split
                    · rename_i ht
                      have hcc := hok.tight ht
                      obtain ⟨u', w', m', h1, h2, h3, h4⟩ := grow l cap' _ olds _ S hS rfl hxe (hold1 w.drew rfl) hold2 holdl (by omega) (by omega) hfit.1
                      exact .inr ⟨_, u', _, w', m', rfl, h1, h2, h3, h4⟩
                    · rename_i ht
                      split
                      · rename_i hown
                        simp only [Bool.and_eq_true] at hown
                        obtain ⟨hown, hone⟩ := hown
                        subst hown
                        by_cases hcap : l + n ≤ cap'
                        · -- in place
                          have hx' : x' = ⟨L.block, L.off + off, none⟩ := hok.place (by omega)
                          subst hx'
                          obtain ⟨L', g1, ⟨g0, gc, gr, go⟩, _⟩ := hS.blk j _ hg
                          rw [hL] at g1; cases g1
                          obtain ⟨hLo, ccs, ct, fz, hb, hsz, hfz⟩ := go rfl
                          have hroom2 := hok.room hLo (by omega)
                          have hmul : (l + n) * i.size ≤ cap' * i.size := Nat.mul_le_mul_right _ hcap
                          rw [Nat.add_mul] at hmul
                          have h1c : ∀ u ∈ us, u.oneCell' = true := by
                            intro u hu
                            obtain ⟨jj, hj⟩ := List.getElem?_of_mem hu
                            have hjl : jj < news.length := by
                              rcases Nat.lt_or_ge jj us.length with h' | h'
                              · have := hus.length; omega
                              · simp [List.getElem?_eq_none h'] at hj
                            obtain ⟨u', hu', r⟩ := hus.get (List.getElem?_eq_getElem hjl)
                            rw [hj] at hu'; cases hu'
                            refine r.one ?_
                            rw [List.all_eq_true] at hone
                            exact hone _ (List.getElem_mem hjl)
                          obtain ⟨cs', r1, r2, r3⟩ := run_stores (P := P) L.block ct fz us (L.off + off + l * i.size) 0 ccs w hb (by rw [husl]; omega) (by rw [hsz]; exact hfz) h1c
                          have hx : Ext m (m.put S.next ⟨L.block, L.off + off, L.size, true⟩) := LM.ext_put _ (hS.freshM _ (Nat.le_refl _))
                          have hmv := hS.moved (i := j) (L := L) hg rfl hL (.cells cs' ct fz) (.cells ((vs.drop off).take (l * i.size) ++ news) true) ⟨L.block, L.off + off, L.size, true⟩ rfl (by
                            refine ⟨by simpa using g0, ?_, fun _ => ?_, fun _ => ⟨rfl, cs', ct, fz, setAt_same w _ _ g0, by simp only; omega, hfz⟩⟩
                            · intro jj v hj
                              show ∃ u, (setAt w L.block (.cells cs' ct fz)).cell? ⟨L.block, L.off + off + jj, none⟩ = some u ∧ _
                              rw [cell_setAt w _ _ ct fz g0, r3]
                              rw [List.getElem?_append] at hj
                              split at hj
                              · rename_i hjl
                                rw [holdl] at hjl
                                rw [List.getElem?_take, if_pos hjl, List.getElem?_drop] at hj
                                obtain ⟨u, hu, r⟩ := gc (off + jj) v hj
                                rw [if_neg (by omega)]
                                refine ⟨u, ?_, VR.mono hx _ _ r⟩
                                rw [← hu]
                                simp [World.cell?, hb, Nat.add_assoc]
                              · rename_i hjl
                                rw [holdl] at hj hjl
                                have hjn : jj - l * i.size < news.length := by
                                  rcases Nat.lt_or_ge (jj - l * i.size) news.length with h' | h'
                                  · exact h'
                                  · simp [List.getElem?_eq_none h'] at hj
                                obtain ⟨u, hu, r⟩ := hus.get hj
                                have := hus.length
                                rw [if_pos (by omega)]
                                refine ⟨u, ?_, VR.mono hx _ _ r⟩
                                rw [← hu]; congr 1; omega
                            · simp only [List.length_append, holdl, hnl]
                              omega)
                          refine .inr ⟨_, .slice (some ⟨L.block, L.off + off, none⟩) (l + n) cap', _, _, _, rfl, hex ?_, hx, hmv, ?_⟩
                          · rw [hxe]
                            exact run_app_room (P := P) (b := some ⟨L.block, L.off + off, none⟩) hs hu hi hlen (hcells w rfl) hcap (by
                              show (storeCells ((⟨L.block, L.off + off, none⟩ : Addr).add (l * i.size)) us).run P w = _
                              rw [addr_add]; exact r1)
                          · simp only [VR]
                            exact ⟨_, _, cap', LM.put_same m _ _, rfl, ⟨Nat.le_refl _, hcap, by simp, fun _ => rfl, fun _ => rfl, fun _ _ => hroom2, fun _ _ h => hok.top hLo (by simpa using ht) h⟩⟩
                        · obtain ⟨u', w', m', h1, h2, h3, h4⟩ := grow l cap' _ olds _ (S.put j none) (hS.kill j) rfl hxe (hold1 w.drew rfl) hold2 holdl (by omega) (by omega) hfit.1
                          exact .inr ⟨_, u', _, w', m', rfl, h1, h2, h3, h4⟩
                      · exact .inl rfl
                  · exact .inl rfl
                · exact .inl rfl
              · exact .inl rfl
      · exact .inl rfl

end Go.Th
end

section
/- Copy, maps, calls. -/
set_option linter.unusedSimpArgs false
set_option linter.unusedVariables false
namespace Go.Th
open Go.RowKit Go.Lib

def rCopy (k : Nat) (x y : AX) : List V → St → AR := fun fr S =>
  match srcV k S (y.ev fr) with
  | none => .stuck
  | some (n, news) =>
    match x.ev fr with
    | .nilSlice => .val (.int .i64 0) S
    | .slice i o l _ k' _ =>
      if k' ≠ k then .stuck
      else if min n l = 0 then .val (.int .i64 0) S
      else match S.stores i o (news.take (min n l * k)) with
        | some S' => .val (.int .i64 (min n l : Nat)) S'
        | none => .stuck
    | _ => .stuck

theorem firstCells_less {P : Program} {m : LM} {S : St} {base : Nat} {w0 w : World} (hS : Sim m S base w0 w) {k n n' : Nat} {y : V} {vs : List V} {u : Value} (hy : srcV k S y = some (n, vs)) (hr : VR m y u) (hn : n' ≤ n) :
    ∃ us, (Builtin.firstCells k n' u).run P w = .ok us.toArray w ∧ VRs m (vs.take (n' * k)) us := by
  unfold srcV at hy
  split at hy
  · cases hy
    rw [hr.nilSlice_inv]
    exact ⟨[], by simp [Builtin.firstCells], by simp [VRs]⟩
  · rename_i i o l c k' t
    split at hy
    · rename_i hk
      subst hk
      cases hl : S.loads i o (l * k') with
      | none => rw [hl] at hy; cases hy
      | some vs' =>
        rw [hl] at hy; cases hy
        obtain ⟨L, x, c', hL, hu, hok⟩ := hr.slice_inv
        subst hu
        by_cases h0 : n' = 0
        · subst h0
          exact ⟨[], by simp [Builtin.firstCells, loadCells, loadCellsFrom], by simp [VRs]⟩
        · have hx := slice_addr hok (by omega)
          subst hx
          have hl' : S.loads i o (n' * k') = some (vs.take (n' * k')) := by
            have hle : n' * k' ≤ n * k' := Nat.mul_le_mul_right _ hn
            by_cases hz : n * k' = 0
            · have hz' : n' * k' = 0 := by omega
              rw [hz] at hl
              rw [hz', St.loads_zero hl]
              simp [St.loads]
            · obtain ⟨cs, own, hg, h1, rfl⟩ := St.loads_pos hl (by omega)
              rw [St.loads_of hg (by omega), List.take_take, Nat.min_eq_left hle]
          obtain ⟨us, h1, h2, _⟩ := hS.loads (P := P) hl' hL
          exact ⟨us, by simpa [Builtin.firstCells] using h1, h2⟩
    · cases hy
  · rename_i s
    split at hy
    · rename_i hk
      subst hk
      cases hy
      rw [hr.str_inv]
      refine ⟨(s.take n').map fun b => Value.int .u8 b.toNat, ?_, ?_⟩
      · simp only [Builtin.firstCells, Sem.run_pure, extract_mk]
        congr 1
        apply Array.ext'
        simp
      · have : (bytesV s).take (n' * 1) = bytesV (s.take n') := by simp [bytesV, List.map_take]
        rw [this]; exact bytesV_rel m _
    · cases hy
  · cases hy

theorem ok_copy {P : Program} {o : Oper} {s u e : TypeId} {x y : Operand} {ax ay : AX} {i : TypeInfo} (ho : o.op = .call ⟨.builtin .copy, #[x, y], #[s, u]⟩) (hx : AX.of x = some ax) (hy : AX.of y = some ay)
    (hs : P.underlying s = some (.slice e)) (hi : P.info? e = some i) : OpOk P o (rCopy i.size ax ay) :=
  OpOk.world fun m S base w0 w fr a hS hf => by
    have rx := AX.of_rel hx hf
    have ry := AX.of_rel hy hf
    have hex : ∀ {v : Value} {w' : World}, (Builtin.copy_ #[s, u] o.type #[a.eval x, a.eval y]).run P w = .ok v w' → (execOp a.eval o).run P w = .ok (.value v) w' := by
      intro v w' h
      obtain ⟨cs, hcs⟩ := exec_builtin (P := P) (a := a) ho w
      rw [hcs]
      have : (#[x, y].map a.eval) = #[a.eval x, a.eval y] := by simp
      rw [this]
      simp only [builtin, Sem.run_bind, h, Result.andThen_ok, Sem.run_pure]
    unfold rCopy
    split
    · exact .inl rfl
    · rename_i n news hsrc
      obtain ⟨hlen, _⟩ := srcV_rel (P := P) hS hsrc ry
      split
      · rename_i hev
        rw [hev] at rx
        obtain ⟨us, hc, _⟩ := firstCells_less (P := P) (n' := Nat.min n 0) hS hsrc ry (Nat.min_le_left _ _)
        refine .inr ⟨_, .int .i64 0, S, w, m, rfl, hex ?_, Ext.refl m, hS, VR.int_mk _ _ _⟩
        simp only [Nat.min_zero] at hc
        simp [Builtin.copy_, run_underlying hs, rx.nilSlice_inv, hlen, sizeOf, typeInfo, hi, hc, goInt]
      · rename_i j off l c k' t hev
        rw [hev] at rx
        split
        · exact .inl rfl
        · rename_i hk
          simp only [ne_eq, Decidable.not_not] at hk
          subst hk
          obtain ⟨L, x', cap', hL, hxe, hok⟩ := rx.slice_inv
          obtain ⟨us, hc, hus⟩ := firstCells_less (P := P) (n' := Nat.min n l) hS hsrc ry (Nat.min_le_left _ _)
          split
          · rename_i h0
            have h0' : Nat.min n l = 0 := h0
            rw [h0'] at hc hus
            have : us = [] := by simpa [VRs] using hus
            subst this
            refine .inr ⟨_, .int .i64 0, S, w, m, rfl, hex ?_, Ext.refl m, hS, VR.int_mk _ _ _⟩
            simp [Builtin.copy_, run_underlying hs, hxe, hlen, sizeOf, typeInfo, hi, h0', hc, goInt, storeCells]
          · rename_i h0
            split
            · rename_i S' hst
              have hx' : x' = ⟨L.block, L.off + off, none⟩ := hok.place (by have := hok.len_le; have := hok.cap_le; omega)
              subst hx'
              obtain ⟨w', hw, hS'⟩ := hS.stores (P := P) hst hL hus
              refine .inr ⟨_, .int .i64 (min n l : Nat), S', w', m, rfl, hex ?_, Ext.refl m, hS', VR.int_mk _ _ _⟩
              simp [Builtin.copy_, run_underlying hs, hxe, hlen, sizeOf, typeInfo, hi, hc, goInt, hw]
            · exact .inl rfl
      · exact .inl rfl

def sameV : V → V → Option Bool
  | .int k a, .int k' b => if k = k' then some (decide (a = b)) else none
  | .str a, .str b => some (decide (a = b))
  | _, _ => none

def findV (key : V) : List (V × V) → Nat → Option (Option (Nat × V))
  | [], _ => some none
  | (k, v) :: r, i =>
    match sameV key k with
    | some true => some (some (i, v))
    | some false => findV key r (i + 1)
    | none => none

def keyKind : TypeDesc → Nat
  | .int _ => 1
  | .string => 2
  | _ => 0

def keyFit : Nat → V → Bool
  | 1, .int _ _ => true
  | 2, .str _ => true
  | _, _ => false

theorem sameV_rel {m : LM} {d : TypeDesc} {x y : V} {a b : Value} {r : Bool} (h : sameV x y = some r) (hf : keyFit (keyKind d) x = true) (hx : VR m x a) (hy : VR m y b) : Instr.sameNow d a b = some r := by
  unfold sameV at h
  split at h
  · rename_i k n k' n'
    rw [hx.int_inv, hy.int_inv]
    split at h
    · rename_i hk
      cases h
      cases d <;> simp [keyKind, keyFit] at hf
      subst hk
      simp [Instr.sameNow]
      rfl
    · cases h
  · rename_i s s'
    cases h
    rw [hx.str_inv, hy.str_inv]
    cases d <;> simp [keyKind, keyFit] at hf
    simp only [Instr.sameNow]
    congr 1
    rw [Bool.eq_iff_iff, MapKept.bytes_beq]
    simp
  · cases h

theorem findV_rel {m : LM} {d : TypeDesc} {key : V} {ku : Value} (hf : keyFit (keyKind d) key = true) (hk : VR m key ku) : ∀ {es : List (V × V)} {ces : List MapEntry} {i : Nat} {r : Option (Nat × V)}, findV key es i = some r → EntR m es ces →
    ∃ r', Instr.findNow d ku ces i = some r' ∧ (match r, r' with | none, none => True | some (j, v), some (j', u) => j = j' ∧ VR m v u ∧ i ≤ j ∧ j < i + es.length | _, _ => False)
  | [], ces, i, r, h, he => by
    simp only [findV, Option.some.injEq] at h; subst h
    simp only [EntR] at he; subst he
    exact ⟨none, rfl, trivial⟩
  | (k, v) :: es, ces, i, r, h, he => by
    obtain ⟨e, es', rfl, h1, h2, h3⟩ := he
    simp only [findV] at h
    split at h
    · rename_i hs
      cases h
      refine ⟨some (i, e.val), ?_, rfl, h2, Nat.le_refl _, by simp⟩
      simp [Instr.findNow, sameV_rel hs hf hk h1]
    · rename_i hs
      obtain ⟨r', g1, g2⟩ := findV_rel hf hk h h3
      refine ⟨r', by simp [Instr.findNow, sameV_rel hs hf hk h1, g1], ?_⟩
      revert g2
      cases r <;> cases r' <;> simp
      rename_i p q
      obtain ⟨j, v'⟩ := p
      obtain ⟨j', u'⟩ := q
      simp
      intro a b c d
      exact ⟨a, b, by omega, by omega⟩
    · cases h

theorem run_checkKeyV {P : Program} {m : LM} {kt : TypeId} {d : TypeDesc} {key : V} {ku : Value} (hd : P.underlying kt = some d) (hf : keyFit (keyKind d) key = true) (hk : VR m key ku) (e : Bool) (w : World) : (Instr.checkKey e 10000 kt ku).run P w = .ok () w := by
  show (Instr.checkKey e (9999 + 1) kt ku).run P w = .ok () w
  unfold Instr.checkKey
  simp only [Sem.run_bind, run_underlying hd, Result.andThen]
  cases d <;> simp [keyKind, keyFit] at hf
  · cases key <;> simp at hf
    rw [hk.int_inv]; simp
  · cases key <;> simp at hf
    rw [hk.str_inv]; simp

theorem run_findKeyV {P : Program} {kt : TypeId} {d : TypeDesc} {ku : Value} {ces : List MapEntry} {r : Option (Nat × Value)} (hd : P.underlying kt = some d) (h : Instr.findNow d ku ces 0 = some r) (w : World) : (Instr.findKey kt ku ces).run P w = .ok r w := by
  simp [Instr.findKey, run_underlying hd, Result.andThen, h]

def lookOut (ok : Bool) (v : V) (b : Bool) : V := if ok then .tuple [v, .bool b] else v

def rLookup (kk : Nat) (zero : V) (ok : Bool) (x ix : AX) : List V → St → AR := fun fr S =>
  if keyFit kk (ix.ev fr) then
    match x.ev fr with
    | .nilMap => .val (lookOut ok zero false) S
    | .map i => match S.get i with
      | some (.map es _) => match findV (ix.ev fr) es 0 with
        | some (some (_, v)) => .val (lookOut ok v true) S
        | some none => .val (lookOut ok zero false) S
        | none => .stuck
      | _ => .stuck
    | _ => .stuck
  else .stuck

theorem ok_lookup {P : Program} {o : Oper} {t kt e : TypeId} {d : TypeDesc} {x ix : Operand} {ax ai : AX} {ok : Bool} {i : TypeInfo} {z : Value} {zv : V} (ho : o.op = .lookup t x ix ok) (hx : AX.of x = some ax) (hix : AX.of ix = some ai)
    (ht : P.underlying t = some (.map kt e)) (hk : P.underlying kt = some d) (hi : P.info? e = some i) (hz : i.zero = some z) (hzv : V.ofConst z = some zv) : OpOk P o (rLookup (keyKind d) zv ok ax ai) :=
  OpOk.pure fun m S base w0 w fr a hS hf => by
    have rx := AX.of_rel hx hf
    have ri := AX.of_rel hix hf
    have rz : VR m zv z := V.ofConst_rel hzv
    have hout : ∀ (v : V) (u : Value) (b : Bool), VR m v u → VR m (lookOut ok v b) (if ok then .tuple #[u, .bool b] else u) := by
      intro v u b hv
      cases ok
      · simpa [lookOut] using hv
      · simp only [lookOut, if_true, VR]
        exact ⟨_, rfl, by simp only [VRs]; exact ⟨_, _, rfl, hv, _, _, rfl, VR.bool_mk _ _, rfl⟩⟩
    unfold rLookup
    split
    · rename_i hkf
      split
      · rename_i hev
        rw [hev] at rx
        refine .inr ⟨_, _, rfl, ?_, hout _ z false rz⟩
        have hck := run_checkKeyV (P := P) hk hkf ri true w
        have hfk := run_findKeyV (P := P) (kt := kt) (ku := a.eval ix) (ces := []) hk rfl w
        cases ok <;> simp [execOp, ho, rx.nilMap_inv, Instr.lookup, run_underlying ht, hck, hfk, zeroValue, typeInfo, hi, hz]
      · rename_i j hev
        rw [hev] at rx
        obtain ⟨L, hL, hu⟩ := rx.map_inv
        split
        · rename_i es own hg
          obtain ⟨L', g1, ⟨ces, clock, g2, g3, _⟩, _⟩ := hS.blk _ _ hg
          rw [hL] at g1; cases g1
          have hck := run_checkKeyV (P := P) hk hkf ri ces.isEmpty w
          split
          · rename_i p v hfd
            obtain ⟨r', q1, q2⟩ := findV_rel hkf ri hfd g3
            have hfk := run_findKeyV (P := P) (kt := kt) hk q1 w
            cases r' with
            | none => exact q2.elim
            | some pr =>
              obtain ⟨j', u⟩ := pr
              obtain ⟨_, q3, _⟩ := q2
              refine .inr ⟨_, _, rfl, ?_, hout _ u true q3⟩
              cases ok <;> simp [execOp, ho, hu, Instr.lookup, run_underlying ht, getObj_map g2, hck, hfk]
          · rename_i hfd
            obtain ⟨r', q1, q2⟩ := findV_rel hkf ri hfd g3
            have hfk := run_findKeyV (P := P) (kt := kt) hk q1 w
            cases r' with
            | some pr => exact q2.elim
            | none =>
              refine .inr ⟨_, _, rfl, ?_, hout _ z false rz⟩
              cases ok <;> simp [execOp, ho, hu, Instr.lookup, run_underlying ht, getObj_map g2, hck, hfk, zeroValue, typeInfo, hi, hz]
          · exact .inl rfl
        · exact .inl rfl
      · exact .inl rfl
    · exact .inl rfl

theorem EntR.get {m : LM} : ∀ {es : List (V × V)} {ces : List MapEntry}, EntR m es ces → ∀ {j : Nat} {p : V × V}, es[j]? = some p → ∃ e, ces[j]? = some e ∧ VR m p.1 e.key ∧ VR m p.2 e.val
  | [], _, _, _, _, hj => by simp at hj
  | (k, v) :: es, _, h, j, p, hj => by
    obtain ⟨e, es', rfl, h1, h2, h3⟩ := h
    cases j with
    | zero => simp at hj; subst hj; exact ⟨e, rfl, h1, h2⟩
    | succ j => simpa using h3.get (by simpa using hj)

theorem EntR.set {m : LM} : ∀ {es : List (V × V)} {ces : List MapEntry} (j : Nat) {k v : V} {f : MapEntry → MapEntry}, EntR m es ces → (∀ e, ces[j]? = some e → VR m k (f e).key ∧ VR m v (f e).val) → EntR m (es.set j (k, v)) (ces.modify j f)
  | [], _, j, _, _, _, h, _ => by simp only [EntR] at h; subst h; simp [EntR]
  | (k0, v0) :: es, _, 0, k, v, f, h, hf => by
    obtain ⟨e, es', rfl, h1, h2, h3⟩ := h
    obtain ⟨g1, g2⟩ := hf e rfl
    exact ⟨f e, es', rfl, g1, g2, h3⟩
  | (k0, v0) :: es, _, j + 1, k, v, f, h, hf => by
    obtain ⟨e, es', rfl, h1, h2, h3⟩ := h
    exact ⟨e, es'.modify j f, rfl, h1, h2, h3.set j (fun e he => hf e (by simpa using he))⟩

theorem EntR.append {m : LM} {k v : V} {e : MapEntry} (h1 : VR m k e.key) (h2 : VR m v e.val) : ∀ {es : List (V × V)} {ces : List MapEntry}, EntR m es ces → EntR m (es ++ [(k, v)]) (ces ++ [e])
  | [], _, h => by simp only [EntR] at h; subst h; exact ⟨e, [], rfl, h1, h2, rfl⟩
  | (k0, v0) :: es, _, h => by
    obtain ⟨e0, es', rfl, g1, g2, g3⟩ := h
    exact ⟨e0, es' ++ [e], rfl, g1, g2, g3.append h1 h2⟩

theorem EntR.erase {m : LM} : ∀ {es : List (V × V)} {ces : List MapEntry} (j : Nat), EntR m es ces → EntR m (es.eraseIdx j) (ces.eraseIdx j)
  | [], _, j, h => by simp only [EntR] at h; subst h; simp [EntR]
  | (k0, v0) :: es, _, 0, h => by
    obtain ⟨e, es', rfl, h1, h2, h3⟩ := h
    exact h3
  | (k0, v0) :: es, _, j + 1, h => by
    obtain ⟨e, es', rfl, h1, h2, h3⟩ := h
    exact ⟨e, es'.eraseIdx j, rfl, h1, h2, h3.erase j⟩

def rMapUpd (kk : Nat) (x ky y : AX) : List V → St → AR := fun fr S =>
  if keyFit kk (ky.ev fr) then
    match x.ev fr with
    | .map i => match S.get i with
      | some (.map es true) => match findV (ky.ev fr) es 0 with
        | some (some (j, _)) => .val .undef (S.put i (some (.map (es.set j (ky.ev fr, y.ev fr)) true)))
        | some none => .val .undef (S.put i (some (.map (es ++ [(ky.ev fr, y.ev fr)]) true)))
        | none => .stuck
      | _ => .stuck
    | _ => .stuck
  else .stuck

theorem findV_same {key : V} : ∀ {es : List (V × V)} {i j : Nat} {v : V}, findV key es i = some (some (j, v)) → ∃ k, es[j - i]? = some (k, v) ∧ sameV key k = some true ∧ i ≤ j
  | [], i, j, v, h => by simp [findV] at h
  | (k, v0) :: es, i, j, v, h => by
    simp only [findV] at h
    split at h
    · rename_i hs
      simp only [Option.some.injEq, Prod.mk.injEq] at h
      obtain ⟨rfl, rfl⟩ := h
      exact ⟨k, by simp, hs, Nat.le_refl _⟩
    · obtain ⟨k', h1, h2, h3⟩ := findV_same h
      refine ⟨k', ?_, h2, by omega⟩
      have : j - i = (j - (i + 1)) + 1 := by omega
      rw [this, List.getElem?_cons_succ]; exact h1
    · cases h

theorem sameV_eq {m : LM} {x y : V} {a b : Value} (h : sameV x y = some true) (hx : VR m x a) (hy : VR m y b) : a = b ∧ Instr.sameBits 10000 b a = true := by
  unfold sameV at h
  split at h
  · split at h
    · rename_i hk
      subst hk
      simp at h
      subst h
      rw [hx.int_inv, hy.int_inv]
      exact ⟨rfl, by simp [Instr.sameBits]⟩
    · cases h
  · simp at h
    subst h
    rw [hx.str_inv, hy.str_inv]
    refine ⟨rfl, ?_⟩
    simp only [Instr.sameBits]
    rw [MapKept.bytes_beq]
  · cases h

theorem run_keyThatStays {P : Program} {w : World} {a b : Value} (h : Instr.sameBits 10000 a b = true) : (Instr.keyThatStays a b).run P w = .ok b w := by
  simp [Instr.keyThatStays, h]

theorem setObj_map {P : Program} {w : World} {r : Nat} {es : Array MapEntry} {clock : Nat} (o : Obj) (hb : w.heap[r]? = some (.map es clock)) : (setObj r o).run P w = .ok () (setAt w r o) := by
  simp [setObj, Sem.run, hb, setAt]

theorem ok_mapUpd {P : Program} {o : Oper} {t kt e : TypeId} {d : TypeDesc} {x ky y : Operand} {ax ak ay : AX} (ho : o.op = .mapUpdate t x ky y ∨ o.op = .insert t x ky y) (hx : AX.of x = some ax) (hk0 : AX.of ky = some ak) (hy : AX.of y = some ay)
    (ht : P.underlying t = some (.map kt e)) (hk : P.underlying kt = some d) : OpOk P o (rMapUpd (keyKind d) ax ak ay) :=
  OpOk.unit fun m S base w0 w fr a hS hf => by
    have rx := AX.of_rel hx hf
    have rk := AX.of_rel hk0 hf
    have ry := AX.of_rel hy hf
    have hex : ∀ {w' : World}, (Instr.mapUpdate t (a.eval x) (a.eval ky) (a.eval y)).run P w = .ok () w' → (execOp a.eval o).run P w = .ok .skip w' := by
      intro w' h
      rcases ho with ho | ho <;> simp [execOp, ho, h]
    unfold rMapUpd
    split
    · rename_i hkf
      split
      · rename_i j hev
        rw [hev] at rx
        obtain ⟨L, hL, hu⟩ := rx.map_inv
        split
        · rename_i es hg
          obtain ⟨L', g1, ⟨ces, clock, g2, g3, g4, g5⟩, _⟩ := hS.blk _ _ hg
          rw [hL] at g1; cases g1
          have hlt : L.block < w.heap.size := (Array.getElem?_eq_some_iff.1 g2).1
          have hck := run_checkKeyV (P := P) hk hkf rk false w
          split
          · rename_i p v hfd
            obtain ⟨r', q1, q2⟩ := findV_rel hkf rk hfd g3
            have hfk := run_findKeyV (P := P) (kt := kt) hk q1 w
            cases r' with
            | none => exact q2.elim
            | some pr =>
              obtain ⟨j', u⟩ := pr
              obtain ⟨rfl, q3, _, q4⟩ := q2
              obtain ⟨k', e1, e2, _⟩ := findV_same hfd
              simp only [Nat.sub_zero] at e1
              obtain ⟨ent, e3, e4, e5⟩ := g3.get e1
              have e3' : ces[p]? = some ent := by simpa using e3
              have hsame := sameV_eq e2 rk e4
              have hkt := run_keyThatStays (P := P) (w := w) hsame.2
              have hput := hS.putBlk hg rfl hL (.map (ces.modify p fun e => { e with key := a.eval ky, val := a.eval y }) clock) (.map (es.set p (ak.ev fr, ay.ev fr)) true) (by
                refine ⟨_, clock, setAt_same w _ _ hlt, ?_, ?_, ?_⟩
                · rw [Array.toList_modify]
                  exact g3.set p (fun e he => ⟨rk, ry⟩)
                · intro x hx
                  rw [Array.toList_modify] at hx
                  obtain ⟨q, hq⟩ := List.getElem?_of_mem hx
                  rw [List.getElem?_modify] at hq
                  cases hc : ces.toList[q]? with
                  | none => simp [hc] at hq
                  | some x0 =>
                    have := g4 x0 (List.mem_of_getElem? hc)
                    simp [hc] at hq
                    subst hq
                    split <;> exact this
                · have : (ces.modify p fun e => { e with key := a.eval ky, val := a.eval y }).toList.map (·.born) = ces.toList.map (·.born) := by
                    rw [Array.toList_modify]
                    apply List.ext_getElem?
                    intro q
                    rw [List.getElem?_map, List.getElem?_map, List.getElem?_modify]
                    cases hc : ces.toList[q]? with
                    | none => simp
                    | some x0 => simp; split <;> rfl
                  rw [this]; exact g5)
              refine .inr ⟨_, _, m, rfl, hex ?_, Ext.refl m, hput⟩
              simp [Instr.mapUpdate, run_underlying ht, hu, getObj_map g2, hck, hfk, e3', hkt, setObj_map _ g2]
          · rename_i hfd
            obtain ⟨r', q1, q2⟩ := findV_rel hkf rk hfd g3
            have hfk := run_findKeyV (P := P) (kt := kt) hk q1 w
            cases r' with
            | some pr => exact q2.elim
            | none =>
              have hput := hS.putBlk hg rfl hL (.map (ces.push { key := a.eval ky, val := a.eval y, born := clock }) (clock + 1)) (.map (es ++ [(ak.ev fr, ay.ev fr)]) true) (by
                refine ⟨_, clock + 1, setAt_same w _ _ hlt, ?_, ?_, ?_⟩
                · rw [Array.toList_push]
                  exact EntR.append (e := { key := a.eval ky, val := a.eval y, born := clock }) rk ry g3
                · intro x hx
                  rw [Array.toList_push, List.mem_append] at hx
                  rcases hx with hx | hx
                  · have := g4 x hx; omega
                  · simp at hx; subst hx; simp
                · rw [Array.toList_push, List.map_append, List.nodup_append]
                  refine ⟨g5, by simp, ?_⟩
                  intro b hb b' hb' he
                  obtain ⟨x, hx, rfl⟩ := List.mem_map.1 hb
                  have := g4 x hx
                  simp at hb'
                  omega)
              refine .inr ⟨_, _, m, rfl, hex ?_, Ext.refl m, hput⟩
              simp [Instr.mapUpdate, run_underlying ht, hu, getObj_map g2, hck, hfk, setObj_map _ g2]
          · exact .inl rfl
        · exact .inl rfl
      · exact .inl rfl
    · exact .inl rfl

def rDelete (kk : Nat) (x ky : AX) : List V → St → AR := fun fr S =>
  if keyFit kk (ky.ev fr) then
    match x.ev fr with
    | .nilMap => .val .undef S
    | .map i => match S.get i with
      | some (.map es true) => match findV (ky.ev fr) es 0 with
        | some (some (j, _)) => .val .undef (S.put i (some (.map (es.eraseIdx j) true)))
        | some none => .val .undef (S.put i (some (.map es true)))
        | none => .stuck
      | _ => .stuck
    | _ => .stuck
  else .stuck

theorem ok_delete {P : Program} {o : Oper} {t kt e t2 : TypeId} {d : TypeDesc} {x ky : Operand} {ax ak : AX} (ho : o.op = .call ⟨.builtin .delete, #[x, ky], #[t, t2]⟩) (hx : AX.of x = some ax) (hk0 : AX.of ky = some ak)
    (ht : P.underlying t = some (.map kt e)) (hk : P.underlying kt = some d) : OpOk P o (rDelete (keyKind d) ax ak) :=
  OpOk.world fun m S base w0 w fr a hS hf => by
    have rx := AX.of_rel hx hf
    have rk := AX.of_rel hk0 hf
    have hex : ∀ {v : Value} {w' : World}, (Builtin.delete_ #[t, t2] o.type #[a.eval x, a.eval ky]).run P w = .ok v w' → (execOp a.eval o).run P w = .ok (.value v) w' := by
      intro v w' h
      obtain ⟨cs, hcs⟩ := exec_builtin (P := P) (a := a) ho w
      rw [hcs]
      have : (#[x, ky].map a.eval) = #[a.eval x, a.eval ky] := by simp
      rw [this]
      simp only [builtin, Sem.run_bind, h, Result.andThen_ok, Sem.run_pure]
    unfold rDelete
    split
    · rename_i hkf
      split
      · rename_i hev
        rw [hev] at rx
        refine .inr ⟨_, Go.undef, S, w, m, rfl, hex ?_, Ext.refl m, hS, VR.undef m⟩
        simp [Builtin.delete_, run_underlying ht, rx.nilMap_inv, run_checkKeyV (P := P) hk hkf rk true w, Go.undef]
      · rename_i j hev
        rw [hev] at rx
        obtain ⟨L, hL, hu⟩ := rx.map_inv
        split
        · rename_i es hg
          obtain ⟨L', g1, ⟨ces, clock, g2, g3, g4, g5⟩, _⟩ := hS.blk _ _ hg
          rw [hL] at g1; cases g1
          have hlt : L.block < w.heap.size := (Array.getElem?_eq_some_iff.1 g2).1
          have hck := run_checkKeyV (P := P) hk hkf rk ces.isEmpty w
          split
          · rename_i p v hfd
            obtain ⟨r', q1, q2⟩ := findV_rel hkf rk hfd g3
            have hfk := run_findKeyV (P := P) (kt := kt) hk q1 w
            cases r' with
            | none => exact q2.elim
            | some pr =>
              obtain ⟨j', u⟩ := pr
              obtain ⟨rfl, q3, _, q4⟩ := q2
              have herase : (ces.eraseIdxIfInBounds p).toList = ces.toList.eraseIdx p := by
                unfold Array.eraseIdxIfInBounds
                split
                · simp
                · rename_i hp
                  rw [List.eraseIdx_of_length_le (by simpa using hp)]
              have hput := hS.putBlk hg rfl hL (.map (ces.eraseIdxIfInBounds p) clock) (.map (es.eraseIdx p) true) (by
                refine ⟨_, clock, setAt_same w _ _ hlt, ?_, ?_, ?_⟩
                · rw [herase]; exact g3.erase p
                · intro x hx
                  rw [herase] at hx
                  exact g4 x ((List.eraseIdx_sublist _ _).subset hx)
                · rw [herase]
                  exact ((List.eraseIdx_sublist ces.toList p).map (·.born)).nodup g5)
              refine .inr ⟨_, Go.undef, _, _, m, rfl, hex ?_, Ext.refl m, hput, VR.undef m⟩
              simp [Builtin.delete_, run_underlying ht, hu, getObj_map g2, hck, hfk, setObj_map _ g2, Go.undef]
          · rename_i hfd
            obtain ⟨r', q1, q2⟩ := findV_rel hkf rk hfd g3
            have hfk := run_findKeyV (P := P) (kt := kt) hk q1 w
            cases r' with
            | some pr => exact q2.elim
            | none =>
              have hput := hS.putBlk hg rfl hL (.map ces clock) (.map es true) ⟨_, clock, setAt_same w _ _ hlt, g3, g4, g5⟩
              refine .inr ⟨_, Go.undef, _, _, m, rfl, hex ?_, Ext.refl m, hput, VR.undef m⟩
              simp [Builtin.delete_, run_underlying ht, hu, getObj_map g2, hck, hfk, setObj_map _ g2, Go.undef]
          · exact .inl rfl
        · exact .inl rfl
      · exact .inl rfl
    · exact .inl rfl

def canEnter (P : Program) (f : FuncId) : Bool :=
  match P.funcs[f]? with
  | some fn => !(fn.name == "runtime.NumGoroutine") && fn.body.isSome
  | none => false

theorem canEnter_lt {P : Program} {f : FuncId} (h : canEnter P f = true) : f < P.funcs.size := by
  rcases Nat.lt_or_ge f P.funcs.size with h' | h'
  · exact h'
  · simp [canEnter, Array.getElem?_eq_none h'] at h

theorem run_callFunc {P : Program} {f : FuncId} (h : canEnter P f = true) (args : Array Value) (w : World) : (callFunc f args).run P w = .ok (.enter f args) w := by
  unfold canEnter at h
  split at h
  · rename_i fn hf
    simp only [Bool.and_eq_true, Bool.not_eq_true'] at h
    have hb : ¬ (fn.body = none) := by cases hx : fn.body <;> simp_all
    have hn : ¬ (fn.name = "runtime.NumGoroutine") := by simpa using h.1
    simp [callFunc, hf, hn, hb]
  · cases h

structure Env where
  can : Nat → Bool
  meth : String → TypeId → Option (FuncId × Nat)
  nf : Option Nat := none   -- how many functions there are: the function of a round l of a range over a function has the number nf + l

def methEntry (P : Program) (name : String) (t : TypeId) : Option (FuncId × Nat) :=
  match P.info? t with
  | none => none
  | some i =>
    match i.methods.find? (·.name == name) with
    | none => none
    | some m =>
      match m.path.toList, m.func with
      | [], some (f, ptr) =>
        if canEnter P f then
          match P.underlying t, ptr with
          | some (.pointer _), true => some (f, 0)
          | some (.pointer e), false => match P.underlying e, P.info? e with
            | some d, some ie => if isAggD d then some (f, ie.size + 2) else some (f, 1)
            | _, _ => none
          | some _, false => some (f, 0)
          | _, _ => none
        else none
      | _, _ => none

def EnvOk (P : Program) (ok : Env) : Prop := (∀ f, ok.can f = true → canEnter P f = true) ∧ (∀ name t r, ok.meth name t = some r → methEntry P name t = some r) ∧ ∀ n, ok.nf = some n → n = P.funcs.size

def envP (P : Program) : Env := ⟨canEnter P, methEntry P, some P.funcs.size⟩
theorem envP_ok (P : Program) : EnvOk P (envP P) := ⟨fun _ h => h, fun _ _ _ h => h, fun _ h => by cases h; rfl⟩

def rCallF (f : FuncId) (args : List AX) : List V → St → AR := fun fr _ => .call f (args.map (·.ev fr))

theorem ok_callF {P : Program} {o : Oper} {f : FuncId} {args : Array Operand} {ts : Array TypeId} {axs : List AX} (ho : o.op = .call ⟨.value (.func f), args, ts⟩) (hx : AX.ofs args.toList = some axs) (hf : canEnter P f = true) : OpOk P o (rCallF f axs) := by
  intro m S base w0 w fr a hS hfr
  refine ⟨args.map a.eval, ?_, .inl ⟨canEnter_lt hf, ?_⟩⟩
  · rw [Array.toList_map]; exact AX.ofs_rel hfr hx
  · simp [execOp, ho, resolve, Act.eval, Deferred.ofValue, invoke, run_callFunc hf]

def rCallV (ok : Env) (x : AX) (args : List AX) : List V → St → AR := fun fr _ =>
  match x.ev fr with
  | .func (.func f) fs cs => if ok.can f then .call f (fs ++ args.map (·.ev fr) ++ cs) else .stuck
  | .func (.yield l) [] [] => match ok.nf with
    | some n => .call (n + l) (args.map (·.ev fr))
    | none => .stuck
  | _ => .stuck

theorem ok_callV {P : Program} {o : Oper} {ok : Env} {x : Operand} {ax : AX} {args : Array Operand} {ts : Array TypeId} {axs : List AX} (ho : o.op = .call ⟨.value x, args, ts⟩) (hx0 : AX.of x = some ax) (hx : AX.ofs args.toList = some axs) (hok : EnvOk P ok) : OpOk P o (rCallV ok ax axs) := by
  intro m S base w0 w fr a hS hfr
  have rx := AX.of_rel hx0 hfr
  have key : (∃ f fs cs, ax.ev fr = .func (.func f) fs cs ∧ ok.can f = true ∧ rCallV ok ax axs fr S = .call f (fs ++ axs.map (·.ev fr) ++ cs)) ∨
      (∃ l n, ax.ev fr = .func (.yield l) [] [] ∧ ok.nf = some n ∧ rCallV ok ax axs fr S = .call (n + l) (axs.map (·.ev fr))) ∨ rCallV ok ax axs fr S = .stuck := by
    unfold rCallV
    split
    · rename_i f fs cs hev
      split
      · rename_i hf
        exact .inl ⟨f, fs, cs, hev, hf, rfl⟩
      · exact .inr (.inr rfl)
    · rename_i l hev
      split
      · rename_i n hn
        exact .inr (.inl ⟨l, n, hev, hn, rfl⟩)
      · exact .inr (.inr rfl)
    · exact .inr (.inr rfl)
  rcases key with ⟨f, fs, cs, hev, hf, e⟩ | ⟨l, n, hev, hn, e⟩ | e
  · rw [e]
    rw [hev] at rx
    obtain ⟨fs', cs', hu, h1, h2⟩ := rx.func_inv
    refine ⟨fs' ++ args.map a.eval ++ cs', ?_, .inl ⟨canEnter_lt (hok.1 f hf), ?_⟩⟩
    · simp only [Array.toList_append, Array.toList_map]
      exact (h1.append (AX.ofs_rel hfr hx)).append h2
    · simp [execOp, ho, resolve, hu, Deferred.ofValue, invoke, run_callFunc (hok.1 f hf)]
  · rw [e]
    rw [hev] at rx
    obtain ⟨fs', cs', hu, h1, h2⟩ := rx.func_inv
    have e1 : fs' = #[] := by simp only [VRs] at h1; simpa using h1
    have e2 : cs' = #[] := by simp only [VRs] at h2; simpa using h2
    subst e1; subst e2
    have en := hok.2.2 n hn
    subst en
    refine ⟨args.map a.eval, ?_, .inr ⟨by omega, ?_⟩⟩
    · rw [Array.toList_map]; exact AX.ofs_rel hfr hx
    · simp [execOp, ho, resolve, hu, Deferred.ofValue, invoke]
  · rw [e]; trivial

end Go.Th
end
