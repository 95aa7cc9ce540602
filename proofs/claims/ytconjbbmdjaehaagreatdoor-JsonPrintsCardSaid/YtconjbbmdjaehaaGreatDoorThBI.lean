/- What the row of one statement stands on: a store, abstract code, functions of the program and their laws (ThI). -/
import Derived.Test.YtconjbbmdjaehaaGreatDoorThBD4
import Derived.Test.YtconjbbmdjaehaaGreatDoorThBD5

section
/- The abstract code: what the program's code is read as, its weakest precondition over the store, and that this is the model's. -/
set_option linter.unusedSimpArgs false
set_option linter.unusedVariables false
namespace Go.Th
open Go.RowKit Go.Lib

inductive AO where
  | move (x : AX)
  | pick (c x y : AX)
  | alloc (zs : List V)
  | box (x : AX)
  | build (zs : List V) (parts : List (Nat × Nat × AX))
  | buildSlice (k n : Nat) (zs : List V) (parts : List (Nat × Nat × AX))
  | load1 (x : AX)
  | loadN (n : Nat) (x : AX)
  | store (n : Nat) (x y : AX)
  | nilCheck (x : AX)
  | bin (op : BinOp) (x y : AX)
  | un (op : UnOp) (x : AX)
  | convInt (k : IntKind) (x : AX)
  | convStr (x : AX)
  | convBS (x : AX)
  | convSB (x : AX)
  | convBB (x : AX)
  | mkFunc (fn : Fn) (first captured : List AX)
  | mkMap
  | mkIface (t : TypeId) (x : AX)
  | mkSlice (k bytes : Nat) (zs : List V) (l c : AX)
  | fieldAddr (off : Nat) (x : AX)
  | idxAddr (k : Nat) (x i : AX)
  | idxAddrArr (len k : Nat) (x i : AX)
  | field (n : Option Nat) (off : Nat) (x : AX)
  | idxStr (x i : AX)
  | idxArr (len k : Nat) (pn : Option Nat) (x i : AX)
  | extract (n : Nat) (x : AX)
  | sliceStr (x : AX) (lo hi : Option AX)
  | sliceSl (k : Nat) (x : AX) (lo hi mx : Option AX)
  | sliceArr (n k : Nat) (x : AX) (lo hi mx : Option AX)
  | len (n : Nat) (x : AX)
  | min (xs : List AX)
  | max (xs : List AX)
  | app (k bytes : Nat) (x y : AX)
  | copy (k : Nat) (x y : AX)
  | lookup (kk : Nat) (zero : V) (ok : Bool) (x i : AX)
  | mapUpd (kk : Nat) (x k y : AX)
  | delete (kk : Nat) (x k : AX)
  | callF (f : FuncId) (args : List AX)
  | callV (x : AX) (args : List AX)
  | eq (neg : Bool) (kk : Nat) (plan : List Nat) (x y : AX)
  | cap (x : AX)
  | assert (t : TypeId) (cok : Bool) (zero : V) (x : AX)
  | invoke (name : String) (x : AX) (args : List AX)
  | ext (k : Nat) (xs : List AX)
  | rangeM (x : AX)
  | nextM (x : AX)
  | entryM (x : AX)
  | clearSl (k : Nat) (zs : List V) (x : AX)
  | lookupP (zero : V) (ok : Bool) (x i : AX)
  | mapUpdP (x k y : AX)
  | panicV (x : AX)
  | allocT (t : TypeId) (zs : List V)

def AO.run (ok : Env) : AO → List V → St → AR
  | .move x => rMove x
  | .pick c x y => rPick c x y
  | .alloc zs => rAlloc zs
  | .allocT t zs => rAllocT t zs
  | .box x => rBox x
  | .build zs parts => rBuild zs parts
  | .buildSlice k n zs parts => rBuildSlice k n zs parts
  | .load1 x => rLoad1 x
  | .loadN n x => rLoadN n x
  | .store n x y => rStore n x y
  | .nilCheck x => rNilCheck x
  | .bin op x y => rBin op x y
  | .un op x => rUn op x
  | .convInt k x => rConvInt k x
  | .convStr x => rConvStr x
  | .convBS x => rConvBS x
  | .convSB x => rConvSB x
  | .convBB x => rConvBB x
  | .mkFunc fn a b => rMkFunc fn a b
  | .mkMap => rMkMap
  | .mkIface t x => rMkIface t x
  | .mkSlice k bytes zs l c => rMkSlice k bytes zs l c
  | .fieldAddr off x => rFieldAddr off x
  | .idxAddr k x i => rIdxAddr k x i
  | .idxAddrArr n k x i => rIdxAddrArr n k x i
  | .field n off x => rField n off x
  | .idxStr x i => rIdxStr x i
  | .idxArr n k pn x i => rIdxArr n k pn x i
  | .extract n x => rExtract n x
  | .sliceStr x lo hi => rSliceStr x lo hi
  | .sliceSl k x lo hi mx => rSliceSl k x lo hi mx
  | .sliceArr n k x lo hi mx => rSliceArr n k x lo hi mx
  | .len n x => rLenK n x
  | .min xs => rMinMax goMin xs
  | .max xs => rMinMax goMax xs
  | .app k bytes x y => rApp k bytes x y
  | .copy k x y => rCopy k x y
  | .lookup kk z b x i => rLookup kk z b x i
  | .mapUpd kk x k y => rMapUpd kk x k y
  | .delete kk x k => rDelete kk x k
  | .callF f args => rCallF f args
  | .callV x args => rCallV ok x args
  | .eq neg kk plan x y => rEq neg kk plan x y
  | .cap x => rCap x
  | .assert t cok zero x => rAssert t cok zero x
  | .invoke name x args => rInvoke ok name x args
  | .ext k xs => rExt k xs
  | .rangeM x => rRange x
  | .nextM x => rNext x
  | .entryM x => rEntry x
  | .clearSl k zs x => rClear k zs x
  | .lookupP z b x i => rLookupP z b x i
  | .mapUpdP x k y => rMapUpdP x k y
  | .panicV x => rPanicV x

def obind {α β : Type} (x : Option α) (f : α → Option β) : Option β :=
  match x with
  | some a => f a
  | none => none

theorem obind_some {α β : Type} {x : Option α} {f : α → Option β} {b : β} (h : obind x f = some b) : ∃ a, x = some a ∧ f a = some b := by
  cases x with
  | none => cases h
  | some a => exact ⟨a, rfl, h⟩

def isSl : TypeDesc → Bool
  | .slice _ | .string => true
  | _ => false

def AO.ofBuiltin (P : Program) (b : Builtin) (xs : List Operand) (ts : List TypeId) : Option AO :=
  match b, xs, ts with
  | .len, [x], [t] => obind (AX.of x) fun ax => obind (P.underlying t) fun d => some (.len (lenKind d) ax)
  | .cap, [x], [t] => obind (AX.of x) fun ax => match P.underlying t with
    | some (.slice _) => some (.cap ax)
    | _ => none
  | .min, xs, _ => obind (AX.ofs xs) fun axs => some (.min axs)
  | .max, xs, _ => obind (AX.ofs xs) fun axs => some (.max axs)
  | .append, [x, y], [s, u] => obind (AX.of x) fun ax => obind (AX.of y) fun ay =>
    match P.underlying s, P.underlying u with
    | some (.slice e), some du => if isSl du then
        match P.info? e with
        | some i => match i.zero with
          | some z => if z.cells.size = i.size then some (.app i.size i.bytes ax ay) else none
          | none => none
        | none => none
      else none
    | _, _ => none
  | .copy, [x, y], [s, _] => obind (AX.of x) fun ax => obind (AX.of y) fun ay =>
    match P.underlying s with
    | some (.slice e) => obind (P.info? e) fun i => some (.copy i.size ax ay)
    | _ => none
  | .delete, [x, k], [t, _] => obind (AX.of x) fun ax => obind (AX.of k) fun ak =>
    match P.underlying t with
    | some (.map kt _) => obind (P.underlying kt) fun d => some (.delete (keyKind d) ax ak)
    | _ => none
  | .clear, [x], [s] => obind (AX.of x) fun ax =>
    match P.underlying s with
    | some (.slice e) => obind (P.info? e) fun i => obind i.zero fun z => obind (V.ofPlains z.cells.toList) fun zs => some (.clearSl i.size zs ax)
    | _ => none
  | _, _, _ => none

def eqNeg : BinOp → Option Bool
  | .eql => some false
  | .neq => some true
  | _ => none
def binOf (P : Program) (op : BinOp) (t : TypeId) (x y : Operand) (ax ay : AX) : AO :=
  match eqNeg op with
  | some neg => match eqKind P t x y with
    | some p => .eq neg p.1 p.2 ax ay
    | none => .bin op ax ay
  | none => .bin op ax ay

def keyPtr (P : Program) (kt : TypeId) : Option TypeInfo :=
  match P.underlying kt with
  | some (.pointer e) => match P.info? e with
    | some i => if i.size ≠ 0 then some i else none
    | none => none
  | _ => none
theorem keyPtr_some {P : Program} {kt : TypeId} {i : TypeInfo} (h : keyPtr P kt = some i) : ∃ e, P.underlying kt = some (.pointer e) ∧ P.info? e = some i ∧ i.size ≠ 0 := by
  unfold keyPtr at h
  split at h
  · rename_i e he
    split at h
    · rename_i j hj
      split at h
      · rename_i hs
        cases h
        exact ⟨e, he, hj, hs⟩
      · cases h
    · cases h
  · cases h

def u8only (P : Program) (e : TypeId) (x : AO) : Option AO :=
  match P.underlying e with
  | some (.int .u8) => some x
  | _ => none

theorem u8only_some {P : Program} {e : TypeId} {x y : AO} (h : u8only P e x = some y) : P.underlying e = some (.int .u8) ∧ y = x := by
  unfold u8only at h
  split at h
  · rename_i he; cases h; exact ⟨he, rfl⟩
  · cases h

def AO.of (P : Program) (o : Op) : Option AO :=
  match o with
  | .move x | .assign x => obind (AX.of x) fun ax => some (.move ax)
  | .pick c x y => obind (AX.of c) fun ac => obind (AX.of x) fun ax => obind (AX.of y) fun ay => some (.pick ac ax ay)
  | .alloc e => obind (P.info? e) fun i => obind i.zero fun z => obind (V.ofPlains z.cells.toList) fun zs => if i.str = "strings.Builder" then some (.allocT e zs) else some (.alloc zs)
  | .box _ x => obind (AX.of x) fun ax => some (.box ax)
  | .build t parts => obind (buildInfo P t) fun p => obind (partsOf p.2 parts.toList) fun l => some (.build p.1 l)
  | .buildSlice t n parts =>
    match P.underlying t with
    | some (.slice e) => obind (P.info? e) fun i => obind i.zero fun z => obind (V.ofPlains z.cells.toList) fun zs =>
      if z.cells.size = i.size ∧ n * i.size ≤ 16777216 then obind (partsOf (fun j => some (j * i.size, i.size)) parts.toList) fun l => some (.buildSlice i.size n (reps n zs) l) else none
    | _ => none
  | .load t x => obind (AX.of x) fun ax => obind (P.underlying t) fun d => if isAggD d then obind (P.info? t) fun i => some (.loadN i.size ax) else some (.load1 ax)
  | .store t x y => obind (AX.of x) fun ax => obind (AX.of y) fun ay => obind (P.info? t) fun i => some (.store i.size ax ay)
  | .nilCheck x => obind (AX.of x) fun ax => some (.nilCheck ax)
  | .binOp op t x y _ => obind (AX.of x) fun ax => obind (AX.of y) fun ay => some (binOf P op t x y ax ay)
  | .unOp op _ x => obind (AX.of x) fun ax => some (.un op ax)
  | .convert s d x => obind (AX.of x) fun ax =>
    match P.underlying s, P.underlying d with
    | some _, some (.int k) => some (.convInt k ax)
    | some .string, some .string => some (.convStr ax)
    | some (.slice e), some .string => match P.underlying e with
      | some (.int .u8) => some (.convBS ax)
      | _ => none
    | some .string, some (.slice e) => match P.underlying e with
      | some (.int .u8) => some (.convSB ax)
      | _ => none
    | some (.slice e), some (.slice _) => if s = d then u8only P e (.convBB ax) else none
    | _, _ => none
  | .makeFunc fn a b => obind (AX.ofs a.toList) fun la => obind (AX.ofs b.toList) fun lb => some (.mkFunc fn la lb)
  | .makeMap _ none => some .mkMap
  | .makeInterface t x => obind (AX.of x) fun ax => if P.concrete t then some (.mkIface t ax) else none
  | .makeSlice t l c => obind (AX.of l) fun al => obind (AX.of c) fun ac =>
    match P.underlying t with
    | some (.slice e) => obind (P.info? e) fun i => obind i.zero fun z => obind (V.ofPlains z.cells.toList) fun zs => if z.cells.size = i.size then some (.mkSlice i.size i.bytes zs al ac) else none
    | _ => none
  | .fieldAddr s x n => obind (AX.of x) fun ax =>
    match P.underlying s with
    | some (.struct fields) => obind (fields[n]?) fun f => obind (P.info? f.type) fun i => if i.size ≠ 0 then some (.fieldAddr f.offset ax) else none
    | _ => none
  | .indexAddr t x ix => obind (AX.of x) fun ax => obind (AX.of ix) fun ai =>
    match P.underlying t with
    | some (.slice e) => obind (P.info? e) fun i => some (.idxAddr i.size ax ai)
    | some (.array sz e) => obind (P.info? e) fun i => some (.idxAddrArr sz i.size ax ai)
    | _ => none
  | .field s x j => obind (AX.of x) fun ax =>
    match P.underlying s with
    | some (.struct fields) => obind (fields[j]?) fun f => obind (partInfo P f.type) fun n => some (.field n f.offset ax)
    | _ => none
  | .index t x ix => obind (AX.of x) fun ax => obind (AX.of ix) fun ai =>
    match P.underlying t with
    | some .string => some (.idxStr ax ai)
    | some (.array sz e) => obind (P.info? e) fun i => obind (partInfo P e) fun pn => some (.idxArr sz i.size pn ax ai)
    | _ => none
  | .extract x n => obind (AX.of x) fun ax => some (.extract n ax)
  | .slice t x lo hi mx => obind (AX.of x) fun ax => obind (AX.ofo lo) fun alo => obind (AX.ofo hi) fun ahi => obind (AX.ofo mx) fun amx =>
    match P.underlying t with
    | some .string => match mx with
      | none => some (.sliceStr ax alo ahi)
      | some _ => none
    | some (.slice e) => obind (P.info? e) fun i => some (.sliceSl i.size ax alo ahi amx)
    | some (.array n e) => obind (P.info? e) fun i => some (.sliceArr n i.size ax alo ahi amx)
    | _ => none
  | .lookup t x ix ok => obind (AX.of x) fun ax => obind (AX.of ix) fun ai =>
    match P.underlying t with
    | some (.map kt e) => obind (P.underlying kt) fun d => obind (P.info? e) fun i => obind i.zero fun z => obind (V.ofConst z) fun zv => match keyPtr P kt with
      | some _ => some (.lookupP zv ok ax ai)
      | none => some (.lookup (keyKind d) zv ok ax ai)
    | _ => none
  | .mapUpdate t x k y | .insert t x k y => obind (AX.of x) fun ax => obind (AX.of k) fun ak => obind (AX.of y) fun ay =>
    match P.underlying t with
    | some (.map kt _) => obind (P.underlying kt) fun d => match keyPtr P kt with
      | some _ => some (.mapUpdP ax ak ay)
      | none => some (.mapUpd (keyKind d) ax ak ay)
    | _ => none
  | .call ⟨.builtin b, args, ts⟩ => AO.ofBuiltin P b args.toList ts.toList
  | .call ⟨.value (.func f), args, _⟩ => obind (AX.ofs args.toList) fun axs => if canEnter P f then some (.callF f axs) else obind (extK P f) fun k => some (.ext k axs)
  | .call ⟨.invoke x name, args, _⟩ => obind (AX.of x) fun ax => obind (AX.ofs args.toList) fun axs => some (.invoke name ax axs)
  | .typeAssert x _ t cok => obind (AX.of x) fun ax => obind (P.underlying t) fun d => if isIfaceD d then none else obind (P.info? t) fun i => obind i.zero fun z => obind (V.ofConst z) fun zv => some (.assert t cok zv ax)
  | .call ⟨.value x, args, _⟩ => obind (AX.of x) fun ax => obind (AX.ofs args.toList) fun axs => some (.callV ax axs)
  | .range t x => obind (AX.of x) fun ax => match P.underlying t with
    | some (.map _ _) => some (.rangeM ax)
    | _ => none
  | .next x b => obind (AX.of x) fun ax => if b then none else some (.nextM ax)
  | .entry x => obind (AX.of x) fun ax => some (.entryM ax)
  | .panic x => obind (AX.of x) fun ax => some (.panicV ax)
  | _ => none

theorem array_one {α : Type} {xs : Array α} {x : α} (h : xs.toList = [x]) : xs = #[x] := by
  apply Array.ext'; simpa using h
theorem array_two {α : Type} {xs : Array α} {x y : α} (h : xs.toList = [x, y]) : xs = #[x, y] := by
  apply Array.ext'; simpa using h

theorem AO.ofBuiltin_ok {P : Program} {ok : Env} {o : Oper} {b : Builtin} {args : Array Operand} {ts : Array TypeId} {ao : AO} (ho : o.op = .call ⟨.builtin b, args, ts⟩) (h : AO.ofBuiltin P b args.toList ts.toList = some ao) : OpOk P o (ao.run ok) := by
  unfold AO.ofBuiltin at h
  split at h
  · rename_i x t hxs hts
    have e1 := array_one hxs; have e2 := array_one hts
    subst e1; subst e2
    obtain ⟨ax, h1, h⟩ := obind_some h
    obtain ⟨d, h2, h⟩ := obind_some h
    cases h
    exact ok_len ho h1 h2
  · rename_i x t hxs hts
    have e1 := array_one hxs; have e2 := array_one hts
    subst e1; subst e2
    obtain ⟨ax, h1, h⟩ := obind_some h
    split at h
    · rename_i e ht
      cases h
      exact ok_cap ho h1 ht
    · cases h
  · obtain ⟨axs, h1, h⟩ := obind_some h
    cases h
    exact ok_min ho h1
  · obtain ⟨axs, h1, h⟩ := obind_some h
    cases h
    exact ok_max ho h1
  · rename_i x y s u hxs hts
    have e1 := array_two hxs; have e2 := array_two hts
    subst e1; subst e2
    obtain ⟨ax, h1, h⟩ := obind_some h
    obtain ⟨ay, h2, h⟩ := obind_some h
    split at h
    · rename_i e du hs hu
      split at h
      · rename_i hsl
        split at h
        · rename_i i hi
          split at h
          · rename_i z hz
            split at h
            · rename_i hzs
              cases h
              refine ok_app ho h1 h2 hs ?_ hi hz hzs
              cases du <;> simp [isSl] at hsl
              · exact .inr hu
              · exact .inl ⟨_, hu⟩
            · cases h
          · cases h
        · cases h
      · cases h
    · cases h
  · rename_i x y s u hxs hts
    have e1 := array_two hxs; have e2 := array_two hts
    subst e1; subst e2
    obtain ⟨ax, h1, h⟩ := obind_some h
    obtain ⟨ay, h2, h⟩ := obind_some h
    split at h
    · rename_i e hs
      obtain ⟨i, hi, h⟩ := obind_some h
      cases h
      exact ok_copy ho h1 h2 hs hi
    · cases h
  · rename_i x y s u hxs hts
    have e1 := array_two hxs; have e2 := array_two hts
    subst e1; subst e2
    obtain ⟨ax, h1, h⟩ := obind_some h
    obtain ⟨ay, h2, h⟩ := obind_some h
    split at h
    · rename_i kt e hs
      obtain ⟨d, hd, h⟩ := obind_some h
      cases h
      exact ok_delete ho h1 h2 hs hd
    · cases h
  · rename_i x s hxs hts
    have e1 := array_one hxs; have e2 := array_one hts
    subst e1; subst e2
    obtain ⟨ax, h1, h⟩ := obind_some h
    split at h
    · rename_i e hs
      obtain ⟨i, hi, h⟩ := obind_some h
      obtain ⟨z, hz, h⟩ := obind_some h
      obtain ⟨zs, hzs, h⟩ := obind_some h
      cases h
      exact ok_clear ho h1 hs hi hz hzs
    · cases h
  · cases h

theorem binOf_ok {P : Program} {ok : Env} {o : Oper} {op : BinOp} {t yt : TypeId} {x y : Operand} {ax ay : AX} (ho : o.op = .binOp op t x y yt) (hx : AX.of x = some ax) (hy : AX.of y = some ay) : OpOk P o ((binOf P op t x y ax ay).run ok) := by
  unfold binOf
  split
  · rename_i neg hn
    split
    · rename_i p hp
      refine ok_eq ho ?_ hx hy hp
      cases op <;> simp only [eqNeg, reduceCtorEq, Option.some.injEq] at hn <;> subst hn <;> simp
    · exact ok_bin ho hx hy
  · exact ok_bin ho hx hy

theorem AO.of_ok {P : Program} {ok : Env} (hok : EnvOk P ok) {o : Oper} {ao : AO} (h : AO.of P o.op = some ao) : OpOk P o (ao.run ok) := by
  generalize ho : o.op = op at h
  unfold AO.of at h
  split at h
  · obtain ⟨ax, h1, h⟩ := obind_some h; cases h; exact ok_move (.inl ho) h1
  · obtain ⟨ax, h1, h⟩ := obind_some h; cases h; exact ok_move (.inr ho) h1
  · obtain ⟨ac, h1, h⟩ := obind_some h; obtain ⟨ax, h2, h⟩ := obind_some h; obtain ⟨ay, h3, h⟩ := obind_some h; cases h; exact ok_pick ho h1 h2 h3
  · obtain ⟨i, h1, h⟩ := obind_some h; obtain ⟨z, h2, h⟩ := obind_some h; obtain ⟨zs, h3, h⟩ := obind_some h
    split at h
    · cases h; exact ok_allocT ho h1 h2 h3
    · cases h; exact ok_alloc ho h1 h2 h3
  · obtain ⟨ax, h1, h⟩ := obind_some h; cases h; exact ok_box ho h1
  · obtain ⟨p, h1, h⟩ := obind_some h; obtain ⟨l, h2, h⟩ := obind_some h; cases h
    obtain ⟨zs, place⟩ := p
    exact ok_build ho h1 h2
  · split at h
    · rename_i e ht
      obtain ⟨i, h1, h⟩ := obind_some h; obtain ⟨z, h2, h⟩ := obind_some h; obtain ⟨zs, h3, h⟩ := obind_some h
      split at h
      · rename_i hc
        obtain ⟨l, h4, h⟩ := obind_some h; cases h
        exact ok_buildSlice ho ht h1 h2 h3 hc.1 hc.2 h4
      · cases h
    · cases h
  · obtain ⟨ax, h1, h⟩ := obind_some h; obtain ⟨d, h2, h⟩ := obind_some h
    split at h
    · rename_i ha
      obtain ⟨i, h3, h⟩ := obind_some h; cases h; exact ok_loadN ho h1 h2 ha h3
    · rename_i ha
      cases h; exact ok_load1 ho h1 h2 (by simpa using ha)
  · obtain ⟨ax, h1, h⟩ := obind_some h; obtain ⟨ay, h2, h⟩ := obind_some h; obtain ⟨i, h3, h⟩ := obind_some h; cases h; exact ok_store ho h1 h2 h3
  · obtain ⟨ax, h1, h⟩ := obind_some h; cases h; exact ok_nilCheck ho h1
  · obtain ⟨ax, h1, h⟩ := obind_some h; obtain ⟨ay, h2, h⟩ := obind_some h; cases h; exact binOf_ok ho h1 h2
  · obtain ⟨ax, h1, h⟩ := obind_some h; cases h; exact ok_un ho h1
  · obtain ⟨ax, h1, h⟩ := obind_some h
    split at h
    · rename_i hs hd; cases h; exact ok_convInt ho h1 hs hd
    · rename_i hs hd; cases h; exact ok_convStr ho h1 hs hd
    · rename_i e hs hd
      split at h
      · rename_i he; cases h; exact ok_convBS ho h1 hs he hd
      · cases h
    · rename_i e hs hd
      split at h
      · rename_i he; cases h; exact ok_convSB ho h1 hs hd he
      · cases h
    · rename_i e _ hs hd
      split at h
      · rename_i hsd
        obtain ⟨he, hao⟩ := u8only_some h
        subst hao; subst hsd
        exact ok_convBB (ax := ax)
      · cases h
    · cases h
  · obtain ⟨la, h1, h⟩ := obind_some h; obtain ⟨lb, h2, h⟩ := obind_some h; cases h; exact ok_mkFunc ho h1 h2
  · cases h; exact ok_mkMap ho
  · obtain ⟨ax, h1, h⟩ := obind_some h
    split at h
    · rename_i ht; cases h; exact ok_mkIface ho h1 ht
    · cases h
  · obtain ⟨al, h1, h⟩ := obind_some h; obtain ⟨ac, h2, h⟩ := obind_some h
    split at h
    · rename_i e ht
      obtain ⟨i, h3, h⟩ := obind_some h; obtain ⟨z, h4, h⟩ := obind_some h; obtain ⟨zs, h5, h⟩ := obind_some h
      split at h
      · rename_i hz; cases h; exact ok_mkSlice ho h1 h2 ht h3 h4 h5 hz
      · cases h
    · cases h
  · obtain ⟨ax, h1, h⟩ := obind_some h
    split at h
    · rename_i fields hs
      obtain ⟨f, h2, h⟩ := obind_some h; obtain ⟨i, h3, h⟩ := obind_some h
      split at h
      · rename_i hne; cases h; exact ok_fieldAddr ho h1 hs h2 h3 hne
      · cases h
    · cases h
  · obtain ⟨ax, h1, h⟩ := obind_some h; obtain ⟨ai, h2, h⟩ := obind_some h
    split at h
    · rename_i e ht; obtain ⟨i, h3, h⟩ := obind_some h; cases h; exact ok_idxAddr ho h1 h2 ht h3
    · rename_i len e ht; obtain ⟨i, h3, h⟩ := obind_some h; cases h; exact ok_idxAddrArr ho h1 h2 ht h3
    · cases h
  · obtain ⟨ax, h1, h⟩ := obind_some h
    split at h
    · rename_i fields hs
      obtain ⟨f, h2, h⟩ := obind_some h; obtain ⟨n, h3, h⟩ := obind_some h; cases h; exact ok_field ho h1 hs h2 h3
    · cases h
  · obtain ⟨ax, h1, h⟩ := obind_some h; obtain ⟨ai, h2, h⟩ := obind_some h
    split at h
    · rename_i ht; cases h; exact ok_idxStr ho h1 h2 ht
    · rename_i len e ht; obtain ⟨i, h3, h⟩ := obind_some h; obtain ⟨pn, h4, h⟩ := obind_some h; cases h; exact ok_idxArr ho h1 h2 ht h3 h4
    · cases h
  · obtain ⟨ax, h1, h⟩ := obind_some h; cases h; exact ok_extract ho h1
  · obtain ⟨ax, h1, h⟩ := obind_some h; obtain ⟨alo, h2, h⟩ := obind_some h; obtain ⟨ahi, h3, h⟩ := obind_some h; obtain ⟨amx, h4, h⟩ := obind_some h
    split at h
    · rename_i ht
      split at h
      · cases h; exact ok_sliceStr ho h1 h2 h3 ht
      · cases h
    · rename_i e ht; obtain ⟨i, h5, h⟩ := obind_some h; cases h; exact ok_sliceSl ho h1 h2 h3 h4 ht h5
    · rename_i n e ht; obtain ⟨i, h5, h⟩ := obind_some h; cases h; exact ok_sliceArr ho h1 h2 h3 h4 ht h5
    · cases h
  · obtain ⟨ax, h1, h⟩ := obind_some h; obtain ⟨ai, h2, h⟩ := obind_some h
    split at h
    · rename_i kt e ht
      obtain ⟨d, h3, h⟩ := obind_some h; obtain ⟨i, h4, h⟩ := obind_some h; obtain ⟨z, h5, h⟩ := obind_some h; obtain ⟨zv, h6, h⟩ := obind_some h
      split at h
      · rename_i ki hki
        obtain ⟨ke, k1, k2, k3⟩ := keyPtr_some hki
        cases h; exact ok_lookupP ho h1 h2 ht k1 k2 k3 h4 h5 h6
      · cases h; exact ok_lookup ho h1 h2 ht h3 h4 h5 h6
    · cases h
  · obtain ⟨ax, h1, h⟩ := obind_some h; obtain ⟨ak, h2, h⟩ := obind_some h; obtain ⟨ay, h3, h⟩ := obind_some h
    split at h
    · rename_i kt e ht; obtain ⟨d, h4, h⟩ := obind_some h
      split at h
      · rename_i ki hki
        obtain ⟨ke, k1, k2, k3⟩ := keyPtr_some hki
        cases h; exact ok_mapUpdP (.inl ho) h1 h2 h3 ht k1 k2 k3
      · cases h; exact ok_mapUpd (.inl ho) h1 h2 h3 ht h4
    · cases h
  · obtain ⟨ax, h1, h⟩ := obind_some h; obtain ⟨ak, h2, h⟩ := obind_some h; obtain ⟨ay, h3, h⟩ := obind_some h
    split at h
    · rename_i kt e ht; obtain ⟨d, h4, h⟩ := obind_some h
      split at h
      · rename_i ki hki
        obtain ⟨ke, k1, k2, k3⟩ := keyPtr_some hki
        cases h; exact ok_mapUpdP (.inr ho) h1 h2 h3 ht k1 k2 k3
      · cases h; exact ok_mapUpd (.inr ho) h1 h2 h3 ht h4
    · cases h
  · exact AO.ofBuiltin_ok ho h
  · obtain ⟨axs, h1, h⟩ := obind_some h
    split at h
    · rename_i hc; cases h; exact ok_callF ho h1 hc
    · obtain ⟨k, h2, h⟩ := obind_some h; cases h; exact ok_ext ho h1 h2
  · obtain ⟨ax, h1, h⟩ := obind_some h; obtain ⟨axs, h2, h⟩ := obind_some h; cases h
    exact ok_invoke ho h1 h2 hok
  · obtain ⟨ax, h1, h⟩ := obind_some h; obtain ⟨d, h2, h⟩ := obind_some h
    split at h
    · cases h
    · rename_i hd
      obtain ⟨i, h3, h⟩ := obind_some h; obtain ⟨z, h4, h⟩ := obind_some h; obtain ⟨zv, h5, h⟩ := obind_some h; cases h
      exact ok_assert ho h1 h2 (by simpa using hd) h3 h4 h5
  · obtain ⟨ax, h1, h⟩ := obind_some h; obtain ⟨axs, h2, h⟩ := obind_some h; cases h
    exact ok_callV ho h1 h2 hok
  · obtain ⟨ax, h1, h⟩ := obind_some h
    split at h
    · rename_i kt e ht; cases h; exact ok_range ho h1 ht
    · cases h
  · obtain ⟨ax, h1, h⟩ := obind_some h
    split at h
    · cases h
    · rename_i hb
      cases h
      exact ok_next (by rw [ho]; simpa using hb) h1
  · obtain ⟨ax, h1, h⟩ := obind_some h; cases h; exact ok_entry ho h1
  · obtain ⟨ax, h1, h⟩ := obind_some h; cases h; exact ok_panicV ho h1
  · cases h

end Go.Th
end
