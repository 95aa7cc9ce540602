/- What the row of one statement stands on: a store, abstract code, functions of the program and their laws (ThD4, ThI). -/
import Derived.Test.YtdjocmcbibedhaaGreatThBD3
import Derived.Laws.Externs
import Derived.KernelRfl

section
/- Room of a slice; what an interface holds; methods. -/
set_option linter.unusedSimpArgs false
set_option linter.unusedVariables false
namespace Go.Th
open Go.RowKit

def capV (v : V) : Option V :=
  match v with
  | .slice _ _ _ c _ true => some (.int .i64 c)
  | .nilSlice => some (.int .i64 0)
  | _ => none
def rCap (x : AX) : List V → St → AR := fun fr S =>
  match capV (x.ev fr) with
  | some v => .val v S
  | none => .stuck

theorem ok_cap {P : Program} {o : Oper} {x : Operand} {ax : AX} {t e : TypeId} (ho : o.op = .call ⟨.builtin .cap, #[x], #[t]⟩) (hx : AX.of x = some ax) (ht : P.underlying t = some (.slice e)) : OpOk P o (rCap ax) :=
  OpOk.pure fun m S base w0 w fr a hS hf => by
    have rx := AX.of_rel hx hf
    unfold rCap capV
    split
    · rename_i v hv
      split at hv
      · rename_i i o' l c k hev
        cases hv
        rw [hev] at rx
        obtain ⟨L, q, c', h1, h2, h3⟩ := rx.slice_inv
        have hc := h3.tight rfl
        refine .inr ⟨_, .int .i64 c, rfl, ?_, VR.int_mk _ _ _⟩
        simp [execOp, ho, resolve, invoke, builtin, Builtin.cap_, run_underlying ht, h2, hc, goInt]
      · rename_i hev
        cases hv
        rw [hev] at rx
        refine .inr ⟨_, .int .i64 0, rfl, ?_, VR.int_mk _ _ _⟩
        simp [execOp, ho, resolve, invoke, builtin, Builtin.cap_, run_underlying ht, rx.nilSlice_inv, goInt]
      · cases hv
    · exact .inl rfl

def isIfaceD : TypeDesc → Bool
  | .interface _ => true
  | _ => false

def assertV (t : TypeId) (cok : Bool) (zero : V) (v : V) : Option V :=
  match v with
  | .iface t' u => if t' = t then some (if cok then .tuple [u, .bool true] else u) else if cok then some (.tuple [zero, .bool false]) else none
  | .nilIface => if cok then some (.tuple [zero, .bool false]) else none
  | _ => none
def rAssert (t : TypeId) (cok : Bool) (zero : V) (x : AX) : List V → St → AR := fun fr S =>
  match assertV t cok zero (x.ev fr) with
  | some v => .val v S
  | none => .stuck

theorem ok_assert {P : Program} {o : Oper} {x : Operand} {ax : AX} {xt t : TypeId} {cok : Bool} {d : TypeDesc} {i : TypeInfo} {z : Value} {zv : V} (ho : o.op = .typeAssert x xt t cok) (hx : AX.of x = some ax) (ht : P.underlying t = some d) (hd : isIfaceD d = false)
    (hi : P.info? t = some i) (hz : i.zero = some z) (hzv : V.ofConst z = some zv) : OpOk P o (rAssert t cok zv ax) :=
  OpOk.pure fun m S base w0 w fr a hS hf => by
    have rx := AX.of_rel hx hf
    have rz : VR m zv z := V.ofConst_rel hzv
    have h2 : VR m (.tuple [zv, .bool false]) (.tuple #[z, .bool false]) := by
      simp only [VR]; exact ⟨_, rfl, by simp only [VRs]; exact ⟨_, _, rfl, rz, _, _, rfl, VR.bool_mk _ _, rfl⟩⟩
    unfold rAssert assertV
    split
    · rename_i v hv
      split at hv
      · rename_i t' u hev
        rw [hev] at rx
        obtain ⟨u', hu, ru⟩ := rx.iface_inv
        split at hv
        · rename_i htt
          subst htt
          cases hv
          cases cok with
          | true =>
            refine .inr ⟨_, .tuple #[u', .bool true], rfl, ?_, by simp only [VR]; exact ⟨_, rfl, by simp only [VRs]; exact ⟨_, _, rfl, ru, _, _, rfl, VR.bool_mk _ _, rfl⟩⟩⟩
            cases d <;> simp [isIfaceD] at hd <;> simp [execOp, ho, hu, Instr.typeAssert, run_underlying ht]
          | false =>
            refine .inr ⟨_, u', rfl, ?_, ru⟩
            cases d <;> simp [isIfaceD] at hd <;> simp [execOp, ho, hu, Instr.typeAssert, run_underlying ht]
        · rename_i htt
          split at hv
          · rename_i hc
            cases hv; subst hc
            refine .inr ⟨_, _, rfl, ?_, h2⟩
            cases d <;> simp [isIfaceD] at hd <;> simp [execOp, ho, hu, Instr.typeAssert, run_underlying ht, htt, zeroValue, typeInfo, hi, hz]
          · cases hv
      · rename_i hev
        rw [hev] at rx
        have hu : a.eval x = .nilIface := by simpa only [VR] using rx
        split at hv
        · rename_i hc
          cases hv; subst hc
          refine .inr ⟨_, _, rfl, ?_, h2⟩
          cases d <;> simp [isIfaceD] at hd <;> simp [execOp, ho, hu, Instr.typeAssert, run_underlying ht, zeroValue, typeInfo, hi, hz]
        · cases hv
      · cases hv
    · exact .inl rfl

def recvV (S : St) (mode : Nat) (v : V) : Option V :=
  match mode with
  | 0 => some v
  | 1 => match v with
    | .ptr i o => S.load1 i o
    | _ => none
  | n + 2 => match v with
    | .ptr i o => (S.loads i o n).map .agg
    | _ => none
def invokeV (ok : Env) (S : St) (name : String) (v : V) (args : List V) : Option (FuncId × List V) :=
  match v with
  | .iface t u => match ok.meth name t with
    | some p => match recvV S p.2 u with
      | some r => some (p.1, r :: args)
      | none => none
    | none => none
  | _ => none
def rInvoke (ok : Env) (name : String) (x : AX) (args : List AX) : List V → St → AR := fun fr S =>
  match invokeV ok S name (x.ev fr) (args.map (·.ev fr)) with
  | some p => .call p.1 p.2
  | none => .stuck

theorem run_nilChk {P : Program} {w : World} (xt : TypeId) (a : Addr) (nm : String) : (Builtin.ssaWrapNilChk_ #[xt] xt #[.pointer (some a), strVal "", strVal nm]).run P w = .ok (.pointer (some a)) w := rfl

theorem run_method {P : Program} {m : LM} {S : St} {base : Nat} {w0 w : World} (hS : Sim m S base w0 w) {name : String} {t : TypeId} {f : FuncId} {mode : Nat} (h : methEntry P name t = some (f, mode)) {u r : V} (hr : recvV S mode u = some r) {v : Value} (hv : VR m u v) (fuel : Nat) :
    ∃ r', (method (fuel + 1) t v name).run P w = .ok (f, r') w ∧ VR m r r' ∧ canEnter P f = true := by
  unfold methEntry at h
  split at h
  · cases h
  · rename_i i hi
    split at h
    · cases h
    · rename_i me hme
      split at h
      · rename_i f' ptr hpath hfunc
        have hpe : me.path = #[] := by apply Array.ext'; simpa using hpath
        split at h
        · rename_i hcan
          have start : ∀ (r' : Value), (receiverAt t (.val v) ptr (if me.path.isEmpty then some ((name.splitOn ".").getLastD name) else none)).run P w = .ok r' w → (method (fuel + 1) t v name).run P w = .ok (f', r') w := by
            intro r' hr'
            simp only [method, Sem.run_bind, typeInfo, run_program, Result.andThen_ok]
            simp only [hi, Sem.run_pure, Result.andThen_ok, hme, hpath, follow, hfunc, Sem.run_bind, hr']
          split at h
          · rename_i e hu
            cases h
            simp only [recvV, Option.some.injEq] at hr
            subst hr
            refine ⟨v, start v ?_, hv, hcan⟩
            simp [receiverAt, run_underlying hu, Place.get]
          · rename_i e hu
            split at h
            · rename_i d ie hd hie
              have hptr : ∃ j o L, u = .ptr j o ∧ m j = some L ∧ v = .pointer (some ⟨L.block, L.off + o, none⟩) := by
                split at h <;> cases h <;> simp only [recvV] at hr <;> split at hr <;> first | (cases hr; done) | skip
                all_goals (obtain ⟨L, h1, h2⟩ := hv.ptr_inv; exact ⟨_, _, L, rfl, h1, h2⟩)
              obtain ⟨j, o, L, rfl, hL, hvv⟩ := hptr
              split at h
              · rename_i ha
                cases h
                simp only [recvV] at hr
                cases hl : S.loads j o ie.size with
                | none => rw [hl] at hr; cases hr
                | some cs =>
                  rw [hl] at hr; cases hr
                  obtain ⟨us, g1, g2, _⟩ := hS.loads (P := P) hl hL
                  refine ⟨.agg us.toArray, start _ ?_, by simp only [VR]; exact ⟨_, rfl, g2⟩, hcan⟩
                  simp [receiverAt, run_underlying hu, Place.get, hpe, hvv, run_nilChk, asAddr, loadVar, run_isAgg hd, ha, sizeOf, typeInfo, hie, g1]
              · rename_i ha
                cases h
                simp only [recvV] at hr
                obtain ⟨u', g1, g2⟩ := hS.load1 hr hL
                refine ⟨u', start _ ?_, g2, hcan⟩
                have ha' : isAggD d = false := by simpa using ha
                simp [receiverAt, run_underlying hu, Place.get, hpe, hvv, run_nilChk, asAddr, loadVar, run_isAgg hd, ha', g1]
            · cases h
          · rename_i d hnp hu
            cases h
            simp only [recvV, Option.some.injEq] at hr
            subst hr
            refine ⟨v, start v ?_, hv, hcan⟩
            cases d <;> simp [receiverAt, run_underlying hu, Place.get] <;> exact (hnp _ rfl).elim
          · cases h
        · cases h
      · cases h

theorem ok_invoke {P : Program} {o : Oper} {ok : Env} {x : Operand} {ax : AX} {name : String} {args : Array Operand} {ts : Array TypeId} {axs : List AX} (ho : o.op = .call ⟨.invoke x name, args, ts⟩) (hx0 : AX.of x = some ax) (hx : AX.ofs args.toList = some axs) (hok : EnvOk P ok) :
    OpOk P o (rInvoke ok name ax axs) := by
  intro m S base w0 w fr a hS hfr
  have rx := AX.of_rel hx0 hfr
  unfold rInvoke
  cases hi : invokeV ok S name (ax.ev fr) (axs.map (·.ev fr)) with
  | none => trivial
  | some p =>
    unfold invokeV at hi
    split at hi
    · rename_i t u hev
      rw [hev] at rx
      obtain ⟨v, hv, ru⟩ := rx.iface_inv
      split at hi
      · rename_i q hq
        split at hi
        · rename_i r hr
          cases hi
          obtain ⟨r', g1, g2, g3⟩ := run_method (P := P) hS (hok.2.1 _ _ _ hq) hr ru (P.types.size + Made.depth - 1)
          have hd : P.types.size + Made.depth - 1 + 1 = P.types.size + Made.depth := by
            have : 0 < Made.depth := by decide
            omega
          rw [hd] at g1
          refine ⟨#[r'] ++ args.map a.eval, ?_, .inl ⟨canEnter_lt g3, ?_⟩⟩
          rotate_left
          · simp only [execOp, ho, resolve, Sem.run_bind, Sem.run_pure, Result.andThen_ok, invoke]
            have e1 : (#[a.eval x] ++ args.map a.eval)[0]? = some (a.eval x) := by
              rw [Array.getElem?_append_left (by exact Nat.one_pos)]; rfl
            have e2 : (Array.map a.eval args).extract 0 args.size = Array.map a.eval args := by
              have := Array.extract_size (xs := Array.map a.eval args)
              rwa [Array.size_map] at this
            rw [e1]
            simp [callMethod, hv, g1, run_callFunc g3, e2]
          · simp only [Array.toList_append, Array.toList_map]
            simp only [List.cons_append, List.nil_append, VRs]
            exact ⟨r', _, rfl, g2, AX.ofs_rel hfr hx⟩
        · cases hi
      · cases hi
    · cases hi

def sub64E : Array Value → Sem Value := (Extern.MathBitsCarry.rows.getD 1 ("", fun _ => pure (.int .u64 0))).2
theorem find_add64 {fn : Func} (h : fn.name = "math/bits.Add64") : Extern.find fn = some add64Entry := by
  cases fn; simp only at h; subst h; kernel_rfl
theorem find_sub64 {fn : Func} (h : fn.name = "math/bits.Sub64") : Extern.find fn = some sub64E := by
  cases fn; simp only at h; subst h; kernel_rfl

def extK (P : Program) (f : FuncId) : Option Nat :=
  match P.funcs[f]? with
  | some fn => if fn.body.isNone && !(fn.name == "runtime.NumGoroutine") && (Extern.findNext fn).isNone then
      if fn.name = "math/bits.Add64" then some 0 else if fn.name = "math/bits.Sub64" then some 1 else none
    else none
  | none => none

def extV (k : Nat) (vs : List V) : Option V :=
  match k with
  | 0 => match vs with
    | [.int .u64 x, .int .u64 y, .int .u64 c] => if 0 ≤ x ∧ 0 ≤ y ∧ 0 ≤ c ∧ c ≤ 1 then some (.tuple [.int .u64 ((x + y + c) % 18446744073709551616), .int .u64 ((x + y + c) / 18446744073709551616)]) else none
    | _ => none
  | 1 => match vs with
    | [.int .u64 x, .int .u64 y, .int .u64 c] => if 0 ≤ x ∧ 0 ≤ y ∧ y < 18446744073709551616 ∧ 0 ≤ c ∧ c ≤ 1 then some (.tuple [.int .u64 ((x - y - c) % 18446744073709551616), .int .u64 (if x < y + c then 1 else 0)]) else none
    | _ => none
  | _ => none
def rExt (k : Nat) (xs : List AX) : List V → St → AR := fun fr S =>
  match extV k (xs.map (·.ev fr)) with
  | some v => .val v S
  | none => .stuck

theorem VR.pair_mk {m : LM} {a b : Int} {k k' : IntKind} : VR m (.tuple [.int k a, .int k' b]) (.tuple #[.int k a, .int k' b]) := by
  simp only [VR]; exact ⟨_, rfl, by simp only [VRs]; exact ⟨_, _, rfl, VR.int_mk _ _ _, _, _, rfl, VR.int_mk _ _ _, rfl⟩⟩

theorem run_sub64' {P : Program} (x y c : Int) (hx : 0 ≤ x) (hy : 0 ≤ y) (hy2 : y < 18446744073709551616) (hc0 : 0 ≤ c) (hc : c ≤ 1) (w : World) :
    (sub64E #[.int .u64 x, .int .u64 y, .int .u64 c]).run P w = .ok (.tuple #[.int .u64 ((x - y - c) % 18446744073709551616), .int .u64 (if x < y + c then 1 else 0)]) w := by
  obtain ⟨k, rfl⟩ := Int.eq_ofNat_of_zero_le hc0
  obtain ⟨X, rfl⟩ := Int.eq_ofNat_of_zero_le hx
  obtain ⟨Y, rfl⟩ := Int.eq_ofNat_of_zero_le hy
  have key : (sub64E #[.int .u64 X, .int .u64 Y, .int .u64 k]).run P w =
      .ok (.tuple #[.int .u64 (((X + 18446744073709551616 - Y - k) % 18446744073709551616 : Nat) : Int), .int .u64 ((if X < Y + k then 1 else 0 : Nat) : Int)]) w := by
    have : k = 0 ∨ k = 1 := by omega
    rcases this with rfl | rfl <;> rfl
  rw [key]
  have e1 : (((X + 18446744073709551616 - Y - k) % 18446744073709551616 : Nat) : Int) = ((X : Int) - Y - k) % 18446744073709551616 := by omega
  have e2 : ((if X < Y + k then 1 else 0 : Nat) : Int) = if (X : Int) < Y + k then 1 else 0 := by split <;> split <;> first | rfl | omega
  rw [e1, e2]

theorem ok_ext {P : Program} {o : Oper} {f : FuncId} {args : Array Operand} {ts : Array TypeId} {axs : List AX} {k : Nat} (ho : o.op = .call ⟨.value (.func f), args, ts⟩) (hx : AX.ofs args.toList = some axs) (hf : extK P f = some k) : OpOk P o (rExt k axs) :=
  OpOk.pure fun m S base w0 w fr a hS hfr => by
    have rx := AX.ofs_rel hfr hx
    unfold rExt
    split
    · rename_i v hv
      unfold extK at hf
      split at hf
      · rename_i fn hfn
        split at hf
        · rename_i hc
          simp only [Bool.and_eq_true, Bool.not_eq_true'] at hc
          have hn : Extern.findNext fn = none := by cases hz : Extern.findNext fn <;> simp_all
          have hb : (args.map a.eval).toList = args.toList.map a.eval := Array.toList_map
          have key : ∀ (e : Array Value → Sem Value), Extern.find fn = some e → (callFunc f (args.map a.eval)).run P w = (((e (args.map a.eval)).run P w).andThen fun v w' => .ok (.value v) w') :=
            fun e he => run_callFunc_extern hfn hc.1.2 hc.1.1 hn he _ w
          have hex : ∀ (u : Value), (callFunc f (args.map a.eval)).run P w = .ok (.value u) w → (execOp a.eval o).run P w = .ok (.value u) w := by
            intro u hu
            simp [execOp, ho, resolve, Act.eval, Deferred.ofValue, invoke]
            exact hu
          split at hf
          · rename_i hname
            cases hf
            simp only [extV] at hv
            split at hv
            · rename_i x y c hl
              split at hv
              · rename_i hcc
                cases hv
                rw [hl] at rx
                simp only [VRs] at rx
                obtain ⟨u1, r1, e1, h1, u2, r2, e2, h2, u3, r3, e3, h3, e4⟩ := rx
                subst e4; subst e3; subst e2
                rw [h1.int_inv, h2.int_inv, h3.int_inv] at e1
                have ea : args.map a.eval = #[.int .u64 x, .int .u64 y, .int .u64 c] := by apply Array.ext'; rw [hb, e1]
                refine .inr ⟨_, _, rfl, hex _ ?_, VR.pair_mk⟩
                rw [key _ (find_add64 hname), ea, run_add64 x y c hcc.1 hcc.2.1 hcc.2.2.1 hcc.2.2.2 w]
                try rfl
              · cases hv
            · cases hv
          · split at hf
            · rename_i hname
              cases hf
              simp only [extV] at hv
              split at hv
              · rename_i x y c hl
                split at hv
                · rename_i hcc
                  cases hv
                  rw [hl] at rx
                  simp only [VRs] at rx
                  obtain ⟨u1, r1, e1, h1, u2, r2, e2, h2, u3, r3, e3, h3, e4⟩ := rx
                  subst e4; subst e3; subst e2
                  rw [h1.int_inv, h2.int_inv, h3.int_inv] at e1
                  have ea : args.map a.eval = #[.int .u64 x, .int .u64 y, .int .u64 c] := by apply Array.ext'; rw [hb, e1]
                  refine .inr ⟨_, _, rfl, hex _ ?_, VR.pair_mk⟩
                  rw [key _ (find_sub64 hname), ea, run_sub64' x y c hcc.1 hcc.2.1 hcc.2.2.1 hcc.2.2.2.1 hcc.2.2.2.2 w]
                  try rfl
                · cases hv
              · cases hv
            · cases hf
        · cases hf
      · cases hf
    · exact .inl rfl

end Go.Th
end

section
/- The abstract code: what the program's code is read as, its weakest precondition over the store, and that this is the model's. -/
set_option linter.unusedSimpArgs false
set_option linter.unusedVariables false
namespace Go.Th
open Go.RowKit Go.Lib

inductive AO where
  | move (x : AX)
  | pick (c x y : AX)
  | alloc (zs : List V)
  | box (x : AX)
  | build (zs : List V) (parts : List (Nat × Nat × AX))
  | buildSlice (k n : Nat) (zs : List V) (parts : List (Nat × Nat × AX))
  | load1 (x : AX)
  | loadN (n : Nat) (x : AX)
  | store (n : Nat) (x y : AX)
  | nilCheck (x : AX)
  | bin (op : BinOp) (x y : AX)
  | un (op : UnOp) (x : AX)
  | convInt (k : IntKind) (x : AX)
  | convStr (x : AX)
  | convBS (x : AX)
  | convSB (x : AX)
  | convBB (x : AX)
  | mkFunc (fn : Fn) (first captured : List AX)
  | mkMap
  | mkIface (t : TypeId) (x : AX)
  | mkSlice (k bytes : Nat) (zs : List V) (l c : AX)
  | fieldAddr (off : Nat) (x : AX)
  | idxAddr (k : Nat) (x i : AX)
  | idxAddrArr (len k : Nat) (x i : AX)
  | field (n : Option Nat) (off : Nat) (x : AX)
  | idxStr (x i : AX)
  | idxArr (len k : Nat) (pn : Option Nat) (x i : AX)
  | extract (n : Nat) (x : AX)
  | sliceStr (x : AX) (lo hi : Option AX)
  | sliceSl (k : Nat) (x : AX) (lo hi mx : Option AX)
  | sliceArr (n k : Nat) (x : AX) (lo hi mx : Option AX)
  | len (n : Nat) (x : AX)
  | min (xs : List AX)
  | max (xs : List AX)
  | app (k bytes : Nat) (x y : AX)
  | copy (k : Nat) (x y : AX)
  | lookup (kk : Nat) (zero : V) (ok : Bool) (x i : AX)
  | mapUpd (kk : Nat) (x k y : AX)
  | delete (kk : Nat) (x k : AX)
  | callF (f : FuncId) (args : List AX)
  | callV (x : AX) (args : List AX)
  | eq (neg : Bool) (kk : Nat) (plan : List Nat) (x y : AX)
  | cap (x : AX)
  | assert (t : TypeId) (cok : Bool) (zero : V) (x : AX)
  | invoke (name : String) (x : AX) (args : List AX)
  | ext (k : Nat) (xs : List AX)

def AO.run (ok : Env) : AO → List V → St → AR
  | .move x => rMove x
  | .pick c x y => rPick c x y
  | .alloc zs => rAlloc zs
  | .box x => rBox x
  | .build zs parts => rBuild zs parts
  | .buildSlice k n zs parts => rBuildSlice k n zs parts
  | .load1 x => rLoad1 x
  | .loadN n x => rLoadN n x
  | .store n x y => rStore n x y
  | .nilCheck x => rNilCheck x
  | .bin op x y => rBin op x y
  | .un op x => rUn op x
  | .convInt k x => rConvInt k x
  | .convStr x => rConvStr x
  | .convBS x => rConvBS x
  | .convSB x => rConvSB x
  | .convBB x => rConvBB x
  | .mkFunc fn a b => rMkFunc fn a b
  | .mkMap => rMkMap
  | .mkIface t x => rMkIface t x
  | .mkSlice k bytes zs l c => rMkSlice k bytes zs l c
  | .fieldAddr off x => rFieldAddr off x
  | .idxAddr k x i => rIdxAddr k x i
  | .idxAddrArr n k x i => rIdxAddrArr n k x i
  | .field n off x => rField n off x
  | .idxStr x i => rIdxStr x i
  | .idxArr n k pn x i => rIdxArr n k pn x i
  | .extract n x => rExtract n x
  | .sliceStr x lo hi => rSliceStr x lo hi
  | .sliceSl k x lo hi mx => rSliceSl k x lo hi mx
  | .sliceArr n k x lo hi mx => rSliceArr n k x lo hi mx
  | .len n x => rLenK n x
  | .min xs => rMinMax goMin xs
  | .max xs => rMinMax goMax xs
  | .app k bytes x y => rApp k bytes x y
  | .copy k x y => rCopy k x y
  | .lookup kk z b x i => rLookup kk z b x i
  | .mapUpd kk x k y => rMapUpd kk x k y
  | .delete kk x k => rDelete kk x k
  | .callF f args => rCallF f args
  | .callV x args => rCallV ok x args
  | .eq neg kk plan x y => rEq neg kk plan x y
  | .cap x => rCap x
  | .assert t cok zero x => rAssert t cok zero x
  | .invoke name x args => rInvoke ok name x args
  | .ext k xs => rExt k xs

def obind {α β : Type} (x : Option α) (f : α → Option β) : Option β :=
  match x with
  | some a => f a
  | none => none

theorem obind_some {α β : Type} {x : Option α} {f : α → Option β} {b : β} (h : obind x f = some b) : ∃ a, x = some a ∧ f a = some b := by
  cases x with
  | none => cases h
  | some a => exact ⟨a, rfl, h⟩

def isSl : TypeDesc → Bool
  | .slice _ | .string => true
  | _ => false

def AO.ofBuiltin (P : Program) (b : Builtin) (xs : List Operand) (ts : List TypeId) : Option AO :=
  match b, xs, ts with
  | .len, [x], [t] => obind (AX.of x) fun ax => obind (P.underlying t) fun d => some (.len (lenKind d) ax)
  | .cap, [x], [t] => obind (AX.of x) fun ax => match P.underlying t with
    | some (.slice _) => some (.cap ax)
    | _ => none
  | .min, xs, _ => obind (AX.ofs xs) fun axs => some (.min axs)
  | .max, xs, _ => obind (AX.ofs xs) fun axs => some (.max axs)
  | .append, [x, y], [s, u] => obind (AX.of x) fun ax => obind (AX.of y) fun ay =>
    match P.underlying s, P.underlying u with
    | some (.slice e), some du => if isSl du then
        match P.info? e with
        | some i => match i.zero with
          | some z => if z.cells.size = i.size then some (.app i.size i.bytes ax ay) else none
          | none => none
        | none => none
      else none
    | _, _ => none
  | .copy, [x, y], [s, _] => obind (AX.of x) fun ax => obind (AX.of y) fun ay =>
    match P.underlying s with
    | some (.slice e) => obind (P.info? e) fun i => some (.copy i.size ax ay)
    | _ => none
  | .delete, [x, k], [t, _] => obind (AX.of x) fun ax => obind (AX.of k) fun ak =>
    match P.underlying t with
    | some (.map kt _) => obind (P.underlying kt) fun d => some (.delete (keyKind d) ax ak)
    | _ => none
  | _, _, _ => none

def eqNeg : BinOp → Option Bool
  | .eql => some false
  | .neq => some true
  | _ => none
def binOf (P : Program) (op : BinOp) (t : TypeId) (x y : Operand) (ax ay : AX) : AO :=
  match eqNeg op with
  | some neg => match eqKind P t x y with
    | some p => .eq neg p.1 p.2 ax ay
    | none => .bin op ax ay
  | none => .bin op ax ay

def u8only (P : Program) (e : TypeId) (x : AO) : Option AO :=
  match P.underlying e with
  | some (.int .u8) => some x
  | _ => none

theorem u8only_some {P : Program} {e : TypeId} {x y : AO} (h : u8only P e x = some y) : P.underlying e = some (.int .u8) ∧ y = x := by
  unfold u8only at h
  split at h
  · rename_i he; cases h; exact ⟨he, rfl⟩
  · cases h

def AO.of (P : Program) (o : Op) : Option AO :=
  match o with
  | .move x | .assign x => obind (AX.of x) fun ax => some (.move ax)
  | .pick c x y => obind (AX.of c) fun ac => obind (AX.of x) fun ax => obind (AX.of y) fun ay => some (.pick ac ax ay)
  | .alloc e => obind (P.info? e) fun i => obind i.zero fun z => obind (V.ofPlains z.cells.toList) fun zs => some (.alloc zs)
  | .box _ x => obind (AX.of x) fun ax => some (.box ax)
  | .build t parts => obind (buildInfo P t) fun p => obind (partsOf p.2 parts.toList) fun l => some (.build p.1 l)
  | .buildSlice t n parts =>
    match P.underlying t with
    | some (.slice e) => obind (P.info? e) fun i => obind i.zero fun z => obind (V.ofPlains z.cells.toList) fun zs =>
      if z.cells.size = i.size ∧ n * i.size ≤ 16777216 then obind (partsOf (fun j => some (j * i.size, i.size)) parts.toList) fun l => some (.buildSlice i.size n (reps n zs) l) else none
    | _ => none
  | .load t x => obind (AX.of x) fun ax => obind (P.underlying t) fun d => if isAggD d then obind (P.info? t) fun i => some (.loadN i.size ax) else some (.load1 ax)
  | .store t x y => obind (AX.of x) fun ax => obind (AX.of y) fun ay => obind (P.info? t) fun i => some (.store i.size ax ay)
  | .nilCheck x => obind (AX.of x) fun ax => some (.nilCheck ax)
  | .binOp op t x y _ => obind (AX.of x) fun ax => obind (AX.of y) fun ay => some (binOf P op t x y ax ay)
  | .unOp op _ x => obind (AX.of x) fun ax => some (.un op ax)
  | .convert s d x => obind (AX.of x) fun ax =>
    match P.underlying s, P.underlying d with
    | some _, some (.int k) => some (.convInt k ax)
    | some .string, some .string => some (.convStr ax)
    | some (.slice e), some .string => match P.underlying e with
      | some (.int .u8) => some (.convBS ax)
      | _ => none
    | some .string, some (.slice e) => match P.underlying e with
      | some (.int .u8) => some (.convSB ax)
      | _ => none
    | some (.slice e), some (.slice _) => if s = d then u8only P e (.convBB ax) else none
    | _, _ => none
  | .makeFunc fn a b => obind (AX.ofs a.toList) fun la => obind (AX.ofs b.toList) fun lb => some (.mkFunc fn la lb)
  | .makeMap _ none => some .mkMap
  | .makeInterface t x => obind (AX.of x) fun ax => if P.concrete t then some (.mkIface t ax) else none
  | .makeSlice t l c => obind (AX.of l) fun al => obind (AX.of c) fun ac =>
    match P.underlying t with
    | some (.slice e) => obind (P.info? e) fun i => obind i.zero fun z => obind (V.ofPlains z.cells.toList) fun zs => if z.cells.size = i.size then some (.mkSlice i.size i.bytes zs al ac) else none
    | _ => none
  | .fieldAddr s x n => obind (AX.of x) fun ax =>
    match P.underlying s with
    | some (.struct fields) => obind (fields[n]?) fun f => obind (P.info? f.type) fun i => if i.size ≠ 0 then some (.fieldAddr f.offset ax) else none
    | _ => none
  | .indexAddr t x ix => obind (AX.of x) fun ax => obind (AX.of ix) fun ai =>
    match P.underlying t with
    | some (.slice e) => obind (P.info? e) fun i => some (.idxAddr i.size ax ai)
    | some (.array sz e) => obind (P.info? e) fun i => some (.idxAddrArr sz i.size ax ai)
    | _ => none
  | .field s x j => obind (AX.of x) fun ax =>
    match P.underlying s with
    | some (.struct fields) => obind (fields[j]?) fun f => obind (partInfo P f.type) fun n => some (.field n f.offset ax)
    | _ => none
  | .index t x ix => obind (AX.of x) fun ax => obind (AX.of ix) fun ai =>
    match P.underlying t with
    | some .string => some (.idxStr ax ai)
    | some (.array sz e) => obind (P.info? e) fun i => obind (partInfo P e) fun pn => some (.idxArr sz i.size pn ax ai)
    | _ => none
  | .extract x n => obind (AX.of x) fun ax => some (.extract n ax)
  | .slice t x lo hi mx => obind (AX.of x) fun ax => obind (AX.ofo lo) fun alo => obind (AX.ofo hi) fun ahi => obind (AX.ofo mx) fun amx =>
    match P.underlying t with
    | some .string => match mx with
      | none => some (.sliceStr ax alo ahi)
      | some _ => none
    | some (.slice e) => obind (P.info? e) fun i => some (.sliceSl i.size ax alo ahi amx)
    | some (.array n e) => obind (P.info? e) fun i => some (.sliceArr n i.size ax alo ahi amx)
    | _ => none
  | .lookup t x ix ok => obind (AX.of x) fun ax => obind (AX.of ix) fun ai =>
    match P.underlying t with
    | some (.map kt e) => obind (P.underlying kt) fun d => obind (P.info? e) fun i => obind i.zero fun z => obind (V.ofConst z) fun zv => some (.lookup (keyKind d) zv ok ax ai)
    | _ => none
  | .mapUpdate t x k y | .insert t x k y => obind (AX.of x) fun ax => obind (AX.of k) fun ak => obind (AX.of y) fun ay =>
    match P.underlying t with
    | some (.map kt _) => obind (P.underlying kt) fun d => some (.mapUpd (keyKind d) ax ak ay)
    | _ => none
  | .call ⟨.builtin b, args, ts⟩ => AO.ofBuiltin P b args.toList ts.toList
  | .call ⟨.value (.func f), args, _⟩ => obind (AX.ofs args.toList) fun axs => if canEnter P f then some (.callF f axs) else obind (extK P f) fun k => some (.ext k axs)
  | .call ⟨.invoke x name, args, _⟩ => obind (AX.of x) fun ax => obind (AX.ofs args.toList) fun axs => some (.invoke name ax axs)
  | .typeAssert x _ t cok => obind (AX.of x) fun ax => obind (P.underlying t) fun d => if isIfaceD d then none else obind (P.info? t) fun i => obind i.zero fun z => obind (V.ofConst z) fun zv => some (.assert t cok zv ax)
  | .call ⟨.value x, args, _⟩ => obind (AX.of x) fun ax => obind (AX.ofs args.toList) fun axs => some (.callV ax axs)
  | _ => none

theorem array_one {α : Type} {xs : Array α} {x : α} (h : xs.toList = [x]) : xs = #[x] := by
  apply Array.ext'; simpa using h
theorem array_two {α : Type} {xs : Array α} {x y : α} (h : xs.toList = [x, y]) : xs = #[x, y] := by
  apply Array.ext'; simpa using h

theorem AO.ofBuiltin_ok {P : Program} {ok : Env} {o : Oper} {b : Builtin} {args : Array Operand} {ts : Array TypeId} {ao : AO} (ho : o.op = .call ⟨.builtin b, args, ts⟩) (h : AO.ofBuiltin P b args.toList ts.toList = some ao) : OpOk P o (ao.run ok) := by
  unfold AO.ofBuiltin at h
  split at h
  · rename_i x t hxs hts
    have e1 := array_one hxs; have e2 := array_one hts
    subst e1; subst e2
    obtain ⟨ax, h1, h⟩ := obind_some h
    obtain ⟨d, h2, h⟩ := obind_some h
    cases h
    exact ok_len ho h1 h2
  · rename_i x t hxs hts
    have e1 := array_one hxs; have e2 := array_one hts
    subst e1; subst e2
    obtain ⟨ax, h1, h⟩ := obind_some h
    split at h
    · rename_i e ht
      cases h
      exact ok_cap ho h1 ht
    · cases h
  · obtain ⟨axs, h1, h⟩ := obind_some h
    cases h
    exact ok_min ho h1
  · obtain ⟨axs, h1, h⟩ := obind_some h
    cases h
    exact ok_max ho h1
  · rename_i x y s u hxs hts
    have e1 := array_two hxs; have e2 := array_two hts
    subst e1; subst e2
    obtain ⟨ax, h1, h⟩ := obind_some h
    obtain ⟨ay, h2, h⟩ := obind_some h
    split at h
    · rename_i e du hs hu
      split at h
      · rename_i hsl
        split at h
        · rename_i i hi
          split at h
          · rename_i z hz
            split at h
            · rename_i hzs
              cases h
              refine ok_app ho h1 h2 hs ?_ hi hz hzs
              cases du <;> simp [isSl] at hsl
              · exact .inr hu
              · exact .inl ⟨_, hu⟩
            · cases h
          · cases h
        · cases h
      · cases h
    · cases h
  · rename_i x y s u hxs hts
    have e1 := array_two hxs; have e2 := array_two hts
    subst e1; subst e2
    obtain ⟨ax, h1, h⟩ := obind_some h
    obtain ⟨ay, h2, h⟩ := obind_some h
    split at h
    · rename_i e hs
      obtain ⟨i, hi, h⟩ := obind_some h
      cases h
      exact ok_copy ho h1 h2 hs hi
    · cases h
  · rename_i x y s u hxs hts
    have e1 := array_two hxs; have e2 := array_two hts
    subst e1; subst e2
    obtain ⟨ax, h1, h⟩ := obind_some h
    obtain ⟨ay, h2, h⟩ := obind_some h
    split at h
    · rename_i kt e hs
      obtain ⟨d, hd, h⟩ := obind_some h
      cases h
      exact ok_delete ho h1 h2 hs hd
    · cases h
  · cases h

theorem binOf_ok {P : Program} {ok : Env} {o : Oper} {op : BinOp} {t yt : TypeId} {x y : Operand} {ax ay : AX} (ho : o.op = .binOp op t x y yt) (hx : AX.of x = some ax) (hy : AX.of y = some ay) : OpOk P o ((binOf P op t x y ax ay).run ok) := by
  unfold binOf
  split
  · rename_i neg hn
    split
    · rename_i p hp
      refine ok_eq ho ?_ hx hy hp
      cases op <;> simp only [eqNeg, reduceCtorEq, Option.some.injEq] at hn <;> subst hn <;> simp
    · exact ok_bin ho hx hy
  · exact ok_bin ho hx hy

theorem AO.of_ok {P : Program} {ok : Env} (hok : EnvOk P ok) {o : Oper} {ao : AO} (h : AO.of P o.op = some ao) : OpOk P o (ao.run ok) := by
  generalize ho : o.op = op at h
  unfold AO.of at h
  split at h
  · obtain ⟨ax, h1, h⟩ := obind_some h; cases h; exact ok_move (.inl ho) h1
  · obtain ⟨ax, h1, h⟩ := obind_some h; cases h; exact ok_move (.inr ho) h1
  · obtain ⟨ac, h1, h⟩ := obind_some h; obtain ⟨ax, h2, h⟩ := obind_some h; obtain ⟨ay, h3, h⟩ := obind_some h; cases h; exact ok_pick ho h1 h2 h3
  · obtain ⟨i, h1, h⟩ := obind_some h; obtain ⟨z, h2, h⟩ := obind_some h; obtain ⟨zs, h3, h⟩ := obind_some h; cases h; exact ok_alloc ho h1 h2 h3
  · obtain ⟨ax, h1, h⟩ := obind_some h; cases h; exact ok_box ho h1
  · obtain ⟨p, h1, h⟩ := obind_some h; obtain ⟨l, h2, h⟩ := obind_some h; cases h
    obtain ⟨zs, place⟩ := p
    exact ok_build ho h1 h2
  · split at h
    · rename_i e ht
      obtain ⟨i, h1, h⟩ := obind_some h; obtain ⟨z, h2, h⟩ := obind_some h; obtain ⟨zs, h3, h⟩ := obind_some h
      split at h
      · rename_i hc
        obtain ⟨l, h4, h⟩ := obind_some h; cases h
        exact ok_buildSlice ho ht h1 h2 h3 hc.1 hc.2 h4
      · cases h
    · cases h
  · obtain ⟨ax, h1, h⟩ := obind_some h; obtain ⟨d, h2, h⟩ := obind_some h
    split at h
    · rename_i ha
      obtain ⟨i, h3, h⟩ := obind_some h; cases h; exact ok_loadN ho h1 h2 ha h3
    · rename_i ha
      cases h; exact ok_load1 ho h1 h2 (by simpa using ha)
  · obtain ⟨ax, h1, h⟩ := obind_some h; obtain ⟨ay, h2, h⟩ := obind_some h; obtain ⟨i, h3, h⟩ := obind_some h; cases h; exact ok_store ho h1 h2 h3
  · obtain ⟨ax, h1, h⟩ := obind_some h; cases h; exact ok_nilCheck ho h1
  · obtain ⟨ax, h1, h⟩ := obind_some h; obtain ⟨ay, h2, h⟩ := obind_some h; cases h; exact binOf_ok ho h1 h2
  · obtain ⟨ax, h1, h⟩ := obind_some h; cases h; exact ok_un ho h1
  · obtain ⟨ax, h1, h⟩ := obind_some h
    split at h
    · rename_i hs hd; cases h; exact ok_convInt ho h1 hs hd
    · rename_i hs hd; cases h; exact ok_convStr ho h1 hs hd
    · rename_i e hs hd
      split at h
      · rename_i he; cases h; exact ok_convBS ho h1 hs he hd
      · cases h
    · rename_i e hs hd
      split at h
      · rename_i he; cases h; exact ok_convSB ho h1 hs hd he
      · cases h
    · rename_i e _ hs hd
      split at h
      · rename_i hsd
        obtain ⟨he, hao⟩ := u8only_some h
        subst hao; subst hsd
        exact ok_convBB ho h1 hs he
      · cases h
    · cases h
  · obtain ⟨la, h1, h⟩ := obind_some h; obtain ⟨lb, h2, h⟩ := obind_some h; cases h; exact ok_mkFunc ho h1 h2
  · cases h; exact ok_mkMap ho
  · obtain ⟨ax, h1, h⟩ := obind_some h
    split at h
    · rename_i ht; cases h; exact ok_mkIface ho h1 ht
    · cases h
  · obtain ⟨al, h1, h⟩ := obind_some h; obtain ⟨ac, h2, h⟩ := obind_some h
    split at h
    · rename_i e ht
      obtain ⟨i, h3, h⟩ := obind_some h; obtain ⟨z, h4, h⟩ := obind_some h; obtain ⟨zs, h5, h⟩ := obind_some h
      split at h
      · rename_i hz; cases h; exact ok_mkSlice ho h1 h2 ht h3 h4 h5 hz
      · cases h
    · cases h
  · obtain ⟨ax, h1, h⟩ := obind_some h
    split at h
    · rename_i fields hs
      obtain ⟨f, h2, h⟩ := obind_some h; obtain ⟨i, h3, h⟩ := obind_some h
      split at h
      · rename_i hne; cases h; exact ok_fieldAddr ho h1 hs h2 h3 hne
      · cases h
    · cases h
  · obtain ⟨ax, h1, h⟩ := obind_some h; obtain ⟨ai, h2, h⟩ := obind_some h
    split at h
    · rename_i e ht; obtain ⟨i, h3, h⟩ := obind_some h; cases h; exact ok_idxAddr ho h1 h2 ht h3
    · rename_i len e ht; obtain ⟨i, h3, h⟩ := obind_some h; cases h; exact ok_idxAddrArr ho h1 h2 ht h3
    · cases h
  · obtain ⟨ax, h1, h⟩ := obind_some h
    split at h
    · rename_i fields hs
      obtain ⟨f, h2, h⟩ := obind_some h; obtain ⟨n, h3, h⟩ := obind_some h; cases h; exact ok_field ho h1 hs h2 h3
    · cases h
  · obtain ⟨ax, h1, h⟩ := obind_some h; obtain ⟨ai, h2, h⟩ := obind_some h
    split at h
    · rename_i ht; cases h; exact ok_idxStr ho h1 h2 ht
    · rename_i len e ht; obtain ⟨i, h3, h⟩ := obind_some h; obtain ⟨pn, h4, h⟩ := obind_some h; cases h; exact ok_idxArr ho h1 h2 ht h3 h4
    · cases h
  · obtain ⟨ax, h1, h⟩ := obind_some h; cases h; exact ok_extract ho h1
  · obtain ⟨ax, h1, h⟩ := obind_some h; obtain ⟨alo, h2, h⟩ := obind_some h; obtain ⟨ahi, h3, h⟩ := obind_some h; obtain ⟨amx, h4, h⟩ := obind_some h
    split at h
    · rename_i ht
      split at h
      · cases h; exact ok_sliceStr ho h1 h2 h3 ht
      · cases h
    · rename_i e ht; obtain ⟨i, h5, h⟩ := obind_some h; cases h; exact ok_sliceSl ho h1 h2 h3 h4 ht h5
    · rename_i n e ht; obtain ⟨i, h5, h⟩ := obind_some h; cases h; exact ok_sliceArr ho h1 h2 h3 h4 ht h5
    · cases h
  · obtain ⟨ax, h1, h⟩ := obind_some h; obtain ⟨ai, h2, h⟩ := obind_some h
    split at h
    · rename_i kt e ht
      obtain ⟨d, h3, h⟩ := obind_some h; obtain ⟨i, h4, h⟩ := obind_some h; obtain ⟨z, h5, h⟩ := obind_some h; obtain ⟨zv, h6, h⟩ := obind_some h; cases h
      exact ok_lookup ho h1 h2 ht h3 h4 h5 h6
    · cases h
  · obtain ⟨ax, h1, h⟩ := obind_some h; obtain ⟨ak, h2, h⟩ := obind_some h; obtain ⟨ay, h3, h⟩ := obind_some h
    split at h
    · rename_i kt e ht; obtain ⟨d, h4, h⟩ := obind_some h; cases h; exact ok_mapUpd (.inl ho) h1 h2 h3 ht h4
    · cases h
  · obtain ⟨ax, h1, h⟩ := obind_some h; obtain ⟨ak, h2, h⟩ := obind_some h; obtain ⟨ay, h3, h⟩ := obind_some h
    split at h
    · rename_i kt e ht; obtain ⟨d, h4, h⟩ := obind_some h; cases h; exact ok_mapUpd (.inr ho) h1 h2 h3 ht h4
    · cases h
  · exact AO.ofBuiltin_ok ho h
  · obtain ⟨axs, h1, h⟩ := obind_some h
    split at h
    · rename_i hc; cases h; exact ok_callF ho h1 hc
    · obtain ⟨k, h2, h⟩ := obind_some h; cases h; exact ok_ext ho h1 h2
  · obtain ⟨ax, h1, h⟩ := obind_some h; obtain ⟨axs, h2, h⟩ := obind_some h; cases h
    exact ok_invoke ho h1 h2 hok
  · obtain ⟨ax, h1, h⟩ := obind_some h; obtain ⟨d, h2, h⟩ := obind_some h
    split at h
    · cases h
    · rename_i hd
      obtain ⟨i, h3, h⟩ := obind_some h; obtain ⟨z, h4, h⟩ := obind_some h; obtain ⟨zv, h5, h⟩ := obind_some h; cases h
      exact ok_assert ho h1 h2 (by simpa using hd) h3 h4 h5
  · obtain ⟨ax, h1, h⟩ := obind_some h; obtain ⟨axs, h2, h⟩ := obind_some h; cases h
    exact ok_callV ho h1 h2 hok
  · cases h

end Go.Th
end
