/- What the row of one statement stands on: a store, abstract code, functions of the program and their laws (ThD4). -/
import Derived.Test.YtconjbbmdjaehaaGreatDoorThBD3
import Derived.Laws.Externs
import Derived.KernelRfl

section
/- Room of a slice; what an interface holds; methods. -/
set_option linter.unusedSimpArgs false
set_option linter.unusedVariables false
namespace Go.Th
open Go.RowKit

def capV (v : V) : Option V :=
  match v with
  | .slice _ _ _ c _ true => some (.int .i64 c)
  | .nilSlice => some (.int .i64 0)
  | _ => none
def rCap (x : AX) : List V → St → AR := fun fr S =>
  match capV (x.ev fr) with
  | some v => .val v S
  | none => .stuck

theorem ok_cap {P : Program} {o : Oper} {x : Operand} {ax : AX} {t e : TypeId} (ho : o.op = .call ⟨.builtin .cap, #[x], #[t]⟩) (hx : AX.of x = some ax) (ht : P.underlying t = some (.slice e)) : OpOk P o (rCap ax) :=
  OpOk.pure fun m S base w0 w fr a hS hf => by
    have rx := AX.of_rel hx hf
    unfold rCap capV
    split
    · rename_i v hv
      split at hv
      · rename_i i o' l c k hev
        cases hv
        rw [hev] at rx
        obtain ⟨L, q, c', h1, h2, h3⟩ := rx.slice_inv
        have hc := h3.tight rfl
        refine .inr ⟨_, .int .i64 c, rfl, ?_, VR.int_mk _ _ _⟩
        simp [execOp, ho, resolve, invoke, builtin, Builtin.cap_, run_underlying ht, h2, hc, goInt]
      · rename_i hev
        cases hv
        rw [hev] at rx
        refine .inr ⟨_, .int .i64 0, rfl, ?_, VR.int_mk _ _ _⟩
        simp [execOp, ho, resolve, invoke, builtin, Builtin.cap_, run_underlying ht, rx.nilSlice_inv, goInt]
      · cases hv
    · exact .inl rfl

def isIfaceD : TypeDesc → Bool
  | .interface _ => true
  | _ => false

def assertV (t : TypeId) (cok : Bool) (zero : V) (v : V) : Option V :=
  match v with
  | .iface t' u => if t' = t then some (if cok then .tuple [u, .bool true] else u) else if cok then some (.tuple [zero, .bool false]) else none
  | .nilIface => if cok then some (.tuple [zero, .bool false]) else none
  | _ => none
def rAssert (t : TypeId) (cok : Bool) (zero : V) (x : AX) : List V → St → AR := fun fr S =>
  match assertV t cok zero (x.ev fr) with
  | some v => .val v S
  | none => .stuck

theorem ok_assert {P : Program} {o : Oper} {x : Operand} {ax : AX} {xt t : TypeId} {cok : Bool} {d : TypeDesc} {i : TypeInfo} {z : Value} {zv : V} (ho : o.op = .typeAssert x xt t cok) (hx : AX.of x = some ax) (ht : P.underlying t = some d) (hd : isIfaceD d = false)
    (hi : P.info? t = some i) (hz : i.zero = some z) (hzv : V.ofConst z = some zv) : OpOk P o (rAssert t cok zv ax) :=
  OpOk.pure fun m S base w0 w fr a hS hf => by
    have rx := AX.of_rel hx hf
    have rz : VR m zv z := V.ofConst_rel hzv
    have h2 : VR m (.tuple [zv, .bool false]) (.tuple #[z, .bool false]) := by
      simp only [VR]; exact ⟨_, rfl, by simp only [VRs]; exact ⟨_, _, rfl, rz, _, _, rfl, VR.bool_mk _ _, rfl⟩⟩
    unfold rAssert assertV
    split
    · rename_i v hv
      split at hv
      · rename_i t' u hev
        rw [hev] at rx
        obtain ⟨u', hu, ru⟩ := rx.iface_inv
        split at hv
        · rename_i htt
          subst htt
          cases hv
          cases cok with
          | true =>
            refine .inr ⟨_, .tuple #[u', .bool true], rfl, ?_, by simp only [VR]; exact ⟨_, rfl, by simp only [VRs]; exact ⟨_, _, rfl, ru, _, _, rfl, VR.bool_mk _ _, rfl⟩⟩⟩
            cases d <;> simp [isIfaceD] at hd <;> simp [execOp, ho, hu, Instr.typeAssert, run_underlying ht]
          | false =>
            refine .inr ⟨_, u', rfl, ?_, ru⟩
            cases d <;> simp [isIfaceD] at hd <;> simp [execOp, ho, hu, Instr.typeAssert, run_underlying ht]
        · rename_i htt
          split at hv
          · rename_i hc
            cases hv; subst hc
            refine .inr ⟨_, _, rfl, ?_, h2⟩
            cases d <;> simp [isIfaceD] at hd <;> simp [execOp, ho, hu, Instr.typeAssert, run_underlying ht, htt, zeroValue, typeInfo, hi, hz]
          · cases hv
      · rename_i hev
        rw [hev] at rx
        have hu : a.eval x = .nilIface := by simpa only [VR] using rx
        split at hv
        · rename_i hc
          cases hv; subst hc
          refine .inr ⟨_, _, rfl, ?_, h2⟩
          cases d <;> simp [isIfaceD] at hd <;> simp [execOp, ho, hu, Instr.typeAssert, run_underlying ht, zeroValue, typeInfo, hi, hz]
        · cases hv
      · cases hv
    · exact .inl rfl

def recvV (S : St) (mode : Nat) (v : V) : Option V :=
  match mode with
  | 0 => some v
  | 1 => match v with
    | .ptr i o => S.load1 i o
    | _ => none
  | n + 2 => match v with
    | .ptr i o => (S.loads i o n).map .agg
    | _ => none
def invokeV (ok : Env) (S : St) (name : String) (v : V) (args : List V) : Option (FuncId × List V) :=
  match v with
  | .iface t u => match ok.meth name t with
    | some p => match recvV S p.2 u with
      | some r => some (p.1, r :: args)
      | none => none
    | none => none
  | _ => none
def rInvoke (ok : Env) (name : String) (x : AX) (args : List AX) : List V → St → AR := fun fr S =>
  match invokeV ok S name (x.ev fr) (args.map (·.ev fr)) with
  | some p => .call p.1 p.2
  | none => .stuck

theorem run_nilChk {P : Program} {w : World} (xt : TypeId) (a : Addr) (nm : String) : (Builtin.ssaWrapNilChk_ #[xt] xt #[.pointer (some a), strVal "", strVal nm]).run P w = .ok (.pointer (some a)) w := rfl

theorem run_method {P : Program} {m : LM} {S : St} {base : Nat} {w0 w : World} (hS : Sim m S base w0 w) {name : String} {t : TypeId} {f : FuncId} {mode : Nat} (h : methEntry P name t = some (f, mode)) {u r : V} (hr : recvV S mode u = some r) {v : Value} (hv : VR m u v) (fuel : Nat) :
    ∃ r', (method (fuel + 1) t v name).run P w = .ok (f, r') w ∧ VR m r r' ∧ canEnter P f = true := by
  unfold methEntry at h
  split at h
  · cases h
  · rename_i i hi
    split at h
    · cases h
    · rename_i me hme
      split at h
      · rename_i f' ptr hpath hfunc
        have hpe : me.path = #[] := by apply Array.ext'; simpa using hpath
        split at h
        · rename_i hcan
          have start : ∀ (r' : Value), (receiverAt t (.val v) ptr (if me.path.isEmpty then some ((name.splitOn ".").getLastD name) else none)).run P w = .ok r' w → (method (fuel + 1) t v name).run P w = .ok (f', r') w := by
            intro r' hr'
            simp only [method, Sem.run_bind, typeInfo, run_program, Result.andThen_ok]
            simp only [hi, Sem.run_pure, Result.andThen_ok, hme, hpath, follow, hfunc, Sem.run_bind, hr']
          split at h
          · rename_i e hu
            cases h
            simp only [recvV, Option.some.injEq] at hr
            subst hr
            refine ⟨v, start v ?_, hv, hcan⟩
            simp [receiverAt, run_underlying hu, Place.get]
          · rename_i e hu
            split at h
            · rename_i d ie hd hie
              have hptr : ∃ j o L, u = .ptr j o ∧ m j = some L ∧ v = .pointer (some ⟨L.block, L.off + o, none⟩) := by
                split at h <;> cases h <;> simp only [recvV] at hr <;> split at hr <;> first | (cases hr; done) | skip
                all_goals (obtain ⟨L, h1, h2⟩ := hv.ptr_inv; exact ⟨_, _, L, rfl, h1, h2⟩)
              obtain ⟨j, o, L, rfl, hL, hvv⟩ := hptr
              split at h
              · rename_i ha
                cases h
                simp only [recvV] at hr
                cases hl : S.loads j o ie.size with
                | none => rw [hl] at hr; cases hr
                | some cs =>
                  rw [hl] at hr; cases hr
                  obtain ⟨us, g1, g2, _⟩ := hS.loads (P := P) hl hL
                  refine ⟨.agg us.toArray, start _ ?_, by simp only [VR]; exact ⟨_, rfl, g2⟩, hcan⟩
                  simp [receiverAt, run_underlying hu, Place.get, hpe, hvv, run_nilChk, asAddr, loadVar, run_isAgg hd, ha, sizeOf, typeInfo, hie, g1]
              · rename_i ha
                cases h
                simp only [recvV] at hr
                obtain ⟨u', g1, g2⟩ := hS.load1 hr hL
                refine ⟨u', start _ ?_, g2, hcan⟩
                have ha' : isAggD d = false := by simpa using ha
                simp [receiverAt, run_underlying hu, Place.get, hpe, hvv, run_nilChk, asAddr, loadVar, run_isAgg hd, ha', g1]
            · cases h
          · rename_i d hnp hu
            cases h
            simp only [recvV, Option.some.injEq] at hr
            subst hr
            refine ⟨v, start v ?_, hv, hcan⟩
            cases d <;> simp [receiverAt, run_underlying hu, Place.get] <;> exact (hnp _ rfl).elim
          · cases h
        · cases h
      · cases h

theorem ok_invoke {P : Program} {o : Oper} {ok : Env} {x : Operand} {ax : AX} {name : String} {args : Array Operand} {ts : Array TypeId} {axs : List AX} (ho : o.op = .call ⟨.invoke x name, args, ts⟩) (hx0 : AX.of x = some ax) (hx : AX.ofs args.toList = some axs) (hok : EnvOk P ok) :
    OpOk P o (rInvoke ok name ax axs) := by
  intro m S base w0 w fr a hS hfr
  have rx := AX.of_rel hx0 hfr
  unfold rInvoke
  cases hi : invokeV ok S name (ax.ev fr) (axs.map (·.ev fr)) with
  | none => trivial
  | some p =>
    unfold invokeV at hi
    split at hi
    · rename_i t u hev
      rw [hev] at rx
      obtain ⟨v, hv, ru⟩ := rx.iface_inv
      split at hi
      · rename_i q hq
        split at hi
        · rename_i r hr
          cases hi
          obtain ⟨r', g1, g2, g3⟩ := run_method (P := P) hS (hok.2.1 _ _ _ hq) hr ru (P.types.size + Made.depth - 1)
          have hd : P.types.size + Made.depth - 1 + 1 = P.types.size + Made.depth := by
            have : 0 < Made.depth := by decide
            omega
          rw [hd] at g1
          refine ⟨#[r'] ++ args.map a.eval, ?_, .inl ⟨canEnter_lt g3, ?_⟩⟩
          rotate_left
          · simp only [execOp, ho, resolve, Sem.run_bind, Sem.run_pure, Result.andThen_ok, invoke]
            have e1 : (#[a.eval x] ++ args.map a.eval)[0]? = some (a.eval x) := by
              rw [Array.getElem?_append_left (by exact Nat.one_pos)]; rfl
            have e2 : (Array.map a.eval args).extract 0 args.size = Array.map a.eval args := by
              have := Array.extract_size (xs := Array.map a.eval args)
              rwa [Array.size_map] at this
            rw [e1]
            simp [callMethod, hv, g1, run_callFunc g3, e2]
          · simp only [Array.toList_append, Array.toList_map]
            simp only [List.cons_append, List.nil_append, VRs]
            exact ⟨r', _, rfl, g2, AX.ofs_rel hfr hx⟩
        · cases hi
      · cases hi
    · cases hi

def sub64E : Array Value → Sem Value := (Extern.MathBitsCarry.rows.getD 1 ("", fun _ => pure (.int .u64 0))).2
theorem find_add64 {fn : Func} (h : fn.name = "math/bits.Add64") : Extern.find fn = some add64Entry := by
  cases fn; simp only at h; subst h; kernel_rfl
theorem find_sub64 {fn : Func} (h : fn.name = "math/bits.Sub64") : Extern.find fn = some sub64E := by
  cases fn; simp only at h; subst h; kernel_rfl

def extK (P : Program) (f : FuncId) : Option Nat :=
  match P.funcs[f]? with
  | some fn => if fn.body.isNone && !(fn.name == "runtime.NumGoroutine") && (Extern.findNext fn).isNone then
      if fn.name = "math/bits.Add64" then some 0 else if fn.name = "math/bits.Sub64" then some 1 else none
    else none
  | none => none

def extV (k : Nat) (vs : List V) : Option V :=
  match k with
  | 0 => match vs with
    | [.int .u64 x, .int .u64 y, .int .u64 c] => if 0 ≤ x ∧ 0 ≤ y ∧ 0 ≤ c ∧ c ≤ 1 then some (.tuple [.int .u64 ((x + y + c) % 18446744073709551616), .int .u64 ((x + y + c) / 18446744073709551616)]) else none
    | _ => none
  | 1 => match vs with
    | [.int .u64 x, .int .u64 y, .int .u64 c] => if 0 ≤ x ∧ 0 ≤ y ∧ y < 18446744073709551616 ∧ 0 ≤ c ∧ c ≤ 1 then some (.tuple [.int .u64 ((x - y - c) % 18446744073709551616), .int .u64 (if x < y + c then 1 else 0)]) else none
    | _ => none
  | _ => none
def rExt (k : Nat) (xs : List AX) : List V → St → AR := fun fr S =>
  match extV k (xs.map (·.ev fr)) with
  | some v => .val v S
  | none => .stuck

theorem VR.pair_mk {m : LM} {a b : Int} {k k' : IntKind} : VR m (.tuple [.int k a, .int k' b]) (.tuple #[.int k a, .int k' b]) := by
  simp only [VR]; exact ⟨_, rfl, by simp only [VRs]; exact ⟨_, _, rfl, VR.int_mk _ _ _, _, _, rfl, VR.int_mk _ _ _, rfl⟩⟩

theorem run_sub64' {P : Program} (x y c : Int) (hx : 0 ≤ x) (hy : 0 ≤ y) (hy2 : y < 18446744073709551616) (hc0 : 0 ≤ c) (hc : c ≤ 1) (w : World) :
    (sub64E #[.int .u64 x, .int .u64 y, .int .u64 c]).run P w = .ok (.tuple #[.int .u64 ((x - y - c) % 18446744073709551616), .int .u64 (if x < y + c then 1 else 0)]) w := by
  obtain ⟨k, rfl⟩ := Int.eq_ofNat_of_zero_le hc0
  obtain ⟨X, rfl⟩ := Int.eq_ofNat_of_zero_le hx
  obtain ⟨Y, rfl⟩ := Int.eq_ofNat_of_zero_le hy
  have key : (sub64E #[.int .u64 X, .int .u64 Y, .int .u64 k]).run P w =
      .ok (.tuple #[.int .u64 (((X + 18446744073709551616 - Y - k) % 18446744073709551616 : Nat) : Int), .int .u64 ((if X < Y + k then 1 else 0 : Nat) : Int)]) w := by
    have : k = 0 ∨ k = 1 := by omega
    rcases this with rfl | rfl <;> rfl
  rw [key]
  have e1 : (((X + 18446744073709551616 - Y - k) % 18446744073709551616 : Nat) : Int) = ((X : Int) - Y - k) % 18446744073709551616 := by omega
  have e2 : ((if X < Y + k then 1 else 0 : Nat) : Int) = if (X : Int) < Y + k then 1 else 0 := by split <;> split <;> first | rfl | omega
  rw [e1, e2]

theorem ok_ext {P : Program} {o : Oper} {f : FuncId} {args : Array Operand} {ts : Array TypeId} {axs : List AX} {k : Nat} (ho : o.op = .call ⟨.value (.func f), args, ts⟩) (hx : AX.ofs args.toList = some axs) (hf : extK P f = some k) : OpOk P o (rExt k axs) :=
  OpOk.pure fun m S base w0 w fr a hS hfr => by
    have rx := AX.ofs_rel hfr hx
    unfold rExt
    split
    · rename_i v hv
      unfold extK at hf
      split at hf
      · rename_i fn hfn
        split at hf
        · rename_i hc
          simp only [Bool.and_eq_true, Bool.not_eq_true'] at hc
          have hn : Extern.findNext fn = none := by cases hz : Extern.findNext fn <;> simp_all
          have hb : (args.map a.eval).toList = args.toList.map a.eval := Array.toList_map
          have key : ∀ (e : Array Value → Sem Value), Extern.find fn = some e → (callFunc f (args.map a.eval)).run P w = (((e (args.map a.eval)).run P w).andThen fun v w' => .ok (.value v) w') :=
            fun e he => run_callFunc_extern hfn hc.1.2 hc.1.1 hn he _ w
          have hex : ∀ (u : Value), (callFunc f (args.map a.eval)).run P w = .ok (.value u) w → (execOp a.eval o).run P w = .ok (.value u) w := by
            intro u hu
            simp [execOp, ho, resolve, Act.eval, Deferred.ofValue, invoke]
            exact hu
          split at hf
          · rename_i hname
            cases hf
            simp only [extV] at hv
            split at hv
            · rename_i x y c hl
              split at hv
              · rename_i hcc
                cases hv
                rw [hl] at rx
                simp only [VRs] at rx
                obtain ⟨u1, r1, e1, h1, u2, r2, e2, h2, u3, r3, e3, h3, e4⟩ := rx
                subst e4; subst e3; subst e2
                rw [h1.int_inv, h2.int_inv, h3.int_inv] at e1
                have ea : args.map a.eval = #[.int .u64 x, .int .u64 y, .int .u64 c] := by apply Array.ext'; rw [hb, e1]
                refine .inr ⟨_, _, rfl, hex _ ?_, VR.pair_mk⟩
                rw [key _ (find_add64 hname), ea, run_add64 x y c hcc.1 hcc.2.1 hcc.2.2.1 hcc.2.2.2 w]
                try rfl
              · cases hv
            · cases hv
          · split at hf
            · rename_i hname
              cases hf
              simp only [extV] at hv
              split at hv
              · rename_i x y c hl
                split at hv
                · rename_i hcc
                  cases hv
                  rw [hl] at rx
                  simp only [VRs] at rx
                  obtain ⟨u1, r1, e1, h1, u2, r2, e2, h2, u3, r3, e3, h3, e4⟩ := rx
                  subst e4; subst e3; subst e2
                  rw [h1.int_inv, h2.int_inv, h3.int_inv] at e1
                  have ea : args.map a.eval = #[.int .u64 x, .int .u64 y, .int .u64 c] := by apply Array.ext'; rw [hb, e1]
                  refine .inr ⟨_, _, rfl, hex _ ?_, VR.pair_mk⟩
                  rw [key _ (find_sub64 hname), ea, run_sub64' x y c hcc.1 hcc.2.1 hcc.2.2.1 hcc.2.2.2.1 hcc.2.2.2.2 w]
                  try rfl
                · cases hv
              · cases hv
            · cases hf
        · cases hf
      · cases hf
    · exact .inl rfl

end Go.Th
end
