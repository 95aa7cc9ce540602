/- What the row of one statement stands on: a store, abstract code, functions of the program and their laws (ThR7, ThR8, ThR9, ThR10, ThR11, ThFn, ThGinternal, ThGjson, ThGlaw20, ThGref20, ThGslicesVal, ThGstrconvHex, ThGstrings, ThGstringsLen). -/
import Derived.Test.YtconjbbmdjaehaaGreatDoorThBR6
import Derived.Test.YtconjbbmdjaehaaGreatDoorThBQ12
import Derived.RecoverIn

section
/- Deferred calls; recovering. -/
set_option linter.unusedSimpArgs false
set_option linter.unusedVariables false
namespace Go.Th
open Go.RowKit Go.Lib Go

def DefR (P : Program) (m : LM) (p : FuncId × List V) (d : Deferred) : Prop :=
  ∃ fv cap args', d.target = .fn fv cap ∧ (∀ w, (invoke d.target d.args).run P w = .ok (.enter p.1 args') w) ∧ VRs m p.2 args'.toList
def DsR (P : Program) (m : LM) : List (FuncId × List V) → List Deferred → Prop
  | [], ds => ds = []
  | p :: ps, ds => ∃ d ds', ds = d :: ds' ∧ DefR P m p d ∧ DsR P m ps ds'
theorem DefR.mono {P : Program} {m m' : LM} (hx : Ext m m') {p : FuncId × List V} {d : Deferred} (h : DefR P m p d) : DefR P m' p d := by
  obtain ⟨fv, cap, args', h1, h2, h3⟩ := h
  exact ⟨fv, cap, args', h1, h2, h3.mono hx⟩
theorem DsR.mono {P : Program} {m m' : LM} (hx : Ext m m') : ∀ {ps : List (FuncId × List V)} {ds : List Deferred}, DsR P m ps ds → DsR P m' ps ds
  | [], ds, h => h
  | p :: ps, ds, ⟨d, ds', h1, h2, h3⟩ => ⟨d, ds', h1, h2.mono hx, h3.mono hx⟩

abbrev PostX := List (FuncId × List V) → PostC
def LiftX (P : Program) (m : LM) (base : Nat) (w0 : World) (Q : PostX) : Exit → Act → World → Prop := fun e a w' =>
  ∃ ads e' fr' S' m', Q ads e' fr' S' ∧ Ext m m' ∧ Sim m' S' base w0 w' ∧ VRs m' fr' a.tmps.toList ∧ DsR P m' ads a.defers ∧ ExR m' e' e
def CodeX (P : Program) (c : Code) (Q : PostX) (ads : List (FuncId × List V)) (fr : List V) (S : St) : Prop :=
  ∀ (m : LM) (base : Nat) (w0 w : World) (a : Act), Sim m S base w0 w → VRs m fr a.tmps.toList → DsR P m ads a.defers → c.wpIn (FR none) 0 P (LiftX P m base w0 Q) a w

theorem CodeX.of {P : Program} {c : Code} {Q : PostX} {ads : List (FuncId × List V)} {fr : List V} {S : St} (h : CodeA P c (Q ads) fr S) : CodeX P c Q ads fr S := by
  intro m base w0 w a hS hf hd
  refine wpIn_mono (h.codeR a.defers m base w0 w a hS hf rfl) ?_
  rintro e a' w' ⟨e', fr', S', m', hq, hx, hS', hf', hd', hR⟩
  exact ⟨ads, e', fr', S', m', hq, hx, hS', hf', by rw [hd']; exact hd.mono hx, hR⟩

theorem CodeX.seq {P : Program} {x y : Code} {Q : PostX} {ads : List (FuncId × List V)} {fr : List V} {S : St}
    (h : CodeX P x (fun ads e fr S => match e with | .normal => CodeX P y Q ads fr S | e => Q ads e fr S) ads fr S) : CodeX P (.seq x y) Q ads fr S := by
  intro m base w0 w a hS hf hd
  refine wpIn_seq (wpIn_mono (h m base w0 w a hS hf hd) ?_)
  rintro e a' w' ⟨ads', e', fr', S', m', hq, hx, hS', hf', hd', hR⟩
  cases e' with
  | normal =>
    cases e <;> simp only [ExR] at hR
    refine wpIn_mono (hq m' base w0 w' a' hS' hf' hd') ?_
    rintro e a w ⟨ads2, e', fr', S', m', hq, hx', hS', hf', hd', hR⟩
    exact ⟨ads2, e', fr', S', m', hq, hx.trans hx', hS', hf', hd', hR⟩
  | exit j =>
    cases e <;> simp only [ExR] at hR
    exact ⟨ads', .exit j, fr', S', m', hq, hx, hS', hf', hd', hR⟩
  | ret =>
    cases e <;> simp only [ExR] at hR
    exact ⟨ads', .ret, fr', S', m', hq, hx, hS', hf', hd', trivial⟩
  | panic v =>
    cases e <;> simp only [ExR] at hR
    exact ⟨ads', .panic v, fr', S', m', hq, hx, hS', hf', hd', hR⟩

theorem uponIn_swap {F : Fence} {n : Nat} {P : Program} {o : Oper} {a : Act} {K : Act → World → Prop} {Q Q' : Exit → Act → World → Prop} (hp : ∀ ch a w, Q (.panic ch) a w → Q' (.panic ch) a w) (ho : LetsOut Q → LetsOut Q') {r : Result Next} (h : o.uponIn F n P a K Q r) : o.uponIn F n P a K Q' r := by
  cases r with
  | ok x w' =>
    cases x <;> simp only [Oper.uponIn] at h ⊢ <;>
      first
        | exact h
        | exact ⟨h.1, CallsIn.mono h.2 (fun e w'' he => by cases e <;> first | exact he | exact hp _ _ _ he | exact ho he)⟩
        | exact ⟨h.1, RoundIn.mono h.2 (fun e w'' he => by cases e <;> first | exact he | exact hp _ _ _ he | exact ho he)⟩
  | halt x w' => cases x <;> simp only [Oper.uponIn] at h ⊢ <;> first | exact hp _ _ _ h | exact h

theorem wpListIn_app {F : Fence} {n : Nat} {P : Program} {ops : Array Oper} {Q Q' : Exit → Act → World → Prop} {os' : List Oper} (hp : ∀ ch a w, Q' (.panic ch) a w → Q (.panic ch) a w) (ho : LetsOut Q' → LetsOut Q)
    (hn : ∀ a w, Q' .normal a w → wpListIn F n P ops Q os' a w) : ∀ (os : List Oper) (a : Act) (w : World), wpListIn F n P ops Q' os a w → wpListIn F n P ops Q (os ++ os') a w
  | [], a, w, h => hn a w h
  | o :: os, a, w, h => by
    simp only [List.cons_append, wpListIn] at h ⊢
    split at h
    · rename_i hw
      rw [if_pos hw]
      have h2 := Oper.wpIn_mono (fun a w hh => wpListIn_app hp ho hn os a w hh) h
      exact ⟨h2.1, uponIn_swap hp ho h2.2⟩
    · rename_i hw
      rw [if_neg hw]
      exact ⟨h.1, wpListIn_app hp ho hn os _ _ h.2⟩

def calleeD (ok : Env) (x : V) (args : List V) : Option (FuncId × List V) := match x with
  | .func (.func f) fs cs => if ok.can f then some (f, fs ++ args ++ cs) else none
  | _ => none
theorem callee_invoke {P : Program} {ok : Env} (hok : EnvOk P ok) {m : LM} {v : V} {vs : List V} {p : FuncId × List V} {u : Value} {us : Array Value} (h : calleeD ok v vs = some p) (hv : VR m v u) (hvs : VRs m vs us.toList) :
    ∃ d, (∀ w, (Deferred.ofValue u us).run P w = .ok d w) ∧ DefR P m p d := by
  unfold calleeD at h
  split at h
  · rename_i f fs cs
    split at h
    · rename_i hc
      cases h
      obtain ⟨fs', cs', hu, h1, h2⟩ := hv.func_inv
      subst hu
      refine ⟨{ target := .fn (.func f) cs', args := fs' ++ us }, fun w => by simp [Deferred.ofValue], .func f, cs', fs' ++ us ++ cs', rfl, fun w => ?_, ?_⟩
      · simp [invoke, run_callFunc (hok.1 f hc)]
      · rw [Array.toList_append, Array.toList_append]
        exact (h1.append hvs).append h2
    · cases h
  · cases h

theorem CodeX.defer {P : Program} {ok : Env} (hok : EnvOk P ok) {id : Nat} {ops : Array Oper} {os : List Oper} {o : Oper} {x : Operand} {args : Array Operand} {ts : Array TypeId} (hops : ops.toList = os ++ [o]) (ho : o.op = .defer ⟨.value x, args, ts⟩) (hg : o.guard = none) (hd0 : o.dst = none)
    {ax : AX} {axs : List AX} (hx : AX.of x = some ax) (hxs : AX.ofs args.toList = some axs) {l : List AI} (hl : AI.ofs P ops os = some l) {Q : PostX} {ads : List (FuncId × List V)} {fr : List V} {S : St}
    (h : runIs ok (CallA P) (fun e fr S => match e with | .normal => (match calleeD ok (ax.ev fr) (axs.map (·.ev fr)) with | some p => Q (p :: ads) .normal fr S | none => False) | e => Q ads e fr S) l fr S) : CodeX P (.region id ops false) Q ads fr S := by
  intro m base w0 w a hS hf hd
  refine wpIn_region_list ?_
  rw [hops]
  refine wpListIn_app ?_ ?_ ?_ os a w (runIs_okR hok _ m base w0 os l hl m S w fr a (Ext.refl m) hS hf rfl h)
  · rintro ch a' w' ⟨e', fr', S', m', hq, hx', hS', hf', hd', hR⟩
    cases e' <;> simp only [ExR] at hR
    exact ⟨ads, .panic _, fr', S', m', hq, hx', hS', hf', by rw [hd']; exact hd.mono hx', hR⟩
  · rintro ⟨a', w', e', fr', S', m', hq, hx', hS', hf', hd', hR⟩
    cases e' <;> simp only [ExR] at hR
  · rintro a' w' ⟨e', fr', S', m', hq, hx', hS', hf', hd', hR⟩
    cases e' <;> simp only [ExR] at hR
    simp only at hq
    split at hq
    · rename_i p hp
      obtain ⟨d, h1, h2⟩ := callee_invoke (us := args.map a'.eval) hok hp (AX.of_rel hx hf') (by rw [Array.toList_map]; exact AX.ofs_rel hf' hxs)
      refine wpListIn_plain hg fun K hK => ⟨fun _ _ => trivial, ?_⟩
      have hsem : (o.semAt (FR none).round a'.eval).run P w' = .ok (.defer d) w' := by
        show (execOp a'.eval o).run P w' = _
        simp [execOp, ho, resolve, h1 w', Result.andThen]
      rw [hsem, Oper.uponIn_defer]
      refine hK _ _ (wpListIn_nil ⟨p :: ads, .normal, fr', S', m', hq, hx', hS', ?_, ?_, trivial⟩)
      · rw [hd0]; exact hf'
      · rw [hd0]; exact ⟨d, a'.defers, rfl, h2, by rw [hd']; exact hd.mono hx'⟩
    · exact hq.elim

end Go.Th
end

section
/- Functions that defer calls: how they leave; read without frames. -/
set_option linter.unusedSimpArgs false
set_option linter.unusedVariables false
namespace Go.Th
open Go.RowKit Go.Lib Go

def recd : FrameMode → FrameMode
  | .panicking ({ v, recovered := false, goexit := false } :: older) => .panicking ({ v, recovered := true } :: older)
  | m => m
def ModeR (m : LM) : Option V → FrameMode → Prop
  | none, u => u = .returning
  | some v, u => ∃ x, u = .panicking [{ v := x, recovered := false }] ∧ VR m v x
def CallD (P : Program) (f : FuncId) (args : List V) (pv : Option V) (S : St) (Q : Bool → St → Prop) : Prop :=
  ∀ (m : LM) (base : Nat) (w0 w : World) (args' : Array Value) (u : FrameMode), Sim m S base w0 w → VRs m args args'.toList → ModeR m pv u →
    CallsD P f args' u w fun e u' w' => ∃ b S' m', Q b S' ∧ Ext m m' ∧ Sim m' S' base w0 w' ∧ (∃ v, e = .returned v) ∧ u' = (if b then recd u else u)

def leaveX (P : Program) : List (FuncId × List V) → Option V → St → (Option V → St → Prop) → Prop
  | [], pv, S, K => K pv S
  | p :: ps, none, S, K => CallD P p.1 p.2 none S fun _ S' => leaveX P ps none S' K
  | p :: ps, some v, S, K => CallD P p.1 p.2 (some v) S fun b S' => ifC b (leaveX P ps none S' K) (leaveX P ps (some v) S' K)

theorem leaveX_ok {P : Program} {fn : Func} {tmps : Array Value} {R : Ending → World → Prop} {m : LM} {base : Nat} {w0 : World} {K : Option V → St → Prop}
    (h0 : ∀ m' S w, Ext m m' → K none S → Sim m' S base w0 w → ∃ v, (results fn tmps).run P w = .ok v w ∧ R (.returned v) w)
    (h1 : ∀ m' v S w x, Ext m m' → K (some v) S → Sim m' S base w0 w → VR m' v x → R (.panicked [{ v := x, recovered := false }]) w) :
    ∀ (ads : List (FuncId × List V)) (ds : List Deferred) (pv : Option V) (S : St) (w : World) (u : FrameMode) (m' : LM), Ext m m' → leaveX P ads pv S K → DsR P m' ads ds → Sim m' S base w0 w → ModeR m' pv u → Leaves P fn tmps R ds u w
  | [], ds, none, S, w, u, m', hx, h, hd, hS, hu => by
    simp only [DsR] at hd; subst hd
    simp only [ModeR] at hu; subst hu
    exact h0 m' S w hx h hS
  | [], ds, some v, S, w, u, m', hx, h, hd, hS, hu => by
    simp only [DsR] at hd; subst hd
    obtain ⟨x, rfl, hv⟩ := hu
    exact h1 m' v S w x hx h hS hv
  | p :: ps, ds, none, S, w, u, m', hx, h, hd, hS, hu => by
    obtain ⟨d, ds', rfl, ⟨fv, cap, args', g1, g2, g3⟩, hd'⟩ := hd
    simp only [ModeR] at hu; subst hu
    refine ⟨by simp, fv, cap, p.1, args', g1, g2 w, (h m' base w0 w args' .returning hS g3 rfl).mono ?_⟩
    rintro e u' w' ⟨b, S', m2, hq, hx2, hS2, ⟨v, rfl⟩, rfl⟩
    have e1 : (if b then recd FrameMode.returning else FrameMode.returning) = .returning := by cases b <;> rfl
    simp only [e1]
    exact leaveX_ok h0 h1 ps ds' none S' w' _ m2 (hx.trans hx2) hq (hd'.mono hx2) hS2 rfl
  | p :: ps, ds, some v, S, w, u, m', hx, h, hd, hS, hu => by
    obtain ⟨d, ds', rfl, ⟨fv, cap, args', g1, g2, g3⟩, hd'⟩ := hd
    obtain ⟨x, rfl, hv⟩ := hu
    refine ⟨by simp, fv, cap, p.1, args', g1, g2 w, (h m' base w0 w args' _ hS g3 ⟨x, rfl, hv⟩).mono ?_⟩
    rintro e u' w' ⟨b, S', m2, hq, hx2, hS2, ⟨v', rfl⟩, rfl⟩
    have hq2 := ifC_ok hq
    cases b with
    | true => exact leaveX_ok h0 h1 ps ds' none S' w' _ m2 (hx.trans hx2) hq2 (hd'.mono hx2) hS2 rfl
    | false => exact leaveX_ok h0 h1 ps ds' (some v) S' w' _ m2 (hx.trans hx2) hq2 (hd'.mono hx2) hS2 ⟨x, rfl, hv.mono hx2⟩

def finX (rs : List ARes) (Q : Post) (fr : List V) : Option V → St → Prop
  | none, S => match ARes.gets fr S rs with | some vs => Q (.ret (tupled vs)) S | none => False
  | some v, S => Q (.panic v) S
def endX (P : Program) (rs : List ARes) (Q : Post) : PostX := fun ads e fr S => match e with
  | .normal | .ret => leaveX P ads none S (finX rs Q fr)
  | .panic v => leaveX P ads (some v) S (finX rs Q fr)
  | .exit _ => False

theorem CallA.of_bodyX {P : Program} {f : FuncId} {fn : Func} {c : Code} {rs : List ARes} (hfn : P.funcs[f]? = some fn) (hb : fn.body = some c) (hrs : ARes.ofs P fn.results.toList = some rs) {args : List V} {S : St} {Q : Post}
    (h : CodeX P c (endX P rs Q) [] (args ++ List.replicate (fn.ntmps - args.length) .undef) S) : CallA P f args S Q := by
  intro m base w0 w args' hS hv
  have hl := hv.length
  rw [Array.length_toList] at hl
  refine CallsX.of (Array.getElem?_eq_some_iff.1 hfn).1 (calls_of_wp_defers hfn hb ?_)
  have hfr : VRs m (args ++ List.replicate (fn.ntmps - args.length) .undef) (args' ++ Array.replicate (fn.ntmps - args'.size) Go.undef).toList := by
    rw [Array.toList_append, Array.toList_replicate, hl]
    exact hv.append (VRs.replicate (VR.undef m) _)
  have hw : c.wp P (LiftX P m base w0 (endX P rs Q)) ⟨args' ++ Array.replicate (fn.ntmps - args'.size) Go.undef, []⟩ w := (wpIn_wide (n := 0)).1 (h m base w0 w ⟨args' ++ Array.replicate (fn.ntmps - args'.size) Go.undef, []⟩ hS hfr rfl)
  refine wp_mono hw ?_
  rintro e a w' ⟨ads, e', fr', S', m', hq, hx, hS', hf', hd', hR⟩
  have k0 : ∀ m'' S w, Ext m' m'' → finX rs Q fr' none S → Sim m'' S base w0 w → ∃ v, (results fn a.tmps).run P w = .ok v w ∧ ∃ r S'' m3, Q r S'' ∧ Ext m m3 ∧ Sim m3 S'' base w0 w ∧ ResR m3 r (.returned v) := fun m'' S w hx2 hk hS2 => fin_ok hrs hS2 (hf'.mono hx2) (hx.trans hx2) hk
  have k1 : ∀ m'' v S w x, Ext m' m'' → finX rs Q fr' (some v) S → Sim m'' S base w0 w → VR m'' v x → ∃ r S'' m3, Q r S'' ∧ Ext m m3 ∧ Sim m3 S'' base w0 w ∧ ResR m3 r (.panicked [{ v := x, recovered := false }]) := fun m'' v S w x hx2 hk hS2 hv => ⟨.panic v, S, m'', hk, hx.trans hx2, hS2, x, rfl, hv⟩
  cases e' with
  | normal =>
    cases e <;> simp only [ExR] at hR
    exact leaveX_ok (m := m') k0 k1 ads a.defers none S' w' .returning m' (Ext.refl m') hq hd' hS' rfl
  | ret =>
    cases e <;> simp only [ExR] at hR
    exact leaveX_ok (m := m') k0 k1 ads a.defers none S' w' .returning m' (Ext.refl m') hq hd' hS' rfl
  | panic v =>
    cases e <;> simp only [ExR] at hR
    obtain ⟨x, rfl, hv⟩ := hR
    exact leaveX_ok (m := m') k0 k1 ads a.defers (some v) S' w' _ m' (Ext.refl m') hq hd' hS' ⟨x, rfl, hv⟩
  | exit j => exact hq.elim

end Go.Th
end

section
/- Functions that defer calls, read without frames; deferred functions that recover. -/
set_option linter.unusedSimpArgs false
set_option linter.unusedVariables false
namespace Go.Th
open Go.RowKit Go.Lib Go

inductive AD where
  | ac (a : AC)
  | seq (a b : AD)
  | defer (l : List AI) (x : AX) (xs : List AX)

def deferOf (P : Program) (ops : Array Oper) : Option AD :=
  match ops.toList.getLast? with
  | some o => match o.op, o.guard, o.dst with
    | .defer ⟨.value x, args, _⟩, none, none => obind (AX.of x) fun ax => obind (AX.ofs args.toList) fun axs => obind (AI.ofs P ops ops.toList.dropLast) fun l => some (.defer l ax axs)
    | _, _, _ => none
  | none => none
def AD.of (P : Program) : Code → Option AD
  | .seq a b => match AC.of P a with
    | some x => obind (AD.of P b) fun y => some (.seq (.ac x) y)
    | none => obind (AD.of P a) fun x => obind (AD.of P b) fun y => some (.seq x y)
  | .region id ops dr => match AC.of P (.region id ops dr) with
    | some x => some (.ac x)
    | none => if dr then none else deferOf P ops
  | c => obind (AC.of P c) fun x => some (.ac x)

structure ADF where
  nt : Nat
  results : List ARes
  body : AD
def ADF.of (P : Program) (fn : Func) : Option ADF :=
  match fn.body with
  | none => none
  | some c => obind (AD.of P c) fun ac => obind (ARes.ofs P fn.results.toList) fun rs => some ⟨fn.ntmps, rs, ac⟩
def adfun (P : Program) (f : FuncId) : Option ADF := obind (P.funcs[f]?) (ADF.of P)

def wpX (P : Program) (ok : Env) : AD → PostX → List (FuncId × List V) → List V → St → Prop
  | .ac a, Q, ads, fr, S => wpA ok (CallA P) (LoopA P) a (Q ads) fr S
  | .seq a b, Q, ads, fr, S => wpX P ok a (fun ads e fr S => match e with | .normal => wpX P ok b Q ads fr S | e => Q ads e fr S) ads fr S
  | .defer l x xs, Q, ads, fr, S => runIs ok (CallA P) (fun e fr S => match e with | .normal => (match calleeD ok (x.ev fr) (xs.map (·.ev fr)) with | some p => Q (p :: ads) .normal fr S | none => False) | e => Q ads e fr S) l fr S

theorem getLast_split {α : Type} {l : List α} {o : α} (h : l.getLast? = some o) : l = l.dropLast ++ [o] := by
  rw [List.getLast?_eq_some_iff] at h
  obtain ⟨ys, rfl⟩ := h
  simp

theorem wpX_ok {P : Program} {ok : Env} (hok : EnvOk P ok) : ∀ (c : Code) (ad : AD), AD.of P c = some ad → ∀ (Q : PostX) (ads : List (FuncId × List V)) (fr : List V) (S : St), wpX P ok ad Q ads fr S → CodeX P c Q ads fr S := by
  have plain : ∀ (c : Code) (ad : AD), (obind (AC.of P c) fun x => some (AD.ac x)) = some ad → ∀ (Q : PostX) (ads : List (FuncId × List V)) (fr : List V) (S : St), wpX P ok ad Q ads fr S → CodeX P c Q ads fr S := by
    intro c ad h Q ads fr S hw
    obtain ⟨x, hx, h⟩ := obind_some h
    cases h
    exact CodeX.of (wpA_ok hok c x hx _ fr S hw)
  intro c
  induction c with
  | seq a b iha ihb =>
    intro ad h Q ads fr S hw
    simp only [AD.of] at h
    split at h
    · rename_i x hx
      obtain ⟨y, hy, h⟩ := obind_some h
      cases h
      refine CodeX.seq (CodeX.of (wpA_ok hok a x hx _ fr S ?_))
      refine wpA_mono (fun f args S Q Q' hq h => h.mono hq) (fun ac Q Q' fr S hq h => h.mono hq) x _ _ ?_ fr S hw
      intro e fr' S' hq
      cases e with
      | normal => exact ihb y hy _ _ _ _ hq
      | exit j => exact hq
      | ret => exact hq
      | panic v => exact hq
    · obtain ⟨x, hx, h⟩ := obind_some h
      obtain ⟨y, hy, h⟩ := obind_some h
      cases h
      refine CodeX.seq (iha x hx _ _ _ _ ?_)
      have mono : ∀ (d : AD) (Q Q' : PostX), (∀ ads e fr S, Q ads e fr S → Q' ads e fr S) → ∀ ads fr S, wpX P ok d Q ads fr S → wpX P ok d Q' ads fr S := by
        intro d
        induction d with
        | ac t => intro Q Q' hq ads fr S h; exact wpA_mono (fun f args S Q Q' hq h => h.mono hq) (fun ac Q Q' fr S hq h => h.mono hq) t _ _ (fun e fr S => hq ads e fr S) fr S h
        | seq u v ihu ihv =>
          intro Q Q' hq ads fr S h
          refine ihu _ _ ?_ ads fr S h
          intro ads e fr S h
          cases e with
          | normal => exact ihv _ _ hq _ _ _ h
          | exit j => exact hq _ _ _ _ h
          | ret => exact hq _ _ _ _ h
          | panic v => exact hq _ _ _ _ h
        | defer l x xs =>
          intro Q Q' hq ads fr S h
          refine runIs_mono (callH := CallA P) (callH' := CallA P) (fun f args S Q Q' hq h => CallA.mono h hq) ?_ l fr S h
          intro e fr S h
          cases e with
          | normal =>
            simp only at h ⊢
            split at h
            · exact hq _ _ _ _ h
            · exact h.elim
          | exit j => exact hq _ _ _ _ h
          | ret => exact hq _ _ _ _ h
          | panic v => exact hq _ _ _ _ h
      refine mono x _ _ ?_ ads fr S hw
      intro ads' e fr' S' hq
      cases e with
      | normal => exact ihb y hy _ _ _ _ hq
      | exit j => exact hq
      | ret => exact hq
      | panic v => exact hq
  | region id ops dr =>
    intro ad h Q ads fr S hw
    simp only [AD.of] at h
    split at h
    · rename_i x hx
      cases h
      exact CodeX.of (wpA_ok hok _ x hx _ fr S hw)
    · split at h
      · cases h
      · rename_i hdr
        have : dr = false := by simpa using hdr
        subst this
        unfold deferOf at h
        split at h
        · rename_i o ho
          split at h
          · rename_i x args ts h1 h2 h3
            obtain ⟨ax, hx, h⟩ := obind_some h
            obtain ⟨axs, hxs, h⟩ := obind_some h
            obtain ⟨l, hl, h⟩ := obind_some h
            cases h
            exact CodeX.defer hok (getLast_split ho) h1 h2 h3 hx hxs hl hw
          · cases h
        · cases h
  | _ => exact plain _

inductive TD where
  | ac (a : TC)
  | seq (a b : TD)
  | defer (l : List TI) (x : AX) (xs : List AX)
def TD.erase : TD → AD
  | .ac a => .ac a.erase
  | .seq a b => .seq a.erase b.erase
  | .defer l x xs => .defer (erI l) x xs
def TD.okL : TD → Bool
  | .ac a => a.okL
  | .seq a b => a.okL && b.okL
  | .defer _ _ _ => true
abbrev PostTX := List (FuncId × List V) → PostT
def wpD (P : Program) (ok : Env) : TD → PostTX → List (FuncId × List V) → SF → St → Prop
  | .ac t, Q, ads, F, S => wpG (callK P) (fun v F S => Q ads (.panic v) F S) (fun _ _ => False) ok t (Q ads) F S
  | .seq a b, Q, ads, F, S => wpD P ok a (fun ads e F S => match e with | .normal => wpD P ok b Q ads F S | e => Q ads e F S) ads F S
  | .defer l x xs, Q, ads, F, S => runG (callK P) (fun v F S => Q ads (.panic v) F S) ok l F S fun F S => needX F x fun v => needXs F xs fun vs => ifS (calleeD ok v vs) fun p => Q (p :: ads) .normal F S

def DownX (Q : PostTX) : PostX := fun ads e fr' S' => ∃ F', Le F' fr' ∧ Q ads e F' S'
theorem wpX_mono {P : Program} {ok : Env} : ∀ (d : AD) (Q Q' : PostX), (∀ ads e fr S, Q ads e fr S → Q' ads e fr S) → ∀ ads fr S, wpX P ok d Q ads fr S → wpX P ok d Q' ads fr S := by
  intro d
  induction d with
  | ac t => intro Q Q' hq ads fr S h; exact wpA_mono (fun f args S Q Q' hq h => h.mono hq) (fun ac Q Q' fr S hq h => h.mono hq) t _ _ (fun e fr S => hq ads e fr S) fr S h
  | seq u v ihu ihv =>
    intro Q Q' hq ads fr S h
    refine ihu _ _ ?_ ads fr S h
    intro ads e fr S h
    cases e with
    | normal => exact ihv _ _ hq _ _ _ h
    | exit j => exact hq _ _ _ _ h
    | ret => exact hq _ _ _ _ h
    | panic v => exact hq _ _ _ _ h
  | defer l x xs =>
    intro Q Q' hq ads fr S h
    refine runIs_mono (callH := CallA P) (callH' := CallA P) (fun f args S Q Q' hq h => CallA.mono h hq) ?_ l fr S h
    intro e fr S h
    cases e with
    | normal =>
      simp only at h ⊢
      split at h
      · exact hq _ _ _ _ h
      · exact h.elim
    | exit j => exact hq _ _ _ _ h
    | ret => exact hq _ _ _ _ h
    | panic v => exact hq _ _ _ _ h

theorem wpD_ok {P : Program} {ok : Env} (hok : EnvOk P ok) : ∀ (td : TD), td.okL = true → ∀ (Q : PostTX) (ads : List (FuncId × List V)) (F : SF) (fr : List V) (S : St), Le F fr → wpD P ok td Q ads F S → wpX P ok td.erase (DownX Q) ads fr S := by
  intro td
  induction td with
  | ac t =>
    intro hk Q ads F fr S hF h
    refine wpA_mono (fun f args S Q Q' hq h => h.mono hq) (fun ac Q Q' fr S hq h => h.mono hq) _ _ _ ?_ fr S (wpG_ok (callK_ok P) hok t hk (Q ads) (fun _ _ _ h => h) F fr S hF h)
    rintro e fr' S' (⟨F', h1, h2, h3⟩ | ⟨v, rfl, hp⟩)
    · exact ⟨F', h1, h3⟩
    · exact hp.elim
  | seq a b iha ihb =>
    intro hk Q ads F fr S hF h
    simp only [TD.okL, Bool.and_eq_true] at hk
    simp only [TD.erase, wpX]
    refine wpX_mono _ _ _ ?_ ads fr S (iha hk.1 _ ads F fr S hF h)
    rintro ads' e fr' S' ⟨F', h1, h2⟩
    cases e with
    | normal => exact ihb hk.2 _ _ F' fr' S' h1 h2
    | exit j => exact ⟨F', h1, h2⟩
    | ret => exact ⟨F', h1, h2⟩
    | panic v => exact ⟨F', h1, h2⟩
  | defer l x xs =>
    intro hk Q ads F fr S hF h
    simp only [TD.erase, wpX, erI_eq]
    refine runG_ok (callK_ok P) l hF h ?_ ?_
    · intro F' fr' S' h1 _ h3
      obtain ⟨p, h4, h5⟩ := ifS_ok (needXs_ok h1 (needX_ok h1 h3))
      simp only [h4]
      exact ⟨F', h1, h5⟩
    · intro v F' fr' S' h1 _ h3
      exact ⟨F', h1, h3⟩

def finT (rs : List ARes) (ds : List DT) (K : Cur (flats ds)) (F : SF) : Option V → St → Prop
  | none, S => resT F S rs ds fun vs => unC (flats ds) vs K S
  | some _, _ => False
def endD (P : Program) (rs : List ARes) (ds : List DT) (K : Cur (flats ds)) : PostTX := fun ads e F S => match e with
  | .normal => leaveX P ads none S (finT rs ds K F)
  | .ret => leaveX P ads none S (finT rs ds K F)
  | .panic v => leaveX P ads (some v) S (finT rs ds K F)
  | .exit _ => False

theorem CallD.mono {P : Program} {f : FuncId} {args : List V} {pv : Option V} {S : St} {Q Q' : Bool → St → Prop} (h : CallD P f args pv S Q) (hq : ∀ b S', Q b S' → Q' b S') : CallD P f args pv S Q' :=
  fun m base w0 w args' u hS hv hu => (h m base w0 w args' u hS hv hu).mono fun e u' w' ⟨b, S', m', h1, h2⟩ => ⟨b, S', m', hq _ _ h1, h2⟩
theorem leaveX_mono {P : Program} {K K' : Option V → St → Prop} (hk : ∀ pv S, K pv S → K' pv S) : ∀ (ads : List (FuncId × List V)) (pv : Option V) (S : St), leaveX P ads pv S K → leaveX P ads pv S K'
  | [], pv, S, h => hk _ _ h
  | p :: ps, none, S, h => CallD.mono h fun b S' h' => leaveX_mono hk ps none S' h'
  | p :: ps, some v, S, h => CallD.mono h fun b S' h' => ⟨fun hb => leaveX_mono hk ps none S' (h'.1 hb), fun hb => leaveX_mono hk ps (some v) S' (h'.2 hb)⟩

theorem CallA.of_D {P : Program} {f : FuncId} {A : ADF} (hA : adfun P f = some A) {td : TD} (ht : td.erase = A.body) (hl : td.okL = true) {args : List V} {S : St}
    {ds : List DT} {K : Cur (flats ds)} (h : wpD P (envP P) td (endD P A.results ds K) [] (startT args ++ List.replicate (A.nt - args.length) .none) S) : CallA P f args S (retT ds K) := by
  obtain ⟨fn, hfn, hA⟩ := obind_some hA
  unfold ADF.of at hA
  cases hb : fn.body with
  | none => rw [hb] at hA; cases hA
  | some c =>
    rw [hb] at hA
    obtain ⟨ad, had, hA⟩ := obind_some hA
    obtain ⟨rs, hrs, hA⟩ := obind_some hA
    cases hA
    simp only at ht h
    have fin : ∀ (F' : SF) (fr' : List V), Le F' fr' → ∀ pv S, finT rs ds K F' pv S → finX rs (retT ds K) fr' pv S := by
      intro F' fr' h1 pv S' hk
      cases pv with
      | some v => exact hk.elim
      | none =>
        obtain ⟨us, vs, g1, g2, g3⟩ := resT_ok h1 hk
        simp only [finX, g1, g2]
        exact unC_ok (mk := fun vs => tupled (group ds vs)) g3
    refine CallA.of_bodyX hfn hb hrs (wpX_ok (envP_ok P) c ad had _ _ _ _ ?_)
    rw [← ht]
    refine wpX_mono _ _ _ ?_ _ _ _ (wpD_ok (envP_ok P) td hl _ [] _ _ S startT_le h)
    rintro ads e fr' S' ⟨F', h1, h2⟩
    cases e with
    | normal => exact leaveX_mono (fin F' fr' h1) ads none S' h2
    | ret => exact leaveX_mono (fin F' fr' h1) ads none S' h2
    | panic v => exact leaveX_mono (fin F' fr' h1) ads (some v) S' h2
    | exit j => exact h2.elim

def annD : AD → ItL → JtL → LtL → TD × ItL × JtL × LtL
  | .ac a, s, j, l => let q := annC a s j l; (.ac q.1, q.2)
  | .seq a b, s, j, l => let q := annD a s j l; let w := annD b q.2.1 q.2.2.1 q.2.2.2; (.seq q.1 w.1, w.2)
  | .defer r x xs, s, j, l => let q := annI r s; (.defer q.1 x xs, q.2, j, l)
theorem annD_er : ∀ (c : AD) (s : ItL) (j : JtL) (l : LtL), (annD c s j l).1.erase = c
  | .ac a, s, j, l => by simp only [annD, TD.erase, annC_er]
  | .seq a b, s, j, l => by simp only [annD, TD.erase, annD_er a, annD_er b]
  | .defer r x xs, s, j, l => by simp only [annD, TD.erase, annI_er]
def tdOf (A : ADF) (s : ItL) (j : JtL) (l : LtL) : TD := (annD A.body s j l).1
def adfn (P : Program) (f : FuncId) : ADF := (adfun P f).getD ⟨0, [], .ac .skip⟩
def frD (A : ADF) (args : List V) : SF := startT args ++ List.replicate (A.nt - args.length) .none
def ReadsD (P : Program) (f : FuncId) (s : ItL) (j : JtL) (l : LtL) {α : Type} (W : ADF → TD → α) (p : α) : Prop :=
  ((adfun P f).isSome, (tdOf (adfn P f) s j l).okL, W (adfn P f) (tdOf (adfn P f) s j l)) = (true, true, p)
theorem ReadsD.of {P : Program} {f : FuncId} {s : ItL} {j : JtL} {l : LtL} {α : Type} {W : ADF → TD → α} {p : α} (h : ((adfun P f).isSome, (tdOf (adfn P f) s j l).okL, W (adfn P f) (tdOf (adfn P f) s j l)) = (true, true, p)) : ReadsD P f s j l W p := h
theorem ReadsD.run {P : Program} {f : FuncId} {s : ItL} {j : JtL} {l : LtL} {α : Type} {W : ADF → TD → α} {p : α} (h : ReadsD P f s j l W p) {args : List V} {S : St} {ds : List DT} {K : Cur (flats ds)} (ap : α → Prop)
    (hp : ap p) (he : ap (W (adfn P f) (tdOf (adfn P f) s j l)) = wpD P (envP P) (tdOf (adfn P f) s j l) (endD P (adfn P f).results ds K) [] (frD (adfn P f) args) S) : CallA P f args S (retT ds K) := by
  unfold ReadsD at h
  rw [Prod.mk.injEq, Prod.mk.injEq] at h
  have ha : adfun P f = some (adfn P f) := by
    have h1 := h.1
    unfold adfn
    cases ha : adfun P f with
    | none => rw [ha] at h1; cases h1
    | some A => rfl
  refine CallA.of_D ha (annD_er _ _ _ _) h.2.1 ?_
  rw [← h.2.2] at hp
  exact Eq.mp he hp

theorem Reads.runK {P : Program} {f : FuncId} {s : ItL} {j : JtL} {l : LtL} {α : Type} {W : AF → TC → α} {p : α} (h : Reads P f s j l W p) {args : List V} {S : St} {ds : List DT} {KP : V → St → Prop} {K : Cur (flats ds)} (ap : α → Prop)
    (hp : ap p) (he : ap (W (afn P f) (tcOf (afn P f) s j l)) = wpK P KP (envP P) (tcOf (afn P f) s j l) (endK (afn P f).results ds KP K) (frT (afn P f) args) S) : CallA P f args S (retK ds KP K) := by
  unfold Reads at h
  rw [Prod.mk.injEq, Prod.mk.injEq] at h
  refine CallA.of_K (envP_ok P) (afn_ok h.1) (annC_er _ _ _ _) h.2.1 ?_
  rw [← h.2.2] at hp
  exact Eq.mp he hp

theorem CallA.np {P : Program} {f : FuncId} {args : List V} {S : St} {ds : List DT} {KP : V → St → Prop} {K : Cur (flats ds)} (h : CallA P f args S (retT ds K)) : CallA P f args S (retK ds KP K) := CallA.mono h fun _ _ hr => .inl hr
end Go.Th
end

section
/- Deferred functions that recover. -/
set_option linter.unusedSimpArgs false
set_option linter.unusedVariables false
namespace Go.Th
open Go.RowKit Go.Lib Go

structure RF where
  nt : Nat
  d0 : Nat
  d1 : Nat
  body : AC
def isRec : Op → Bool
  | .call ⟨.builtin .recover, _, _⟩ => true
  | _ => false
def isMv (d : Nat) : Op → Bool
  | .assign (.tmp t) => t == d
  | .move (.tmp t) => t == d
  | _ => false
def RF.of (P : Program) (fn : Func) : Option RF :=
  match fn.body, fn.results.toList with
  | some (.seq (.region _ ops false) c), [] => match ops.toList with
    | [o0, o1] => match o0.dst, o1.dst, o0.guard, o1.guard with
      | some d0, some d1, none, none => if isRec o0.op && isMv d0 o1.op && decide (d0 < fn.ntmps) then obind (AC.of P c) fun ac => some ⟨fn.ntmps, d0, d1, ac⟩ else none
      | _, _, _, _ => none
    | _ => none
  | _, _ => none
def recfun (P : Program) (f : FuncId) : Option RF := obind (P.funcs[f]?) (RF.of P)

def endR (Q : St → Prop) : PostC := fun e _ S => match e with
  | .normal | .ret => Q S
  | _ => False

theorem run_recover {P : Program} {o : Oper} {a : Act} {w : World} (h : isRec o.op = true) : (execOp a.eval o).run P w = .ok .recover w := by
  unfold isRec at h
  split at h
  · rename_i ho; simp [execOp, ho, resolve, invoke, builtin]
  · cases h
theorem run_mv {P : Program} {o : Oper} {a : Act} {w : World} {d : Nat} (h : isMv d o.op = true) : (execOp a.eval o).run P w = .ok (.value (a.eval (.tmp d))) w := by
  unfold isMv at h
  split at h
  · rename_i ho
    have := eq_of_beq h; subst this
    simp [execOp, ho]
  · rename_i ho
    have := eq_of_beq h; subst this
    simp [execOp, ho]
  · cases h

theorem CallD.of_R {P : Program} {ok : Env} (hok : EnvOk P ok) {f : FuncId} {A : RF} (hA : recfun P f = some A) {args : List V} {pv : Option V} {S : St} {Q : St → Prop}
    (h : wpA ok (CallA P) (LoopA P) A.body (endR Q) (((args ++ List.replicate (A.nt - args.length) V.undef).set A.d0 (pv.getD .nilIface)).set A.d1 (pv.getD .nilIface)) S) : CallD P f args pv S fun b S' => b = pv.isSome ∧ Q S' := by
  obtain ⟨fn, hfn, hA⟩ := obind_some hA
  unfold RF.of at hA
  split at hA
  · rename_i id ops c hb hres
    split at hA
    · rename_i o0 o1 hops
      split at hA
      · rename_i d0 d1 e1 e2 e3 e4
        split at hA
        · rename_i hif
          simp only [Bool.and_eq_true, decide_eq_true_eq] at hif
          obtain ⟨⟨i1, i2⟩, i3⟩ := hif
          obtain ⟨ac, hac, hA⟩ := obind_some hA
          cases hA
          simp only at h
          intro m base w0 w args' u hS hv hu
          have hl := hv.length
          rw [Array.length_toList] at hl
          have hfr : VRs m (args ++ List.replicate (fn.ntmps - args.length) V.undef) (args' ++ Array.replicate (fn.ntmps - args'.size) Go.undef).toList := by
            rw [Array.toList_append, Array.toList_replicate, hl]
            exact hv.append (VRs.replicate (VR.undef m) _)
          refine callsD_of_wpS hfn hb fun c0 cs hc0 => ?_
          obtain ⟨a0, ha0⟩ : ∃ a0 : Act, a0 = ⟨args' ++ Array.replicate (fn.ntmps - args'.size) Go.undef, []⟩ := ⟨_, rfl⟩
          rw [← ha0]
          have hfr0 : VRs m (args ++ List.replicate (fn.ntmps - args.length) V.undef) a0.tmps.toList := by rw [ha0]; exact hfr
          have hops2 : ops = #[o0, o1] := by apply Array.ext'; simpa using hops
          subst hops2
          -- what recover hands back
          have hrec : ∃ x, VR m (pv.getD .nilIface) x ∧ (∀ (R : Value → List Frame → Prop), R x ({ c0 with mode := if pv.isSome then recd u else u } :: cs) → (match recoverD (c0 :: cs) with | some (v, cs') => R v cs' | none => R .nilIface (c0 :: cs))) := by
            cases pv with
            | none =>
              simp only [ModeR] at hu
              subst hu
              refine ⟨.nilIface, by simp [VR], fun R hR => ?_⟩
              simp only [recoverD, hc0]
              have : ({ c0 with mode := FrameMode.returning } : Frame) = c0 := by rw [← hc0]
              simpa [this] using hR
            | some v =>
              obtain ⟨x, rfl, hx⟩ := hu
              refine ⟨x, hx, fun R hR => ?_⟩
              simp only [recoverD, hc0]
              exact hR
          obtain ⟨x, hx, hR⟩ := hrec
          refine wpS_seq (wpS_region ?_)
          have er : List.range (#[o0, o1] : Array Oper).size = [0, 1] := rfl
          rw [er]
          have w0' : Region.wanted o0 (yielded #[o0, o1] a0.tmps) = true := by simp [Region.wanted, e3]
          unfold wpOpsS
          simp only [List.getElem?_toArray, List.getElem?_cons_zero, w0', if_true, run_recover i1]
          refine hR (fun v cs' => wpOpsS P #[o0, o1] _ [1] (a0.put o0.dst v) cs' w) ?_
          have w1' : Region.wanted o1 (yielded #[o0, o1] (a0.put o0.dst x).tmps) = true := by simp [Region.wanted, e4]
          unfold wpOpsS
          simp only [List.getElem?_toArray, List.getElem?_cons_succ, List.getElem?_cons_zero, w1', if_true, run_mv i2, Oper.upon]
          unfold wpOpsS
          simp only [Exit.thenS, e1, e2]
          have hlen : d0 < a0.tmps.size := by
            rw [ha0]
            simp only [Array.size_append, Array.size_replicate]
            exact Nat.lt_of_lt_of_le i3 (by omega)
          have hev : (a0.put (some d0) x).eval (.tmp d0) = x := by
            simp [Act.put, Act.eval, hlen]
          rw [hev]
          have hf2 : VRs m (((args ++ List.replicate (fn.ntmps - args.length) V.undef).set d0 (pv.getD .nilIface)).set d1 (pv.getD .nilIface)) ((a0.put (some d0) x).put (some d1) x).tmps.toList := put_rel (d := some d1) (put_rel (d := some d0) hfr0 hx) hx
          refine wpS_of_wp (wp_mono (wpA_ok hok c ac hac _ _ S h [] m base w0 w _ hS hf2 (by rw [ha0]; rfl)) ?_)
          rintro e a w' ⟨e', fr', S', m', hq, hx', hS', hf', hd', hRR⟩
          have fin : Q S' → bodyPostS P fn c0 cs (fun e u' w' => ∃ b S' m', (b = pv.isSome ∧ Q S') ∧ Ext m m' ∧ Sim m' S' base w0 w' ∧ (∃ v, e = .returned v) ∧ u' = (if b then recd u else u)) .normal a ({ c0 with mode := if pv.isSome then recd u else u } :: cs) w' := fun hq => by
            have hrun : (results fn a.tmps).run P w' = .ok (.tuple #[]) w' := by
              have : fn.results = #[] := by apply Array.ext'; simpa using hres
              rw [results_eq, this]
              simp
            exact ⟨hd', _, rfl, _, hrun, pv.isSome, S', m', ⟨rfl, hq⟩, hx', hS', ⟨_, rfl⟩, rfl⟩
          cases e' with
          | normal =>
            cases e <;> simp only [ExR] at hRR
            exact fin hq
          | ret =>
            cases e <;> simp only [ExR] at hRR
            exact fin hq
          | panic v => exact hq.elim
          | exit j => exact hq.elim
        · cases hA
      · cases hA
    · cases hA
  · cases hA

def endRT (K : St → Prop) : PostT := fun e _ S => match e with
  | .normal => K S
  | .ret => K S
  | _ => False
def recfn (P : Program) (f : FuncId) : RF := (recfun P f).getD ⟨0, 0, 0, .skip⟩
def frR (A : RF) (args : List V) (x : V) : SF := ((startT args ++ List.replicate (A.nt - args.length) Cell.none).set A.d0 (.val x)).set A.d1 (.val x)
def ReadsR (P : Program) (f : FuncId) (s : ItL) (j : JtL) (l : LtL) {α : Type} (W : RF → TC → α) (p : α) : Prop :=
  ((recfun P f).isSome, (annC (recfn P f).body s j l).1.okL, W (recfn P f) (annC (recfn P f).body s j l).1) = (true, true, p)
theorem ReadsR.of {P : Program} {f : FuncId} {s : ItL} {j : JtL} {l : LtL} {α : Type} {W : RF → TC → α} {p : α} (h : ((recfun P f).isSome, (annC (recfn P f).body s j l).1.okL, W (recfn P f) (annC (recfn P f).body s j l).1) = (true, true, p)) : ReadsR P f s j l W p := h
theorem ReadsR.run {P : Program} {f : FuncId} {s : ItL} {j : JtL} {l : LtL} {α : Type} {W : RF → TC → α} {p : α} (h : ReadsR P f s j l W p) {args : List V} {pv : Option V} {S : St} {K : St → Prop} (ap : α → Prop)
    (hp : ap p) (he : ap (W (recfn P f) (annC (recfn P f).body s j l).1) = wpT P (envP P) (annC (recfn P f).body s j l).1 (endRT K) (frR (recfn P f) args (pv.getD .nilIface)) S) : CallD P f args pv S fun b S' => b = pv.isSome ∧ K S' := by
  unfold ReadsR at h
  rw [Prod.mk.injEq, Prod.mk.injEq] at h
  have ha : recfun P f = some (recfn P f) := by
    have h1 := h.1
    unfold recfn
    cases ha : recfun P f with
    | none => rw [ha] at h1; cases h1
    | some A => rfl
  refine CallD.of_R (envP_ok P) ha ?_
  rw [← h.2.2] at hp
  have hw := Eq.mp he hp
  have hle : Le (frR (recfn P f) args (pv.getD .nilIface)) (((args ++ List.replicate ((recfn P f).nt - args.length) V.undef).set (recfn P f).d0 (pv.getD .nilIface)).set (recfn P f).d1 (pv.getD .nilIface)) :=
    (startT_le.put (some (recfn P f).d0) (Cell.le_val _)).put (some (recfn P f).d1) (Cell.le_val _)
  have hr := wpG_ok (callN_ok P) (envP_ok P) _ h.2.1 (endRT K) (fun _ _ _ h => h.elim) _ _ S hle hw
  rw [annC_er] at hr
  refine wpA_mono (fun f args S Q Q' hq h => h.mono hq) (fun ac Q Q' fr S hq h => h.mono hq) _ _ _ ?_ _ _ hr
  rintro e fr' S' (⟨F', h1, h2, h3⟩ | ⟨v, rfl, hp⟩)
  · cases e with
    | normal => exact h3
    | ret => exact h3
    | exit j => exact h3.elim
    | panic v => exact h3.elim
  · exact hp.elim

end Go.Th
end

section
/- A function without results, without recover, that is called as a deferred one. -/
set_option linter.unusedSimpArgs false
set_option linter.unusedVariables false
namespace Go.Th
open Go.RowKit Go.Lib Go

def panD (P : Program) (ads : List (FuncId × List V)) (R : St → Prop) (v : V) (S : St) : Prop := leaveX P ads (some v) S fun pv S' => match pv with
  | none => R S'
  | some _ => False

end Go.Th
end

section
/- Keys of the functions' names (printed by tools/lib.py). -/
namespace Go.Th.L
abbrev Fn.strconv_Itoa : Nat := 194
abbrev Fn.strings_CutPrefix : Nat := 197
abbrev Fn.internal_stringslite_CutPrefix : Nat := 198
abbrev Fn.strconv_Atoi : Nat := 199
abbrev Fn.internal_stringslite_HasPrefix : Nat := 202
abbrev Fn.strconv_toError : Nat := 204
abbrev Fn.slices_Index_Lstring : Nat := 242
abbrev Fn.strings_Builder_WriteString : Nat := 282
abbrev Fn.strings_Builder_WriteByte : Nat := 283
abbrev Fn.strings_Builder_String : Nat := 284
abbrev Fn.ty_internal_strconv_Error : Nat := 410
abbrev Fn.internal_strconv_ParseUint : Nat := 419
abbrev Fn.internal_strconv_lower : Nat := 432
abbrev Fn.internal_strconv_underscoreOK : Nat := 433
abbrev Fn.json_Parse : Nat := 452
abbrev Fn.law20_awake : Nat := 454
abbrev Fn.ref20_Same : Nat := 455
abbrev Fn.law20_JsonPrints : Nat := 456
abbrev Fn.law20_big : Nat := 457
abbrev Fn.law20_copied : Nat := 458
abbrev Fn.json_Print : Nat := 459
abbrev Fn.json_Check : Nat := 460
abbrev Fn.json_Get : Nat := 461
abbrev Fn.ref20_Print : Nat := 462
abbrev Fn.ref20_Get : Nat := 463
abbrev Fn.ref20_Check : Nat := 464
abbrev Fn.json_Parse_1 : Nat := 465
abbrev Fn.json_reading_blanks : Nat := 466
abbrev Fn.json_reading_value : Nat := 467
abbrev Fn.json_is : Nat := 468
abbrev Fn.law20_parts : Nat := 471
abbrev Fn.law20_wide : Nat := 472
abbrev Fn.json_lay : Nat := 473
abbrev Fn.strings_Builder_Len : Nat := 474
abbrev Fn.json_all : Nat := 475
abbrev Fn.json_formed : Nat := 476
abbrev Fn.json_deep : Nat := 477
abbrev Fn.json_Check_1 : Nat := 478
abbrev Fn.json_Check_2 : Nat := 479
abbrev Fn.json_Check_3 : Nat := 480
abbrev Fn.ref20_text : Nat := 481
abbrev Fn.ref20_formed : Nat := 482
abbrev Fn.ref20_deep : Nat := 483
abbrev Fn.ref20_small : Nat := 484
abbrev Fn.ref20_few : Nat := 485
abbrev Fn.ref20_unlike : Nat := 486
abbrev Fn.ty_json_wrong : Nat := 487
abbrev Fn.strings_TrimLeft : Nat := 488
abbrev Fn.json_reading_comes : Nat := 489
abbrev Fn.json_reading_text : Nat := 490
abbrev Fn.json_reading_value_1 : Nat := 491
abbrev Fn.json_reading_list : Nat := 492
abbrev Fn.json_reading_value_2 : Nat := 493
abbrev Fn.json_reading_number : Nat := 494
abbrev Fn.json_quote : Nat := 500
abbrev Fn.json_all_1 : Nat := 501
abbrev Fn.slices_ContainsFunc_Lapi_Value : Nat := 502
abbrev Fn.ref20_Number : Nat := 503
abbrev Fn.ref20_quoted : Nat := 504
abbrev Fn.json_reading_one : Nat := 505
abbrev Fn.strconv_ParseUint : Nat := 506
abbrev Fn.slices_IndexFunc_Lapi_Value : Nat := 509
abbrev Fn.ref20_digits : Nat := 510
abbrev Fn.ty_strings_Builder : Nat := 575
end Go.Th.L
end

section
/- Functions of internal, read without frames (printed by tools/lib.py). -/
set_option linter.unusedVariables false
set_option maxRecDepth 100000
set_option maxHeartbeats 2000000
namespace Go.Th.L
open Go Go.Th

def internal_stringslite_CutPrefix.p (P : Program) (N : Nat → Nat) (x0 : List UInt8) (x1 : List UInt8) (S : St) (K : List UInt8 → Bool → St → Prop) : Prop :=
  CallA P (N Fn.internal_stringslite_HasPrefix) [(V.str x0), (V.str x1)] S (retT [(.one .bool)] fun (x8 : Bool) (S1 : St) => ifC (!x8) (K x0 false S1) (∃ x14 : List UInt8, sliceStrV (V.str x0) (some (V.int .i64 (x1.length : Int))) none = some (V.str x14) ∧ K x14 true S1))
abbrev internal_stringslite_CutPrefix.Ok (P : Program) (N : Nat → Nat) : Prop := Reads P (N Fn.internal_stringslite_CutPrefix) [(4, .no, [(.one .bool)]), (7, (.dt (.one .str)), [])] [] [] (fun A T (x0 : List UInt8) (x1 : List UInt8) (S : St) (K : List UInt8 → Bool → St → Prop) => wpT P (envP P) T (endT A.results [(.one .str), (.one .bool)] K) (frT A [(V.str x0), (V.str x1)]) S) (fun x0 x1 S K => internal_stringslite_CutPrefix.p P N x0 x1 S K)
theorem internal_stringslite_CutPrefix.run {P : Program} {N : Nat → Nat} (hF : internal_stringslite_CutPrefix.Ok P N) {x0 : List UInt8} {x1 : List UInt8} {S : St} {K : List UInt8 → Bool → St → Prop} (h : internal_stringslite_CutPrefix.p P N x0 x1 S K) : CallA P (N Fn.internal_stringslite_CutPrefix) [(V.str x0), (V.str x1)] S (retT [(.one .str), (.one .bool)] K) := hF.run (fun q => q x0 x1 S K) h rfl

def internal_stringslite_HasPrefix.p (P : Program) (N : Nat → Nat) (x0 : List UInt8) (x1 : List UInt8) (S : St) (K : Bool → St → Prop) : Prop :=
  ifC (decide ((x1.length : Int) ≤ (x0.length : Int))) (∃ x14 : List UInt8, sliceStrV (V.str x0) none (some (V.int .i64 (x1.length : Int))) = some (V.str x14) ∧ K (decide (x14 = x1)) S) (K false S)
abbrev internal_stringslite_HasPrefix.Ok (P : Program) (N : Nat → Nat) : Prop := Reads P (N Fn.internal_stringslite_HasPrefix) [(10, (.dt (.one .str)), [])] [] [] (fun A T (x0 : List UInt8) (x1 : List UInt8) (S : St) (K : Bool → St → Prop) => wpT P (envP P) T (endT A.results [(.one .bool)] K) (frT A [(V.str x0), (V.str x1)]) S) (fun x0 x1 S K => internal_stringslite_HasPrefix.p P N x0 x1 S K)
theorem internal_stringslite_HasPrefix.run {P : Program} {N : Nat → Nat} (hF : internal_stringslite_HasPrefix.Ok P N) {x0 : List UInt8} {x1 : List UInt8} {S : St} {K : Bool → St → Prop} (h : internal_stringslite_HasPrefix.p P N x0 x1 S K) : CallA P (N Fn.internal_stringslite_HasPrefix) [(V.str x0), (V.str x1)] S (retT [(.one .bool)] K) := hF.run (fun q => q x0 x1 S K) h rfl

end Go.Th.L
end

section
/- Functions of json, read without frames (printed by tools/lib.py). -/
set_option linter.unusedVariables false
set_option maxRecDepth 100000
set_option maxHeartbeats 2000000
namespace Go.Th.L
open Go Go.Th

def json_Parse.p (P : Program) (N : Nat → Nat) (x0 : List UInt8) (S : St) (K : Int → Int → List UInt8 → V → V → Int → St → Prop) : Prop :=
  newS S (.cells [(V.int .i64 0), (V.int .i64 0), (V.str ([] : List UInt8)), V.nilSlice, V.nilSlice] true) fun S1 => newS S1 (.cells [(V.int .i64 0)] true) fun S2 => ifC (decide ((16384 : Int) < (x0.length : Int))) (ifS (storeV S2 5 (V.ptr S.next 0) (V.agg [(V.int .i64 0), (V.int .i64 0), (V.str ([] : List UInt8)), V.nilSlice, V.nilSlice])) fun S3 => ifS (storeV S3 1 (V.ptr S1.next 0) (V.int .i64 2)) fun S4 => ∃ xr_a xr_b : Int, ∃ xr_c : List UInt8, ∃ xr_d xr_e : V, cellNV S4 5 (V.ptr S.next 0) = some (V.agg [(V.int .i64 xr_a), (V.int .i64 xr_b), (V.str xr_c), xr_d, xr_e]) ∧ ∃ xr : Int, cell1V S4 (V.ptr S1.next 0) = some (V.int .i64 xr) ∧ K xr_a xr_b xr_c xr_d xr_e xr S4) (ifS (calleeD (envP P) (V.func (.func (N Fn.json_Parse_1)) [] [(V.ptr S.next 0), (V.ptr S1.next 0)]) []) fun xd => newS S2 (.cells [(V.str x0)] true) fun S5 => CallA P (N Fn.json_reading_blanks) [(V.ptr S2.next 0)] S5 (retK [] (panD P [xd] fun (S7 : St) => ∃ xr_a_1 xr_b_1 : Int, ∃ xr_c_1 : List UInt8, ∃ xr_d_1 xr_e_1 : V, cellNV S7 5 (V.ptr S.next 0) = some (V.agg [(V.int .i64 xr_a_1), (V.int .i64 xr_b_1), (V.str xr_c_1), xr_d_1, xr_e_1]) ∧ ∃ xr_1 : Int, cell1V S7 (V.ptr S1.next 0) = some (V.int .i64 xr_1) ∧ K xr_a_1 xr_b_1 xr_c_1 xr_d_1 xr_e_1 xr_1 S7) fun (S6 : St) => CallA P (N Fn.json_reading_value) [(V.ptr S2.next 0)] S6 (retK [(.agg [(.int .i64), (.int .i64), .str, .any, .any])] (panD P [xd] fun (S9 : St) => ∃ xr_a_2 xr_b_2 : Int, ∃ xr_c_2 : List UInt8, ∃ xr_d_2 xr_e_2 : V, cellNV S9 5 (V.ptr S.next 0) = some (V.agg [(V.int .i64 xr_a_2), (V.int .i64 xr_b_2), (V.str xr_c_2), xr_d_2, xr_e_2]) ∧ ∃ xr_2 : Int, cell1V S9 (V.ptr S1.next 0) = some (V.int .i64 xr_2) ∧ K xr_a_2 xr_b_2 xr_c_2 xr_d_2 xr_e_2 xr_2 S9) fun (x17_a : Int) (x17_b : Int) (x17_c : List UInt8) (x17_d : V) (x17_e : V) (S8 : St) => ifS (storeV S8 5 (V.ptr S.next 0) (V.agg [(V.int .i64 x17_a), (V.int .i64 x17_b), (V.str x17_c), x17_d, x17_e])) fun S10 => CallA P (N Fn.json_reading_blanks) [(V.ptr S2.next 0)] S10 (retK [] (panD P [xd] fun (S12 : St) => ∃ xr_a_3 xr_b_3 : Int, ∃ xr_c_3 : List UInt8, ∃ xr_d_3 xr_e_3 : V, cellNV S12 5 (V.ptr S.next 0) = some (V.agg [(V.int .i64 xr_a_3), (V.int .i64 xr_b_3), (V.str xr_c_3), xr_d_3, xr_e_3]) ∧ ∃ xr_3 : Int, cell1V S12 (V.ptr S1.next 0) = some (V.int .i64 xr_3) ∧ K xr_a_3 xr_b_3 xr_c_3 xr_d_3 xr_e_3 xr_3 S12) fun (S11 : St) => nilV (V.ptr S2.next 0) = some (V.ptr S2.next 0) ∧ ∃ x23 : List UInt8, loadV S11 (V.ptr S2.next 0) = some (V.str x23) ∧ CallA P (N Fn.json_is) [(V.bool (decide (x23 = ([] : List UInt8))))] S11 (retK [] (panD P [xd] fun (S14 : St) => ∃ xr_a_4 xr_b_4 : Int, ∃ xr_c_4 : List UInt8, ∃ xr_d_4 xr_e_4 : V, cellNV S14 5 (V.ptr S.next 0) = some (V.agg [(V.int .i64 xr_a_4), (V.int .i64 xr_b_4), (V.str xr_c_4), xr_d_4, xr_e_4]) ∧ ∃ xr_4 : Int, cell1V S14 (V.ptr S1.next 0) = some (V.int .i64 xr_4) ∧ K xr_a_4 xr_b_4 xr_c_4 xr_d_4 xr_e_4 xr_4 S14) fun (S13 : St) => ∃ x26_a x26_b : Int, ∃ x26_c : List UInt8, ∃ x26_d x26_e : V, loadNV S13 5 (V.ptr S.next 0) = some (V.agg [(V.int .i64 x26_a), (V.int .i64 x26_b), (V.str x26_c), x26_d, x26_e]) ∧ CallA P (N Fn.json_Check) [(V.agg [(V.int .i64 x26_a), (V.int .i64 x26_b), (V.str x26_c), x26_d, x26_e])] S13 (retK [(.one (.int .i64))] (panD P [xd] fun (S16 : St) => ∃ xr_a_5 xr_b_5 : Int, ∃ xr_c_5 : List UInt8, ∃ xr_d_5 xr_e_5 : V, cellNV S16 5 (V.ptr S.next 0) = some (V.agg [(V.int .i64 xr_a_5), (V.int .i64 xr_b_5), (V.str xr_c_5), xr_d_5, xr_e_5]) ∧ ∃ xr_5 : Int, cell1V S16 (V.ptr S1.next 0) = some (V.int .i64 xr_5) ∧ K xr_a_5 xr_b_5 xr_c_5 xr_d_5 xr_e_5 xr_5 S16) fun (x27 : Int) (S15 : St) => ifC (!decide (x27 = (0 : Int))) (ifS (storeV S15 5 (V.ptr S.next 0) (V.agg [(V.int .i64 0), (V.int .i64 0), (V.str ([] : List UInt8)), V.nilSlice, V.nilSlice])) fun S17 => ifS (storeV S17 1 (V.ptr S1.next 0) (V.int .i64 x27)) fun S18 => CallD P xd.1 xd.2 none S18 fun (xb : Bool) (S19 : St) => ∃ xr_a_6 xr_b_6 : Int, ∃ xr_c_6 : List UInt8, ∃ xr_d_6 xr_e_6 : V, cellNV S19 5 (V.ptr S.next 0) = some (V.agg [(V.int .i64 xr_a_6), (V.int .i64 xr_b_6), (V.str xr_c_6), xr_d_6, xr_e_6]) ∧ ∃ xr_6 : Int, cell1V S19 (V.ptr S1.next 0) = some (V.int .i64 xr_6) ∧ K xr_a_6 xr_b_6 xr_c_6 xr_d_6 xr_e_6 xr_6 S19) (∃ x32_a x32_b : Int, ∃ x32_c : List UInt8, ∃ x32_d x32_e : V, loadNV S15 5 (V.ptr S.next 0) = some (V.agg [(V.int .i64 x32_a), (V.int .i64 x32_b), (V.str x32_c), x32_d, x32_e]) ∧ ifS (storeV S15 5 (V.ptr S.next 0) (V.agg [(V.int .i64 x32_a), (V.int .i64 x32_b), (V.str x32_c), x32_d, x32_e])) fun S20 => ifS (storeV S20 1 (V.ptr S1.next 0) (V.int .i64 0)) fun S21 => CallD P xd.1 xd.2 none S21 fun (xb_1 : Bool) (S22 : St) => ∃ xr_a_7 xr_b_7 : Int, ∃ xr_c_7 : List UInt8, ∃ xr_d_7 xr_e_7 : V, cellNV S22 5 (V.ptr S.next 0) = some (V.agg [(V.int .i64 xr_a_7), (V.int .i64 xr_b_7), (V.str xr_c_7), xr_d_7, xr_e_7]) ∧ ∃ xr_7 : Int, cell1V S22 (V.ptr S1.next 0) = some (V.int .i64 xr_7) ∧ K xr_a_7 xr_b_7 xr_c_7 xr_d_7 xr_e_7 xr_7 S22)))))))
abbrev json_Parse.Ok (P : Program) (N : Nat → Nat) : Prop := ReadsD P (N Fn.json_Parse) [(5, (.dt (.agg [(.int .i64), (.int .i64), .str, .any, .any])), []), (4, (.dt (.agg [.str])), []), (5, .no, [(.agg [(.int .i64), (.int .i64), .str, .any, .any])]), (6, (.dt (.one .str)), []), (2, (.dt (.agg [(.int .i64), (.int .i64), .str, .any, .any])), []), (0, .no, [(.one (.int .i64))]), (3, (.dt (.agg [(.int .i64), (.int .i64), .str, .any, .any])), []), (3, (.dt (.agg [(.int .i64), (.int .i64), .str, .any, .any])), [])] [] [] (fun A T (x0 : List UInt8) (S : St) (K : Int → Int → List UInt8 → V → V → Int → St → Prop) => wpD P (envP P) T (endD P A.results [(.agg [(.int .i64), (.int .i64), .str, .any, .any]), (.one (.int .i64))] K) [] (frD A [(V.str x0)]) S) (fun x0 S K => json_Parse.p P N x0 S K)
theorem json_Parse.run {P : Program} {N : Nat → Nat} (hF : json_Parse.Ok P N) {x0 : List UInt8} {S : St} {K : Int → Int → List UInt8 → V → V → Int → St → Prop} (h : json_Parse.p P N x0 S K) : CallA P (N Fn.json_Parse) [(V.str x0)] S (retT [(.agg [(.int .i64), (.int .i64), .str, .any, .any]), (.one (.int .i64))] K) := hF.run (fun q => q x0 S K) h rfl

def json_Check.p (P : Program) (N : Nat → Nat) (x0_a : Int) (x0_b : Int) (x0_c : List UInt8) (x0_d : V) (x0_e : V) (S : St) (K : Int → St → Prop) : Prop :=
  newS S (.cells [(V.int .i64 x0_a), (V.int .i64 x0_b), (V.str x0_c), x0_d, x0_e] true) fun S1 => ∃ x4_a x4_b : Int, ∃ x4_c : List UInt8, ∃ x4_d x4_e : V, loadNV S1 5 (V.ptr S.next 0) = some (V.agg [(V.int .i64 x4_a), (V.int .i64 x4_b), (V.str x4_c), x4_d, x4_e]) ∧ CallA P (N Fn.json_all) [(V.agg [(V.int .i64 x4_a), (V.int .i64 x4_b), (V.str x4_c), x4_d, x4_e]), (V.func (.func (N Fn.json_formed)) [] [])] S1 (retT [(.one .bool)] fun (x5 : Bool) (S2 : St) => ifC (!x5) (K 200 S2) (∃ x8_a x8_b : Int, ∃ x8_c : List UInt8, ∃ x8_d x8_e : V, loadNV S2 5 (V.ptr S.next 0) = some (V.agg [(V.int .i64 x8_a), (V.int .i64 x8_b), (V.str x8_c), x8_d, x8_e]) ∧ CallA P (N Fn.json_deep) [(V.agg [(V.int .i64 x8_a), (V.int .i64 x8_b), (V.str x8_c), x8_d, x8_e])] S2 (retT [(.one (.int .i64))] fun (x9 : Int) (S3 : St) => ifC (decide ((8 : Int) < x9)) (K 201 S3) (∃ x12_a x12_b : Int, ∃ x12_c : List UInt8, ∃ x12_d x12_e : V, loadNV S3 5 (V.ptr S.next 0) = some (V.agg [(V.int .i64 x12_a), (V.int .i64 x12_b), (V.str x12_c), x12_d, x12_e]) ∧ CallA P (N Fn.json_all) [(V.agg [(V.int .i64 x12_a), (V.int .i64 x12_b), (V.str x12_c), x12_d, x12_e]), (V.func (.func (N Fn.json_Check_1)) [] [])] S3 (retT [(.one .bool)] fun (x13 : Bool) (S4 : St) => ifC (!x13) (K 202 S4) (∃ x16_a x16_b : Int, ∃ x16_c : List UInt8, ∃ x16_d x16_e : V, loadNV S4 5 (V.ptr S.next 0) = some (V.agg [(V.int .i64 x16_a), (V.int .i64 x16_b), (V.str x16_c), x16_d, x16_e]) ∧ CallA P (N Fn.json_all) [(V.agg [(V.int .i64 x16_a), (V.int .i64 x16_b), (V.str x16_c), x16_d, x16_e]), (V.func (.func (N Fn.json_Check_2)) [] [])] S4 (retT [(.one .bool)] fun (x17 : Bool) (S5 : St) => ifC (!x17) (K 203 S5) (∃ x20_a x20_b : Int, ∃ x20_c : List UInt8, ∃ x20_d x20_e : V, loadNV S5 5 (V.ptr S.next 0) = some (V.agg [(V.int .i64 x20_a), (V.int .i64 x20_b), (V.str x20_c), x20_d, x20_e]) ∧ CallA P (N Fn.json_all) [(V.agg [(V.int .i64 x20_a), (V.int .i64 x20_b), (V.str x20_c), x20_d, x20_e]), (V.func (.func (N Fn.json_Check_3)) [] [])] S5 (retT [(.one .bool)] fun (x21 : Bool) (S6 : St) => ifC (!x21) (K 200 S6) (K 0 S6))))))))))
abbrev json_Check.Ok (P : Program) (N : Nat → Nat) : Prop := Reads P (N Fn.json_Check) [(2, (.dt (.agg [(.int .i64), (.int .i64), .str, .any, .any])), []), (0, .no, [(.one .bool)]), (3, (.dt (.agg [(.int .i64), (.int .i64), .str, .any, .any])), []), (0, .no, [(.one (.int .i64))]), (3, (.dt (.agg [(.int .i64), (.int .i64), .str, .any, .any])), []), (0, .no, [(.one .bool)]), (3, (.dt (.agg [(.int .i64), (.int .i64), .str, .any, .any])), []), (0, .no, [(.one .bool)]), (3, (.dt (.agg [(.int .i64), (.int .i64), .str, .any, .any])), []), (0, .no, [(.one .bool)])] [] [] (fun A T (x0_a : Int) (x0_b : Int) (x0_c : List UInt8) (x0_d : V) (x0_e : V) (S : St) (K : Int → St → Prop) => wpT P (envP P) T (endT A.results [(.one (.int .i64))] K) (frT A [(V.agg [(V.int .i64 x0_a), (V.int .i64 x0_b), (V.str x0_c), x0_d, x0_e])]) S) (fun x0_a x0_b x0_c x0_d x0_e S K => json_Check.p P N x0_a x0_b x0_c x0_d x0_e S K)
theorem json_Check.run {P : Program} {N : Nat → Nat} (hF : json_Check.Ok P N) {x0_a : Int} {x0_b : Int} {x0_c : List UInt8} {x0_d : V} {x0_e : V} {S : St} {K : Int → St → Prop} (h : json_Check.p P N x0_a x0_b x0_c x0_d x0_e S K) : CallA P (N Fn.json_Check) [(V.agg [(V.int .i64 x0_a), (V.int .i64 x0_b), (V.str x0_c), x0_d, x0_e])] S (retT [(.one (.int .i64))] K) := hF.run (fun q => q x0_a x0_b x0_c x0_d x0_e S K) h rfl

def json_Get.p (P : Program) (N : Nat → Nat) (x0_a : Int) (x0_b : Int) (x0_c : List UInt8) (x0_d : V) (x0_e : V) (x1 : List UInt8) (S : St) (K : Int → Int → List UInt8 → V → V → Bool → St → Prop) : Prop :=
  newS S (.cells [(V.int .i64 x0_a), (V.int .i64 x0_b), (V.str x0_c), x0_d, x0_e] true) fun S1 => newS S1 (.cells [(V.int .i64 0), (V.int .i64 0), (V.str ([] : List UInt8)), V.nilSlice, V.nilSlice] true) fun S2 => ifS (loadV S2 (V.ptr S.next 4)) fun x8 => CallA P (N Fn.slices_Index_Lstring) [x8, (V.str x1)] S2 (retT [(.one (.int .i64))] fun (x10 : Int) (S3 : St) => Join1 (fun (k1 : Bool → St → Prop) => ∃ x12 : Int, loadV S3 (V.ptr S.next 0) = some (V.int .i64 x12) ∧ ifC (!decide (x12 = (7 : Int))) (k1 true S3) (ifC (decide (x10 < (0 : Int))) (k1 true S3) (ifS (loadV S3 (V.ptr S.next 3)) fun x21 => ∃ x22 : Int, lenV S3 2 x21 = some (V.int .i64 x22) ∧ k1 (decide (x22 ≤ x10)) S3))) (fun (x24 : Bool) (S4 : St) => ifC x24 (ifS (storeV S4 5 (V.ptr S1.next 0) (V.agg [(V.int .i64 0), (V.int .i64 0), (V.str ([] : List UInt8)), V.nilSlice, V.nilSlice])) fun S5 => ∃ xr_a xr_b : Int, ∃ xr_c : List UInt8, ∃ xr_d xr_e : V, cellNV S5 5 (V.ptr S1.next 0) = some (V.agg [(V.int .i64 xr_a), (V.int .i64 xr_b), (V.str xr_c), xr_d, xr_e]) ∧ K xr_a xr_b xr_c xr_d xr_e false S5) (ifS (loadV S4 (V.ptr S.next 3)) fun x27 => ifS (idxAddrV 5 x27 (V.int .i64 x10)) fun x29 => ∃ x30_a x30_b : Int, ∃ x30_c : List UInt8, ∃ x30_d x30_e : V, loadNV S4 5 x29 = some (V.agg [(V.int .i64 x30_a), (V.int .i64 x30_b), (V.str x30_c), x30_d, x30_e]) ∧ ifS (storeV S4 5 (V.ptr S1.next 0) (V.agg [(V.int .i64 x30_a), (V.int .i64 x30_b), (V.str x30_c), x30_d, x30_e])) fun S6 => ∃ xr_a_1 xr_b_1 : Int, ∃ xr_c_1 : List UInt8, ∃ xr_d_1 xr_e_1 : V, cellNV S6 5 (V.ptr S1.next 0) = some (V.agg [(V.int .i64 xr_a_1), (V.int .i64 xr_b_1), (V.str xr_c_1), xr_d_1, xr_e_1]) ∧ K xr_a_1 xr_b_1 xr_c_1 xr_d_1 xr_e_1 true S6)))
abbrev json_Get.Ok (P : Program) (N : Nat → Nat) : Prop := Reads P (N Fn.json_Get) [(6, .no, [(.one (.int .i64))]), (2, (.dt (.one (.int .i64))), []), (9, (.dt (.one (.int .i64))), []), (2, (.dt (.agg [(.int .i64), (.int .i64), .str, .any, .any])), []), (6, (.dt (.agg [(.int .i64), (.int .i64), .str, .any, .any])), [])] [(3, [(24, (.one .bool))])] [] (fun A T (x0_a : Int) (x0_b : Int) (x0_c : List UInt8) (x0_d : V) (x0_e : V) (x1 : List UInt8) (S : St) (K : Int → Int → List UInt8 → V → V → Bool → St → Prop) => wpT P (envP P) T (endT A.results [(.agg [(.int .i64), (.int .i64), .str, .any, .any]), (.one .bool)] K) (frT A [(V.agg [(V.int .i64 x0_a), (V.int .i64 x0_b), (V.str x0_c), x0_d, x0_e]), (V.str x1)]) S) (fun x0_a x0_b x0_c x0_d x0_e x1 S K => json_Get.p P N x0_a x0_b x0_c x0_d x0_e x1 S K)
theorem json_Get.run {P : Program} {N : Nat → Nat} (hF : json_Get.Ok P N) {x0_a : Int} {x0_b : Int} {x0_c : List UInt8} {x0_d : V} {x0_e : V} {x1 : List UInt8} {S : St} {K : Int → Int → List UInt8 → V → V → Bool → St → Prop} (h : json_Get.p P N x0_a x0_b x0_c x0_d x0_e x1 S K) : CallA P (N Fn.json_Get) [(V.agg [(V.int .i64 x0_a), (V.int .i64 x0_b), (V.str x0_c), x0_d, x0_e]), (V.str x1)] S (retT [(.agg [(.int .i64), (.int .i64), .str, .any, .any]), (.one .bool)] K) := hF.run (fun q => q x0_a x0_b x0_c x0_d x0_e x1 S K) h rfl

def json_Parse_1.p (P : Program) (N : Nat → Nat) (x0 : V) (x1 : V) (x : V) (S : St) (K : St → Prop) : Prop :=
  ∃ x5 : Bool, eqV 5 [] x V.nilIface = some x5 ∧ ifC (!x5) (assertV (N Fn.ty_json_wrong) false (V.agg []) x = some (V.agg []) ∧ ifS (storeV S 5 x0 (V.agg [(V.int .i64 0), (V.int .i64 0), (V.str ([] : List UInt8)), V.nilSlice, V.nilSlice])) fun S1 => ifS (storeV S1 1 x1 (V.int .i64 200)) fun S2 => K  S2) (K  S)
abbrev json_Parse_1.Ok (P : Program) (N : Nat → Nat) : Prop := ReadsR P (N Fn.json_Parse_1) [(3, (.dt (.agg [])), []), (0, (.dt (.agg [(.int .i64), (.int .i64), .str, .any, .any])), [])] [] [] (fun A T (x0 : V) (x1 : V) (x : V) (S : St) (K : St → Prop) => wpT P (envP P) T (endRT K) (frR A [x0, x1] x) S) (fun x0 x1 x S K => json_Parse_1.p P N x0 x1 x S K)
theorem json_Parse_1.run {P : Program} {N : Nat → Nat} (hF : json_Parse_1.Ok P N) {x0 : V} {x1 : V} {pv : Option V} {S : St} {K : St → Prop} (h : json_Parse_1.p P N x0 x1 (pv.getD .nilIface) S K) : CallD P (N Fn.json_Parse_1) [x0, x1] pv S (fun b S' => b = pv.isSome ∧ K S') := hF.run (fun q => q x0 x1 (pv.getD .nilIface) S K) h rfl

def json_reading_blanks.p (P : Program) (N : Nat → Nat) (x0 : V) (S : St) (K : St → Prop) : Prop :=
  nilV x0 = some x0 ∧ ifS (fieldAddrV 0 x0) fun x5 => ∃ x6 : List UInt8, loadV S x5 = some (V.str x6) ∧ CallA P (N Fn.strings_TrimLeft) [(V.str x6), (V.str ([32, 9, 10, 13] : List UInt8))] S (retT [(.one .str)] fun (x7 : List UInt8) (S1 : St) => nilV x0 = some x0 ∧ ifS (fieldAddrV 0 x0) fun x9 => ifS (storeV S1 1 x9 (V.str x7)) fun S2 => K  S2)
abbrev json_reading_blanks.Ok (P : Program) (N : Nat → Nat) : Prop := Reads P (N Fn.json_reading_blanks) [(4, (.dt (.one .str)), []), (0, .no, [(.one .str)])] [] [] (fun A T (x0 : V) (S : St) (K : St → Prop) => wpT P (envP P) T (endT A.results [] K) (frT A [x0]) S) (fun x0 S K => json_reading_blanks.p P N x0 S K)
theorem json_reading_blanks.run {P : Program} {N : Nat → Nat} (hF : json_reading_blanks.Ok P N) {x0 : V} {S : St} {K : St → Prop} (h : json_reading_blanks.p P N x0 S K) : CallA P (N Fn.json_reading_blanks) [x0] S (retT [] K) := hF.run (fun q => q x0 S K) h rfl

def json_reading_value.p (P : Program) (N : Nat → Nat) (x0 : V) (S : St) (KP : V → St → Prop) (K : Int → Int → List UInt8 → V → V → St → Prop) : Prop :=
  newS S (.cells (V.cells x0) true) fun S1 => newS S1 (.cells [(V.int .i64 0), (V.int .i64 0), (V.str ([] : List UInt8)), V.nilSlice, V.nilSlice] true) fun S2 => ifS (loadV S2 (V.ptr S.next 0)) fun x6 => CallA P (N Fn.json_reading_comes) [x6, (V.str ([110, 117, 108, 108] : List UInt8))] S2 (retK [(.one .bool)] KP fun (x7 : Bool) (S3 : St) => ifC x7 (ifS (storeV S3 5 (V.ptr S1.next 0) (V.agg [(V.int .i64 1), (V.int .i64 0), (V.str ([] : List UInt8)), V.nilSlice, V.nilSlice])) fun S4 => ∃ xr_a xr_b : Int, ∃ xr_c : List UInt8, ∃ xr_d xr_e : V, cellNV S4 5 (V.ptr S1.next 0) = some (V.agg [(V.int .i64 xr_a), (V.int .i64 xr_b), (V.str xr_c), xr_d, xr_e]) ∧ K xr_a xr_b xr_c xr_d xr_e S4) (ifS (loadV S3 (V.ptr S.next 0)) fun x10 => CallA P (N Fn.json_reading_comes) [x10, (V.str ([102, 97, 108, 115, 101] : List UInt8))] S3 (retK [(.one .bool)] KP fun (x11 : Bool) (S5 : St) => ifC x11 (ifS (storeV S5 5 (V.ptr S1.next 0) (V.agg [(V.int .i64 2), (V.int .i64 0), (V.str ([] : List UInt8)), V.nilSlice, V.nilSlice])) fun S6 => ∃ xr_a_1 xr_b_1 : Int, ∃ xr_c_1 : List UInt8, ∃ xr_d_1 xr_e_1 : V, cellNV S6 5 (V.ptr S1.next 0) = some (V.agg [(V.int .i64 xr_a_1), (V.int .i64 xr_b_1), (V.str xr_c_1), xr_d_1, xr_e_1]) ∧ K xr_a_1 xr_b_1 xr_c_1 xr_d_1 xr_e_1 S6) (ifS (loadV S5 (V.ptr S.next 0)) fun x14 => CallA P (N Fn.json_reading_comes) [x14, (V.str ([116, 114, 117, 101] : List UInt8))] S5 (retK [(.one .bool)] KP fun (x15 : Bool) (S7 : St) => ifC x15 (ifS (storeV S7 5 (V.ptr S1.next 0) (V.agg [(V.int .i64 3), (V.int .i64 0), (V.str ([] : List UInt8)), V.nilSlice, V.nilSlice])) fun S8 => ∃ xr_a_2 xr_b_2 : Int, ∃ xr_c_2 : List UInt8, ∃ xr_d_2 xr_e_2 : V, cellNV S8 5 (V.ptr S1.next 0) = some (V.agg [(V.int .i64 xr_a_2), (V.int .i64 xr_b_2), (V.str xr_c_2), xr_d_2, xr_e_2]) ∧ K xr_a_2 xr_b_2 xr_c_2 xr_d_2 xr_e_2 S8) (ifS (loadV S7 (V.ptr S.next 0)) fun x18 => CallA P (N Fn.json_reading_comes) [x18, (V.str ([34] : List UInt8))] S7 (retK [(.one .bool)] KP fun (x19 : Bool) (S9 : St) => ifC x19 (ifS (loadV S9 (V.ptr S.next 0)) fun x20 => CallA P (N Fn.json_reading_text) [x20] S9 (retK [(.one .str)] KP fun (x21 : List UInt8) (S10 : St) => ifS (storeV S10 5 (V.ptr S1.next 0) (V.agg [(V.int .i64 5), (V.int .i64 0), (V.str x21), V.nilSlice, V.nilSlice])) fun S11 => ∃ xr_a_3 xr_b_3 : Int, ∃ xr_c_3 : List UInt8, ∃ xr_d_3 xr_e_3 : V, cellNV S11 5 (V.ptr S1.next 0) = some (V.agg [(V.int .i64 xr_a_3), (V.int .i64 xr_b_3), (V.str xr_c_3), xr_d_3, xr_e_3]) ∧ K xr_a_3 xr_b_3 xr_c_3 xr_d_3 xr_e_3 S11)) (ifS (loadV S9 (V.ptr S.next 0)) fun x24 => CallA P (N Fn.json_reading_comes) [x24, (V.str ([91] : List UInt8))] S9 (retK [(.one .bool)] KP fun (x25 : Bool) (S12 : St) => ifC x25 (newS S12 (.cells [(V.int .i64 0), (V.int .i64 0), (V.str ([] : List UInt8)), V.nilSlice, V.nilSlice] true) fun S13 => ifS (storeV S13 5 (V.ptr S12.next 0) (V.agg [(V.int .i64 6), (V.int .i64 0), (V.str ([] : List UInt8)), V.nilSlice, V.nilSlice])) fun S14 => ifS (loadV S14 (V.ptr S.next 0)) fun x27 => CallA P (N Fn.json_reading_list) [x27, (V.str ([93] : List UInt8)), (V.func (.func (N Fn.json_reading_value_1)) [] [(V.ptr S12.next 0), (V.ptr S.next 0)])] S14 (retK [] KP fun (S15 : St) => ∃ x30_a x30_b : Int, ∃ x30_c : List UInt8, ∃ x30_d x30_e : V, loadNV S15 5 (V.ptr S12.next 0) = some (V.agg [(V.int .i64 x30_a), (V.int .i64 x30_b), (V.str x30_c), x30_d, x30_e]) ∧ ifS (storeV S15 5 (V.ptr S1.next 0) (V.agg [(V.int .i64 x30_a), (V.int .i64 x30_b), (V.str x30_c), x30_d, x30_e])) fun S16 => ∃ xr_a_4 xr_b_4 : Int, ∃ xr_c_4 : List UInt8, ∃ xr_d_4 xr_e_4 : V, cellNV S16 5 (V.ptr S1.next 0) = some (V.agg [(V.int .i64 xr_a_4), (V.int .i64 xr_b_4), (V.str xr_c_4), xr_d_4, xr_e_4]) ∧ K xr_a_4 xr_b_4 xr_c_4 xr_d_4 xr_e_4 S16)) (ifS (loadV S12 (V.ptr S.next 0)) fun x32 => CallA P (N Fn.json_reading_comes) [x32, (V.str ([123] : List UInt8))] S12 (retK [(.one .bool)] KP fun (x33 : Bool) (S17 : St) => ifC x33 (newS S17 (.cells [(V.int .i64 0), (V.int .i64 0), (V.str ([] : List UInt8)), V.nilSlice, V.nilSlice] true) fun S18 => ifS (storeV S18 5 (V.ptr S17.next 0) (V.agg [(V.int .i64 7), (V.int .i64 0), (V.str ([] : List UInt8)), V.nilSlice, V.nilSlice])) fun S19 => ifS (loadV S19 (V.ptr S.next 0)) fun x35 => CallA P (N Fn.json_reading_list) [x35, (V.str ([125] : List UInt8)), (V.func (.func (N Fn.json_reading_value_2)) [] [(V.ptr S.next 0), (V.ptr S17.next 0)])] S19 (retK [] KP fun (S20 : St) => ∃ x38_a x38_b : Int, ∃ x38_c : List UInt8, ∃ x38_d x38_e : V, loadNV S20 5 (V.ptr S17.next 0) = some (V.agg [(V.int .i64 x38_a), (V.int .i64 x38_b), (V.str x38_c), x38_d, x38_e]) ∧ ifS (storeV S20 5 (V.ptr S1.next 0) (V.agg [(V.int .i64 x38_a), (V.int .i64 x38_b), (V.str x38_c), x38_d, x38_e])) fun S21 => ∃ xr_a_5 xr_b_5 : Int, ∃ xr_c_5 : List UInt8, ∃ xr_d_5 xr_e_5 : V, cellNV S21 5 (V.ptr S1.next 0) = some (V.agg [(V.int .i64 xr_a_5), (V.int .i64 xr_b_5), (V.str xr_c_5), xr_d_5, xr_e_5]) ∧ K xr_a_5 xr_b_5 xr_c_5 xr_d_5 xr_e_5 S21)) (ifS (loadV S17 (V.ptr S.next 0)) fun x39 => CallA P (N Fn.json_reading_number) [x39] S17 (retK [(.one (.int .i64))] KP fun (x40 : Int) (S22 : St) => ifS (storeV S22 5 (V.ptr S1.next 0) (V.agg [(V.int .i64 4), (V.int .i64 x40), (V.str ([] : List UInt8)), V.nilSlice, V.nilSlice])) fun S23 => ∃ xr_a_6 xr_b_6 : Int, ∃ xr_c_6 : List UInt8, ∃ xr_d_6 xr_e_6 : V, cellNV S23 5 (V.ptr S1.next 0) = some (V.agg [(V.int .i64 xr_a_6), (V.int .i64 xr_b_6), (V.str xr_c_6), xr_d_6, xr_e_6]) ∧ K xr_a_6 xr_b_6 xr_c_6 xr_d_6 xr_e_6 S23)))))))))))))
abbrev json_reading_value.Ok (P : Program) (N : Nat → Nat) : Prop := Reads P (N Fn.json_reading_value) [(3, .no, [(.one .bool)]), (1, (.dt (.agg [(.int .i64), (.int .i64), .str, .any, .any])), []), (2, .no, [(.one .bool)]), (1, (.dt (.agg [(.int .i64), (.int .i64), .str, .any, .any])), []), (2, .no, [(.one .bool)]), (1, (.dt (.agg [(.int .i64), (.int .i64), .str, .any, .any])), []), (2, .no, [(.one .bool)]), (2, .no, [(.one .str)]), (0, (.dt (.agg [(.int .i64), (.int .i64), .str, .any, .any])), []), (2, .no, [(.one .bool)]), (1, (.dt (.agg [(.int .i64), (.int .i64), .str, .any, .any])), []), (5, (.dt (.agg [(.int .i64), (.int .i64), .str, .any, .any])), []), (2, .no, [(.one .bool)]), (1, (.dt (.agg [(.int .i64), (.int .i64), .str, .any, .any])), []), (5, (.dt (.agg [(.int .i64), (.int .i64), .str, .any, .any])), []), (2, .no, [(.one (.int .i64))]), (0, (.dt (.agg [(.int .i64), (.int .i64), .str, .any, .any])), [])] [] [] (fun A T (x0 : V) (S : St) (KP : V → St → Prop) (K : Int → Int → List UInt8 → V → V → St → Prop) => wpK P KP (envP P) T (endK A.results [(.agg [(.int .i64), (.int .i64), .str, .any, .any])] KP K) (frT A [x0]) S) (fun x0 S KP K => json_reading_value.p P N x0 S KP K)
theorem json_reading_value.run {P : Program} {N : Nat → Nat} (hF : json_reading_value.Ok P N) {x0 : V} {S : St} {KP : V → St → Prop} {K : Int → Int → List UInt8 → V → V → St → Prop} (h : json_reading_value.p P N x0 S KP K) : CallA P (N Fn.json_reading_value) [x0] S (retK [(.agg [(.int .i64), (.int .i64), .str, .any, .any])] KP K) := hF.runK (fun q => q x0 S KP K) h rfl

def json_is.p (P : Program) (N : Nat → Nat) (x0 : Bool) (S : St) (KP : V → St → Prop) (K : St → Prop) : Prop :=
  ifC (!x0) (KP (V.iface (N Fn.ty_json_wrong) (V.agg [])) S) (K  S)
abbrev json_is.Ok (P : Program) (N : Nat → Nat) : Prop := Reads P (N Fn.json_is) [(2, (.dt (.agg [])), [])] [] [] (fun A T (x0 : Bool) (S : St) (KP : V → St → Prop) (K : St → Prop) => wpK P KP (envP P) T (endK A.results [] KP K) (frT A [(V.bool x0)]) S) (fun x0 S KP K => json_is.p P N x0 S KP K)
theorem json_is.run {P : Program} {N : Nat → Nat} (hF : json_is.Ok P N) {x0 : Bool} {S : St} {KP : V → St → Prop} {K : St → Prop} (h : json_is.p P N x0 S KP K) : CallA P (N Fn.json_is) [(V.bool x0)] S (retK [] KP K) := hF.runK (fun q => q x0 S KP K) h rfl

def json_lay.p (P : Program) (N : Nat → Nat) (x0 : V) (x1_a : Int) (x1_b : Int) (x1_c : List UInt8) (x1_d : V) (x1_e : V) (S : St) (K : St → Prop) : Prop :=
  newS S (.cells [(V.int .i64 x1_a), (V.int .i64 x1_b), (V.str x1_c), x1_d, x1_e] true) fun S1 => ∃ x8 : Int, loadV S1 (V.ptr S.next 0) = some (V.int .i64 x8) ∧ ifC (decide (x8 = (1 : Int))) (CallA P (N Fn.strings_Builder_WriteString) [x0, (V.str ([110, 117, 108, 108] : List UInt8))] S1 (retT [(.one (.int .i64)), (.one .any)] fun (x51a : Int) (x51b : V) (S2 : St) => K  S2)) (ifC (decide (x8 = (2 : Int))) (CallA P (N Fn.strings_Builder_WriteString) [x0, (V.str ([102, 97, 108, 115, 101] : List UInt8))] S1 (retT [(.one (.int .i64)), (.one .any)] fun (x55a : Int) (x55b : V) (S3 : St) => K  S3)) (ifC (decide (x8 = (3 : Int))) (CallA P (N Fn.strings_Builder_WriteString) [x0, (V.str ([116, 114, 117, 101] : List UInt8))] S1 (retT [(.one (.int .i64)), (.one .any)] fun (x59a : Int) (x59b : V) (S4 : St) => K  S4)) (ifC (decide (x8 = (4 : Int))) (∃ x64 : Int, loadV S1 (V.ptr S.next 1) = some (V.int .i64 x64) ∧ CallA P (N Fn.strconv_Itoa) [(V.int .i64 x64)] S1 (retT [(.one .str)] fun (x65 : List UInt8) (S5 : St) => CallA P (N Fn.strings_Builder_WriteString) [x0, (V.str x65)] S5 (retT [(.one (.int .i64)), (.one .any)] fun (x66a : Int) (x66b : V) (S6 : St) => K  S6))) (ifC (decide (x8 = (5 : Int))) (∃ x71 : List UInt8, loadV S1 (V.ptr S.next 2) = some (V.str x71) ∧ CallA P (N Fn.json_quote) [x0, (V.str x71)] S1 (retT [] fun (S7 : St) => K  S7)) (Join1 (fun (k1 : List UInt8 → St → Prop) => ∃ x10 : Int, loadV S1 (V.ptr S.next 0) = some (V.int .i64 x10) ∧ ifC (decide (x10 = (7 : Int))) (k1 ([123, 125] : List UInt8) S1) (k1 ([91, 93] : List UInt8) S1)) (fun (x4 : List UInt8) (S8 : St) => ∃ x14 : Int, idxStrV (V.str x4) (V.int .i64 0) = some (V.int .u8 x14) ∧ CallA P (N Fn.strings_Builder_WriteByte) [x0, (V.int .u8 x14)] S8 (retT [(.one .any)] fun (x15 : V) (S9 : St) => ifS (loadV S9 (V.ptr S.next 3)) fun x17 => ∃ x18 : Int, lenV S9 2 x17 = some (V.int .i64 x18) ∧ Loop1 (fun (k2 : Int → St → Prop) (x19 : Int) (S10 : St) => ifC (decide (x19 < x18)) (ifS (idxAddrV 5 x17 (V.int .i64 x19)) fun x22 => ∃ x23_a x23_b : Int, ∃ x23_c : List UInt8, ∃ x23_d x23_e : V, loadNV S10 5 x22 = some (V.agg [(V.int .i64 x23_a), (V.int .i64 x23_b), (V.str x23_c), x23_d, x23_e]) ∧ newS S10 (.cells [(V.int .i64 0), (V.int .i64 0), (V.str ([] : List UInt8)), V.nilSlice, V.nilSlice] true) fun S11 => ifS (storeV S11 5 (V.ptr S10.next 0) (V.agg [(V.int .i64 x23_a), (V.int .i64 x23_b), (V.str x23_c), x23_d, x23_e])) fun S12 => Join0 (fun (k3 : St → Prop) => ifC (decide ((0 : Int) < x19)) (CallA P (N Fn.strings_Builder_WriteByte) [x0, (V.int .u8 44)] S12 (retT [(.one .any)] fun (x27 : V) (S14 : St) => k3  S14)) (k3  S12)) (fun (S13 : St) => Join0 (fun (k4 : St → Prop) => ∃ x29 : Int, loadV S13 (V.ptr S.next 0) = some (V.int .i64 x29) ∧ ifC (decide (x29 = (7 : Int))) (ifS (loadV S13 (V.ptr S.next 4)) fun x33 => ifS (idxAddrV 1 x33 (V.int .i64 x19)) fun x35 => ∃ x36 : List UInt8, loadV S13 x35 = some (V.str x36) ∧ CallA P (N Fn.json_quote) [x0, (V.str x36)] S13 (retT [] fun (S16 : St) => CallA P (N Fn.strings_Builder_WriteByte) [x0, (V.int .u8 58)] S16 (retT [(.one .any)] fun (x39 : V) (S17 : St) => k4  S17))) (k4  S13)) (fun (S15 : St) => ∃ x41_a x41_b : Int, ∃ x41_c : List UInt8, ∃ x41_d x41_e : V, loadNV S15 5 (V.ptr S10.next 0) = some (V.agg [(V.int .i64 x41_a), (V.int .i64 x41_b), (V.str x41_c), x41_d, x41_e]) ∧ CallA P (N Fn.json_lay) [x0, (V.agg [(V.int .i64 x41_a), (V.int .i64 x41_b), (V.str x41_c), x41_d, x41_e])] S15 (retT [] fun (S18 : St) => setI (IntKind.i64.wrap (x19 + (1 : Int))) fun x43 => k2 x43 S18)))) (∃ x46 : Int, idxStrV (V.str x4) (V.int .i64 1) = some (V.int .u8 x46) ∧ CallA P (N Fn.strings_Builder_WriteByte) [x0, (V.int .u8 x46)] S10 (retT [(.one .any)] fun (x47 : V) (S19 : St) => K  S19))) 0 S9)))))))
abbrev json_lay.Ok (P : Program) (N : Nat → Nat) : Prop := Reads P (N Fn.json_lay) [(2, (.dt (.one (.int .i64))), []), (3, .no, [(.one (.int .i64)), (.one .any)]), (3, .no, [(.one (.int .i64)), (.one .any)]), (3, .no, [(.one (.int .i64)), (.one .any)]), (4, (.dt (.one (.int .i64))), []), (0, .no, [(.one .str)]), (0, .no, [(.one (.int .i64)), (.one .any)]), (4, (.dt (.one .str)), []), (3, (.dt (.one (.int .i64))), []), (4, (.dt (.one (.int .u8))), []), (0, .no, [(.one .any)]), (2, (.dt (.one (.int .i64))), []), (4, (.dt (.agg [(.int .i64), (.int .i64), .str, .any, .any])), []), (6, .no, [(.one .any)]), (1, (.dt (.one (.int .i64))), []), (6, (.dt (.one .str)), []), (2, .no, [(.one .any)]), (1, (.dt (.agg [(.int .i64), (.int .i64), .str, .any, .any])), []), (5, (.dt (.one (.int .u8))), []), (0, .no, [(.one .any)])] [(8, [(4, (.one .str))]), (8, []), (1, [])] [[(19, (.one (.int .i64)))]] (fun A T (x0 : V) (x1_a : Int) (x1_b : Int) (x1_c : List UInt8) (x1_d : V) (x1_e : V) (S : St) (K : St → Prop) => wpT P (envP P) T (endT A.results [] K) (frT A [x0, (V.agg [(V.int .i64 x1_a), (V.int .i64 x1_b), (V.str x1_c), x1_d, x1_e])]) S) (fun x0 x1_a x1_b x1_c x1_d x1_e S K => json_lay.p P N x0 x1_a x1_b x1_c x1_d x1_e S K)
theorem json_lay.run {P : Program} {N : Nat → Nat} (hF : json_lay.Ok P N) {x0 : V} {x1_a : Int} {x1_b : Int} {x1_c : List UInt8} {x1_d : V} {x1_e : V} {S : St} {K : St → Prop} (h : json_lay.p P N x0 x1_a x1_b x1_c x1_d x1_e S K) : CallA P (N Fn.json_lay) [x0, (V.agg [(V.int .i64 x1_a), (V.int .i64 x1_b), (V.str x1_c), x1_d, x1_e])] S (retT [] K) := hF.run (fun q => q x0 x1_a x1_b x1_c x1_d x1_e S K) h rfl

def json_all.p (P : Program) (N : Nat → Nat) (x0_a : Int) (x0_b : Int) (x0_c : List UInt8) (x0_d : V) (x0_e : V) (x1 : V) (S : St) (K : Bool → St → Prop) : Prop :=
  newS S (.cells [(V.int .i64 x0_a), (V.int .i64 x0_b), (V.str x0_c), x0_d, x0_e] true) fun S1 => newS S1 (.cells (V.cells x1) true) fun S2 => ifS (loadV S2 (V.ptr S1.next 0)) fun x5 => ∃ x6_a x6_b : Int, ∃ x6_c : List UInt8, ∃ x6_d x6_e : V, loadNV S2 5 (V.ptr S.next 0) = some (V.agg [(V.int .i64 x6_a), (V.int .i64 x6_b), (V.str x6_c), x6_d, x6_e]) ∧ ifS (calleeV (envP P) x5 [(V.agg [(V.int .i64 x6_a), (V.int .i64 x6_b), (V.str x6_c), x6_d, x6_e])]) fun xf => CallA P xf.1 xf.2 S2 (retT [(.one .bool)] fun (x7 : Bool) (S3 : St) => ifC x7 (ifS (loadV S3 (V.ptr S.next 3)) fun x10 => CallA P (N Fn.slices_ContainsFunc_Lapi_Value) [x10, (V.func (.func (N Fn.json_all_1)) [] [(V.ptr S1.next 0)])] S3 (retT [(.one .bool)] fun (x12 : Bool) (S4 : St) => K (!x12) S4)) (K false S3))
abbrev json_all.Ok (P : Program) (N : Nat → Nat) : Prop := Reads P (N Fn.json_all) [(4, (.dt (.agg [(.int .i64), (.int .i64), .str, .any, .any])), []), (0, .no, [(.one .bool)]), (4, .no, [(.one .bool)])] [] [] (fun A T (x0_a : Int) (x0_b : Int) (x0_c : List UInt8) (x0_d : V) (x0_e : V) (x1 : V) (S : St) (K : Bool → St → Prop) => wpT P (envP P) T (endT A.results [(.one .bool)] K) (frT A [(V.agg [(V.int .i64 x0_a), (V.int .i64 x0_b), (V.str x0_c), x0_d, x0_e]), x1]) S) (fun x0_a x0_b x0_c x0_d x0_e x1 S K => json_all.p P N x0_a x0_b x0_c x0_d x0_e x1 S K)
theorem json_all.run {P : Program} {N : Nat → Nat} (hF : json_all.Ok P N) {x0_a : Int} {x0_b : Int} {x0_c : List UInt8} {x0_d : V} {x0_e : V} {x1 : V} {S : St} {K : Bool → St → Prop} (h : json_all.p P N x0_a x0_b x0_c x0_d x0_e x1 S K) : CallA P (N Fn.json_all) [(V.agg [(V.int .i64 x0_a), (V.int .i64 x0_b), (V.str x0_c), x0_d, x0_e]), x1] S (retT [(.one .bool)] K) := hF.run (fun q => q x0_a x0_b x0_c x0_d x0_e x1 S K) h rfl

def json_formed.p (P : Program) (N : Nat → Nat) (x0_a : Int) (x0_b : Int) (x0_c : List UInt8) (x0_d : V) (x0_e : V) (S : St) (K : Bool → St → Prop) : Prop :=
  newS S (.cells [(V.int .i64 x0_a), (V.int .i64 x0_b), (V.str x0_c), x0_d, x0_e] true) fun S1 => ∃ x4_a x4_b : Int, ∃ x4_c : List UInt8, ∃ x4_d x4_e : V, loadNV S1 5 (V.ptr S.next 0) = some (V.agg [(V.int .i64 x4_a), (V.int .i64 x4_b), (V.str x4_c), x4_d, x4_e]) ∧ newS S1 (.cells [(V.int .i64 0), (V.int .i64 0), (V.str ([] : List UInt8)), V.nilSlice, V.nilSlice] true) fun S2 => ifS (storeV S2 5 (V.ptr S1.next 0) (V.agg [(V.int .i64 x4_a), (V.int .i64 x4_b), (V.str x4_c), x4_d, x4_e])) fun S3 => Join0 (fun (k1 : St → Prop) => ∃ x6 : Int, loadV S3 (V.ptr S.next 0) = some (V.int .i64 x6) ∧ Join1 (fun (k2 : Bool → St → Prop) => ifC (decide (x6 = (1 : Int))) (k2 true S3) (ifC (decide (x6 = (2 : Int))) (k2 true S3) (k2 (decide (x6 = (3 : Int))) S3))) (fun (x7 : Bool) (S5 : St) => ifC x7 (k1  S5) (ifC (decide (x6 = (4 : Int))) (ifS (storeV S5 1 (V.ptr S1.next 1) (V.int .i64 0)) fun S6 => k1  S6) (ifC (decide (x6 = (5 : Int))) (ifS (storeV S5 1 (V.ptr S1.next 2) (V.str ([] : List UInt8))) fun S7 => k1  S7) (ifC (decide (x6 = (6 : Int))) (ifS (storeV S5 1 (V.ptr S1.next 3) V.nilSlice) fun S8 => k1  S8) (ifC (decide (x6 = (7 : Int))) (ifS (loadV S5 (V.ptr S.next 4)) fun x23 => ∃ x24 : Int, lenV S5 2 x23 = some (V.int .i64 x24) ∧ ifS (loadV S5 (V.ptr S.next 3)) fun x26 => ∃ x27 : Int, lenV S5 2 x26 = some (V.int .i64 x27) ∧ ifC (!decide (x24 = x27)) (K false S5) (ifS (storeV S5 1 (V.ptr S1.next 3) V.nilSlice) fun S9 => ifS (storeV S9 1 (V.ptr S1.next 4) V.nilSlice) fun S10 => k1  S10)) (K false S5))))))) (fun (S4 : St) => ∃ x32 : Int, loadV S4 (V.ptr S1.next 1) = some (V.int .i64 x32) ∧ ifC (decide (x32 = (0 : Int))) (∃ x36 : List UInt8, loadV S4 (V.ptr S1.next 2) = some (V.str x36) ∧ ifC (decide (x36 = ([] : List UInt8))) (ifS (loadV S4 (V.ptr S1.next 3)) fun x41 => ∃ x42 : Int, lenV S4 2 x41 = some (V.int .i64 x42) ∧ ifC (decide (x42 = (0 : Int))) (ifS (loadV S4 (V.ptr S1.next 4)) fun x47 => ∃ x48 : Int, lenV S4 2 x47 = some (V.int .i64 x48) ∧ K (decide (x48 = (0 : Int))) S4) (K false S4)) (K false S4)) (K false S4))
abbrev json_formed.Ok (P : Program) (N : Nat → Nat) : Prop := Reads P (N Fn.json_formed) [(2, (.dt (.agg [(.int .i64), (.int .i64), .str, .any, .any])), []), (3, (.dt (.one (.int .i64))), []), (22, (.dt (.one (.int .i64))), []), (2, (.dt (.one (.int .i64))), []), (8, (.dt (.one (.int .i64))), []), (3, (.dt (.one .str)), []), (5, (.dt (.one (.int .i64))), []), (5, (.dt (.one (.int .i64))), [])] [(2, []), (1, [(7, (.one .bool))])] [] (fun A T (x0_a : Int) (x0_b : Int) (x0_c : List UInt8) (x0_d : V) (x0_e : V) (S : St) (K : Bool → St → Prop) => wpT P (envP P) T (endT A.results [(.one .bool)] K) (frT A [(V.agg [(V.int .i64 x0_a), (V.int .i64 x0_b), (V.str x0_c), x0_d, x0_e])]) S) (fun x0_a x0_b x0_c x0_d x0_e S K => json_formed.p P N x0_a x0_b x0_c x0_d x0_e S K)
theorem json_formed.run {P : Program} {N : Nat → Nat} (hF : json_formed.Ok P N) {x0_a : Int} {x0_b : Int} {x0_c : List UInt8} {x0_d : V} {x0_e : V} {S : St} {K : Bool → St → Prop} (h : json_formed.p P N x0_a x0_b x0_c x0_d x0_e S K) : CallA P (N Fn.json_formed) [(V.agg [(V.int .i64 x0_a), (V.int .i64 x0_b), (V.str x0_c), x0_d, x0_e])] S (retT [(.one .bool)] K) := hF.run (fun q => q x0_a x0_b x0_c x0_d x0_e S K) h rfl

def json_deep.p (P : Program) (N : Nat → Nat) (x0_a : Int) (x0_b : Int) (x0_c : List UInt8) (x0_d : V) (x0_e : V) (S : St) (K : Int → St → Prop) : Prop :=
  newS S (.cells [(V.int .i64 x0_a), (V.int .i64 x0_b), (V.str x0_c), x0_d, x0_e] true) fun S1 => Join0 (fun (k1 : St → Prop) => ∃ x7 : Int, loadV S1 (V.ptr S.next 0) = some (V.int .i64 x7) ∧ ifC (!decide (x7 = (6 : Int))) (∃ x11 : Int, loadV S1 (V.ptr S.next 0) = some (V.int .i64 x11) ∧ ifC (!decide (x11 = (7 : Int))) (K 0 S1) (k1  S1)) (k1  S1)) (fun (S2 : St) => ifS (loadV S2 (V.ptr S.next 3)) fun x15 => ∃ x16 : Int, lenV S2 2 x15 = some (V.int .i64 x16) ∧ Loop2 (fun (k2 : Int → Int → St → Prop) (x3 : Int) (x17 : Int) (S3 : St) => ifC (decide (x17 < x16)) (ifS (idxAddrV 5 x15 (V.int .i64 x17)) fun x19 => ∃ x20_a x20_b : Int, ∃ x20_c : List UInt8, ∃ x20_d x20_e : V, loadNV S3 5 x19 = some (V.agg [(V.int .i64 x20_a), (V.int .i64 x20_b), (V.str x20_c), x20_d, x20_e]) ∧ newS S3 (.cells [(V.int .i64 0), (V.int .i64 0), (V.str ([] : List UInt8)), V.nilSlice, V.nilSlice] true) fun S4 => ifS (storeV S4 5 (V.ptr S3.next 0) (V.agg [(V.int .i64 x20_a), (V.int .i64 x20_b), (V.str x20_c), x20_d, x20_e])) fun S5 => ∃ x22_a x22_b : Int, ∃ x22_c : List UInt8, ∃ x22_d x22_e : V, loadNV S5 5 (V.ptr S3.next 0) = some (V.agg [(V.int .i64 x22_a), (V.int .i64 x22_b), (V.str x22_c), x22_d, x22_e]) ∧ CallA P (N Fn.json_deep) [(V.agg [(V.int .i64 x22_a), (V.int .i64 x22_b), (V.str x22_c), x22_d, x22_e])] S5 (retT [(.one (.int .i64))] fun (x23 : Int) (S6 : St) => setI (IntKind.i64.wrap (x17 + (1 : Int))) fun x25 => k2 (goMax x3 x23) x25 S6)) (setI (IntKind.i64.wrap (x3 + (1 : Int))) fun x27 => K x27 S3)) 0 0 S2)
abbrev json_deep.Ok (P : Program) (N : Nat → Nat) : Prop := Reads P (N Fn.json_deep) [(3, (.dt (.one (.int .i64))), []), (3, (.dt (.one (.int .i64))), []), (6, (.dt (.one (.int .i64))), []), (3, (.dt (.agg [(.int .i64), (.int .i64), .str, .any, .any])), []), (3, (.dt (.agg [(.int .i64), (.int .i64), .str, .any, .any])), []), (0, .no, [(.one (.int .i64))])] [(1, [])] [[(3, (.one (.int .i64))), (17, (.one (.int .i64)))]] (fun A T (x0_a : Int) (x0_b : Int) (x0_c : List UInt8) (x0_d : V) (x0_e : V) (S : St) (K : Int → St → Prop) => wpT P (envP P) T (endT A.results [(.one (.int .i64))] K) (frT A [(V.agg [(V.int .i64 x0_a), (V.int .i64 x0_b), (V.str x0_c), x0_d, x0_e])]) S) (fun x0_a x0_b x0_c x0_d x0_e S K => json_deep.p P N x0_a x0_b x0_c x0_d x0_e S K)
theorem json_deep.run {P : Program} {N : Nat → Nat} (hF : json_deep.Ok P N) {x0_a : Int} {x0_b : Int} {x0_c : List UInt8} {x0_d : V} {x0_e : V} {S : St} {K : Int → St → Prop} (h : json_deep.p P N x0_a x0_b x0_c x0_d x0_e S K) : CallA P (N Fn.json_deep) [(V.agg [(V.int .i64 x0_a), (V.int .i64 x0_b), (V.str x0_c), x0_d, x0_e])] S (retT [(.one (.int .i64))] K) := hF.run (fun q => q x0_a x0_b x0_c x0_d x0_e S K) h rfl

def json_Check_1.p (P : Program) (N : Nat → Nat) (x0_a : Int) (x0_b : Int) (x0_c : List UInt8) (x0_d : V) (x0_e : V) (S : St) (K : Bool → St → Prop) : Prop :=
  newS S (.cells [(V.int .i64 x0_a), (V.int .i64 x0_b), (V.str x0_c), x0_d, x0_e] true) fun S1 => ∃ x4 : Int, loadV S1 (V.ptr S.next 1) = some (V.int .i64 x4) ∧ ifC (decide (x4 ≤ (999999999999999 : Int))) (∃ x8 : Int, loadV S1 (V.ptr S.next 1) = some (V.int .i64 x8) ∧ K (decide ((-999999999999999 : Int) ≤ x8)) S1) (K false S1)
abbrev json_Check_1.Ok (P : Program) (N : Nat → Nat) : Prop := Reads P (N Fn.json_Check_1) [(3, (.dt (.one (.int .i64))), []), (3, (.dt (.one (.int .i64))), [])] [] [] (fun A T (x0_a : Int) (x0_b : Int) (x0_c : List UInt8) (x0_d : V) (x0_e : V) (S : St) (K : Bool → St → Prop) => wpT P (envP P) T (endT A.results [(.one .bool)] K) (frT A [(V.agg [(V.int .i64 x0_a), (V.int .i64 x0_b), (V.str x0_c), x0_d, x0_e])]) S) (fun x0_a x0_b x0_c x0_d x0_e S K => json_Check_1.p P N x0_a x0_b x0_c x0_d x0_e S K)
theorem json_Check_1.run {P : Program} {N : Nat → Nat} (hF : json_Check_1.Ok P N) {x0_a : Int} {x0_b : Int} {x0_c : List UInt8} {x0_d : V} {x0_e : V} {S : St} {K : Bool → St → Prop} (h : json_Check_1.p P N x0_a x0_b x0_c x0_d x0_e S K) : CallA P (N Fn.json_Check_1) [(V.agg [(V.int .i64 x0_a), (V.int .i64 x0_b), (V.str x0_c), x0_d, x0_e])] S (retT [(.one .bool)] K) := hF.run (fun q => q x0_a x0_b x0_c x0_d x0_e S K) h rfl

def json_Check_2.p (P : Program) (N : Nat → Nat) (x0_a : Int) (x0_b : Int) (x0_c : List UInt8) (x0_d : V) (x0_e : V) (S : St) (K : Bool → St → Prop) : Prop :=
  newS S (.cells [(V.int .i64 x0_a), (V.int .i64 x0_b), (V.str x0_c), x0_d, x0_e] true) fun S1 => ifS (loadV S1 (V.ptr S.next 3)) fun x4 => ∃ x5 : Int, lenV S1 2 x4 = some (V.int .i64 x5) ∧ K (decide (x5 ≤ (1024 : Int))) S1
abbrev json_Check_2.Ok (P : Program) (N : Nat → Nat) : Prop := Reads P (N Fn.json_Check_2) [(4, (.dt (.one (.int .i64))), [])] [] [] (fun A T (x0_a : Int) (x0_b : Int) (x0_c : List UInt8) (x0_d : V) (x0_e : V) (S : St) (K : Bool → St → Prop) => wpT P (envP P) T (endT A.results [(.one .bool)] K) (frT A [(V.agg [(V.int .i64 x0_a), (V.int .i64 x0_b), (V.str x0_c), x0_d, x0_e])]) S) (fun x0_a x0_b x0_c x0_d x0_e S K => json_Check_2.p P N x0_a x0_b x0_c x0_d x0_e S K)
theorem json_Check_2.run {P : Program} {N : Nat → Nat} (hF : json_Check_2.Ok P N) {x0_a : Int} {x0_b : Int} {x0_c : List UInt8} {x0_d : V} {x0_e : V} {S : St} {K : Bool → St → Prop} (h : json_Check_2.p P N x0_a x0_b x0_c x0_d x0_e S K) : CallA P (N Fn.json_Check_2) [(V.agg [(V.int .i64 x0_a), (V.int .i64 x0_b), (V.str x0_c), x0_d, x0_e])] S (retT [(.one .bool)] K) := hF.run (fun q => q x0_a x0_b x0_c x0_d x0_e S K) h rfl

def json_Check_3.p (P : Program) (N : Nat → Nat) (x0_a : Int) (x0_b : Int) (x0_c : List UInt8) (x0_d : V) (x0_e : V) (S : St) (K : Bool → St → Prop) : Prop :=
  newS S (.cells [(V.int .i64 x0_a), (V.int .i64 x0_b), (V.str x0_c), x0_d, x0_e] true) fun S1 => newS S1 (.map [] true) fun S2 => ifS (loadV S2 (V.ptr S.next 4)) fun x8 => ∃ x9 : Int, lenV S2 2 x8 = some (V.int .i64 x9) ∧ Loop1 (fun (k1 : Int → St → Prop) (x10 : Int) (S3 : St) => ifC (decide (x10 < x9)) (ifS (idxAddrV 1 x8 (V.int .i64 x10)) fun x12 => ∃ x13 : List UInt8, loadV S3 x12 = some (V.str x13) ∧ ∃ x16 : Bool, lookupV S3 2 (V.bool false) false (V.map S1.next) (V.str x13) = some (V.bool x16) ∧ ifC x16 (K false S3) (ifS (mapUpdV S3 2 (V.map S1.next) (V.str x13) (V.bool true)) fun S4 => setI (IntKind.i64.wrap (x10 + (1 : Int))) fun x19 => k1 x19 S4)) (K true S3)) 0 S2
abbrev json_Check_3.Ok (P : Program) (N : Nat → Nat) : Prop := Reads P (N Fn.json_Check_3) [(6, (.dt (.one (.int .i64))), []), (3, (.dt (.one .str)), []), (3, (.dt (.one .bool)), [])] [] [[(10, (.one (.int .i64)))]] (fun A T (x0_a : Int) (x0_b : Int) (x0_c : List UInt8) (x0_d : V) (x0_e : V) (S : St) (K : Bool → St → Prop) => wpT P (envP P) T (endT A.results [(.one .bool)] K) (frT A [(V.agg [(V.int .i64 x0_a), (V.int .i64 x0_b), (V.str x0_c), x0_d, x0_e])]) S) (fun x0_a x0_b x0_c x0_d x0_e S K => json_Check_3.p P N x0_a x0_b x0_c x0_d x0_e S K)
theorem json_Check_3.run {P : Program} {N : Nat → Nat} (hF : json_Check_3.Ok P N) {x0_a : Int} {x0_b : Int} {x0_c : List UInt8} {x0_d : V} {x0_e : V} {S : St} {K : Bool → St → Prop} (h : json_Check_3.p P N x0_a x0_b x0_c x0_d x0_e S K) : CallA P (N Fn.json_Check_3) [(V.agg [(V.int .i64 x0_a), (V.int .i64 x0_b), (V.str x0_c), x0_d, x0_e])] S (retT [(.one .bool)] K) := hF.run (fun q => q x0_a x0_b x0_c x0_d x0_e S K) h rfl

def json_reading_comes.p (P : Program) (N : Nat → Nat) (x0 : V) (x1 : List UInt8) (S : St) (K : Bool → St → Prop) : Prop :=
  nilV x0 = some x0 ∧ ifS (fieldAddrV 0 x0) fun x10 => ∃ x11 : List UInt8, loadV S x10 = some (V.str x11) ∧ CallA P (N Fn.strings_CutPrefix) [(V.str x11), (V.str x1)] S (retT [(.one .str), (.one .bool)] fun (x13a : List UInt8) (x13b : Bool) (S1 : St) => nilV x0 = some x0 ∧ ifS (fieldAddrV 0 x0) fun x19 => ifS (storeV S1 1 x19 (V.str x13a)) fun S2 => K x13b S2)
abbrev json_reading_comes.Ok (P : Program) (N : Nat → Nat) : Prop := Reads P (N Fn.json_reading_comes) [(4, (.dt (.one .str)), []), (1, .no, [(.one .str), (.one .bool)])] [] [] (fun A T (x0 : V) (x1 : List UInt8) (S : St) (K : Bool → St → Prop) => wpT P (envP P) T (endT A.results [(.one .bool)] K) (frT A [x0, (V.str x1)]) S) (fun x0 x1 S K => json_reading_comes.p P N x0 x1 S K)
theorem json_reading_comes.run {P : Program} {N : Nat → Nat} (hF : json_reading_comes.Ok P N) {x0 : V} {x1 : List UInt8} {S : St} {K : Bool → St → Prop} (h : json_reading_comes.p P N x0 x1 S K) : CallA P (N Fn.json_reading_comes) [x0, (V.str x1)] S (retT [(.one .bool)] K) := hF.run (fun q => q x0 x1 S K) h rfl

def json_reading_list.p (P : Program) (N : Nat → Nat) (x0 : V) (x1 : List UInt8) (x2 : V) (S : St) (KP : V → St → Prop) (K : St → Prop) : Prop :=
  CallA P (N Fn.json_reading_blanks) [x0] S (retK [] KP fun (S1 : St) => CallA P (N Fn.json_reading_comes) [x0, (V.str x1)] S1 (retK [(.one .bool)] KP fun (x10 : Bool) (S2 : St) => ifC x10 (K  S2) (Loop0 (fun (k1 : St → Prop) (S3 : St) => ifS (calleeV (envP P) x2 []) fun xf => CallA P xf.1 xf.2 S3 (retK [] KP fun (S4 : St) => CallA P (N Fn.json_reading_blanks) [x0] S4 (retK [] KP fun (S5 : St) => CallA P (N Fn.json_reading_comes) [x0, (V.str x1)] S5 (retK [(.one .bool)] KP fun (x17 : Bool) (S6 : St) => ifC x17 (K  S6) (CallA P (N Fn.json_reading_comes) [x0, (V.str ([44] : List UInt8))] S6 (retK [(.one .bool)] KP fun (x19 : Bool) (S7 : St) => CallA P (N Fn.json_is) [(V.bool x19)] S7 (retK [] KP fun (S8 : St) => CallA P (N Fn.json_reading_blanks) [x0] S8 (retK [] KP fun (S9 : St) => k1  S9)))))))) S2)))
abbrev json_reading_list.Ok (P : Program) (N : Nat → Nat) : Prop := Reads P (N Fn.json_reading_list) [(4, .no, [(.one .bool)]), (6, .no, [(.one .bool)]), (1, .no, [(.one .bool)])] [] [[]] (fun A T (x0 : V) (x1 : List UInt8) (x2 : V) (S : St) (KP : V → St → Prop) (K : St → Prop) => wpK P KP (envP P) T (endK A.results [] KP K) (frT A [x0, (V.str x1), x2]) S) (fun x0 x1 x2 S KP K => json_reading_list.p P N x0 x1 x2 S KP K)
theorem json_reading_list.run {P : Program} {N : Nat → Nat} (hF : json_reading_list.Ok P N) {x0 : V} {x1 : List UInt8} {x2 : V} {S : St} {KP : V → St → Prop} {K : St → Prop} (h : json_reading_list.p P N x0 x1 x2 S KP K) : CallA P (N Fn.json_reading_list) [x0, (V.str x1), x2] S (retK [] KP K) := hF.runK (fun q => q x0 x1 x2 S KP K) h rfl

def json_reading_value_1.p (P : Program) (N : Nat → Nat) (x0 : V) (x1 : V) (S : St) (KP : V → St → Prop) (K : St → Prop) : Prop :=
  ifS (fieldAddrV 3 x0) fun x2 => ifS (loadV S x2) fun x3 => ifS (loadV S x1) fun x4 => ∃ x6 : Int, lenV S 2 x3 = some (V.int .i64 x6) ∧ (CallA P (N Fn.json_reading_value) [x4] S (retK [(.agg [(.int .i64), (.int .i64), .str, .any, .any])] KP fun (x5_a : Int) (x5_b : Int) (x5_c : List UInt8) (x5_d : V) (x5_e : V) (S1 : St) => sameK (V.block x3 ++ (V.block x2 ++ [])) S S1 (newS S1 (.cells [(V.int .i64 0), (V.int .i64 0), (V.str ([] : List UInt8)), V.nilSlice, V.nilSlice] true) fun S2 => sameK (V.block x3 ++ (V.block x1 ++ (V.block x2 ++ []))) S1 S2 (ifP (appV S2 5 80 x3 (V.slice S1.next 0 1 1 5 true)) fun x8 S3 => ifS (idxAddrV 5 x8 (V.int .i64 x6)) fun x9 => ifS (fieldAddrV 3 x0) fun x10 => (ifS (storeV S3 5 x9 (V.agg [(V.int .i64 x5_a), (V.int .i64 x5_b), (V.str x5_c), x5_d, x5_e])) fun S4 => ifS (storeV S4 1 x10 x8) fun S5 => K  S5) ∧ (ifS (storeV S3 1 x10 x8) fun S6 => ifS (storeV S6 5 x9 (V.agg [(V.int .i64 x5_a), (V.int .i64 x5_b), (V.str x5_c), x5_d, x5_e])) fun S7 => K  S7))))) ∧ (newS S (.cells [(V.int .i64 0), (V.int .i64 0), (V.str ([] : List UInt8)), V.nilSlice, V.nilSlice] true) fun S8 => sameK (V.block x3 ++ (V.block x1 ++ (V.block x2 ++ []))) S S8 (CallA P (N Fn.json_reading_value) [x4] S8 (retK [(.agg [(.int .i64), (.int .i64), .str, .any, .any])] KP fun (x5_a_1 : Int) (x5_b_1 : Int) (x5_c_1 : List UInt8) (x5_d_1 : V) (x5_e_1 : V) (S9 : St) => sameK (V.block x3 ++ (V.block x2 ++ [])) S8 S9 (ifP (appV S9 5 80 x3 (V.slice S.next 0 1 1 5 true)) fun x8_1 S10 => ifS (idxAddrV 5 x8_1 (V.int .i64 x6)) fun x9_1 => ifS (fieldAddrV 3 x0) fun x10_1 => (ifS (storeV S10 5 x9_1 (V.agg [(V.int .i64 x5_a_1), (V.int .i64 x5_b_1), (V.str x5_c_1), x5_d_1, x5_e_1])) fun S11 => ifS (storeV S11 1 x10_1 x8_1) fun S12 => K  S12) ∧ (ifS (storeV S10 1 x10_1 x8_1) fun S13 => ifS (storeV S13 5 x9_1 (V.agg [(V.int .i64 x5_a_1), (V.int .i64 x5_b_1), (V.str x5_c_1), x5_d_1, x5_e_1])) fun S14 => K  S14)))))
abbrev json_reading_value_1.Ok (P : Program) (N : Nat → Nat) : Prop := Reads P (N Fn.json_reading_value_1) [(3, (.dt (.one (.int .i64))), []), (0, .no, [(.agg [(.int .i64), (.int .i64), .str, .any, .any])]), (0, (.dt (.agg [(.int .i64), (.int .i64), .str, .any, .any])), []), (7, (.dt (.agg [(.int .i64), (.int .i64), .str, .any, .any])), []), (0, .no, [(.agg [(.int .i64), (.int .i64), .str, .any, .any])])] [] [] (fun A T (x0 : V) (x1 : V) (S : St) (KP : V → St → Prop) (K : St → Prop) => wpK P KP (envP P) T (endK A.results [] KP K) (frT A [x0, x1]) S) (fun x0 x1 S KP K => json_reading_value_1.p P N x0 x1 S KP K)
theorem json_reading_value_1.run {P : Program} {N : Nat → Nat} (hF : json_reading_value_1.Ok P N) {x0 : V} {x1 : V} {S : St} {KP : V → St → Prop} {K : St → Prop} (h : json_reading_value_1.p P N x0 x1 S KP K) : CallA P (N Fn.json_reading_value_1) [x0, x1] S (retK [] KP K) := hF.runK (fun q => q x0 x1 S KP K) h rfl

def json_reading_value_2.p (P : Program) (N : Nat → Nat) (x0 : V) (x1 : V) (S : St) (KP : V → St → Prop) (K : St → Prop) : Prop :=
  ifS (loadV S x0) fun x2 => CallA P (N Fn.json_reading_comes) [x2, (V.str ([34] : List UInt8))] S (retK [(.one .bool)] KP fun (x3 : Bool) (S1 : St) => CallA P (N Fn.json_is) [(V.bool x3)] S1 (retK [] KP fun (S2 : St) => ifS (fieldAddrV 4 x1) fun x5 => ifS (loadV S2 x5) fun x6 => ifS (loadV S2 x0) fun x7 => CallA P (N Fn.json_reading_text) [x7] S2 (retK [(.one .str)] KP fun (x8 : List UInt8) (S3 : St) => sameK (V.block x5 ++ []) S2 S3 (newS S3 (.cells [(V.str x8)] true) fun S4 => sameK (V.block x0 ++ (V.block x5 ++ [])) S3 S4 (ifP (appV S4 1 16 x6 (V.slice S3.next 0 1 1 1 true)) fun x10 S5 => ifS (fieldAddrV 4 x1) fun x11 => ifS (storeV S5 1 x11 x10) fun S6 => ifS (loadV S6 x0) fun x12 => CallA P (N Fn.json_reading_blanks) [x12] S6 (retK [] KP fun (S7 : St) => ifS (loadV S7 x0) fun x14 => CallA P (N Fn.json_reading_comes) [x14, (V.str ([58] : List UInt8))] S7 (retK [(.one .bool)] KP fun (x15 : Bool) (S8 : St) => CallA P (N Fn.json_is) [(V.bool x15)] S8 (retK [] KP fun (S9 : St) => ifS (loadV S9 x0) fun x17 => CallA P (N Fn.json_reading_blanks) [x17] S9 (retK [] KP fun (S10 : St) => ifS (fieldAddrV 3 x1) fun x19 => ifS (loadV S10 x19) fun x20 => ifS (loadV S10 x0) fun x21 => ∃ x23 : Int, lenV S10 2 x20 = some (V.int .i64 x23) ∧ (CallA P (N Fn.json_reading_value) [x21] S10 (retK [(.agg [(.int .i64), (.int .i64), .str, .any, .any])] KP fun (x22_a : Int) (x22_b : Int) (x22_c : List UInt8) (x22_d : V) (x22_e : V) (S11 : St) => sameK (V.block x20 ++ (V.block x19 ++ [])) S10 S11 (newS S11 (.cells [(V.int .i64 0), (V.int .i64 0), (V.str ([] : List UInt8)), V.nilSlice, V.nilSlice] true) fun S12 => sameK (V.block x20 ++ (V.block x0 ++ (V.block x19 ++ []))) S11 S12 (ifP (appV S12 5 80 x20 (V.slice S11.next 0 1 1 5 true)) fun x25 S13 => ifS (idxAddrV 5 x25 (V.int .i64 x23)) fun x26 => ifS (fieldAddrV 3 x1) fun x27 => (ifS (storeV S13 5 x26 (V.agg [(V.int .i64 x22_a), (V.int .i64 x22_b), (V.str x22_c), x22_d, x22_e])) fun S14 => ifS (storeV S14 1 x27 x25) fun S15 => K  S15) ∧ (ifS (storeV S13 1 x27 x25) fun S16 => ifS (storeV S16 5 x26 (V.agg [(V.int .i64 x22_a), (V.int .i64 x22_b), (V.str x22_c), x22_d, x22_e])) fun S17 => K  S17))))) ∧ (newS S10 (.cells [(V.int .i64 0), (V.int .i64 0), (V.str ([] : List UInt8)), V.nilSlice, V.nilSlice] true) fun S18 => sameK (V.block x20 ++ (V.block x0 ++ (V.block x19 ++ []))) S10 S18 (CallA P (N Fn.json_reading_value) [x21] S18 (retK [(.agg [(.int .i64), (.int .i64), .str, .any, .any])] KP fun (x22_a_1 : Int) (x22_b_1 : Int) (x22_c_1 : List UInt8) (x22_d_1 : V) (x22_e_1 : V) (S19 : St) => sameK (V.block x20 ++ (V.block x19 ++ [])) S18 S19 (ifP (appV S19 5 80 x20 (V.slice S10.next 0 1 1 5 true)) fun x25_1 S20 => ifS (idxAddrV 5 x25_1 (V.int .i64 x23)) fun x26_1 => ifS (fieldAddrV 3 x1) fun x27_1 => (ifS (storeV S20 5 x26_1 (V.agg [(V.int .i64 x22_a_1), (V.int .i64 x22_b_1), (V.str x22_c_1), x22_d_1, x22_e_1])) fun S21 => ifS (storeV S21 1 x27_1 x25_1) fun S22 => K  S22) ∧ (ifS (storeV S20 1 x27_1 x25_1) fun S23 => ifS (storeV S23 5 x26_1 (V.agg [(V.int .i64 x22_a_1), (V.int .i64 x22_b_1), (V.str x22_c_1), x22_d_1, x22_e_1])) fun S24 => K  S24))))))))))))))
abbrev json_reading_value_2.Ok (P : Program) (N : Nat → Nat) : Prop := Reads P (N Fn.json_reading_value_2) [(1, .no, [(.one .bool)]), (4, .no, [(.one .str)]), (0, (.dt (.agg [.str])), []), (6, .no, [(.one .bool)]), (6, (.dt (.one (.int .i64))), []), (0, .no, [(.agg [(.int .i64), (.int .i64), .str, .any, .any])]), (0, (.dt (.agg [(.int .i64), (.int .i64), .str, .any, .any])), []), (7, (.dt (.agg [(.int .i64), (.int .i64), .str, .any, .any])), []), (0, .no, [(.agg [(.int .i64), (.int .i64), .str, .any, .any])])] [] [] (fun A T (x0 : V) (x1 : V) (S : St) (KP : V → St → Prop) (K : St → Prop) => wpK P KP (envP P) T (endK A.results [] KP K) (frT A [x0, x1]) S) (fun x0 x1 S KP K => json_reading_value_2.p P N x0 x1 S KP K)
theorem json_reading_value_2.run {P : Program} {N : Nat → Nat} (hF : json_reading_value_2.Ok P N) {x0 : V} {x1 : V} {S : St} {KP : V → St → Prop} {K : St → Prop} (h : json_reading_value_2.p P N x0 x1 S KP K) : CallA P (N Fn.json_reading_value_2) [x0, x1] S (retK [] KP K) := hF.runK (fun q => q x0 x1 S KP K) h rfl

def json_reading_number.p (P : Program) (N : Nat → Nat) (x0 : V) (S : St) (KP : V → St → Prop) (K : Int → St → Prop) : Prop :=
  CallA P (N Fn.json_reading_comes) [x0, (V.str ([45] : List UInt8))] S (retK [(.one .bool)] KP fun (x9 : Bool) (S1 : St) => Join1 (fun (k1 : Int → St → Prop) => Loop1 (fun (k2 : Int → St → Prop) (x4_1 : Int) (S3 : St) => nilV x0 = some x0 ∧ ifS (fieldAddrV 0 x0) fun x13 => ∃ x14 : List UInt8, loadV S3 x13 = some (V.str x14) ∧ ifC (decide (x4_1 < (x14.length : Int))) (nilV x0 = some x0 ∧ ifS (fieldAddrV 0 x0) fun x20 => ∃ x21 : List UInt8, loadV S3 x20 = some (V.str x21) ∧ ∃ x23 : Int, idxStrV (V.str x21) (V.int .i64 x4_1) = some (V.int .u8 x23) ∧ ifC (decide ((48 : Int) ≤ x23)) (nilV x0 = some x0 ∧ ifS (fieldAddrV 0 x0) fun x29 => ∃ x30 : List UInt8, loadV S3 x29 = some (V.str x30) ∧ ∃ x32 : Int, idxStrV (V.str x30) (V.int .i64 x4_1) = some (V.int .u8 x32) ∧ ifC (decide (x32 ≤ (57 : Int))) (setI (IntKind.i64.wrap (x4_1 + (1 : Int))) fun x36 => k2 x36 S3) (k1 x4_1 S3)) (k1 x4_1 S3)) (k1 x4_1 S3)) 0 S1) (fun (x4 : Int) (S2 : St) => nilV x0 = some x0 ∧ ifS (fieldAddrV 0 x0) fun x39 => ∃ x40 : List UInt8, loadV S2 x39 = some (V.str x40) ∧ ∃ x42 : List UInt8, sliceStrV (V.str x40) none (some (V.int .i64 x4)) = some (V.str x42) ∧ nilV x0 = some x0 ∧ ifS (fieldAddrV 0 x0) fun x46 => ∃ x47 : List UInt8, loadV S2 x46 = some (V.str x47) ∧ ∃ x49 : List UInt8, sliceStrV (V.str x47) (some (V.int .i64 x4)) none = some (V.str x49) ∧ nilV x0 = some x0 ∧ ifS (fieldAddrV 0 x0) fun x51 => ifS (storeV S2 1 x51 (V.str x49)) fun S4 => Join0 (fun (k3 : St → Prop) => ifC (decide ((0 : Int) < x4)) (∃ x56 : Int, idxStrV (V.str x42) (V.int .i64 0) = some (V.int .u8 x56) ∧ ifC (!decide (x56 = (48 : Int))) (CallA P (N Fn.json_is) [(V.bool true)] S4 (retK [] KP fun (S6 : St) => k3  S6)) (ifC (decide (x4 = (1 : Int))) (CallA P (N Fn.json_is) [(V.bool (!x9))] S4 (retK [] KP fun (S7 : St) => k3  S7)) (CallA P (N Fn.json_is) [(V.bool false)] S4 (retK [] KP fun (S8 : St) => k3  S8)))) (CallA P (N Fn.json_is) [(V.bool false)] S4 (retK [] KP fun (S9 : St) => k3  S9))) (fun (S5 : St) => CallA P (N Fn.strconv_Atoi) [(V.str x42)] S5 (retK [(.one (.int .i64)), (.one .any)] KP fun (x70a : Int) (x70b : V) (S10 : St) => Join1 (fun (k4 : Int → St → Prop) => ∃ x74 : Bool, eqV 5 [] x70b V.nilIface = some x74 ∧ ifC (!x74) (k4 1000000000000000 S10) (ifC (decide ((999999999999999 : Int) < x70a)) (k4 1000000000000000 S10) (k4 x70a S10))) (fun (x6 : Int) (S11 : St) => ifC x9 (setI (IntKind.i64.wrap (0 - x6)) fun x81 => K x81 S11) (K x6 S11))))))
abbrev json_reading_number.Ok (P : Program) (N : Nat → Nat) : Prop := Reads P (N Fn.json_reading_number) [(2, .no, [(.one .bool)]), (6, (.dt (.one .str)), []), (6, (.dt (.one .str)), []), (1, (.dt (.one (.int .u8))), []), (6, (.dt (.one .str)), []), (1, (.dt (.one (.int .u8))), []), (8, (.dt (.one .str)), []), (1, (.dt (.one .str)), []), (5, (.dt (.one .str)), []), (1, (.dt (.one .str)), []), (7, (.dt (.one (.int .u8))), []), (12, .no, [(.one (.int .i64)), (.one .any)])] [(3, [(4, (.one (.int .i64)))]), (4, []), (1, [(6, (.one (.int .i64)))])] [[(4, (.one (.int .i64)))]] (fun A T (x0 : V) (S : St) (KP : V → St → Prop) (K : Int → St → Prop) => wpK P KP (envP P) T (endK A.results [(.one (.int .i64))] KP K) (frT A [x0]) S) (fun x0 S KP K => json_reading_number.p P N x0 S KP K)
theorem json_reading_number.run {P : Program} {N : Nat → Nat} (hF : json_reading_number.Ok P N) {x0 : V} {S : St} {KP : V → St → Prop} {K : Int → St → Prop} (h : json_reading_number.p P N x0 S KP K) : CallA P (N Fn.json_reading_number) [x0] S (retK [(.one (.int .i64))] KP K) := hF.runK (fun q => q x0 S KP K) h rfl

def json_quote.p (P : Program) (N : Nat → Nat) (x0 : V) (x1 : List UInt8) (S : St) (K : St → Prop) : Prop :=
  CallA P (N Fn.strings_Builder_WriteByte) [x0, (V.int .u8 34)] S (retT [(.one .any)] fun (x7 : V) (S1 : St) => newS S1 (.cells (bytesV x1) false) fun S2 => ∃ x10 : Int, lenV S2 2 (V.slice S1.next 0 x1.length x1.length 1 false) = some (V.int .i64 x10) ∧ Loop1 (fun (k1 : Int → St → Prop) (x11 : Int) (S3 : St) => ifC (decide (x11 < x10)) (ifS (idxAddrV 1 (V.slice S1.next 0 x1.length x1.length 1 false) (V.int .i64 x11)) fun x13 => ∃ x14 : Int, loadV S3 x13 = some (V.int .u8 x14) ∧ Join1 (fun (k2 : Bool → St → Prop) => ifC (decide (x14 = (34 : Int))) (k2 true S3) (k2 (decide (x14 = (92 : Int))) S3)) (fun (x27 : Bool) (S4 : St) => ifC x27 (CallA P (N Fn.strings_Builder_WriteByte) [x0, (V.int .u8 92)] S4 (retT [(.one .any)] fun (x35 : V) (S5 : St) => CallA P (N Fn.strings_Builder_WriteByte) [x0, (V.int .u8 x14)] S5 (retT [(.one .any)] fun (x38 : V) (S6 : St) => setI (IntKind.i64.wrap (x11 + (1 : Int))) fun x49 => k1 x49 S6))) (Join1 (fun (k3 : Bool → St → Prop) => ifC (decide ((32 : Int) ≤ x14)) (k3 (decide (x14 ≤ (126 : Int))) S4) (k3 false S4)) (fun (x39 : Bool) (S7 : St) => ifC x39 (CallA P (N Fn.strings_Builder_WriteByte) [x0, (V.int .u8 x14)] S7 (retT [(.one .any)] fun (x48 : V) (S8 : St) => setI (IntKind.i64.wrap (x11 + (1 : Int))) fun x49_1 => k1 x49_1 S8)) (CallA P (N Fn.strings_Builder_WriteString) [x0, (V.str ([92, 117, 48, 48] : List UInt8))] S7 (retT [(.one (.int .i64)), (.one .any)] fun (x16a : Int) (x16b : V) (S9 : St) => 0 ≤ (4 : Int) ∧ setI (Int.fdiv x14 (2 ^ (min (Int.toNat (4 : Int)) (IntKind.bits .u8)))) fun x19 => ∃ x20 : Int, idxStrV (V.str ([48, 49, 50, 51, 52, 53, 54, 55, 56, 57, 97, 98, 99, 100, 101, 102] : List UInt8)) (V.int .u8 x19) = some (V.int .u8 x20) ∧ CallA P (N Fn.strings_Builder_WriteByte) [x0, (V.int .u8 x20)] S9 (retT [(.one .any)] fun (x21 : V) (S10 : St) => setI (intBits .and .u8 x14 (15 : Int)) fun x24 => ∃ x25 : Int, idxStrV (V.str ([48, 49, 50, 51, 52, 53, 54, 55, 56, 57, 97, 98, 99, 100, 101, 102] : List UInt8)) (V.int .u8 x24) = some (V.int .u8 x25) ∧ CallA P (N Fn.strings_Builder_WriteByte) [x0, (V.int .u8 x25)] S10 (retT [(.one .any)] fun (x26 : V) (S11 : St) => setI (IntKind.i64.wrap (x11 + (1 : Int))) fun x49_2 => k1 x49_2 S11)))))))) (CallA P (N Fn.strings_Builder_WriteByte) [x0, (V.int .u8 34)] S3 (retT [(.one .any)] fun (x51 : V) (S12 : St) => K  S12))) 0 S2)
abbrev json_quote.Ok (P : Program) (N : Nat → Nat) : Prop := Reads P (N Fn.json_quote) [(1, .no, [(.one .any)]), (2, (.dt (.one (.int .i64))), []), (3, (.dt (.one (.int .u8))), []), (9, .no, [(.one .any)]), (2, .no, [(.one .any)]), (9, .no, [(.one .any)]), (1, .no, [(.one (.int .i64)), (.one .any)]), (3, (.dt (.one (.int .u8))), []), (0, .no, [(.one .any)]), (3, (.dt (.one (.int .u8))), []), (0, .no, [(.one .any)]), (3, .no, [(.one .any)])] [(7, [(27, (.one .bool))]), (1, [(39, (.one .bool))])] [[(11, (.one (.int .i64)))]] (fun A T (x0 : V) (x1 : List UInt8) (S : St) (K : St → Prop) => wpT P (envP P) T (endT A.results [] K) (frT A [x0, (V.str x1)]) S) (fun x0 x1 S K => json_quote.p P N x0 x1 S K)
theorem json_quote.run {P : Program} {N : Nat → Nat} (hF : json_quote.Ok P N) {x0 : V} {x1 : List UInt8} {S : St} {K : St → Prop} (h : json_quote.p P N x0 x1 S K) : CallA P (N Fn.json_quote) [x0, (V.str x1)] S (retT [] K) := hF.run (fun q => q x0 x1 S K) h rfl

def json_all_1.p (P : Program) (N : Nat → Nat) (x0_a : Int) (x0_b : Int) (x0_c : List UInt8) (x0_d : V) (x0_e : V) (x1 : V) (S : St) (K : Bool → St → Prop) : Prop :=
  newS S (.cells [(V.int .i64 x0_a), (V.int .i64 x0_b), (V.str x0_c), x0_d, x0_e] true) fun S1 => ∃ x4_a x4_b : Int, ∃ x4_c : List UInt8, ∃ x4_d x4_e : V, loadNV S1 5 (V.ptr S.next 0) = some (V.agg [(V.int .i64 x4_a), (V.int .i64 x4_b), (V.str x4_c), x4_d, x4_e]) ∧ ifS (loadV S1 x1) fun x5 => CallA P (N Fn.json_all) [(V.agg [(V.int .i64 x4_a), (V.int .i64 x4_b), (V.str x4_c), x4_d, x4_e]), x5] S1 (retT [(.one .bool)] fun (x6 : Bool) (S2 : St) => K (!x6) S2)
abbrev json_all_1.Ok (P : Program) (N : Nat → Nat) : Prop := Reads P (N Fn.json_all_1) [(2, (.dt (.agg [(.int .i64), (.int .i64), .str, .any, .any])), []), (1, .no, [(.one .bool)])] [] [] (fun A T (x0_a : Int) (x0_b : Int) (x0_c : List UInt8) (x0_d : V) (x0_e : V) (x1 : V) (S : St) (K : Bool → St → Prop) => wpT P (envP P) T (endT A.results [(.one .bool)] K) (frT A [(V.agg [(V.int .i64 x0_a), (V.int .i64 x0_b), (V.str x0_c), x0_d, x0_e]), x1]) S) (fun x0_a x0_b x0_c x0_d x0_e x1 S K => json_all_1.p P N x0_a x0_b x0_c x0_d x0_e x1 S K)
theorem json_all_1.run {P : Program} {N : Nat → Nat} (hF : json_all_1.Ok P N) {x0_a : Int} {x0_b : Int} {x0_c : List UInt8} {x0_d : V} {x0_e : V} {x1 : V} {S : St} {K : Bool → St → Prop} (h : json_all_1.p P N x0_a x0_b x0_c x0_d x0_e x1 S K) : CallA P (N Fn.json_all_1) [(V.agg [(V.int .i64 x0_a), (V.int .i64 x0_b), (V.str x0_c), x0_d, x0_e]), x1] S (retT [(.one .bool)] K) := hF.run (fun q => q x0_a x0_b x0_c x0_d x0_e x1 S K) h rfl

def json_reading_one.p (P : Program) (N : Nat → Nat) (x0 : V) (S : St) (KP : V → St → Prop) (K : Int → St → Prop) : Prop :=
  nilV x0 = some x0 ∧ ifS (fieldAddrV 0 x0) fun x6 => ∃ x7 : List UInt8, loadV S x6 = some (V.str x7) ∧ CallA P (N Fn.json_is) [(V.bool (!decide (x7 = ([] : List UInt8))))] S (retK [] KP fun (S1 : St) => nilV x0 = some x0 ∧ ifS (fieldAddrV 0 x0) fun x12 => ∃ x13 : List UInt8, loadV S1 x12 = some (V.str x13) ∧ ∃ x14 : Int, idxStrV (V.str x13) (V.int .i64 0) = some (V.int .u8 x14) ∧ nilV x0 = some x0 ∧ ifS (fieldAddrV 0 x0) fun x18 => ∃ x19 : List UInt8, loadV S1 x18 = some (V.str x19) ∧ ∃ x20 : List UInt8, sliceStrV (V.str x19) (some (V.int .i64 1)) none = some (V.str x20) ∧ nilV x0 = some x0 ∧ ifS (fieldAddrV 0 x0) fun x22 => ifS (storeV S1 1 x22 (V.str x20)) fun S2 => K x14 S2)
abbrev json_reading_one.Ok (P : Program) (N : Nat → Nat) : Prop := Reads P (N Fn.json_reading_one) [(4, (.dt (.one .str)), []), (5, (.dt (.one .str)), []), (0, (.dt (.one (.int .u8))), []), (5, (.dt (.one .str)), []), (0, (.dt (.one .str)), [])] [] [] (fun A T (x0 : V) (S : St) (KP : V → St → Prop) (K : Int → St → Prop) => wpK P KP (envP P) T (endK A.results [(.one (.int .u8))] KP K) (frT A [x0]) S) (fun x0 S KP K => json_reading_one.p P N x0 S KP K)
theorem json_reading_one.run {P : Program} {N : Nat → Nat} (hF : json_reading_one.Ok P N) {x0 : V} {S : St} {KP : V → St → Prop} {K : Int → St → Prop} (h : json_reading_one.p P N x0 S KP K) : CallA P (N Fn.json_reading_one) [x0] S (retK [(.one (.int .u8))] KP K) := hF.runK (fun q => q x0 S KP K) h rfl

def json_Print.p (P : Program) (N : Nat → Nat) (x0_a : Int) (x0_b : Int) (x0_c : List UInt8) (x0_d : V) (x0_e : V) (S : St) (K : List UInt8 → Int → St → Prop) : Prop :=
  newS S (.cells [(V.int .i64 x0_a), (V.int .i64 x0_b), (V.str x0_c), x0_d, x0_e] true) fun S1 => ∃ x6_a x6_b : Int, ∃ x6_c : List UInt8, ∃ x6_d x6_e : V, loadNV S1 5 (V.ptr S.next 0) = some (V.agg [(V.int .i64 x6_a), (V.int .i64 x6_b), (V.str x6_c), x6_d, x6_e]) ∧ CallA P (N Fn.json_Check) [(V.agg [(V.int .i64 x6_a), (V.int .i64 x6_b), (V.str x6_c), x6_d, x6_e])] S1 (retT [(.one (.int .i64))] fun (x7 : Int) (S2 : St) => ifC (!decide (x7 = (0 : Int))) (K ([] : List UInt8) x7 S2) (newS S2 (.obj ((N Fn.ty_strings_Builder)) 2 [V.nilPtr, V.nilSlice]) fun S3 => ∃ x11_a x11_b : Int, ∃ x11_c : List UInt8, ∃ x11_d x11_e : V, loadNV S3 5 (V.ptr S.next 0) = some (V.agg [(V.int .i64 x11_a), (V.int .i64 x11_b), (V.str x11_c), x11_d, x11_e]) ∧ CallA P (N Fn.json_lay) [(V.ptr S2.next 0), (V.agg [(V.int .i64 x11_a), (V.int .i64 x11_b), (V.str x11_c), x11_d, x11_e])] S3 (retT [] fun (S4 : St) => CallA P (N Fn.strings_Builder_Len) [(V.ptr S2.next 0)] S4 (retT [(.one (.int .i64))] fun (x13 : Int) (S5 : St) => ifC (decide ((16384 : Int) < x13)) (K ([] : List UInt8) 2 S5) (CallA P (N Fn.strings_Builder_String) [(V.ptr S2.next 0)] S5 (retT [(.one .str)] fun (x15 : List UInt8) (S6 : St) => K x15 0 S6))))))
abbrev json_Print.Ok (P : Program) (N : Nat → Nat) : Prop := Reads P (N Fn.json_Print) [(3, (.dt (.agg [(.int .i64), (.int .i64), .str, .any, .any])), []), (0, .no, [(.one (.int .i64))]), (7, (.dt (.agg [(.int .i64), (.int .i64), .str, .any, .any])), []), (1, .no, [(.one (.int .i64))]), (3, .no, [(.one .str)])] [] [] (fun A T (x0_a : Int) (x0_b : Int) (x0_c : List UInt8) (x0_d : V) (x0_e : V) (S : St) (K : List UInt8 → Int → St → Prop) => wpT P (envP P) T (endT A.results [(.one .str), (.one (.int .i64))] K) (frT A [(V.agg [(V.int .i64 x0_a), (V.int .i64 x0_b), (V.str x0_c), x0_d, x0_e])]) S) (fun x0_a x0_b x0_c x0_d x0_e S K => json_Print.p P N x0_a x0_b x0_c x0_d x0_e S K)
theorem json_Print.run {P : Program} {N : Nat → Nat} (hF : json_Print.Ok P N) {x0_a : Int} {x0_b : Int} {x0_c : List UInt8} {x0_d : V} {x0_e : V} {S : St} {K : List UInt8 → Int → St → Prop} (h : json_Print.p P N x0_a x0_b x0_c x0_d x0_e S K) : CallA P (N Fn.json_Print) [(V.agg [(V.int .i64 x0_a), (V.int .i64 x0_b), (V.str x0_c), x0_d, x0_e])] S (retT [(.one .str), (.one (.int .i64))] K) := hF.run (fun q => q x0_a x0_b x0_c x0_d x0_e S K) h rfl

def json_reading_text.p (P : Program) (N : Nat → Nat) (x0 : V) (S : St) (KP : V → St → Prop) (K : List UInt8 → St → Prop) : Prop :=
  newS S (.obj ((N Fn.ty_strings_Builder)) 2 [V.nilPtr, V.nilSlice]) fun S1 => Loop0 (fun (k1 : St → Prop) (S2 : St) => CallA P (N Fn.json_reading_one) [x0] S2 (retK [(.one (.int .u8))] KP fun (x9 : Int) (S3 : St) => ifC (decide (x9 = (34 : Int))) (CallA P (N Fn.strings_Builder_String) [(V.ptr S.next 0)] S3 (retK [(.one .str)] KP fun (x22 : List UInt8) (S4 : St) => K x22 S4)) (ifC (decide (x9 = (92 : Int))) (CallA P (N Fn.json_reading_one) [x0] S3 (retK [(.one (.int .u8))] KP fun (x26 : Int) (S5 : St) => Join1 (fun (k2 : Bool → St → Prop) => ifC (decide (x26 = (34 : Int))) (k2 true S5) (ifC (decide (x26 = (92 : Int))) (k2 true S5) (k2 (decide (x26 = (47 : Int))) S5))) (fun (x29 : Bool) (S6 : St) => ifC x29 (CallA P (N Fn.strings_Builder_WriteByte) [(V.ptr S.next 0), (V.int .u8 x26)] S6 (retK [(.one .any)] KP fun (x34 : V) (S7 : St) => k1  S7)) (ifC (decide (x26 = (110 : Int))) (CallA P (N Fn.strings_Builder_WriteByte) [(V.ptr S.next 0), (V.int .u8 10)] S6 (retK [(.one .any)] KP fun (x37 : V) (S8 : St) => k1  S8)) (ifC (decide (x26 = (116 : Int))) (CallA P (N Fn.strings_Builder_WriteByte) [(V.ptr S.next 0), (V.int .u8 9)] S6 (retK [(.one .any)] KP fun (x40 : V) (S9 : St) => k1  S9)) (ifC (decide (x26 = (117 : Int))) (Join0 (fun (k3 : St → Prop) => CallA P (N Fn.json_reading_comes) [x0, (V.str ([48, 48] : List UInt8))] S6 (retK [(.one .bool)] KP fun (x44 : Bool) (S11 : St) => ifC x44 (nilV x0 = some x0 ∧ ifS (fieldAddrV 0 x0) fun x48 => ∃ x49 : List UInt8, loadV S11 x48 = some (V.str x49) ∧ ifC (decide ((2 : Int) ≤ (x49.length : Int))) (nilV x0 = some x0 ∧ ifS (fieldAddrV 0 x0) fun x56 => ∃ x57 : List UInt8, loadV S11 x56 = some (V.str x57) ∧ ∃ x58 : Int, idxStrV (V.str x57) (V.int .i64 0) = some (V.int .u8 x58) ∧ ifC (!decide (x58 = (43 : Int))) (nilV x0 = some x0 ∧ ifS (fieldAddrV 0 x0) fun x64 => ∃ x65 : List UInt8, loadV S11 x64 = some (V.str x65) ∧ ∃ x66 : Int, idxStrV (V.str x65) (V.int .i64 0) = some (V.int .u8 x66) ∧ ifC (!decide (x66 = (45 : Int))) (nilV x0 = some x0 ∧ ifS (fieldAddrV 0 x0) fun x72 => ∃ x73 : List UInt8, loadV S11 x72 = some (V.str x73) ∧ ∃ x74 : Int, idxStrV (V.str x73) (V.int .i64 0) = some (V.int .u8 x74) ∧ ifC (!decide (x74 = (95 : Int))) (nilV x0 = some x0 ∧ ifS (fieldAddrV 0 x0) fun x80 => ∃ x81 : List UInt8, loadV S11 x80 = some (V.str x81) ∧ ∃ x82 : Int, idxStrV (V.str x81) (V.int .i64 1) = some (V.int .u8 x82) ∧ CallA P (N Fn.json_is) [(V.bool (!decide (x82 = (95 : Int))))] S11 (retK [] KP fun (S12 : St) => k3  S12)) (CallA P (N Fn.json_is) [(V.bool false)] S11 (retK [] KP fun (S13 : St) => k3  S13))) (CallA P (N Fn.json_is) [(V.bool false)] S11 (retK [] KP fun (S14 : St) => k3  S14))) (CallA P (N Fn.json_is) [(V.bool false)] S11 (retK [] KP fun (S15 : St) => k3  S15))) (CallA P (N Fn.json_is) [(V.bool false)] S11 (retK [] KP fun (S16 : St) => k3  S16))) (CallA P (N Fn.json_is) [(V.bool false)] S11 (retK [] KP fun (S17 : St) => k3  S17)))) (fun (S10 : St) => nilV x0 = some x0 ∧ ifS (fieldAddrV 0 x0) fun x89 => ∃ x90 : List UInt8, loadV S10 x89 = some (V.str x90) ∧ ∃ x91 : List UInt8, sliceStrV (V.str x90) none (some (V.int .i64 2)) = some (V.str x91) ∧ CallA P (N Fn.strconv_ParseUint) [(V.str x91), (V.int .i64 16), (V.int .i64 8)] S10 (retK [(.one (.int .u64)), (.one .any)] KP fun (x92a : Int) (x92b : V) (S18 : St) => ∃ x96 : Bool, eqV 5 [] x92b V.nilIface = some x96 ∧ CallA P (N Fn.json_is) [(V.bool x96)] S18 (retK [] KP fun (S19 : St) => nilV x0 = some x0 ∧ ifS (fieldAddrV 0 x0) fun x101 => ∃ x102 : List UInt8, loadV S19 x101 = some (V.str x102) ∧ ∃ x103 : List UInt8, sliceStrV (V.str x102) (some (V.int .i64 2)) none = some (V.str x103) ∧ nilV x0 = some x0 ∧ ifS (fieldAddrV 0 x0) fun x105 => ifS (storeV S19 1 x105 (V.str x103)) fun S20 => setI (IntKind.u8.wrap x92a) fun x107 => CallA P (N Fn.strings_Builder_WriteByte) [(V.ptr S.next 0), (V.int .u8 x107)] S20 (retK [(.one .any)] KP fun (x108 : V) (S21 : St) => k1  S21))))) (CallA P (N Fn.json_is) [(V.bool false)] S6 (retK [] KP fun (S22 : St) => k1  S22)))))))) (ifC (decide ((32 : Int) ≤ x9)) (CallA P (N Fn.json_is) [(V.bool (decide (x9 ≤ (126 : Int))))] S3 (retK [] KP fun (S23 : St) => CallA P (N Fn.strings_Builder_WriteByte) [(V.ptr S.next 0), (V.int .u8 x9)] S23 (retK [(.one .any)] KP fun (x19 : V) (S24 : St) => k1  S24))) (CallA P (N Fn.json_is) [(V.bool false)] S3 (retK [] KP fun (S25 : St) => CallA P (N Fn.strings_Builder_WriteByte) [(V.ptr S.next 0), (V.int .u8 x9)] S25 (retK [(.one .any)] KP fun (x19_1 : V) (S26 : St) => k1  S26))))))) S1
abbrev json_reading_text.Ok (P : Program) (N : Nat → Nat) : Prop := Reads P (N Fn.json_reading_text) [(3, .no, [(.one (.int .u8))]), (4, .no, [(.one .str)]), (4, .no, [(.one (.int .u8))]), (9, .no, [(.one .any)]), (2, .no, [(.one .any)]), (2, .no, [(.one .any)]), (3, .no, [(.one .bool)]), (4, (.dt (.one .str)), []), (7, (.dt (.one .str)), []), (0, (.dt (.one (.int .u8))), []), (6, (.dt (.one .str)), []), (0, (.dt (.one (.int .u8))), []), (6, (.dt (.one .str)), []), (0, (.dt (.one (.int .u8))), []), (6, (.dt (.one .str)), []), (0, (.dt (.one (.int .u8))), []), (6, (.dt (.one .str)), []), (0, (.dt (.one .str)), []), (0, .no, [(.one (.int .u64)), (.one .any)]), (12, (.dt (.one .str)), []), (0, (.dt (.one .str)), []), (5, .no, [(.one .any)]), (9, .no, [(.one .any)])] [(9, [(29, (.one .bool))]), (5, [])] [[]] (fun A T (x0 : V) (S : St) (KP : V → St → Prop) (K : List UInt8 → St → Prop) => wpK P KP (envP P) T (endK A.results [(.one .str)] KP K) (frT A [x0]) S) (fun x0 S KP K => json_reading_text.p P N x0 S KP K)
theorem json_reading_text.run {P : Program} {N : Nat → Nat} (hF : json_reading_text.Ok P N) {x0 : V} {S : St} {KP : V → St → Prop} {K : List UInt8 → St → Prop} (h : json_reading_text.p P N x0 S KP K) : CallA P (N Fn.json_reading_text) [x0] S (retK [(.one .str)] KP K) := hF.runK (fun q => q x0 S KP K) h rfl

end Go.Th.L
end

section
/- Functions of law20, read without frames (printed by tools/lib.py). -/
set_option linter.unusedVariables false
set_option maxRecDepth 100000
set_option maxHeartbeats 2000000
namespace Go.Th.L
open Go Go.Th

def law20_JsonPrints.p (P : Program) (N : Nat → Nat) (x0_a : Int) (x0_b : Int) (x0_c : List UInt8) (x0_d : V) (x0_e : V) (x1 : List UInt8) (S : St) (K : Bool → St → Prop) : Prop :=
  newS S (.cells [(V.int .i64 x0_a), (V.int .i64 x0_b), (V.str x0_c), x0_d, x0_e] true) fun S1 => Join0 (fun (k1 : St → Prop) => ∃ x15_a x15_b : Int, ∃ x15_c : List UInt8, ∃ x15_d x15_e : V, loadNV S1 5 (V.ptr S.next 0) = some (V.agg [(V.int .i64 x15_a), (V.int .i64 x15_b), (V.str x15_c), x15_d, x15_e]) ∧ CallA P (N Fn.law20_big) [(V.agg [(V.int .i64 x15_a), (V.int .i64 x15_b), (V.str x15_c), x15_d, x15_e])] S1 (retT [(.one .bool)] fun (x16 : Bool) (S3 : St) => ifC x16 (K true S3) (ifC (decide ((131072 : Int) < (x1.length : Int))) (K true S3) (k1  S3)))) (fun (S2 : St) => ∃ x22_a x22_b : Int, ∃ x22_c : List UInt8, ∃ x22_d x22_e : V, loadNV S2 5 (V.ptr S.next 0) = some (V.agg [(V.int .i64 x22_a), (V.int .i64 x22_b), (V.str x22_c), x22_d, x22_e]) ∧ CallA P (N Fn.law20_copied) [(V.agg [(V.int .i64 x22_a), (V.int .i64 x22_b), (V.str x22_c), x22_d, x22_e])] S2 (retT [(.agg [(.int .i64), (.int .i64), .str, .any, .any])] fun (x23_a : Int) (x23_b : Int) (x23_c : List UInt8) (x23_d : V) (x23_e : V) (S4 : St) => newS S4 (.cells [(V.int .i64 0), (V.int .i64 0), (V.str ([] : List UInt8)), V.nilSlice, V.nilSlice] true) fun S5 => ifS (storeV S5 5 (V.ptr S4.next 0) (V.agg [(V.int .i64 x23_a), (V.int .i64 x23_b), (V.str x23_c), x23_d, x23_e])) fun S6 => ∃ x25_a x25_b : Int, ∃ x25_c : List UInt8, ∃ x25_d x25_e : V, loadNV S6 5 (V.ptr S4.next 0) = some (V.agg [(V.int .i64 x25_a), (V.int .i64 x25_b), (V.str x25_c), x25_d, x25_e]) ∧ CallA P (N Fn.json_Print) [(V.agg [(V.int .i64 x25_a), (V.int .i64 x25_b), (V.str x25_c), x25_d, x25_e])] S6 (retT [(.one .str), (.one (.int .i64))] fun (x26a : List UInt8) (x26b : Int) (S7 : St) => ∃ x29_a x29_b : Int, ∃ x29_c : List UInt8, ∃ x29_d x29_e : V, loadNV S7 5 (V.ptr S4.next 0) = some (V.agg [(V.int .i64 x29_a), (V.int .i64 x29_b), (V.str x29_c), x29_d, x29_e]) ∧ CallA P (N Fn.json_Check) [(V.agg [(V.int .i64 x29_a), (V.int .i64 x29_b), (V.str x29_c), x29_d, x29_e])] S7 (retT [(.one (.int .i64))] fun (x30 : Int) (S8 : St) => ∃ x32_a x32_b : Int, ∃ x32_c : List UInt8, ∃ x32_d x32_e : V, loadNV S8 5 (V.ptr S4.next 0) = some (V.agg [(V.int .i64 x32_a), (V.int .i64 x32_b), (V.str x32_c), x32_d, x32_e]) ∧ CallA P (N Fn.json_Get) [(V.agg [(V.int .i64 x32_a), (V.int .i64 x32_b), (V.str x32_c), x32_d, x32_e]), (V.str x1)] S8 (retT [(.agg [(.int .i64), (.int .i64), .str, .any, .any]), (.one .bool)] fun (x34a_a : Int) (x34a_b : Int) (x34a_c : List UInt8) (x34a_d : V) (x34a_e : V) (x34b : Bool) (S9 : St) => newS S9 (.cells [(V.int .i64 0), (V.int .i64 0), (V.str ([] : List UInt8)), V.nilSlice, V.nilSlice] true) fun S10 => ifS (storeV S10 5 (V.ptr S9.next 0) (V.agg [(V.int .i64 x34a_a), (V.int .i64 x34a_b), (V.str x34a_c), x34a_d, x34a_e])) fun S11 => ∃ x38_a x38_b : Int, ∃ x38_c : List UInt8, ∃ x38_d x38_e : V, loadNV S11 5 (V.ptr S.next 0) = some (V.agg [(V.int .i64 x38_a), (V.int .i64 x38_b), (V.str x38_c), x38_d, x38_e]) ∧ CallA P (N Fn.ref20_Print) [(V.agg [(V.int .i64 x38_a), (V.int .i64 x38_b), (V.str x38_c), x38_d, x38_e])] S11 (retT [(.one .str), (.one (.int .i64))] fun (x39a : List UInt8) (x39b : Int) (S12 : St) => ∃ x43_a x43_b : Int, ∃ x43_c : List UInt8, ∃ x43_d x43_e : V, loadNV S12 5 (V.ptr S.next 0) = some (V.agg [(V.int .i64 x43_a), (V.int .i64 x43_b), (V.str x43_c), x43_d, x43_e]) ∧ CallA P (N Fn.ref20_Get) [(V.agg [(V.int .i64 x43_a), (V.int .i64 x43_b), (V.str x43_c), x43_d, x43_e]), (V.str x1)] S12 (retT [(.agg [(.int .i64), (.int .i64), .str, .any, .any]), (.one .bool)] fun (x45a_a : Int) (x45a_b : Int) (x45a_c : List UInt8) (x45a_d : V) (x45a_e : V) (x45b : Bool) (S13 : St) => newS S13 (.cells [(V.int .i64 0), (V.int .i64 0), (V.str ([] : List UInt8)), V.nilSlice, V.nilSlice] true) fun S14 => ifS (storeV S14 5 (V.ptr S13.next 0) (V.agg [(V.int .i64 x45a_a), (V.int .i64 x45a_b), (V.str x45a_c), x45a_d, x45a_e])) fun S15 => CallA P (N Fn.law20_awake) [] S15 (retT [(.one .bool)] fun (x48 : Bool) (S16 : St) => ifC x48 (ifC (decide (x26a = x39a)) (ifC (decide (x26b = x39b)) (∃ x61_a x61_b : Int, ∃ x61_c : List UInt8, ∃ x61_d x61_e : V, loadNV S16 5 (V.ptr S.next 0) = some (V.agg [(V.int .i64 x61_a), (V.int .i64 x61_b), (V.str x61_c), x61_d, x61_e]) ∧ CallA P (N Fn.ref20_Check) [(V.agg [(V.int .i64 x61_a), (V.int .i64 x61_b), (V.str x61_c), x61_d, x61_e])] S16 (retT [(.one (.int .i64))] fun (x62 : Int) (S17 : St) => ifC (decide (x30 = x62)) (ifC (x34b == x45b) (∃ x71_a x71_b : Int, ∃ x71_c : List UInt8, ∃ x71_d x71_e : V, loadNV S17 5 (V.ptr S9.next 0) = some (V.agg [(V.int .i64 x71_a), (V.int .i64 x71_b), (V.str x71_c), x71_d, x71_e]) ∧ ∃ x72_a x72_b : Int, ∃ x72_c : List UInt8, ∃ x72_d x72_e : V, loadNV S17 5 (V.ptr S13.next 0) = some (V.agg [(V.int .i64 x72_a), (V.int .i64 x72_b), (V.str x72_c), x72_d, x72_e]) ∧ CallA P (N Fn.ref20_Same) [(V.agg [(V.int .i64 x71_a), (V.int .i64 x71_b), (V.str x71_c), x71_d, x71_e]), (V.agg [(V.int .i64 x72_a), (V.int .i64 x72_b), (V.str x72_c), x72_d, x72_e])] S17 (retT [(.one .bool)] fun (x73 : Bool) (S18 : St) => ifC x73 (∃ x76_a x76_b : Int, ∃ x76_c : List UInt8, ∃ x76_d x76_e : V, loadNV S18 5 (V.ptr S4.next 0) = some (V.agg [(V.int .i64 x76_a), (V.int .i64 x76_b), (V.str x76_c), x76_d, x76_e]) ∧ ∃ x77_a x77_b : Int, ∃ x77_c : List UInt8, ∃ x77_d x77_e : V, loadNV S18 5 (V.ptr S.next 0) = some (V.agg [(V.int .i64 x77_a), (V.int .i64 x77_b), (V.str x77_c), x77_d, x77_e]) ∧ CallA P (N Fn.ref20_Same) [(V.agg [(V.int .i64 x76_a), (V.int .i64 x76_b), (V.str x76_c), x76_d, x76_e]), (V.agg [(V.int .i64 x77_a), (V.int .i64 x77_b), (V.str x77_c), x77_d, x77_e])] S18 (retT [(.one .bool)] fun (x78 : Bool) (S19 : St) => K x78 S19)) (K false S18))) (K false S17)) (K false S17))) (K false S16)) (K false S16)) (K false S16)))))))))
abbrev law20_JsonPrints.Ok (P : Program) (N : Nat → Nat) : Prop := Reads P (N Fn.law20_JsonPrints) [(2, (.dt (.agg [(.int .i64), (.int .i64), .str, .any, .any])), []), (0, .no, [(.one .bool)]), (6, (.dt (.agg [(.int .i64), (.int .i64), .str, .any, .any])), []), (0, .no, [(.agg [(.int .i64), (.int .i64), .str, .any, .any])]), (2, (.dt (.agg [(.int .i64), (.int .i64), .str, .any, .any])), []), (0, .no, [(.one .str), (.one (.int .i64))]), (5, (.dt (.agg [(.int .i64), (.int .i64), .str, .any, .any])), []), (0, .no, [(.one (.int .i64))]), (1, (.dt (.agg [(.int .i64), (.int .i64), .str, .any, .any])), []), (1, .no, [(.agg [(.int .i64), (.int .i64), .str, .any, .any]), (.one .bool)]), (6, (.dt (.agg [(.int .i64), (.int .i64), .str, .any, .any])), []), (0, .no, [(.one .str), (.one (.int .i64))]), (5, (.dt (.agg [(.int .i64), (.int .i64), .str, .any, .any])), []), (1, .no, [(.agg [(.int .i64), (.int .i64), .str, .any, .any]), (.one .bool)]), (6, .no, [(.one .bool)]), (12, (.dt (.agg [(.int .i64), (.int .i64), .str, .any, .any])), []), (0, .no, [(.one (.int .i64))]), (8, (.dt (.agg [(.int .i64), (.int .i64), .str, .any, .any])), []), (0, (.dt (.agg [(.int .i64), (.int .i64), .str, .any, .any])), []), (0, .no, [(.one .bool)]), (2, (.dt (.agg [(.int .i64), (.int .i64), .str, .any, .any])), []), (0, (.dt (.agg [(.int .i64), (.int .i64), .str, .any, .any])), []), (0, .no, [(.one .bool)])] [(1, [])] [] (fun A T (x0_a : Int) (x0_b : Int) (x0_c : List UInt8) (x0_d : V) (x0_e : V) (x1 : List UInt8) (S : St) (K : Bool → St → Prop) => wpT P (envP P) T (endT A.results [(.one .bool)] K) (frT A [(V.agg [(V.int .i64 x0_a), (V.int .i64 x0_b), (V.str x0_c), x0_d, x0_e]), (V.str x1)]) S) (fun x0_a x0_b x0_c x0_d x0_e x1 S K => law20_JsonPrints.p P N x0_a x0_b x0_c x0_d x0_e x1 S K)
theorem law20_JsonPrints.run {P : Program} {N : Nat → Nat} (hF : law20_JsonPrints.Ok P N) {x0_a : Int} {x0_b : Int} {x0_c : List UInt8} {x0_d : V} {x0_e : V} {x1 : List UInt8} {S : St} {K : Bool → St → Prop} (h : law20_JsonPrints.p P N x0_a x0_b x0_c x0_d x0_e x1 S K) : CallA P (N Fn.law20_JsonPrints) [(V.agg [(V.int .i64 x0_a), (V.int .i64 x0_b), (V.str x0_c), x0_d, x0_e]), (V.str x1)] S (retT [(.one .bool)] K) := hF.run (fun q => q x0_a x0_b x0_c x0_d x0_e x1 S K) h rfl

def law20_awake.p (P : Program) (N : Nat → Nat) (S : St) (K : Bool → St → Prop) : Prop :=
  CallA P (N Fn.json_Parse) [(V.str ([32, 123, 32, 34, 97, 34, 32, 58, 32, 91, 32, 49, 32, 44, 32, 45, 50, 32, 93, 32, 125, 32] : List UInt8))] S (retT [(.agg [(.int .i64), (.int .i64), .str, .any, .any]), (.one (.int .i64))] fun (x14a_a : Int) (x14a_b : Int) (x14a_c : List UInt8) (x14a_d : V) (x14a_e : V) (x14b : Int) (S1 : St) => newS S1 (.cells [(V.int .i64 0), (V.int .i64 0), (V.str ([] : List UInt8)), V.nilSlice, V.nilSlice] true) fun S2 => ifS (storeV S2 5 (V.ptr S1.next 0) (V.agg [(V.int .i64 x14a_a), (V.int .i64 x14a_b), (V.str x14a_c), x14a_d, x14a_e])) fun S3 => ∃ x18_a x18_b : Int, ∃ x18_c : List UInt8, ∃ x18_d x18_e : V, loadNV S3 5 (V.ptr S1.next 0) = some (V.agg [(V.int .i64 x18_a), (V.int .i64 x18_b), (V.str x18_c), x18_d, x18_e]) ∧ CallA P (N Fn.json_Print) [(V.agg [(V.int .i64 x18_a), (V.int .i64 x18_b), (V.str x18_c), x18_d, x18_e])] S3 (retT [(.one .str), (.one (.int .i64))] fun (x19a : List UInt8) (x19b : Int) (S4 : St) => CallA P (N Fn.json_Parse) [(V.str ([48, 49] : List UInt8))] S4 (retT [(.agg [(.int .i64), (.int .i64), .str, .any, .any]), (.one (.int .i64))] fun (x23a_a : Int) (x23a_b : Int) (x23a_c : List UInt8) (x23a_d : V) (x23a_e : V) (x23b : Int) (S5 : St) => newS S5 (.cells [(V.int .i64 0), (V.int .i64 0), (V.str ([] : List UInt8)), V.nilSlice, V.nilSlice] true) fun S6 => ifS (storeV S6 5 (V.ptr S5.next 0) (V.agg [(V.int .i64 x23a_a), (V.int .i64 x23a_b), (V.str x23a_c), x23a_d, x23a_e])) fun S7 => CallA P (N Fn.json_Parse) [(V.str ([91, 91, 91, 91, 91, 91, 91, 91, 91, 93, 93, 93, 93, 93, 93, 93, 93, 93] : List UInt8))] S7 (retT [(.agg [(.int .i64), (.int .i64), .str, .any, .any]), (.one (.int .i64))] fun (x27a_a : Int) (x27a_b : Int) (x27a_c : List UInt8) (x27a_d : V) (x27a_e : V) (x27b : Int) (S8 : St) => newS S8 (.cells [(V.int .i64 0), (V.int .i64 0), (V.str ([] : List UInt8)), V.nilSlice, V.nilSlice] true) fun S9 => ifS (storeV S9 5 (V.ptr S8.next 0) (V.agg [(V.int .i64 x27a_a), (V.int .i64 x27a_b), (V.str x27a_c), x27a_d, x27a_e])) fun S10 => CallA P (N Fn.json_Print) [(V.agg [(V.int .i64 5), (V.int .i64 0), (V.str ([10, 34, 255] : List UInt8)), V.nilSlice, V.nilSlice])] S10 (retT [(.one .str), (.one (.int .i64))] fun (x32a : List UInt8) (x32b : Int) (S11 : St) => ∃ x36_a x36_b : Int, ∃ x36_c : List UInt8, ∃ x36_d x36_e : V, loadNV S11 5 (V.ptr S1.next 0) = some (V.agg [(V.int .i64 x36_a), (V.int .i64 x36_b), (V.str x36_c), x36_d, x36_e]) ∧ CallA P (N Fn.json_Get) [(V.agg [(V.int .i64 x36_a), (V.int .i64 x36_b), (V.str x36_c), x36_d, x36_e]), (V.str ([97] : List UInt8))] S11 (retT [(.agg [(.int .i64), (.int .i64), .str, .any, .any]), (.one .bool)] fun (x37a_a : Int) (x37a_b : Int) (x37a_c : List UInt8) (x37a_d : V) (x37a_e : V) (x37b : Bool) (S12 : St) => newS S12 (.cells [(V.int .i64 0), (V.int .i64 0), (V.str ([] : List UInt8)), V.nilSlice, V.nilSlice] true) fun S13 => ifS (storeV S13 5 (V.ptr S12.next 0) (V.agg [(V.int .i64 x37a_a), (V.int .i64 x37a_b), (V.str x37a_c), x37a_d, x37a_e])) fun S14 => ifC (decide (x14b = (0 : Int))) (ifC (decide (x19b = (0 : Int))) (ifC (decide (x19a = ([123, 34, 97, 34, 58, 91, 49, 44, 45, 50, 93, 125] : List UInt8))) (ifC (decide (x23b = (200 : Int))) (ifC (decide (x27b = (201 : Int))) (ifC (decide (x32b = (0 : Int))) (ifC (decide (x32a = ([34, 92, 117, 48, 48, 48, 97, 92, 34, 92, 117, 48, 48, 102, 102, 34] : List UInt8))) (ifC x37b (ifS (loadV S14 (V.ptr S12.next 3)) fun x71 => ∃ x72 : Int, lenV S14 2 x71 = some (V.int .i64 x72) ∧ K (decide (x72 = (2 : Int))) S14) (K false S14)) (K false S14)) (K false S14)) (K false S14)) (K false S14)) (K false S14)) (K false S14)) (K false S14)))))))
abbrev law20_awake.Ok (P : Program) (N : Nat → Nat) : Prop := Reads P (N Fn.law20_awake) [(1, .no, [(.agg [(.int .i64), (.int .i64), .str, .any, .any]), (.one (.int .i64))]), (6, (.dt (.agg [(.int .i64), (.int .i64), .str, .any, .any])), []), (0, .no, [(.one .str), (.one (.int .i64))]), (5, .no, [(.agg [(.int .i64), (.int .i64), .str, .any, .any]), (.one (.int .i64))]), (6, .no, [(.agg [(.int .i64), (.int .i64), .str, .any, .any]), (.one (.int .i64))]), (6, (.dt (.agg [(.int .i64), (.int .i64), .str, .any, .any])), []), (0, .no, [(.one .str), (.one (.int .i64))]), (5, (.dt (.agg [(.int .i64), (.int .i64), .str, .any, .any])), []), (0, .no, [(.agg [(.int .i64), (.int .i64), .str, .any, .any]), (.one .bool)]), (38, (.dt (.one (.int .i64))), [])] [] [] (fun A T (S : St) (K : Bool → St → Prop) => wpT P (envP P) T (endT A.results [(.one .bool)] K) (frT A []) S) (fun  S K => law20_awake.p P N  S K)
theorem law20_awake.run {P : Program} {N : Nat → Nat} (hF : law20_awake.Ok P N) {S : St} {K : Bool → St → Prop} (h : law20_awake.p P N  S K) : CallA P (N Fn.law20_awake) [] S (retT [(.one .bool)] K) := hF.run (fun q => q  S K) h rfl

def law20_big.p (P : Program) (N : Nat → Nat) (x0_a : Int) (x0_b : Int) (x0_c : List UInt8) (x0_d : V) (x0_e : V) (S : St) (K : Bool → St → Prop) : Prop :=
  newS S (.cells [(V.int .i64 x0_a), (V.int .i64 x0_b), (V.str x0_c), x0_d, x0_e] true) fun S1 => ∃ x3_a x3_b : Int, ∃ x3_c : List UInt8, ∃ x3_d x3_e : V, loadNV S1 5 (V.ptr S.next 0) = some (V.agg [(V.int .i64 x3_a), (V.int .i64 x3_b), (V.str x3_c), x3_d, x3_e]) ∧ CallA P (N Fn.law20_parts) [(V.agg [(V.int .i64 x3_a), (V.int .i64 x3_b), (V.str x3_c), x3_d, x3_e]), (V.int .i64 0), (V.int .i64 0)] S1 (retT [(.one (.int .i64))] fun (x4 : Int) (S2 : St) => ifC (decide ((131072 : Int) < x4)) (K true S2) (∃ x7_a x7_b : Int, ∃ x7_c : List UInt8, ∃ x7_d x7_e : V, loadNV S2 5 (V.ptr S.next 0) = some (V.agg [(V.int .i64 x7_a), (V.int .i64 x7_b), (V.str x7_c), x7_d, x7_e]) ∧ CallA P (N Fn.law20_wide) [(V.agg [(V.int .i64 x7_a), (V.int .i64 x7_b), (V.str x7_c), x7_d, x7_e])] S2 (retT [(.one .bool)] fun (x8 : Bool) (S3 : St) => K x8 S3)))
abbrev law20_big.Ok (P : Program) (N : Nat → Nat) : Prop := Reads P (N Fn.law20_big) [(2, (.dt (.agg [(.int .i64), (.int .i64), .str, .any, .any])), []), (0, .no, [(.one (.int .i64))]), (2, (.dt (.agg [(.int .i64), (.int .i64), .str, .any, .any])), []), (0, .no, [(.one .bool)])] [] [] (fun A T (x0_a : Int) (x0_b : Int) (x0_c : List UInt8) (x0_d : V) (x0_e : V) (S : St) (K : Bool → St → Prop) => wpT P (envP P) T (endT A.results [(.one .bool)] K) (frT A [(V.agg [(V.int .i64 x0_a), (V.int .i64 x0_b), (V.str x0_c), x0_d, x0_e])]) S) (fun x0_a x0_b x0_c x0_d x0_e S K => law20_big.p P N x0_a x0_b x0_c x0_d x0_e S K)
theorem law20_big.run {P : Program} {N : Nat → Nat} (hF : law20_big.Ok P N) {x0_a : Int} {x0_b : Int} {x0_c : List UInt8} {x0_d : V} {x0_e : V} {S : St} {K : Bool → St → Prop} (h : law20_big.p P N x0_a x0_b x0_c x0_d x0_e S K) : CallA P (N Fn.law20_big) [(V.agg [(V.int .i64 x0_a), (V.int .i64 x0_b), (V.str x0_c), x0_d, x0_e])] S (retT [(.one .bool)] K) := hF.run (fun q => q x0_a x0_b x0_c x0_d x0_e S K) h rfl

def law20_copied.p (P : Program) (N : Nat → Nat) (x0_a : Int) (x0_b : Int) (x0_c : List UInt8) (x0_d : V) (x0_e : V) (S : St) (K : Int → Int → List UInt8 → V → V → St → Prop) : Prop :=
  newS S (.cells [(V.int .i64 x0_a), (V.int .i64 x0_b), (V.str x0_c), x0_d, x0_e] true) fun S1 => newS S1 (.cells [(V.int .i64 0), (V.int .i64 0), (V.str ([] : List UInt8)), V.nilSlice, V.nilSlice] true) fun S2 => Loop2 (fun (k1 : V → Int → St → Prop) (x3 : V) (x4 : Int) (S3 : St) => ifS (loadV S3 (V.ptr S.next 3)) fun x9 => ∃ x10 : Int, lenV S3 2 x9 = some (V.int .i64 x10) ∧ ifC (decide (x4 < x10)) (ifS (loadV S3 (V.ptr S.next 3)) fun x15 => ifS (idxAddrV 5 x15 (V.int .i64 x4)) fun x17 => ∃ x18_a x18_b : Int, ∃ x18_c : List UInt8, ∃ x18_d x18_e : V, loadNV S3 5 x17 = some (V.agg [(V.int .i64 x18_a), (V.int .i64 x18_b), (V.str x18_c), x18_d, x18_e]) ∧ CallA P (N Fn.law20_copied) [(V.agg [(V.int .i64 x18_a), (V.int .i64 x18_b), (V.str x18_c), x18_d, x18_e])] S3 (retT [(.agg [(.int .i64), (.int .i64), .str, .any, .any])] fun (x19_a : Int) (x19_b : Int) (x19_c : List UInt8) (x19_d : V) (x19_e : V) (S4 : St) => newS S4 (.cells [(V.int .i64 0), (V.int .i64 0), (V.str ([] : List UInt8)), V.nilSlice, V.nilSlice] true) fun S5 => ifS (storeV S5 5 (V.ptr S4.next 0) (V.agg [(V.int .i64 x19_a), (V.int .i64 x19_b), (V.str x19_c), x19_d, x19_e])) fun S6 => ∃ x21_a x21_b : Int, ∃ x21_c : List UInt8, ∃ x21_d x21_e : V, loadNV S6 5 (V.ptr S4.next 0) = some (V.agg [(V.int .i64 x21_a), (V.int .i64 x21_b), (V.str x21_c), x21_d, x21_e]) ∧ newS S6 (.cells [(V.int .i64 x21_a), (V.int .i64 x21_b), (V.str x21_c), x21_d, x21_e] true) fun S7 => ifP (appV S7 5 80 x3 (V.slice S6.next 0 1 1 5 true)) fun x23 S8 => setI (IntKind.i64.wrap (x4 + (1 : Int))) fun x13 => k1 x23 x13 S8)) (ifS (loadV S3 (V.ptr S.next 4)) fun x26 => ifP (appV S3 1 16 V.nilSlice x26) fun x27 S9 => ifS (storeV S9 1 (V.ptr S.next 3) x3) fun S10 => ifS (storeV S10 1 (V.ptr S.next 4) x27) fun S11 => ∃ x32_a x32_b : Int, ∃ x32_c : List UInt8, ∃ x32_d x32_e : V, loadNV S11 5 (V.ptr S.next 0) = some (V.agg [(V.int .i64 x32_a), (V.int .i64 x32_b), (V.str x32_c), x32_d, x32_e]) ∧ ifS (storeV S11 5 (V.ptr S1.next 0) (V.agg [(V.int .i64 x32_a), (V.int .i64 x32_b), (V.str x32_c), x32_d, x32_e])) fun S12 => ∃ xr_a xr_b : Int, ∃ xr_c : List UInt8, ∃ xr_d xr_e : V, cellNV S12 5 (V.ptr S1.next 0) = some (V.agg [(V.int .i64 xr_a), (V.int .i64 xr_b), (V.str xr_c), xr_d, xr_e]) ∧ K xr_a xr_b xr_c xr_d xr_e S12)) V.nilSlice 0 S2
abbrev law20_copied.Ok (P : Program) (N : Nat → Nat) : Prop := Reads P (N Fn.law20_copied) [(7, (.dt (.one (.int .i64))), []), (5, (.dt (.agg [(.int .i64), (.int .i64), .str, .any, .any])), []), (0, .no, [(.agg [(.int .i64), (.int .i64), .str, .any, .any])]), (3, (.dt (.agg [(.int .i64), (.int .i64), .str, .any, .any])), []), (0, (.dt (.agg [(.int .i64), (.int .i64), .str, .any, .any])), []), (17, (.dt (.agg [(.int .i64), (.int .i64), .str, .any, .any])), [])] [] [[(3, (.one .any)), (4, (.one (.int .i64)))]] (fun A T (x0_a : Int) (x0_b : Int) (x0_c : List UInt8) (x0_d : V) (x0_e : V) (S : St) (K : Int → Int → List UInt8 → V → V → St → Prop) => wpT P (envP P) T (endT A.results [(.agg [(.int .i64), (.int .i64), .str, .any, .any])] K) (frT A [(V.agg [(V.int .i64 x0_a), (V.int .i64 x0_b), (V.str x0_c), x0_d, x0_e])]) S) (fun x0_a x0_b x0_c x0_d x0_e S K => law20_copied.p P N x0_a x0_b x0_c x0_d x0_e S K)
theorem law20_copied.run {P : Program} {N : Nat → Nat} (hF : law20_copied.Ok P N) {x0_a : Int} {x0_b : Int} {x0_c : List UInt8} {x0_d : V} {x0_e : V} {S : St} {K : Int → Int → List UInt8 → V → V → St → Prop} (h : law20_copied.p P N x0_a x0_b x0_c x0_d x0_e S K) : CallA P (N Fn.law20_copied) [(V.agg [(V.int .i64 x0_a), (V.int .i64 x0_b), (V.str x0_c), x0_d, x0_e])] S (retT [(.agg [(.int .i64), (.int .i64), .str, .any, .any])] K) := hF.run (fun q => q x0_a x0_b x0_c x0_d x0_e S K) h rfl

def law20_parts.p (P : Program) (N : Nat → Nat) (x0_a : Int) (x0_b : Int) (x0_c : List UInt8) (x0_d : V) (x0_e : V) (x1 : Int) (x2 : Int) (S : St) (K : Int → St → Prop) : Prop :=
  newS S (.cells [(V.int .i64 x0_a), (V.int .i64 x0_b), (V.str x0_c), x0_d, x0_e] true) fun S1 => ifC (decide ((2000 : Int) < x2)) (K 131073 S1) (setI (IntKind.i64.wrap (x1 + (1 : Int))) fun x12 => ∃ x14 : List UInt8, loadV S1 (V.ptr S.next 2) = some (V.str x14) ∧ setI (IntKind.i64.wrap (x12 + (x14.length : Int))) fun x16 => ifS (loadV S1 (V.ptr S.next 4)) fun x18 => ∃ x19 : Int, lenV S1 2 x18 = some (V.int .i64 x19) ∧ setI (IntKind.i64.wrap (x16 + x19)) fun x20 => Join1 (fun (k1 : Int → St → Prop) => Loop2 (fun (k2 : Int → Int → St → Prop) (x1_2 : Int) (x7 : Int) (S3 : St) => Join0 (fun (k3 : St → Prop) => ifS (loadV S3 (V.ptr S.next 4)) fun x23 => ∃ x24 : Int, lenV S3 2 x23 = some (V.int .i64 x24) ∧ ifC (decide (x7 < x24)) (ifC (decide (x1_2 ≤ (131072 : Int))) (k3  S3) (k1 x1_2 S3)) (k1 x1_2 S3)) (fun (S4 : St) => ifS (loadV S4 (V.ptr S.next 4)) fun x34 => ifS (idxAddrV 1 x34 (V.int .i64 x7)) fun x36 => ∃ x37 : List UInt8, loadV S4 x36 = some (V.str x37) ∧ setI (IntKind.i64.wrap (x1_2 + (x37.length : Int))) fun x39 => setI (IntKind.i64.wrap (x7 + (1 : Int))) fun x31 => k2 x39 x31 S4)) x20 0 S1) (fun (x1_1 : Int) (S2 : St) => Loop2 (fun (k4 : Int → Int → St → Prop) (x1_3 : Int) (x8 : Int) (S5 : St) => Join0 (fun (k5 : St → Prop) => ifS (loadV S5 (V.ptr S.next 3)) fun x42 => ∃ x43 : Int, lenV S5 2 x42 = some (V.int .i64 x43) ∧ ifC (decide (x8 < x43)) (ifC (decide (x1_3 ≤ (131072 : Int))) (k5  S5) (K x1_3 S5)) (K x1_3 S5)) (fun (S6 : St) => ifS (loadV S6 (V.ptr S.next 3)) fun x52 => ifS (idxAddrV 5 x52 (V.int .i64 x8)) fun x54 => ∃ x55_a x55_b : Int, ∃ x55_c : List UInt8, ∃ x55_d x55_e : V, loadNV S6 5 x54 = some (V.agg [(V.int .i64 x55_a), (V.int .i64 x55_b), (V.str x55_c), x55_d, x55_e]) ∧ setI (IntKind.i64.wrap (x2 + (1 : Int))) fun x58 => CallA P (N Fn.law20_parts) [(V.agg [(V.int .i64 x55_a), (V.int .i64 x55_b), (V.str x55_c), x55_d, x55_e]), (V.int .i64 x1_3), (V.int .i64 x58)] S6 (retT [(.one (.int .i64))] fun (x59 : Int) (S7 : St) => setI (IntKind.i64.wrap (x8 + (1 : Int))) fun x50 => k4 x59 x50 S7))) x1_1 0 S2))
abbrev law20_parts.Ok (P : Program) (N : Nat → Nat) : Prop := Reads P (N Fn.law20_parts) [(8, (.dt (.one .str)), []), (4, (.dt (.one (.int .i64))), []), (6, (.dt (.one (.int .i64))), []), (10, (.dt (.one .str)), []), (10, (.dt (.one (.int .i64))), []), (9, (.dt (.agg [(.int .i64), (.int .i64), .str, .any, .any])), []), (3, .no, [(.one (.int .i64))])] [(5, [(1, (.one (.int .i64)))]), (1, []), (4, [])] [[(1, (.one (.int .i64))), (7, (.one (.int .i64)))], [(1, (.one (.int .i64))), (8, (.one (.int .i64)))]] (fun A T (x0_a : Int) (x0_b : Int) (x0_c : List UInt8) (x0_d : V) (x0_e : V) (x1 : Int) (x2 : Int) (S : St) (K : Int → St → Prop) => wpT P (envP P) T (endT A.results [(.one (.int .i64))] K) (frT A [(V.agg [(V.int .i64 x0_a), (V.int .i64 x0_b), (V.str x0_c), x0_d, x0_e]), (V.int .i64 x1), (V.int .i64 x2)]) S) (fun x0_a x0_b x0_c x0_d x0_e x1 x2 S K => law20_parts.p P N x0_a x0_b x0_c x0_d x0_e x1 x2 S K)
theorem law20_parts.run {P : Program} {N : Nat → Nat} (hF : law20_parts.Ok P N) {x0_a : Int} {x0_b : Int} {x0_c : List UInt8} {x0_d : V} {x0_e : V} {x1 : Int} {x2 : Int} {S : St} {K : Int → St → Prop} (h : law20_parts.p P N x0_a x0_b x0_c x0_d x0_e x1 x2 S K) : CallA P (N Fn.law20_parts) [(V.agg [(V.int .i64 x0_a), (V.int .i64 x0_b), (V.str x0_c), x0_d, x0_e]), (V.int .i64 x1), (V.int .i64 x2)] S (retT [(.one (.int .i64))] K) := hF.run (fun q => q x0_a x0_b x0_c x0_d x0_e x1 x2 S K) h rfl

def law20_wide.p (P : Program) (N : Nat → Nat) (x0_a : Int) (x0_b : Int) (x0_c : List UInt8) (x0_d : V) (x0_e : V) (S : St) (K : Bool → St → Prop) : Prop :=
  newS S (.cells [(V.int .i64 x0_a), (V.int .i64 x0_b), (V.str x0_c), x0_d, x0_e] true) fun S1 => ifS (loadV S1 (V.ptr S.next 4)) fun x5 => ∃ x6 : Int, lenV S1 2 x5 = some (V.int .i64 x6) ∧ ifC (decide ((3000 : Int) < x6)) (K true S1) (Loop1 (fun (k1 : Int → St → Prop) (x3 : Int) (S2 : St) => ifS (loadV S2 (V.ptr S.next 3)) fun x10 => ∃ x11 : Int, lenV S2 2 x10 = some (V.int .i64 x11) ∧ ifC (decide (x3 < x11)) (ifS (loadV S2 (V.ptr S.next 3)) fun x16 => ifS (idxAddrV 5 x16 (V.int .i64 x3)) fun x18 => ∃ x19_a x19_b : Int, ∃ x19_c : List UInt8, ∃ x19_d x19_e : V, loadNV S2 5 x18 = some (V.agg [(V.int .i64 x19_a), (V.int .i64 x19_b), (V.str x19_c), x19_d, x19_e]) ∧ CallA P (N Fn.law20_wide) [(V.agg [(V.int .i64 x19_a), (V.int .i64 x19_b), (V.str x19_c), x19_d, x19_e])] S2 (retT [(.one .bool)] fun (x20 : Bool) (S3 : St) => ifC x20 (K true S3) (setI (IntKind.i64.wrap (x3 + (1 : Int))) fun x14 => k1 x14 S3))) (K false S2)) 0 S1)
abbrev law20_wide.Ok (P : Program) (N : Nat → Nat) : Prop := Reads P (N Fn.law20_wide) [(4, (.dt (.one (.int .i64))), []), (6, (.dt (.one (.int .i64))), []), (5, (.dt (.agg [(.int .i64), (.int .i64), .str, .any, .any])), []), (0, .no, [(.one .bool)])] [] [[(3, (.one (.int .i64)))]] (fun A T (x0_a : Int) (x0_b : Int) (x0_c : List UInt8) (x0_d : V) (x0_e : V) (S : St) (K : Bool → St → Prop) => wpT P (envP P) T (endT A.results [(.one .bool)] K) (frT A [(V.agg [(V.int .i64 x0_a), (V.int .i64 x0_b), (V.str x0_c), x0_d, x0_e])]) S) (fun x0_a x0_b x0_c x0_d x0_e S K => law20_wide.p P N x0_a x0_b x0_c x0_d x0_e S K)
theorem law20_wide.run {P : Program} {N : Nat → Nat} (hF : law20_wide.Ok P N) {x0_a : Int} {x0_b : Int} {x0_c : List UInt8} {x0_d : V} {x0_e : V} {S : St} {K : Bool → St → Prop} (h : law20_wide.p P N x0_a x0_b x0_c x0_d x0_e S K) : CallA P (N Fn.law20_wide) [(V.agg [(V.int .i64 x0_a), (V.int .i64 x0_b), (V.str x0_c), x0_d, x0_e])] S (retT [(.one .bool)] K) := hF.run (fun q => q x0_a x0_b x0_c x0_d x0_e S K) h rfl

end Go.Th.L
end

section
/- Functions of ref20, read without frames (printed by tools/lib.py). -/
set_option linter.unusedVariables false
set_option maxRecDepth 100000
set_option maxHeartbeats 2000000
namespace Go.Th.L
open Go Go.Th

def ref20_Same.p (P : Program) (N : Nat → Nat) (x0_a : Int) (x0_b : Int) (x0_c : List UInt8) (x0_d : V) (x0_e : V) (x1_a : Int) (x1_b : Int) (x1_c : List UInt8) (x1_d : V) (x1_e : V) (S : St) (K : Bool → St → Prop) : Prop :=
  newS S (.cells [(V.int .i64 x0_a), (V.int .i64 x0_b), (V.str x0_c), x0_d, x0_e] true) fun S1 => newS S1 (.cells [(V.int .i64 x1_a), (V.int .i64 x1_b), (V.str x1_c), x1_d, x1_e] true) fun S2 => Join0 (fun (k1 : St → Prop) => ∃ x8 : Int, loadV S2 (V.ptr S.next 0) = some (V.int .i64 x8) ∧ ∃ x10 : Int, loadV S2 (V.ptr S1.next 0) = some (V.int .i64 x10) ∧ ifC (!decide (x8 = x10)) (K false S2) (∃ x14 : Int, loadV S2 (V.ptr S.next 1) = some (V.int .i64 x14) ∧ ∃ x16 : Int, loadV S2 (V.ptr S1.next 1) = some (V.int .i64 x16) ∧ ifC (!decide (x14 = x16)) (K false S2) (∃ x21 : List UInt8, loadV S2 (V.ptr S.next 2) = some (V.str x21) ∧ ∃ x23 : List UInt8, loadV S2 (V.ptr S1.next 2) = some (V.str x23) ∧ ifC (!decide (x21 = x23)) (K false S2) (ifS (loadV S2 (V.ptr S.next 3)) fun x28 => ∃ x29 : Int, lenV S2 2 x28 = some (V.int .i64 x29) ∧ ifS (loadV S2 (V.ptr S1.next 3)) fun x31 => ∃ x32 : Int, lenV S2 2 x31 = some (V.int .i64 x32) ∧ ifC (!decide (x29 = x32)) (K false S2) (ifS (loadV S2 (V.ptr S.next 4)) fun x37 => ∃ x38 : Int, lenV S2 2 x37 = some (V.int .i64 x38) ∧ ifS (loadV S2 (V.ptr S1.next 4)) fun x40 => ∃ x41 : Int, lenV S2 2 x40 = some (V.int .i64 x41) ∧ ifC (!decide (x38 = x41)) (K false S2) (k1  S2)))))) (fun (S3 : St) => Loop1 (fun (k2 : Int → St → Prop) (x5 : Int) (S4 : St) => ifS (loadV S4 (V.ptr S.next 4)) fun x46 => ∃ x47 : Int, lenV S4 2 x46 = some (V.int .i64 x47) ∧ ifC (decide (x5 < x47)) (ifS (loadV S4 (V.ptr S.next 4)) fun x52 => ifS (idxAddrV 1 x52 (V.int .i64 x5)) fun x54 => ∃ x55 : List UInt8, loadV S4 x54 = some (V.str x55) ∧ ifS (loadV S4 (V.ptr S1.next 4)) fun x57 => ifS (idxAddrV 1 x57 (V.int .i64 x5)) fun x59 => ∃ x60 : List UInt8, loadV S4 x59 = some (V.str x60) ∧ ifC (!decide (x55 = x60)) (K false S4) (setI (IntKind.i64.wrap (x5 + (1 : Int))) fun x50 => k2 x50 S4)) (Loop1 (fun (k3 : Int → St → Prop) (x6 : Int) (S5 : St) => ifS (loadV S5 (V.ptr S.next 3)) fun x64 => ∃ x65 : Int, lenV S5 2 x64 = some (V.int .i64 x65) ∧ ifC (decide (x6 < x65)) (ifS (loadV S5 (V.ptr S.next 3)) fun x70 => ifS (idxAddrV 5 x70 (V.int .i64 x6)) fun x72 => ∃ x73_a x73_b : Int, ∃ x73_c : List UInt8, ∃ x73_d x73_e : V, loadNV S5 5 x72 = some (V.agg [(V.int .i64 x73_a), (V.int .i64 x73_b), (V.str x73_c), x73_d, x73_e]) ∧ ifS (loadV S5 (V.ptr S1.next 3)) fun x75 => ifS (idxAddrV 5 x75 (V.int .i64 x6)) fun x77 => ∃ x78_a x78_b : Int, ∃ x78_c : List UInt8, ∃ x78_d x78_e : V, loadNV S5 5 x77 = some (V.agg [(V.int .i64 x78_a), (V.int .i64 x78_b), (V.str x78_c), x78_d, x78_e]) ∧ CallA P (N Fn.ref20_Same) [(V.agg [(V.int .i64 x73_a), (V.int .i64 x73_b), (V.str x73_c), x73_d, x73_e]), (V.agg [(V.int .i64 x78_a), (V.int .i64 x78_b), (V.str x78_c), x78_d, x78_e])] S5 (retT [(.one .bool)] fun (x79 : Bool) (S6 : St) => Same (S1.next :: (S.next :: [])) S5 S6 ∧ ifC (!x79) (K false S6) (setI (IntKind.i64.wrap (x6 + (1 : Int))) fun x68 => k3 x68 S6))) (K true S5)) 0 S4)) 0 S3)
abbrev ref20_Same.Ok (P : Program) (N : Nat → Nat) : Prop := Reads P (N Fn.ref20_Same) [(4, (.dt (.one (.int .i64))), []), (1, (.dt (.one (.int .i64))), []), (3, (.dt (.one (.int .i64))), []), (1, (.dt (.one (.int .i64))), []), (4, (.dt (.one .str)), []), (1, (.dt (.one .str)), []), (5, (.dt (.one (.int .i64))), []), (2, (.dt (.one (.int .i64))), []), (5, (.dt (.one (.int .i64))), []), (2, (.dt (.one (.int .i64))), []), (7, (.dt (.one (.int .i64))), []), (5, (.dt (.one .str)), []), (4, (.dt (.one .str)), []), (9, (.dt (.one (.int .i64))), []), (5, (.dt (.agg [(.int .i64), (.int .i64), .str, .any, .any])), []), (4, (.dt (.agg [(.int .i64), (.int .i64), .str, .any, .any])), []), (0, .no, [(.one .bool)])] [(1, [])] [[(5, (.one (.int .i64)))], [(6, (.one (.int .i64)))]] (fun A T (x0_a : Int) (x0_b : Int) (x0_c : List UInt8) (x0_d : V) (x0_e : V) (x1_a : Int) (x1_b : Int) (x1_c : List UInt8) (x1_d : V) (x1_e : V) (S : St) (K : Bool → St → Prop) => wpT P (envP P) T (endT A.results [(.one .bool)] K) (frT A [(V.agg [(V.int .i64 x0_a), (V.int .i64 x0_b), (V.str x0_c), x0_d, x0_e]), (V.agg [(V.int .i64 x1_a), (V.int .i64 x1_b), (V.str x1_c), x1_d, x1_e])]) S) (fun x0_a x0_b x0_c x0_d x0_e x1_a x1_b x1_c x1_d x1_e S K => ref20_Same.p P N x0_a x0_b x0_c x0_d x0_e x1_a x1_b x1_c x1_d x1_e S K)
theorem ref20_Same.run {P : Program} {N : Nat → Nat} (hF : ref20_Same.Ok P N) {x0_a : Int} {x0_b : Int} {x0_c : List UInt8} {x0_d : V} {x0_e : V} {x1_a : Int} {x1_b : Int} {x1_c : List UInt8} {x1_d : V} {x1_e : V} {S : St} {K : Bool → St → Prop} (h : ref20_Same.p P N x0_a x0_b x0_c x0_d x0_e x1_a x1_b x1_c x1_d x1_e S K) : CallA P (N Fn.ref20_Same) [(V.agg [(V.int .i64 x0_a), (V.int .i64 x0_b), (V.str x0_c), x0_d, x0_e]), (V.agg [(V.int .i64 x1_a), (V.int .i64 x1_b), (V.str x1_c), x1_d, x1_e])] S (retT [(.one .bool)] K) := hF.run (fun q => q x0_a x0_b x0_c x0_d x0_e x1_a x1_b x1_c x1_d x1_e S K) h rfl

def ref20_Print.p (P : Program) (N : Nat → Nat) (x0_a : Int) (x0_b : Int) (x0_c : List UInt8) (x0_d : V) (x0_e : V) (S : St) (K : List UInt8 → Int → St → Prop) : Prop :=
  newS S (.cells [(V.int .i64 x0_a), (V.int .i64 x0_b), (V.str x0_c), x0_d, x0_e] true) fun S1 => ∃ x6_a x6_b : Int, ∃ x6_c : List UInt8, ∃ x6_d x6_e : V, loadNV S1 5 (V.ptr S.next 0) = some (V.agg [(V.int .i64 x6_a), (V.int .i64 x6_b), (V.str x6_c), x6_d, x6_e]) ∧ CallA P (N Fn.ref20_Check) [(V.agg [(V.int .i64 x6_a), (V.int .i64 x6_b), (V.str x6_c), x6_d, x6_e])] S1 (retT [(.one (.int .i64))] fun (x7 : Int) (S2 : St) => ifC (!decide (x7 = (0 : Int))) (K ([] : List UInt8) x7 S2) (∃ x11_a x11_b : Int, ∃ x11_c : List UInt8, ∃ x11_d x11_e : V, loadNV S2 5 (V.ptr S.next 0) = some (V.agg [(V.int .i64 x11_a), (V.int .i64 x11_b), (V.str x11_c), x11_d, x11_e]) ∧ CallA P (N Fn.ref20_text) [(V.agg [(V.int .i64 x11_a), (V.int .i64 x11_b), (V.str x11_c), x11_d, x11_e])] S2 (retT [(.one .str)] fun (x12 : List UInt8) (S3 : St) => ifC (decide ((16384 : Int) < (x12.length : Int))) (K ([] : List UInt8) 2 S3) (K x12 0 S3))))
abbrev ref20_Print.Ok (P : Program) (N : Nat → Nat) : Prop := Reads P (N Fn.ref20_Print) [(3, (.dt (.agg [(.int .i64), (.int .i64), .str, .any, .any])), []), (0, .no, [(.one (.int .i64))]), (6, (.dt (.agg [(.int .i64), (.int .i64), .str, .any, .any])), []), (0, .no, [(.one .str)])] [] [] (fun A T (x0_a : Int) (x0_b : Int) (x0_c : List UInt8) (x0_d : V) (x0_e : V) (S : St) (K : List UInt8 → Int → St → Prop) => wpT P (envP P) T (endT A.results [(.one .str), (.one (.int .i64))] K) (frT A [(V.agg [(V.int .i64 x0_a), (V.int .i64 x0_b), (V.str x0_c), x0_d, x0_e])]) S) (fun x0_a x0_b x0_c x0_d x0_e S K => ref20_Print.p P N x0_a x0_b x0_c x0_d x0_e S K)
theorem ref20_Print.run {P : Program} {N : Nat → Nat} (hF : ref20_Print.Ok P N) {x0_a : Int} {x0_b : Int} {x0_c : List UInt8} {x0_d : V} {x0_e : V} {S : St} {K : List UInt8 → Int → St → Prop} (h : ref20_Print.p P N x0_a x0_b x0_c x0_d x0_e S K) : CallA P (N Fn.ref20_Print) [(V.agg [(V.int .i64 x0_a), (V.int .i64 x0_b), (V.str x0_c), x0_d, x0_e])] S (retT [(.one .str), (.one (.int .i64))] K) := hF.run (fun q => q x0_a x0_b x0_c x0_d x0_e S K) h rfl

def ref20_Get.p (P : Program) (N : Nat → Nat) (x0_a : Int) (x0_b : Int) (x0_c : List UInt8) (x0_d : V) (x0_e : V) (x1 : List UInt8) (S : St) (K : Int → Int → List UInt8 → V → V → Bool → St → Prop) : Prop :=
  newS S (.cells [(V.int .i64 x0_a), (V.int .i64 x0_b), (V.str x0_c), x0_d, x0_e] true) fun S1 => newS S1 (.cells [(V.int .i64 0), (V.int .i64 0), (V.str ([] : List UInt8)), V.nilSlice, V.nilSlice] true) fun S2 => Join0 (fun (k1 : St → Prop) => Loop1 (fun (k2 : Int → St → Prop) (x6 : Int) (S4 : St) => Join0 (fun (k3 : St → Prop) => ifS (loadV S4 (V.ptr S.next 4)) fun x9 => ∃ x10 : Int, lenV S4 2 x9 = some (V.int .i64 x10) ∧ ifC (decide (x6 < x10)) (ifS (loadV S4 (V.ptr S.next 3)) fun x15 => ∃ x16 : Int, lenV S4 2 x15 = some (V.int .i64 x16) ∧ ifC (decide (x6 < x16)) (∃ x21 : Int, loadV S4 (V.ptr S.next 0) = some (V.int .i64 x21) ∧ ifC (decide (x21 = (7 : Int))) (k3  S4) (k1  S4)) (k1  S4)) (k1  S4)) (fun (S5 : St) => ifS (loadV S5 (V.ptr S.next 4)) fun x27 => ifS (idxAddrV 1 x27 (V.int .i64 x6)) fun x29 => ∃ x30 : List UInt8, loadV S5 x29 = some (V.str x30) ∧ ifC (decide (x30 = x1)) (ifS (loadV S5 (V.ptr S.next 3)) fun x34 => ifS (idxAddrV 5 x34 (V.int .i64 x6)) fun x36 => ∃ x37_a x37_b : Int, ∃ x37_c : List UInt8, ∃ x37_d x37_e : V, loadNV S5 5 x36 = some (V.agg [(V.int .i64 x37_a), (V.int .i64 x37_b), (V.str x37_c), x37_d, x37_e]) ∧ ifS (storeV S5 5 (V.ptr S1.next 0) (V.agg [(V.int .i64 x37_a), (V.int .i64 x37_b), (V.str x37_c), x37_d, x37_e])) fun S6 => ∃ xr_a xr_b : Int, ∃ xr_c : List UInt8, ∃ xr_d xr_e : V, cellNV S6 5 (V.ptr S1.next 0) = some (V.agg [(V.int .i64 xr_a), (V.int .i64 xr_b), (V.str xr_c), xr_d, xr_e]) ∧ K xr_a xr_b xr_c xr_d xr_e true S6) (setI (IntKind.i64.wrap (x6 + (1 : Int))) fun x25 => k2 x25 S5))) 0 S2) (fun (S3 : St) => ifS (storeV S3 5 (V.ptr S1.next 0) (V.agg [(V.int .i64 0), (V.int .i64 0), (V.str ([] : List UInt8)), V.nilSlice, V.nilSlice])) fun S7 => ∃ xr_a_1 xr_b_1 : Int, ∃ xr_c_1 : List UInt8, ∃ xr_d_1 xr_e_1 : V, cellNV S7 5 (V.ptr S1.next 0) = some (V.agg [(V.int .i64 xr_a_1), (V.int .i64 xr_b_1), (V.str xr_c_1), xr_d_1, xr_e_1]) ∧ K xr_a_1 xr_b_1 xr_c_1 xr_d_1 xr_e_1 false S7)
abbrev ref20_Get.Ok (P : Program) (N : Nat → Nat) : Prop := Reads P (N Fn.ref20_Get) [(7, (.dt (.one (.int .i64))), []), (5, (.dt (.one (.int .i64))), []), (4, (.dt (.one (.int .i64))), []), (6, (.dt (.one .str)), []), (6, (.dt (.agg [(.int .i64), (.int .i64), .str, .any, .any])), []), (5, (.dt (.agg [(.int .i64), (.int .i64), .str, .any, .any])), [])] [(1, []), (1, [])] [[(6, (.one (.int .i64)))]] (fun A T (x0_a : Int) (x0_b : Int) (x0_c : List UInt8) (x0_d : V) (x0_e : V) (x1 : List UInt8) (S : St) (K : Int → Int → List UInt8 → V → V → Bool → St → Prop) => wpT P (envP P) T (endT A.results [(.agg [(.int .i64), (.int .i64), .str, .any, .any]), (.one .bool)] K) (frT A [(V.agg [(V.int .i64 x0_a), (V.int .i64 x0_b), (V.str x0_c), x0_d, x0_e]), (V.str x1)]) S) (fun x0_a x0_b x0_c x0_d x0_e x1 S K => ref20_Get.p P N x0_a x0_b x0_c x0_d x0_e x1 S K)
theorem ref20_Get.run {P : Program} {N : Nat → Nat} (hF : ref20_Get.Ok P N) {x0_a : Int} {x0_b : Int} {x0_c : List UInt8} {x0_d : V} {x0_e : V} {x1 : List UInt8} {S : St} {K : Int → Int → List UInt8 → V → V → Bool → St → Prop} (h : ref20_Get.p P N x0_a x0_b x0_c x0_d x0_e x1 S K) : CallA P (N Fn.ref20_Get) [(V.agg [(V.int .i64 x0_a), (V.int .i64 x0_b), (V.str x0_c), x0_d, x0_e]), (V.str x1)] S (retT [(.agg [(.int .i64), (.int .i64), .str, .any, .any]), (.one .bool)] K) := hF.run (fun q => q x0_a x0_b x0_c x0_d x0_e x1 S K) h rfl

def ref20_Check.p (P : Program) (N : Nat → Nat) (x0_a : Int) (x0_b : Int) (x0_c : List UInt8) (x0_d : V) (x0_e : V) (S : St) (K : Int → St → Prop) : Prop :=
  newS S (.cells [(V.int .i64 x0_a), (V.int .i64 x0_b), (V.str x0_c), x0_d, x0_e] true) fun S1 => ∃ x4_a x4_b : Int, ∃ x4_c : List UInt8, ∃ x4_d x4_e : V, loadNV S1 5 (V.ptr S.next 0) = some (V.agg [(V.int .i64 x4_a), (V.int .i64 x4_b), (V.str x4_c), x4_d, x4_e]) ∧ CallA P (N Fn.ref20_formed) [(V.agg [(V.int .i64 x4_a), (V.int .i64 x4_b), (V.str x4_c), x4_d, x4_e])] S1 (retT [(.one .bool)] fun (x5 : Bool) (S2 : St) => ifC (!x5) (K 200 S2) (∃ x8_a x8_b : Int, ∃ x8_c : List UInt8, ∃ x8_d x8_e : V, loadNV S2 5 (V.ptr S.next 0) = some (V.agg [(V.int .i64 x8_a), (V.int .i64 x8_b), (V.str x8_c), x8_d, x8_e]) ∧ CallA P (N Fn.ref20_deep) [(V.agg [(V.int .i64 x8_a), (V.int .i64 x8_b), (V.str x8_c), x8_d, x8_e])] S2 (retT [(.one (.int .i64))] fun (x9 : Int) (S3 : St) => ifC (decide ((8 : Int) < x9)) (K 201 S3) (∃ x12_a x12_b : Int, ∃ x12_c : List UInt8, ∃ x12_d x12_e : V, loadNV S3 5 (V.ptr S.next 0) = some (V.agg [(V.int .i64 x12_a), (V.int .i64 x12_b), (V.str x12_c), x12_d, x12_e]) ∧ CallA P (N Fn.ref20_small) [(V.agg [(V.int .i64 x12_a), (V.int .i64 x12_b), (V.str x12_c), x12_d, x12_e])] S3 (retT [(.one .bool)] fun (x13 : Bool) (S4 : St) => ifC (!x13) (K 202 S4) (∃ x16_a x16_b : Int, ∃ x16_c : List UInt8, ∃ x16_d x16_e : V, loadNV S4 5 (V.ptr S.next 0) = some (V.agg [(V.int .i64 x16_a), (V.int .i64 x16_b), (V.str x16_c), x16_d, x16_e]) ∧ CallA P (N Fn.ref20_few) [(V.agg [(V.int .i64 x16_a), (V.int .i64 x16_b), (V.str x16_c), x16_d, x16_e])] S4 (retT [(.one .bool)] fun (x17 : Bool) (S5 : St) => ifC (!x17) (K 203 S5) (∃ x20_a x20_b : Int, ∃ x20_c : List UInt8, ∃ x20_d x20_e : V, loadNV S5 5 (V.ptr S.next 0) = some (V.agg [(V.int .i64 x20_a), (V.int .i64 x20_b), (V.str x20_c), x20_d, x20_e]) ∧ CallA P (N Fn.ref20_unlike) [(V.agg [(V.int .i64 x20_a), (V.int .i64 x20_b), (V.str x20_c), x20_d, x20_e])] S5 (retT [(.one .bool)] fun (x21 : Bool) (S6 : St) => ifC (!x21) (K 200 S6) (K 0 S6))))))))))
abbrev ref20_Check.Ok (P : Program) (N : Nat → Nat) : Prop := Reads P (N Fn.ref20_Check) [(2, (.dt (.agg [(.int .i64), (.int .i64), .str, .any, .any])), []), (0, .no, [(.one .bool)]), (3, (.dt (.agg [(.int .i64), (.int .i64), .str, .any, .any])), []), (0, .no, [(.one (.int .i64))]), (3, (.dt (.agg [(.int .i64), (.int .i64), .str, .any, .any])), []), (0, .no, [(.one .bool)]), (3, (.dt (.agg [(.int .i64), (.int .i64), .str, .any, .any])), []), (0, .no, [(.one .bool)]), (3, (.dt (.agg [(.int .i64), (.int .i64), .str, .any, .any])), []), (0, .no, [(.one .bool)])] [] [] (fun A T (x0_a : Int) (x0_b : Int) (x0_c : List UInt8) (x0_d : V) (x0_e : V) (S : St) (K : Int → St → Prop) => wpT P (envP P) T (endT A.results [(.one (.int .i64))] K) (frT A [(V.agg [(V.int .i64 x0_a), (V.int .i64 x0_b), (V.str x0_c), x0_d, x0_e])]) S) (fun x0_a x0_b x0_c x0_d x0_e S K => ref20_Check.p P N x0_a x0_b x0_c x0_d x0_e S K)
theorem ref20_Check.run {P : Program} {N : Nat → Nat} (hF : ref20_Check.Ok P N) {x0_a : Int} {x0_b : Int} {x0_c : List UInt8} {x0_d : V} {x0_e : V} {S : St} {K : Int → St → Prop} (h : ref20_Check.p P N x0_a x0_b x0_c x0_d x0_e S K) : CallA P (N Fn.ref20_Check) [(V.agg [(V.int .i64 x0_a), (V.int .i64 x0_b), (V.str x0_c), x0_d, x0_e])] S (retT [(.one (.int .i64))] K) := hF.run (fun q => q x0_a x0_b x0_c x0_d x0_e S K) h rfl

def ref20_text.p (P : Program) (N : Nat → Nat) (x0_a : Int) (x0_b : Int) (x0_c : List UInt8) (x0_d : V) (x0_e : V) (S : St) (K : List UInt8 → St → Prop) : Prop :=
  newS S (.cells [(V.int .i64 x0_a), (V.int .i64 x0_b), (V.str x0_c), x0_d, x0_e] true) fun S1 => ∃ x6 : Int, loadV S1 (V.ptr S.next 0) = some (V.int .i64 x6) ∧ ifC (decide (x6 = (1 : Int))) (K ([110, 117, 108, 108] : List UInt8) S1) (ifC (decide (x6 = (2 : Int))) (K ([102, 97, 108, 115, 101] : List UInt8) S1) (ifC (decide (x6 = (3 : Int))) (K ([116, 114, 117, 101] : List UInt8) S1) (ifC (decide (x6 = (4 : Int))) (∃ x16 : Int, loadV S1 (V.ptr S.next 1) = some (V.int .i64 x16) ∧ CallA P (N Fn.ref20_Number) [(V.int .i64 x16)] S1 (retT [(.one .str)] fun (x17 : List UInt8) (S2 : St) => K x17 S2)) (ifC (decide (x6 = (5 : Int))) (∃ x21 : List UInt8, loadV S1 (V.ptr S.next 2) = some (V.str x21) ∧ CallA P (N Fn.ref20_quoted) [(V.str x21)] S1 (retT [(.one .str)] fun (x22 : List UInt8) (S3 : St) => K x22 S3)) (Loop2 (fun (k1 : List UInt8 → Int → St → Prop) (x3 : List UInt8) (x4 : Int) (S4 : St) => ifS (loadV S4 (V.ptr S.next 3)) fun x25 => ∃ x26 : Int, lenV S4 2 x25 = some (V.int .i64 x26) ∧ ifC (decide (x4 < x26)) (Join1 (fun (k2 : List UInt8 → St → Prop) => ifC (decide ((0 : Int) < x4)) (x3.length + ([44] : List UInt8).length < 2 ^ 62 ∧ k2 (x3 ++ ([44] : List UInt8)) S4) (k2 x3 S4)) (fun (x3_1 : List UInt8) (S5 : St) => Join1 (fun (k3 : List UInt8 → St → Prop) => ∃ x35 : Int, loadV S5 (V.ptr S.next 0) = some (V.int .i64 x35) ∧ ifC (decide (x35 = (7 : Int))) (ifS (loadV S5 (V.ptr S.next 4)) fun x39 => ifS (idxAddrV 1 x39 (V.int .i64 x4)) fun x41 => ∃ x42 : List UInt8, loadV S5 x41 = some (V.str x42) ∧ CallA P (N Fn.ref20_quoted) [(V.str x42)] S5 (retT [(.one .str)] fun (x43 : List UInt8) (S7 : St) => x3_1.length + x43.length < 2 ^ 62 ∧ (x3_1 ++ x43).length + ([58] : List UInt8).length < 2 ^ 62 ∧ k3 ((x3_1 ++ x43) ++ ([58] : List UInt8)) S7)) (k3 x3_1 S5)) (fun (x3_2 : List UInt8) (S6 : St) => ifS (loadV S6 (V.ptr S.next 3)) fun x48 => ifS (idxAddrV 5 x48 (V.int .i64 x4)) fun x50 => ∃ x51_a x51_b : Int, ∃ x51_c : List UInt8, ∃ x51_d x51_e : V, loadNV S6 5 x50 = some (V.agg [(V.int .i64 x51_a), (V.int .i64 x51_b), (V.str x51_c), x51_d, x51_e]) ∧ CallA P (N Fn.ref20_text) [(V.agg [(V.int .i64 x51_a), (V.int .i64 x51_b), (V.str x51_c), x51_d, x51_e])] S6 (retT [(.one .str)] fun (x52 : List UInt8) (S8 : St) => x3_2.length + x52.length < 2 ^ 62 ∧ setI (IntKind.i64.wrap (x4 + (1 : Int))) fun x29 => k1 (x3_2 ++ x52) x29 S8)))) (∃ x55 : Int, loadV S4 (V.ptr S.next 0) = some (V.int .i64 x55) ∧ ifC (decide (x55 = (7 : Int))) (([123] : List UInt8).length + x3.length < 2 ^ 62 ∧ (([123] : List UInt8) ++ x3).length + ([125] : List UInt8).length < 2 ^ 62 ∧ K ((([123] : List UInt8) ++ x3) ++ ([125] : List UInt8)) S4) (([91] : List UInt8).length + x3.length < 2 ^ 62 ∧ (([91] : List UInt8) ++ x3).length + ([93] : List UInt8).length < 2 ^ 62 ∧ K ((([91] : List UInt8) ++ x3) ++ ([93] : List UInt8)) S4))) ([] : List UInt8) 0 S1)))))
abbrev ref20_text.Ok (P : Program) (N : Nat → Nat) : Prop := Reads P (N Fn.ref20_text) [(3, (.dt (.one (.int .i64))), []), (12, (.dt (.one (.int .i64))), []), (0, .no, [(.one .str)]), (4, (.dt (.one .str)), []), (0, .no, [(.one .str)]), (6, (.dt (.one (.int .i64))), []), (7, (.dt (.one (.int .i64))), []), (6, (.dt (.one .str)), []), (0, .no, [(.one .str)]), (8, (.dt (.agg [(.int .i64), (.int .i64), .str, .any, .any])), []), (0, .no, [(.one .str)]), (6, (.dt (.one (.int .i64))), [])] [(19, [(3, (.one .str))]), (1, [(3, (.one .str))])] [[(3, (.one .str)), (4, (.one (.int .i64)))]] (fun A T (x0_a : Int) (x0_b : Int) (x0_c : List UInt8) (x0_d : V) (x0_e : V) (S : St) (K : List UInt8 → St → Prop) => wpT P (envP P) T (endT A.results [(.one .str)] K) (frT A [(V.agg [(V.int .i64 x0_a), (V.int .i64 x0_b), (V.str x0_c), x0_d, x0_e])]) S) (fun x0_a x0_b x0_c x0_d x0_e S K => ref20_text.p P N x0_a x0_b x0_c x0_d x0_e S K)
theorem ref20_text.run {P : Program} {N : Nat → Nat} (hF : ref20_text.Ok P N) {x0_a : Int} {x0_b : Int} {x0_c : List UInt8} {x0_d : V} {x0_e : V} {S : St} {K : List UInt8 → St → Prop} (h : ref20_text.p P N x0_a x0_b x0_c x0_d x0_e S K) : CallA P (N Fn.ref20_text) [(V.agg [(V.int .i64 x0_a), (V.int .i64 x0_b), (V.str x0_c), x0_d, x0_e])] S (retT [(.one .str)] K) := hF.run (fun q => q x0_a x0_b x0_c x0_d x0_e S K) h rfl

def ref20_formed.p (P : Program) (N : Nat → Nat) (x0_a : Int) (x0_b : Int) (x0_c : List UInt8) (x0_d : V) (x0_e : V) (S : St) (K : Bool → St → Prop) : Prop :=
  newS S (.cells [(V.int .i64 x0_a), (V.int .i64 x0_b), (V.str x0_c), x0_d, x0_e] true) fun S1 => Join1 (fun (k1 : Bool → St → Prop) => ∃ x6 : Int, loadV S1 (V.ptr S.next 0) = some (V.int .i64 x6) ∧ ifC (decide (x6 = (6 : Int))) (k1 true S1) (∃ x10 : Int, loadV S1 (V.ptr S.next 0) = some (V.int .i64 x10) ∧ k1 (decide (x10 = (7 : Int))) S1)) (fun (x3 : Bool) (S2 : St) => Join0 (fun (k2 : St → Prop) => ∃ x14 : Int, loadV S2 (V.ptr S.next 0) = some (V.int .i64 x14) ∧ ifC (decide (x14 < (1 : Int))) (K false S2) (∃ x18 : Int, loadV S2 (V.ptr S.next 0) = some (V.int .i64 x18) ∧ ifC (decide ((7 : Int) < x18)) (K false S2) (∃ x23 : Int, loadV S2 (V.ptr S.next 0) = some (V.int .i64 x23) ∧ ifC (!decide (x23 = (4 : Int))) (∃ x27 : Int, loadV S2 (V.ptr S.next 1) = some (V.int .i64 x27) ∧ ifC (!decide (x27 = (0 : Int))) (K false S2) (∃ x33 : Int, loadV S2 (V.ptr S.next 0) = some (V.int .i64 x33) ∧ ifC (!decide (x33 = (5 : Int))) (∃ x37 : List UInt8, loadV S2 (V.ptr S.next 2) = some (V.str x37) ∧ ifC (!decide (x37 = ([] : List UInt8))) (K false S2) (ifC (!x3) (ifS (loadV S2 (V.ptr S.next 3)) fun x46 => ∃ x47 : Int, lenV S2 2 x46 = some (V.int .i64 x47) ∧ ifC (decide ((0 : Int) < x47)) (K false S2) (k2  S2)) (k2  S2))) (ifC (!x3) (ifS (loadV S2 (V.ptr S.next 3)) fun x46_1 => ∃ x47_1 : Int, lenV S2 2 x46_1 = some (V.int .i64 x47_1) ∧ ifC (decide ((0 : Int) < x47_1)) (K false S2) (k2  S2)) (k2  S2)))) (∃ x33_1 : Int, loadV S2 (V.ptr S.next 0) = some (V.int .i64 x33_1) ∧ ifC (!decide (x33_1 = (5 : Int))) (∃ x37_1 : List UInt8, loadV S2 (V.ptr S.next 2) = some (V.str x37_1) ∧ ifC (!decide (x37_1 = ([] : List UInt8))) (K false S2) (ifC (!x3) (ifS (loadV S2 (V.ptr S.next 3)) fun x46_2 => ∃ x47_2 : Int, lenV S2 2 x46_2 = some (V.int .i64 x47_2) ∧ ifC (decide ((0 : Int) < x47_2)) (K false S2) (k2  S2)) (k2  S2))) (ifC (!x3) (ifS (loadV S2 (V.ptr S.next 3)) fun x46_3 => ∃ x47_3 : Int, lenV S2 2 x46_3 = some (V.int .i64 x47_3) ∧ ifC (decide ((0 : Int) < x47_3)) (K false S2) (k2  S2)) (k2  S2)))))) (fun (S3 : St) => Join0 (fun (k3 : St → Prop) => ∃ x52 : Int, loadV S3 (V.ptr S.next 0) = some (V.int .i64 x52) ∧ ifC (decide (x52 = (7 : Int))) (ifS (loadV S3 (V.ptr S.next 4)) fun x56 => ∃ x57 : Int, lenV S3 2 x56 = some (V.int .i64 x57) ∧ ifS (loadV S3 (V.ptr S.next 3)) fun x59 => ∃ x60 : Int, lenV S3 2 x59 = some (V.int .i64 x60) ∧ ifC (!decide (x57 = x60)) (K false S3) (∃ x65 : Int, loadV S3 (V.ptr S.next 0) = some (V.int .i64 x65) ∧ ifC (!decide (x65 = (7 : Int))) (ifS (loadV S3 (V.ptr S.next 4)) fun x69 => ∃ x70 : Int, lenV S3 2 x69 = some (V.int .i64 x70) ∧ ifC (decide ((0 : Int) < x70)) (K false S3) (k3  S3)) (k3  S3))) (∃ x65_1 : Int, loadV S3 (V.ptr S.next 0) = some (V.int .i64 x65_1) ∧ ifC (!decide (x65_1 = (7 : Int))) (ifS (loadV S3 (V.ptr S.next 4)) fun x69_1 => ∃ x70_1 : Int, lenV S3 2 x69_1 = some (V.int .i64 x70_1) ∧ ifC (decide ((0 : Int) < x70_1)) (K false S3) (k3  S3)) (k3  S3))) (fun (S4 : St) => Loop1 (fun (k4 : Int → St → Prop) (x4 : Int) (S5 : St) => ifS (loadV S5 (V.ptr S.next 3)) fun x76 => ∃ x77 : Int, lenV S5 2 x76 = some (V.int .i64 x77) ∧ ifC (decide (x4 < x77)) (ifS (loadV S5 (V.ptr S.next 3)) fun x82 => ifS (idxAddrV 5 x82 (V.int .i64 x4)) fun x84 => ∃ x85_a x85_b : Int, ∃ x85_c : List UInt8, ∃ x85_d x85_e : V, loadNV S5 5 x84 = some (V.agg [(V.int .i64 x85_a), (V.int .i64 x85_b), (V.str x85_c), x85_d, x85_e]) ∧ CallA P (N Fn.ref20_formed) [(V.agg [(V.int .i64 x85_a), (V.int .i64 x85_b), (V.str x85_c), x85_d, x85_e])] S5 (retT [(.one .bool)] fun (x86 : Bool) (S6 : St) => ifC (!x86) (K false S6) (setI (IntKind.i64.wrap (x4 + (1 : Int))) fun x80 => k4 x80 S6))) (K true S5)) 0 S4)))
abbrev ref20_formed.Ok (P : Program) (N : Nat → Nat) : Prop := Reads P (N Fn.ref20_formed) [(3, (.dt (.one (.int .i64))), []), (3, (.dt (.one (.int .i64))), []), (4, (.dt (.one (.int .i64))), []), (3, (.dt (.one (.int .i64))), []), (4, (.dt (.one (.int .i64))), []), (3, (.dt (.one (.int .i64))), []), (5, (.dt (.one (.int .i64))), []), (3, (.dt (.one .str)), []), (9, (.dt (.one (.int .i64))), []), (5, (.dt (.one (.int .i64))), []), (4, (.dt (.one (.int .i64))), []), (2, (.dt (.one (.int .i64))), []), (4, (.dt (.one (.int .i64))), []), (4, (.dt (.one (.int .i64))), []), (8, (.dt (.one (.int .i64))), []), (5, (.dt (.agg [(.int .i64), (.int .i64), .str, .any, .any])), []), (0, .no, [(.one .bool)])] [(1, [(3, (.one .bool))]), (0, []), (2, [])] [[(4, (.one (.int .i64)))]] (fun A T (x0_a : Int) (x0_b : Int) (x0_c : List UInt8) (x0_d : V) (x0_e : V) (S : St) (K : Bool → St → Prop) => wpT P (envP P) T (endT A.results [(.one .bool)] K) (frT A [(V.agg [(V.int .i64 x0_a), (V.int .i64 x0_b), (V.str x0_c), x0_d, x0_e])]) S) (fun x0_a x0_b x0_c x0_d x0_e S K => ref20_formed.p P N x0_a x0_b x0_c x0_d x0_e S K)
theorem ref20_formed.run {P : Program} {N : Nat → Nat} (hF : ref20_formed.Ok P N) {x0_a : Int} {x0_b : Int} {x0_c : List UInt8} {x0_d : V} {x0_e : V} {S : St} {K : Bool → St → Prop} (h : ref20_formed.p P N x0_a x0_b x0_c x0_d x0_e S K) : CallA P (N Fn.ref20_formed) [(V.agg [(V.int .i64 x0_a), (V.int .i64 x0_b), (V.str x0_c), x0_d, x0_e])] S (retT [(.one .bool)] K) := hF.run (fun q => q x0_a x0_b x0_c x0_d x0_e S K) h rfl

def ref20_deep.p (P : Program) (N : Nat → Nat) (x0_a : Int) (x0_b : Int) (x0_c : List UInt8) (x0_d : V) (x0_e : V) (S : St) (K : Int → St → Prop) : Prop :=
  newS S (.cells [(V.int .i64 x0_a), (V.int .i64 x0_b), (V.str x0_c), x0_d, x0_e] true) fun S1 => Join0 (fun (k1 : St → Prop) => ∃ x6 : Int, loadV S1 (V.ptr S.next 0) = some (V.int .i64 x6) ∧ ifC (!decide (x6 = (6 : Int))) (∃ x10 : Int, loadV S1 (V.ptr S.next 0) = some (V.int .i64 x10) ∧ ifC (!decide (x10 = (7 : Int))) (K 0 S1) (k1  S1)) (k1  S1)) (fun (S2 : St) => Loop2 (fun (k2 : Int → Int → St → Prop) (x3 : Int) (x4 : Int) (S3 : St) => ifS (loadV S3 (V.ptr S.next 3)) fun x15 => ∃ x16 : Int, lenV S3 2 x15 = some (V.int .i64 x16) ∧ ifC (decide (x4 < x16)) (ifS (loadV S3 (V.ptr S.next 3)) fun x22 => ifS (idxAddrV 5 x22 (V.int .i64 x4)) fun x24 => ∃ x25_a x25_b : Int, ∃ x25_c : List UInt8, ∃ x25_d x25_e : V, loadNV S3 5 x24 = some (V.agg [(V.int .i64 x25_a), (V.int .i64 x25_b), (V.str x25_c), x25_d, x25_e]) ∧ CallA P (N Fn.ref20_deep) [(V.agg [(V.int .i64 x25_a), (V.int .i64 x25_b), (V.str x25_c), x25_d, x25_e])] S3 (retT [(.one (.int .i64))] fun (x26 : Int) (S4 : St) => setI (IntKind.i64.wrap (x4 + (1 : Int))) fun x19 => k2 (goMax x3 x26) x19 S4)) (setI (IntKind.i64.wrap (x3 + (1 : Int))) fun x29 => K x29 S3)) 0 0 S2)
abbrev ref20_deep.Ok (P : Program) (N : Nat → Nat) : Prop := Reads P (N Fn.ref20_deep) [(3, (.dt (.one (.int .i64))), []), (3, (.dt (.one (.int .i64))), []), (8, (.dt (.one (.int .i64))), []), (6, (.dt (.agg [(.int .i64), (.int .i64), .str, .any, .any])), []), (0, .no, [(.one (.int .i64))])] [(1, [])] [[(3, (.one (.int .i64))), (4, (.one (.int .i64)))]] (fun A T (x0_a : Int) (x0_b : Int) (x0_c : List UInt8) (x0_d : V) (x0_e : V) (S : St) (K : Int → St → Prop) => wpT P (envP P) T (endT A.results [(.one (.int .i64))] K) (frT A [(V.agg [(V.int .i64 x0_a), (V.int .i64 x0_b), (V.str x0_c), x0_d, x0_e])]) S) (fun x0_a x0_b x0_c x0_d x0_e S K => ref20_deep.p P N x0_a x0_b x0_c x0_d x0_e S K)
theorem ref20_deep.run {P : Program} {N : Nat → Nat} (hF : ref20_deep.Ok P N) {x0_a : Int} {x0_b : Int} {x0_c : List UInt8} {x0_d : V} {x0_e : V} {S : St} {K : Int → St → Prop} (h : ref20_deep.p P N x0_a x0_b x0_c x0_d x0_e S K) : CallA P (N Fn.ref20_deep) [(V.agg [(V.int .i64 x0_a), (V.int .i64 x0_b), (V.str x0_c), x0_d, x0_e])] S (retT [(.one (.int .i64))] K) := hF.run (fun q => q x0_a x0_b x0_c x0_d x0_e S K) h rfl

def ref20_small.p (P : Program) (N : Nat → Nat) (x0_a : Int) (x0_b : Int) (x0_c : List UInt8) (x0_d : V) (x0_e : V) (S : St) (K : Bool → St → Prop) : Prop :=
  newS S (.cells [(V.int .i64 x0_a), (V.int .i64 x0_b), (V.str x0_c), x0_d, x0_e] true) fun S1 => Join0 (fun (k1 : St → Prop) => ∃ x5 : Int, loadV S1 (V.ptr S.next 1) = some (V.int .i64 x5) ∧ ifC (decide ((999999999999999 : Int) < x5)) (K false S1) (∃ x9 : Int, loadV S1 (V.ptr S.next 1) = some (V.int .i64 x9) ∧ ifC (decide (x9 < (-999999999999999 : Int))) (K false S1) (k1  S1))) (fun (S2 : St) => Loop1 (fun (k2 : Int → St → Prop) (x3 : Int) (S3 : St) => ifS (loadV S3 (V.ptr S.next 3)) fun x14 => ∃ x15 : Int, lenV S3 2 x14 = some (V.int .i64 x15) ∧ ifC (decide (x3 < x15)) (ifS (loadV S3 (V.ptr S.next 3)) fun x20 => ifS (idxAddrV 5 x20 (V.int .i64 x3)) fun x22 => ∃ x23_a x23_b : Int, ∃ x23_c : List UInt8, ∃ x23_d x23_e : V, loadNV S3 5 x22 = some (V.agg [(V.int .i64 x23_a), (V.int .i64 x23_b), (V.str x23_c), x23_d, x23_e]) ∧ CallA P (N Fn.ref20_small) [(V.agg [(V.int .i64 x23_a), (V.int .i64 x23_b), (V.str x23_c), x23_d, x23_e])] S3 (retT [(.one .bool)] fun (x24 : Bool) (S4 : St) => ifC (!x24) (K false S4) (setI (IntKind.i64.wrap (x3 + (1 : Int))) fun x18 => k2 x18 S4))) (K true S3)) 0 S2)
abbrev ref20_small.Ok (P : Program) (N : Nat → Nat) : Prop := Reads P (N Fn.ref20_small) [(3, (.dt (.one (.int .i64))), []), (3, (.dt (.one (.int .i64))), []), (7, (.dt (.one (.int .i64))), []), (5, (.dt (.agg [(.int .i64), (.int .i64), .str, .any, .any])), []), (0, .no, [(.one .bool)])] [(1, [])] [[(3, (.one (.int .i64)))]] (fun A T (x0_a : Int) (x0_b : Int) (x0_c : List UInt8) (x0_d : V) (x0_e : V) (S : St) (K : Bool → St → Prop) => wpT P (envP P) T (endT A.results [(.one .bool)] K) (frT A [(V.agg [(V.int .i64 x0_a), (V.int .i64 x0_b), (V.str x0_c), x0_d, x0_e])]) S) (fun x0_a x0_b x0_c x0_d x0_e S K => ref20_small.p P N x0_a x0_b x0_c x0_d x0_e S K)
theorem ref20_small.run {P : Program} {N : Nat → Nat} (hF : ref20_small.Ok P N) {x0_a : Int} {x0_b : Int} {x0_c : List UInt8} {x0_d : V} {x0_e : V} {S : St} {K : Bool → St → Prop} (h : ref20_small.p P N x0_a x0_b x0_c x0_d x0_e S K) : CallA P (N Fn.ref20_small) [(V.agg [(V.int .i64 x0_a), (V.int .i64 x0_b), (V.str x0_c), x0_d, x0_e])] S (retT [(.one .bool)] K) := hF.run (fun q => q x0_a x0_b x0_c x0_d x0_e S K) h rfl

def ref20_few.p (P : Program) (N : Nat → Nat) (x0_a : Int) (x0_b : Int) (x0_c : List UInt8) (x0_d : V) (x0_e : V) (S : St) (K : Bool → St → Prop) : Prop :=
  newS S (.cells [(V.int .i64 x0_a), (V.int .i64 x0_b), (V.str x0_c), x0_d, x0_e] true) fun S1 => ifS (loadV S1 (V.ptr S.next 3)) fun x5 => ∃ x6 : Int, lenV S1 2 x5 = some (V.int .i64 x6) ∧ ifC (decide ((1024 : Int) < x6)) (K false S1) (Loop1 (fun (k1 : Int → St → Prop) (x3 : Int) (S2 : St) => ifS (loadV S2 (V.ptr S.next 3)) fun x10 => ∃ x11 : Int, lenV S2 2 x10 = some (V.int .i64 x11) ∧ ifC (decide (x3 < x11)) (ifS (loadV S2 (V.ptr S.next 3)) fun x16 => ifS (idxAddrV 5 x16 (V.int .i64 x3)) fun x18 => ∃ x19_a x19_b : Int, ∃ x19_c : List UInt8, ∃ x19_d x19_e : V, loadNV S2 5 x18 = some (V.agg [(V.int .i64 x19_a), (V.int .i64 x19_b), (V.str x19_c), x19_d, x19_e]) ∧ CallA P (N Fn.ref20_few) [(V.agg [(V.int .i64 x19_a), (V.int .i64 x19_b), (V.str x19_c), x19_d, x19_e])] S2 (retT [(.one .bool)] fun (x20 : Bool) (S3 : St) => ifC (!x20) (K false S3) (setI (IntKind.i64.wrap (x3 + (1 : Int))) fun x14 => k1 x14 S3))) (K true S2)) 0 S1)
abbrev ref20_few.Ok (P : Program) (N : Nat → Nat) : Prop := Reads P (N Fn.ref20_few) [(4, (.dt (.one (.int .i64))), []), (6, (.dt (.one (.int .i64))), []), (5, (.dt (.agg [(.int .i64), (.int .i64), .str, .any, .any])), []), (0, .no, [(.one .bool)])] [] [[(3, (.one (.int .i64)))]] (fun A T (x0_a : Int) (x0_b : Int) (x0_c : List UInt8) (x0_d : V) (x0_e : V) (S : St) (K : Bool → St → Prop) => wpT P (envP P) T (endT A.results [(.one .bool)] K) (frT A [(V.agg [(V.int .i64 x0_a), (V.int .i64 x0_b), (V.str x0_c), x0_d, x0_e])]) S) (fun x0_a x0_b x0_c x0_d x0_e S K => ref20_few.p P N x0_a x0_b x0_c x0_d x0_e S K)
theorem ref20_few.run {P : Program} {N : Nat → Nat} (hF : ref20_few.Ok P N) {x0_a : Int} {x0_b : Int} {x0_c : List UInt8} {x0_d : V} {x0_e : V} {S : St} {K : Bool → St → Prop} (h : ref20_few.p P N x0_a x0_b x0_c x0_d x0_e S K) : CallA P (N Fn.ref20_few) [(V.agg [(V.int .i64 x0_a), (V.int .i64 x0_b), (V.str x0_c), x0_d, x0_e])] S (retT [(.one .bool)] K) := hF.run (fun q => q x0_a x0_b x0_c x0_d x0_e S K) h rfl

def ref20_unlike.p (P : Program) (N : Nat → Nat) (x0_a : Int) (x0_b : Int) (x0_c : List UInt8) (x0_d : V) (x0_e : V) (S : St) (K : Bool → St → Prop) : Prop :=
  newS S (.cells [(V.int .i64 x0_a), (V.int .i64 x0_b), (V.str x0_c), x0_d, x0_e] true) fun S1 => Loop1 (fun (k1 : Int → St → Prop) (x3 : Int) (S2 : St) => ifS (loadV S2 (V.ptr S.next 4)) fun x8 => ∃ x9 : Int, lenV S2 2 x8 = some (V.int .i64 x9) ∧ ifC (decide (x3 < x9)) (Loop1 (fun (k2 : Int → St → Prop) (x4 : Int) (S3 : St) => ifC (decide (x4 < x3)) (ifS (loadV S3 (V.ptr S.next 4)) fun x19 => ifS (idxAddrV 1 x19 (V.int .i64 x3)) fun x21 => ∃ x22 : List UInt8, loadV S3 x21 = some (V.str x22) ∧ ifS (loadV S3 (V.ptr S.next 4)) fun x24 => ifS (idxAddrV 1 x24 (V.int .i64 x4)) fun x26 => ∃ x27 : List UInt8, loadV S3 x26 = some (V.str x27) ∧ ifC (decide (x22 = x27)) (K false S3) (setI (IntKind.i64.wrap (x4 + (1 : Int))) fun x17 => k2 x17 S3)) (setI (IntKind.i64.wrap (x3 + (1 : Int))) fun x12 => k1 x12 S3)) 0 S2) (Loop1 (fun (k3 : Int → St → Prop) (x5 : Int) (S4 : St) => ifS (loadV S4 (V.ptr S.next 3)) fun x31 => ∃ x32 : Int, lenV S4 2 x31 = some (V.int .i64 x32) ∧ ifC (decide (x5 < x32)) (ifS (loadV S4 (V.ptr S.next 3)) fun x37 => ifS (idxAddrV 5 x37 (V.int .i64 x5)) fun x39 => ∃ x40_a x40_b : Int, ∃ x40_c : List UInt8, ∃ x40_d x40_e : V, loadNV S4 5 x39 = some (V.agg [(V.int .i64 x40_a), (V.int .i64 x40_b), (V.str x40_c), x40_d, x40_e]) ∧ CallA P (N Fn.ref20_unlike) [(V.agg [(V.int .i64 x40_a), (V.int .i64 x40_b), (V.str x40_c), x40_d, x40_e])] S4 (retT [(.one .bool)] fun (x41 : Bool) (S5 : St) => ifC (!x41) (K false S5) (setI (IntKind.i64.wrap (x5 + (1 : Int))) fun x35 => k3 x35 S5))) (K true S4)) 0 S2)) 0 S1
abbrev ref20_unlike.Ok (P : Program) (N : Nat → Nat) : Prop := Reads P (N Fn.ref20_unlike) [(6, (.dt (.one (.int .i64))), []), (9, (.dt (.one .str)), []), (4, (.dt (.one .str)), []), (12, (.dt (.one (.int .i64))), []), (5, (.dt (.agg [(.int .i64), (.int .i64), .str, .any, .any])), []), (0, .no, [(.one .bool)])] [] [[(3, (.one (.int .i64)))], [(4, (.one (.int .i64)))], [(5, (.one (.int .i64)))]] (fun A T (x0_a : Int) (x0_b : Int) (x0_c : List UInt8) (x0_d : V) (x0_e : V) (S : St) (K : Bool → St → Prop) => wpT P (envP P) T (endT A.results [(.one .bool)] K) (frT A [(V.agg [(V.int .i64 x0_a), (V.int .i64 x0_b), (V.str x0_c), x0_d, x0_e])]) S) (fun x0_a x0_b x0_c x0_d x0_e S K => ref20_unlike.p P N x0_a x0_b x0_c x0_d x0_e S K)
theorem ref20_unlike.run {P : Program} {N : Nat → Nat} (hF : ref20_unlike.Ok P N) {x0_a : Int} {x0_b : Int} {x0_c : List UInt8} {x0_d : V} {x0_e : V} {S : St} {K : Bool → St → Prop} (h : ref20_unlike.p P N x0_a x0_b x0_c x0_d x0_e S K) : CallA P (N Fn.ref20_unlike) [(V.agg [(V.int .i64 x0_a), (V.int .i64 x0_b), (V.str x0_c), x0_d, x0_e])] S (retT [(.one .bool)] K) := hF.run (fun q => q x0_a x0_b x0_c x0_d x0_e S K) h rfl

def ref20_Number.p (P : Program) (N : Nat → Nat) (x0 : Int) (S : St) (K : List UInt8 → St → Prop) : Prop :=
  ifC (decide (x0 < (0 : Int))) (setI (IntKind.i64.wrap (0 - x0)) fun x6 => CallA P (N Fn.ref20_digits) [(V.int .i64 x6)] S (retT [(.one .str)] fun (x7 : List UInt8) (S1 : St) => ([45] : List UInt8).length + x7.length < 2 ^ 62 ∧ K (([45] : List UInt8) ++ x7) S1)) (CallA P (N Fn.ref20_digits) [(V.int .i64 x0)] S (retT [(.one .str)] fun (x10 : List UInt8) (S2 : St) => K x10 S2))
abbrev ref20_Number.Ok (P : Program) (N : Nat → Nat) : Prop := Reads P (N Fn.ref20_Number) [(5, .no, [(.one .str)]), (3, .no, [(.one .str)])] [] [] (fun A T (x0 : Int) (S : St) (K : List UInt8 → St → Prop) => wpT P (envP P) T (endT A.results [(.one .str)] K) (frT A [(V.int .i64 x0)]) S) (fun x0 S K => ref20_Number.p P N x0 S K)
theorem ref20_Number.run {P : Program} {N : Nat → Nat} (hF : ref20_Number.Ok P N) {x0 : Int} {S : St} {K : List UInt8 → St → Prop} (h : ref20_Number.p P N x0 S K) : CallA P (N Fn.ref20_Number) [(V.int .i64 x0)] S (retT [(.one .str)] K) := hF.run (fun q => q x0 S K) h rfl

def ref20_quoted.p (P : Program) (N : Nat → Nat) (x0 : List UInt8) (S : St) (K : List UInt8 → St → Prop) : Prop :=
  newS S (.cells [(V.int .u8 34)] true) fun S1 => Loop2 (fun (k1 : V → Int → St → Prop) (x3 : V) (x4 : Int) (S2 : St) => ifC (decide (x4 < (x0.length : Int))) (∃ x15 : Int, idxStrV (V.str x0) (V.int .i64 x4) = some (V.int .u8 x15) ∧ Join1 (fun (k2 : Bool → St → Prop) => ifC (decide (x15 = (34 : Int))) (k2 true S2) (k2 (decide (x15 = (92 : Int))) S2)) (fun (x25 : Bool) (S3 : St) => ifC x25 (newS S3 (.cells [(V.int .u8 92), (V.int .u8 x15)] true) fun S4 => ifP (appV S4 1 1 x3 (V.slice S3.next 0 2 2 1 true)) fun x35 S5 => setI (IntKind.i64.wrap (x4 + (1 : Int))) fun x12 => k1 x35 x12 S5) (Join1 (fun (k3 : Bool → St → Prop) => ifC (decide ((32 : Int) ≤ x15)) (k3 (decide (x15 ≤ (126 : Int))) S3) (k3 false S3)) (fun (x36 : Bool) (S6 : St) => ifC x36 (newS S6 (.cells [(V.int .u8 x15)] true) fun S7 => ifP (appV S7 1 1 x3 (V.slice S6.next 0 1 1 1 true)) fun x46 S8 => setI (IntKind.i64.wrap (x4 + (1 : Int))) fun x12_1 => k1 x46 x12_1 S8) ((16 : Int) ≠ 0 ∧ setI (IntKind.u8.wrap (Int.tdiv x15 (16 : Int))) fun x18 => ∃ x19 : Int, idxStrV (V.str ([48, 49, 50, 51, 52, 53, 54, 55, 56, 57, 97, 98, 99, 100, 101, 102] : List UInt8)) (V.int .u8 x18) = some (V.int .u8 x19) ∧ (16 : Int) ≠ 0 ∧ setI (Int.tmod x15 (16 : Int)) fun x21 => ∃ x22 : Int, idxStrV (V.str ([48, 49, 50, 51, 52, 53, 54, 55, 56, 57, 97, 98, 99, 100, 101, 102] : List UInt8)) (V.int .u8 x21) = some (V.int .u8 x22) ∧ newS S6 (.cells [(V.int .u8 92), (V.int .u8 117), (V.int .u8 48), (V.int .u8 48), (V.int .u8 x19), (V.int .u8 x22)] true) fun S9 => ifP (appV S9 1 1 x3 (V.slice S6.next 0 6 6 1 true)) fun x24 S10 => setI (IntKind.i64.wrap (x4 + (1 : Int))) fun x12_2 => k1 x24 x12_2 S10))))) (newS S2 (.cells [(V.int .u8 34)] true) fun S11 => ifP (appV S11 1 1 x3 (V.slice S2.next 0 1 1 1 true)) fun x49 S12 => ∃ x50 : List UInt8, convBSV S12 x49 = some (V.str x50) ∧ K x50 S12)) (V.slice S.next 0 1 1 1 true) 0 S1
abbrev ref20_quoted.Ok (P : Program) (N : Nat → Nat) : Prop := Reads P (N Fn.ref20_quoted) [(1, (.dt (.agg [(.int .u8)])), []), (8, (.dt (.one (.int .u8))), []), (10, (.dt (.agg [(.int .u8), (.int .u8)])), []), (11, (.dt (.agg [(.int .u8)])), []), (5, (.dt (.one (.int .u8))), []), (2, (.dt (.one (.int .u8))), []), (0, (.dt (.agg [(.int .u8), (.int .u8), (.int .u8), (.int .u8), (.int .u8), (.int .u8)])), []), (6, (.dt (.agg [(.int .u8)])), []), (1, (.dt (.one .str)), [])] [(8, [(25, (.one .bool))]), (0, [(36, (.one .bool))])] [[(3, (.one .any)), (4, (.one (.int .i64)))]] (fun A T (x0 : List UInt8) (S : St) (K : List UInt8 → St → Prop) => wpT P (envP P) T (endT A.results [(.one .str)] K) (frT A [(V.str x0)]) S) (fun x0 S K => ref20_quoted.p P N x0 S K)
theorem ref20_quoted.run {P : Program} {N : Nat → Nat} (hF : ref20_quoted.Ok P N) {x0 : List UInt8} {S : St} {K : List UInt8 → St → Prop} (h : ref20_quoted.p P N x0 S K) : CallA P (N Fn.ref20_quoted) [(V.str x0)] S (retT [(.one .str)] K) := hF.run (fun q => q x0 S K) h rfl

def ref20_digits.p (P : Program) (N : Nat → Nat) (x0 : Int) (S : St) (K : List UInt8 → St → Prop) : Prop :=
  Loop2 (fun (k1 : Int → List UInt8 → St → Prop) (x0_1 : Int) (x3 : List UInt8) (S1 : St) => Join0 (fun (k2 : St → Prop) => ifC (decide (x3 = ([] : List UInt8))) (k2  S1) (ifC (decide ((0 : Int) < x0_1)) (k2  S1) (K x3 S1))) (fun (S2 : St) => (10 : Int) ≠ 0 ∧ setI (Int.tmod x0_1 (10 : Int)) fun x11 => (10 : Int) ≠ 0 ∧ setI (Int.tmod x0_1 (10 : Int)) fun x13 => setI (IntKind.i64.wrap (x13 + (1 : Int))) fun x14 => ∃ x15 : List UInt8, sliceStrV (V.str ([48, 49, 50, 51, 52, 53, 54, 55, 56, 57] : List UInt8)) (some (V.int .i64 x11)) (some (V.int .i64 x14)) = some (V.str x15) ∧ x15.length + x3.length < 2 ^ 62 ∧ (10 : Int) ≠ 0 ∧ setI (IntKind.i64.wrap (Int.tdiv x0_1 (10 : Int))) fun x19 => k1 x19 (x15 ++ x3) S2)) x0 ([] : List UInt8) S
abbrev ref20_digits.Ok (P : Program) (N : Nat → Nat) : Prop := Reads P (N Fn.ref20_digits) [(13, (.dt (.one .str)), [])] [(3, [])] [[(0, (.one (.int .i64))), (3, (.one .str))]] (fun A T (x0 : Int) (S : St) (K : List UInt8 → St → Prop) => wpT P (envP P) T (endT A.results [(.one .str)] K) (frT A [(V.int .i64 x0)]) S) (fun x0 S K => ref20_digits.p P N x0 S K)
theorem ref20_digits.run {P : Program} {N : Nat → Nat} (hF : ref20_digits.Ok P N) {x0 : Int} {S : St} {K : List UInt8 → St → Prop} (h : ref20_digits.p P N x0 S K) : CallA P (N Fn.ref20_digits) [(V.int .i64 x0)] S (retT [(.one .str)] K) := hF.run (fun q => q x0 S K) h rfl

end Go.Th.L
end

section
/- Functions of slicesVal, read without frames (printed by tools/lib.py). -/
set_option linter.unusedVariables false
set_option maxRecDepth 100000
set_option maxHeartbeats 2000000
namespace Go.Th.L
open Go Go.Th

def slices_Index_Lstring.p (P : Program) (N : Nat → Nat) (x0 : V) (x1 : List UInt8) (S : St) (K : Int → St → Prop) : Prop :=
  ∃ x7 : Int, lenV S 2 x0 = some (V.int .i64 x7) ∧ Loop1 (fun (k1 : Int → St → Prop) (x8 : Int) (S1 : St) => ifC (decide (x8 < x7)) (ifS (idxAddrV 1 x0 (V.int .i64 x8)) fun x14 => ∃ x15 : List UInt8, loadV S1 x14 = some (V.str x15) ∧ ifC (decide (x1 = x15)) (K x8 S1) (setI (IntKind.i64.wrap (x8 + (1 : Int))) fun x18 => k1 x18 S1)) (K (-1) S1)) 0 S
abbrev slices_Index_Lstring.Ok (P : Program) (N : Nat → Nat) : Prop := Reads P (N Fn.slices_Index_Lstring) [(2, (.dt (.one (.int .i64))), []), (8, (.dt (.one .str)), [])] [] [[(8, (.one (.int .i64)))]] (fun A T (x0 : V) (x1 : List UInt8) (S : St) (K : Int → St → Prop) => wpT P (envP P) T (endT A.results [(.one (.int .i64))] K) (frT A [x0, (V.str x1)]) S) (fun x0 x1 S K => slices_Index_Lstring.p P N x0 x1 S K)
theorem slices_Index_Lstring.run {P : Program} {N : Nat → Nat} (hF : slices_Index_Lstring.Ok P N) {x0 : V} {x1 : List UInt8} {S : St} {K : Int → St → Prop} (h : slices_Index_Lstring.p P N x0 x1 S K) : CallA P (N Fn.slices_Index_Lstring) [x0, (V.str x1)] S (retT [(.one (.int .i64))] K) := hF.run (fun q => q x0 x1 S K) h rfl

def slices_ContainsFunc_Lapi_Value.p (P : Program) (N : Nat → Nat) (x0 : V) (x1 : V) (S : St) (K : Bool → St → Prop) : Prop :=
  CallA P (N Fn.slices_IndexFunc_Lapi_Value) [x0, x1] S (retT [(.one (.int .i64))] fun (x7 : Int) (S1 : St) => K (decide ((0 : Int) ≤ x7)) S1)
abbrev slices_ContainsFunc_Lapi_Value.Ok (P : Program) (N : Nat → Nat) : Prop := Reads P (N Fn.slices_ContainsFunc_Lapi_Value) [(3, .no, [(.one (.int .i64))])] [] [] (fun A T (x0 : V) (x1 : V) (S : St) (K : Bool → St → Prop) => wpT P (envP P) T (endT A.results [(.one .bool)] K) (frT A [x0, x1]) S) (fun x0 x1 S K => slices_ContainsFunc_Lapi_Value.p P N x0 x1 S K)
theorem slices_ContainsFunc_Lapi_Value.run {P : Program} {N : Nat → Nat} (hF : slices_ContainsFunc_Lapi_Value.Ok P N) {x0 : V} {x1 : V} {S : St} {K : Bool → St → Prop} (h : slices_ContainsFunc_Lapi_Value.p P N x0 x1 S K) : CallA P (N Fn.slices_ContainsFunc_Lapi_Value) [x0, x1] S (retT [(.one .bool)] K) := hF.run (fun q => q x0 x1 S K) h rfl

def slices_IndexFunc_Lapi_Value.p (P : Program) (N : Nat → Nat) (x0 : V) (x1 : V) (S : St) (K : Int → St → Prop) : Prop :=
  ∃ x7 : Int, lenV S 2 x0 = some (V.int .i64 x7) ∧ Loop1 (fun (k1 : Int → St → Prop) (x8 : Int) (S1 : St) => ifC (decide (x8 < x7)) (ifS (idxAddrV 5 x0 (V.int .i64 x8)) fun x14 => ∃ x15_a x15_b : Int, ∃ x15_c : List UInt8, ∃ x15_d x15_e : V, loadNV S1 5 x14 = some (V.agg [(V.int .i64 x15_a), (V.int .i64 x15_b), (V.str x15_c), x15_d, x15_e]) ∧ ifS (calleeV (envP P) x1 [(V.agg [(V.int .i64 x15_a), (V.int .i64 x15_b), (V.str x15_c), x15_d, x15_e])]) fun xf => CallA P xf.1 xf.2 S1 (retT [(.one .bool)] fun (x16 : Bool) (S2 : St) => ifC x16 (K x8 S2) (setI (IntKind.i64.wrap (x8 + (1 : Int))) fun x18 => k1 x18 S2))) (K (-1) S1)) 0 S
abbrev slices_IndexFunc_Lapi_Value.Ok (P : Program) (N : Nat → Nat) : Prop := Reads P (N Fn.slices_IndexFunc_Lapi_Value) [(2, (.dt (.one (.int .i64))), []), (8, (.dt (.agg [(.int .i64), (.int .i64), .str, .any, .any])), []), (0, .no, [(.one .bool)])] [] [[(8, (.one (.int .i64)))]] (fun A T (x0 : V) (x1 : V) (S : St) (K : Int → St → Prop) => wpT P (envP P) T (endT A.results [(.one (.int .i64))] K) (frT A [x0, x1]) S) (fun x0 x1 S K => slices_IndexFunc_Lapi_Value.p P N x0 x1 S K)
theorem slices_IndexFunc_Lapi_Value.run {P : Program} {N : Nat → Nat} (hF : slices_IndexFunc_Lapi_Value.Ok P N) {x0 : V} {x1 : V} {S : St} {K : Int → St → Prop} (h : slices_IndexFunc_Lapi_Value.p P N x0 x1 S K) : CallA P (N Fn.slices_IndexFunc_Lapi_Value) [x0, x1] S (retT [(.one (.int .i64))] K) := hF.run (fun q => q x0 x1 S K) h rfl

end Go.Th.L
end

section
/- Functions of strconv (ParseUint), read without frames (printed by tools/lib.py). -/
set_option linter.unusedVariables false
set_option maxRecDepth 100000
set_option maxHeartbeats 2000000
namespace Go.Th.L
open Go Go.Th

def internal_strconv_ParseUint.p (P : Program) (N : Nat → Nat) (x0 : List UInt8) (x1 : Int) (x2 : Int) (S : St) (K : Int → V → St → Prop) : Prop :=
  ifC (decide (x0 = ([] : List UInt8))) (K 0 (V.iface (N Fn.ty_internal_strconv_Error) (V.int .i64 2)) S) (Join2 (fun (k1 : List UInt8 → Int → St → Prop) => Join1 (fun (k2 : Bool → St → Prop) => ifC (decide ((2 : Int) ≤ x1)) (k2 (decide (x1 ≤ (36 : Int))) S) (k2 false S)) (fun (x25 : Bool) (S2 : St) => ifC x25 (k1 x0 x1 S2) (ifC (decide (x1 = (0 : Int))) (∃ x36 : Int, idxStrV (V.str x0) (V.int .i64 0) = some (V.int .u8 x36) ∧ ifC (decide (x36 = (48 : Int))) (Join1 (fun (k3 : Bool → St → Prop) => ifC (decide ((3 : Int) ≤ (x0.length : Int))) (∃ x46 : Int, idxStrV (V.str x0) (V.int .i64 1) = some (V.int .u8 x46) ∧ CallA P (N Fn.internal_strconv_lower) [(V.int .u8 x46)] S2 (retT [(.one (.int .u8))] fun (x47 : Int) (S4 : St) => k3 (decide (x47 = (98 : Int))) S4)) (k3 false S2)) (fun (x40 : Bool) (S3 : St) => ifC x40 (∃ x51 : List UInt8, sliceStrV (V.str x0) (some (V.int .i64 2)) none = some (V.str x51) ∧ k1 x51 2 S3) (Join1 (fun (k4 : Bool → St → Prop) => ifC (decide ((3 : Int) ≤ (x0.length : Int))) (∃ x58 : Int, idxStrV (V.str x0) (V.int .i64 1) = some (V.int .u8 x58) ∧ CallA P (N Fn.internal_strconv_lower) [(V.int .u8 x58)] S3 (retT [(.one (.int .u8))] fun (x59 : Int) (S6 : St) => k4 (decide (x59 = (111 : Int))) S6)) (k4 false S3)) (fun (x52 : Bool) (S5 : St) => ifC x52 (∃ x63 : List UInt8, sliceStrV (V.str x0) (some (V.int .i64 2)) none = some (V.str x63) ∧ k1 x63 8 S5) (Join1 (fun (k5 : Bool → St → Prop) => ifC (decide ((3 : Int) ≤ (x0.length : Int))) (∃ x70 : Int, idxStrV (V.str x0) (V.int .i64 1) = some (V.int .u8 x70) ∧ CallA P (N Fn.internal_strconv_lower) [(V.int .u8 x70)] S5 (retT [(.one (.int .u8))] fun (x71 : Int) (S8 : St) => k5 (decide (x71 = (120 : Int))) S8)) (k5 false S5)) (fun (x64 : Bool) (S7 : St) => ifC x64 (∃ x75 : List UInt8, sliceStrV (V.str x0) (some (V.int .i64 2)) none = some (V.str x75) ∧ k1 x75 16 S7) (∃ x39 : List UInt8, sliceStrV (V.str x0) (some (V.int .i64 1)) none = some (V.str x39) ∧ k1 x39 8 S7))))))) (k1 x0 10 S2)) (K 0 (V.iface (N Fn.ty_internal_strconv_Error) (V.int .i64 3)) S2)))) (fun (x0_1 : List UInt8) (x1_1 : Int) (S1 : St) => Join1 (fun (k6 : Int → St → Prop) => ifC (decide (x2 = (0 : Int))) (k6 64 S1) (Join1 (fun (k7 : Bool → St → Prop) => ifC (decide (x2 < (0 : Int))) (k7 true S1) (k7 (decide ((64 : Int) < x2)) S1)) (fun (x83 : Bool) (S10 : St) => ifC x83 (K 0 (V.iface (N Fn.ty_internal_strconv_Error) (V.int .i64 4)) S10) (k6 x2 S10)))) (fun (x2_1 : Int) (S9 : St) => Join1 (fun (k8 : Int → St → Prop) => ifC (decide (x1_1 = (10 : Int))) (k8 1844674407370955162 S9) (ifC (decide (x1_1 = (16 : Int))) (k8 1152921504606846976 S9) (setI (IntKind.u64.wrap x1_1) fun x87 => x87 ≠ 0 ∧ setI (IntKind.u64.wrap (Int.tdiv (18446744073709551615 : Int) x87)) fun x88 => setI (IntKind.u64.wrap (x88 + (1 : Int))) fun x89 => k8 x89 S9))) (fun (x10 : Int) (S11 : St) => setI (IntKind.u64.wrap x2_1) fun x95 => 0 ≤ x95 ∧ setI (IntKind.u64.wrap ((1 : Int) * 2 ^ (min (Int.toNat x95) (IntKind.bits .u64)))) fun x96 => setI (IntKind.u64.wrap (x96 - (1 : Int))) fun x97 => newS S11 (.cells (bytesV x0_1) false) fun S12 => ∃ x100 : Int, lenV S12 2 (V.slice S11.next 0 x0_1.length x0_1.length 1 false) = some (V.int .i64 x100) ∧ Loop3 (fun (k9 : Bool → Int → Int → St → Prop) (x12 : Bool) (x13 : Int) (x101 : Int) (S13 : St) => ifC (decide (x101 < x100)) (ifS (idxAddrV 1 (V.slice S11.next 0 x0_1.length x0_1.length 1 false) (V.int .i64 x101)) fun x103 => ∃ x104 : Int, loadV S13 x103 = some (V.int .u8 x104) ∧ Join2 (fun (k10 : Bool → Int → St → Prop) => Join1 (fun (k11 : Bool → St → Prop) => ifC (decide (x104 = (95 : Int))) (k11 (decide (x1 = (0 : Int))) S13) (k11 false S13)) (fun (x106 : Bool) (S15 : St) => ifC x106 (setI (IntKind.i64.wrap (x101 + (1 : Int))) fun x163 => k9 true x13 x163 S15) (Join1 (fun (k12 : Bool → St → Prop) => ifC (decide ((48 : Int) ≤ x104)) (k12 (decide (x104 ≤ (57 : Int))) S15) (k12 false S15)) (fun (x112 : Bool) (S16 : St) => ifC x112 (setI (IntKind.u8.wrap (x104 - (48 : Int))) fun x120 => k10 x12 x120 S16) (Join1 (fun (k13 : Bool → St → Prop) => CallA P (N Fn.internal_strconv_lower) [(V.int .u8 x104)] S16 (retT [(.one (.int .u8))] fun (x123 : Int) (S18 : St) => ifC (decide ((97 : Int) ≤ x123)) (CallA P (N Fn.internal_strconv_lower) [(V.int .u8 x104)] S18 (retT [(.one (.int .u8))] fun (x127 : Int) (S19 : St) => k13 (decide (x127 ≤ (122 : Int))) S19)) (k13 false S18))) (fun (x121 : Bool) (S17 : St) => ifC x121 (CallA P (N Fn.internal_strconv_lower) [(V.int .u8 x104)] S17 (retT [(.one (.int .u8))] fun (x131 : Int) (S20 : St) => setI (IntKind.u8.wrap (x131 - (97 : Int))) fun x132 => setI (IntKind.u8.wrap (x132 + (10 : Int))) fun x133 => k10 x12 x133 S20)) (K 0 (V.iface (N Fn.ty_internal_strconv_Error) (V.int .i64 2)) S17))))))) (fun (x12_1 : Bool) (x16 : Int) (S14 : St) => setI (IntKind.u8.wrap x1_1) fun x136 => ifC (decide (x136 ≤ x16)) (K 0 (V.iface (N Fn.ty_internal_strconv_Error) (V.int .i64 2)) S14) (ifC (decide (x10 ≤ x13)) (K x97 (V.iface (N Fn.ty_internal_strconv_Error) (V.int .i64 1)) S14) (setI (IntKind.u64.wrap x1_1) fun x146 => setI (IntKind.u64.wrap (x13 * x146)) fun x147 => setI (IntKind.u64.wrap x16) fun x150 => setI (IntKind.u64.wrap (x147 + x150)) fun x151 => Join1 (fun (k14 : Bool → St → Prop) => ifC (decide (x151 < x147)) (k14 true S14) (k14 (decide (x97 < x151)) S14)) (fun (x159 : Bool) (S21 : St) => ifC x159 (K x97 (V.iface (N Fn.ty_internal_strconv_Error) (V.int .i64 1)) S21) (setI (IntKind.i64.wrap (x101 + (1 : Int))) fun x163_1 => k9 x12_1 x151 x163_1 S21)))))) (Join1 (fun (k15 : Bool → St → Prop) => ifC x12 (CallA P (N Fn.internal_strconv_underscoreOK) [(V.str x0)] S13 (retT [(.one .bool)] fun (x167 : Bool) (S23 : St) => k15 (!x167) S23)) (k15 false S13)) (fun (x169 : Bool) (S22 : St) => ifC x169 (K 0 (V.iface (N Fn.ty_internal_strconv_Error) (V.int .i64 2)) S22) (K x13 V.nilIface S22)))) false 0 0 S12))))
abbrev internal_strconv_ParseUint.Ok (P : Program) (N : Nat → Nat) : Prop := Reads P (N Fn.internal_strconv_ParseUint) [(24, (.dt (.one (.int .u8))), []), (6, (.dt (.one (.int .u8))), []), (0, .no, [(.one (.int .u8))]), (5, (.dt (.one .str)), []), (6, (.dt (.one (.int .u8))), []), (0, .no, [(.one (.int .u8))]), (5, (.dt (.one .str)), []), (6, (.dt (.one (.int .u8))), []), (0, .no, [(.one (.int .u8))]), (5, (.dt (.one .str)), []), (3, (.dt (.one .str)), []), (38, (.dt (.one (.int .i64))), []), (3, (.dt (.one (.int .u8))), []), (20, .no, [(.one (.int .u8))]), (3, .no, [(.one (.int .u8))]), (4, .no, [(.one (.int .u8))]), (49, .no, [(.one .bool)])] [(6, [(0, (.one .str)), (1, (.one (.int .i64)))]), (0, [(25, (.one .bool))]), (3, [(40, (.one .bool))]), (1, [(52, (.one .bool))]), (1, [(64, (.one .bool))]), (3, [(2, (.one (.int .i64)))]), (1, [(83, (.one .bool))]), (2, [(10, (.one (.int .u64)))]), (13, [(12, (.one .bool)), (16, (.one (.int .u8)))]), (0, [(106, (.one .bool))]), (1, [(112, (.one .bool))]), (0, [(121, (.one .bool))]), (10, [(159, (.one .bool))]), (2, [(169, (.one .bool))])] [[(12, (.one .bool)), (13, (.one (.int .u64))), (101, (.one (.int .i64)))]] (fun A T (x0 : List UInt8) (x1 : Int) (x2 : Int) (S : St) (K : Int → V → St → Prop) => wpT P (envP P) T (endT A.results [(.one (.int .u64)), (.one .any)] K) (frT A [(V.str x0), (V.int .i64 x1), (V.int .i64 x2)]) S) (fun x0 x1 x2 S K => internal_strconv_ParseUint.p P N x0 x1 x2 S K)
theorem internal_strconv_ParseUint.run {P : Program} {N : Nat → Nat} (hF : internal_strconv_ParseUint.Ok P N) {x0 : List UInt8} {x1 : Int} {x2 : Int} {S : St} {K : Int → V → St → Prop} (h : internal_strconv_ParseUint.p P N x0 x1 x2 S K) : CallA P (N Fn.internal_strconv_ParseUint) [(V.str x0), (V.int .i64 x1), (V.int .i64 x2)] S (retT [(.one (.int .u64)), (.one .any)] K) := hF.run (fun q => q x0 x1 x2 S K) h rfl

def internal_strconv_lower.p (P : Program) (N : Nat → Nat) (x0 : Int) (S : St) (K : Int → St → Prop) : Prop :=
  setI (intBits .or .u8 x0 (32 : Int)) fun x4 => K x4 S
abbrev internal_strconv_lower.Ok (P : Program) (N : Nat → Nat) : Prop := Reads P (N Fn.internal_strconv_lower) [] [] [] (fun A T (x0 : Int) (S : St) (K : Int → St → Prop) => wpT P (envP P) T (endT A.results [(.one (.int .u8))] K) (frT A [(V.int .u8 x0)]) S) (fun x0 S K => internal_strconv_lower.p P N x0 S K)
theorem internal_strconv_lower.run {P : Program} {N : Nat → Nat} (hF : internal_strconv_lower.Ok P N) {x0 : Int} {S : St} {K : Int → St → Prop} (h : internal_strconv_lower.p P N x0 S K) : CallA P (N Fn.internal_strconv_lower) [(V.int .u8 x0)] S (retT [(.one (.int .u8))] K) := hF.run (fun q => q x0 S K) h rfl

def strconv_ParseUint.p (P : Program) (N : Nat → Nat) (x0 : List UInt8) (x1 : Int) (x2 : Int) (S : St) (K : Int → V → St → Prop) : Prop :=
  CallA P (N Fn.internal_strconv_ParseUint) [(V.str x0), (V.int .i64 x1), (V.int .i64 x2)] S (retT [(.one (.int .u64)), (.one .any)] fun (x14a : Int) (x14b : V) (S1 : St) => ∃ x18 : Bool, eqV 5 [] x14b V.nilIface = some x18 ∧ ifC (!x18) (CallA P (N Fn.strconv_toError) [(V.str ([80, 97, 114, 115, 101, 85, 105, 110, 116] : List UInt8)), (V.str x0), (V.int .i64 x1), (V.int .i64 x2), x14b] S1 (retT [(.one .any)] fun (x24 : V) (S2 : St) => K x14a x24 S2)) (K x14a V.nilIface S1))
abbrev strconv_ParseUint.Ok (P : Program) (N : Nat → Nat) : Prop := Reads P (N Fn.strconv_ParseUint) [(5, .no, [(.one (.int .u64)), (.one .any)]), (12, .no, [(.one .any)])] [] [] (fun A T (x0 : List UInt8) (x1 : Int) (x2 : Int) (S : St) (K : Int → V → St → Prop) => wpT P (envP P) T (endT A.results [(.one (.int .u64)), (.one .any)] K) (frT A [(V.str x0), (V.int .i64 x1), (V.int .i64 x2)]) S) (fun x0 x1 x2 S K => strconv_ParseUint.p P N x0 x1 x2 S K)
theorem strconv_ParseUint.run {P : Program} {N : Nat → Nat} (hF : strconv_ParseUint.Ok P N) {x0 : List UInt8} {x1 : Int} {x2 : Int} {S : St} {K : Int → V → St → Prop} (h : strconv_ParseUint.p P N x0 x1 x2 S K) : CallA P (N Fn.strconv_ParseUint) [(V.str x0), (V.int .i64 x1), (V.int .i64 x2)] S (retT [(.one (.int .u64)), (.one .any)] K) := hF.run (fun q => q x0 x1 x2 S K) h rfl

end Go.Th.L
end

section
/- Functions of strings, read without frames (printed by tools/lib.py). -/
set_option linter.unusedVariables false
set_option maxRecDepth 100000
set_option maxHeartbeats 2000000
namespace Go.Th.L
open Go Go.Th

def strings_CutPrefix.p (P : Program) (N : Nat → Nat) (x0 : List UInt8) (x1 : List UInt8) (S : St) (K : List UInt8 → Bool → St → Prop) : Prop :=
  CallA P (N Fn.internal_stringslite_CutPrefix) [(V.str x0), (V.str x1)] S (retT [(.one .str), (.one .bool)] fun (x8a : List UInt8) (x8b : Bool) (S1 : St) => K x8a x8b S1)
abbrev strings_CutPrefix.Ok (P : Program) (N : Nat → Nat) : Prop := Reads P (N Fn.strings_CutPrefix) [(4, .no, [(.one .str), (.one .bool)])] [] [] (fun A T (x0 : List UInt8) (x1 : List UInt8) (S : St) (K : List UInt8 → Bool → St → Prop) => wpT P (envP P) T (endT A.results [(.one .str), (.one .bool)] K) (frT A [(V.str x0), (V.str x1)]) S) (fun x0 x1 S K => strings_CutPrefix.p P N x0 x1 S K)
theorem strings_CutPrefix.run {P : Program} {N : Nat → Nat} (hF : strings_CutPrefix.Ok P N) {x0 : List UInt8} {x1 : List UInt8} {S : St} {K : List UInt8 → Bool → St → Prop} (h : strings_CutPrefix.p P N x0 x1 S K) : CallA P (N Fn.strings_CutPrefix) [(V.str x0), (V.str x1)] S (retT [(.one .str), (.one .bool)] K) := hF.run (fun q => q x0 x1 S K) h rfl

end Go.Th.L
end

section
/- Functions of strings, read without frames (printed by tools/lib.py). -/
set_option linter.unusedVariables false
set_option maxRecDepth 100000
set_option maxHeartbeats 2000000
namespace Go.Th.L
open Go Go.Th

def strings_Builder_Len.p (P : Program) (N : Nat → Nat) (x0 : V) (S : St) (K : Int → St → Prop) : Prop :=
  nilV x0 = some x0 ∧ ifS (fieldAddrV 1 x0) fun x5 => ifS (loadV S x5) fun x6 => ∃ x7 : Int, lenV S 2 x6 = some (V.int .i64 x7) ∧ K x7 S
abbrev strings_Builder_Len.Ok (P : Program) (N : Nat → Nat) : Prop := Reads P (N Fn.strings_Builder_Len) [(5, (.dt (.one (.int .i64))), [])] [] [] (fun A T (x0 : V) (S : St) (K : Int → St → Prop) => wpT P (envP P) T (endT A.results [(.one (.int .i64))] K) (frT A [x0]) S) (fun x0 S K => strings_Builder_Len.p P N x0 S K)
theorem strings_Builder_Len.run {P : Program} {N : Nat → Nat} (hF : strings_Builder_Len.Ok P N) {x0 : V} {S : St} {K : Int → St → Prop} (h : strings_Builder_Len.p P N x0 S K) : CallA P (N Fn.strings_Builder_Len) [x0] S (retT [(.one (.int .i64))] K) := hF.run (fun q => q x0 S K) h rfl

end Go.Th.L
end
