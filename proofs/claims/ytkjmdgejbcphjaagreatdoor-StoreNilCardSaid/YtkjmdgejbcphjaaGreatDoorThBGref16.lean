/- What the row of one statement stands on: a store, abstract code, functions of the program and their laws (ThR7, ThR8, ThR9, ThR10, ThR11, ThFn, ThGcodec, ThGdisk, ThGflat, ThGlaw19, ThGmaps, ThGslicesByte, ThGslicesInt, ThGslicesStr, ThGstore, ThGvec, ThGwal, ThGlaw17, ThGref17, ThGlaw18, ThGref03, ThGref05, ThGref16). -/
import Derived.Test.YtkjmdgejbcphjaaGreatDoorThBR6
import Derived.Test.YtkjmdgejbcphjaaGreatDoorThBQ12
import Derived.RecoverIn

section
/- Deferred calls; recovering. -/
set_option linter.unusedSimpArgs false
set_option linter.unusedVariables false
namespace Go.Th
open Go.RowKit Go.Lib Go

def DefR (P : Program) (m : LM) (p : FuncId × List V) (d : Deferred) : Prop :=
  ∃ fv cap args', d.target = .fn fv cap ∧ (∀ w, (invoke d.target d.args).run P w = .ok (.enter p.1 args') w) ∧ VRs m p.2 args'.toList
def DsR (P : Program) (m : LM) : List (FuncId × List V) → List Deferred → Prop
  | [], ds => ds = []
  | p :: ps, ds => ∃ d ds', ds = d :: ds' ∧ DefR P m p d ∧ DsR P m ps ds'
theorem DefR.mono {P : Program} {m m' : LM} (hx : Ext m m') {p : FuncId × List V} {d : Deferred} (h : DefR P m p d) : DefR P m' p d := by
  obtain ⟨fv, cap, args', h1, h2, h3⟩ := h
  exact ⟨fv, cap, args', h1, h2, h3.mono hx⟩
theorem DsR.mono {P : Program} {m m' : LM} (hx : Ext m m') : ∀ {ps : List (FuncId × List V)} {ds : List Deferred}, DsR P m ps ds → DsR P m' ps ds
  | [], ds, h => h
  | p :: ps, ds, ⟨d, ds', h1, h2, h3⟩ => ⟨d, ds', h1, h2.mono hx, h3.mono hx⟩

abbrev PostX := List (FuncId × List V) → PostC
def LiftX (P : Program) (m : LM) (base : Nat) (w0 : World) (Q : PostX) : Exit → Act → World → Prop := fun e a w' =>
  ∃ ads e' fr' S' m', Q ads e' fr' S' ∧ Ext m m' ∧ Sim m' S' base w0 w' ∧ VRs m' fr' a.tmps.toList ∧ DsR P m' ads a.defers ∧ ExR m' e' e
def CodeX (P : Program) (c : Code) (Q : PostX) (ads : List (FuncId × List V)) (fr : List V) (S : St) : Prop :=
  ∀ (m : LM) (base : Nat) (w0 w : World) (a : Act), Sim m S base w0 w → VRs m fr a.tmps.toList → DsR P m ads a.defers → c.wpIn (FR none) 0 P (LiftX P m base w0 Q) a w

theorem CodeX.of {P : Program} {c : Code} {Q : PostX} {ads : List (FuncId × List V)} {fr : List V} {S : St} (h : CodeA P c (Q ads) fr S) : CodeX P c Q ads fr S := by
  intro m base w0 w a hS hf hd
  refine wpIn_mono (h.codeR a.defers m base w0 w a hS hf rfl) ?_
  rintro e a' w' ⟨e', fr', S', m', hq, hx, hS', hf', hd', hR⟩
  exact ⟨ads, e', fr', S', m', hq, hx, hS', hf', by rw [hd']; exact hd.mono hx, hR⟩

theorem CodeX.seq {P : Program} {x y : Code} {Q : PostX} {ads : List (FuncId × List V)} {fr : List V} {S : St}
    (h : CodeX P x (fun ads e fr S => match e with | .normal => CodeX P y Q ads fr S | e => Q ads e fr S) ads fr S) : CodeX P (.seq x y) Q ads fr S := by
  intro m base w0 w a hS hf hd
  refine wpIn_seq (wpIn_mono (h m base w0 w a hS hf hd) ?_)
  rintro e a' w' ⟨ads', e', fr', S', m', hq, hx, hS', hf', hd', hR⟩
  cases e' with
  | normal =>
    cases e <;> simp only [ExR] at hR
    refine wpIn_mono (hq m' base w0 w' a' hS' hf' hd') ?_
    rintro e a w ⟨ads2, e', fr', S', m', hq, hx', hS', hf', hd', hR⟩
    exact ⟨ads2, e', fr', S', m', hq, hx.trans hx', hS', hf', hd', hR⟩
  | exit j =>
    cases e <;> simp only [ExR] at hR
    exact ⟨ads', .exit j, fr', S', m', hq, hx, hS', hf', hd', hR⟩
  | ret =>
    cases e <;> simp only [ExR] at hR
    exact ⟨ads', .ret, fr', S', m', hq, hx, hS', hf', hd', trivial⟩
  | panic v =>
    cases e <;> simp only [ExR] at hR
    exact ⟨ads', .panic v, fr', S', m', hq, hx, hS', hf', hd', hR⟩

theorem uponIn_swap {F : Fence} {n : Nat} {P : Program} {o : Oper} {a : Act} {K : Act → World → Prop} {Q Q' : Exit → Act → World → Prop} (hp : ∀ ch a w, Q (.panic ch) a w → Q' (.panic ch) a w) (ho : LetsOut Q → LetsOut Q') {r : Result Next} (h : o.uponIn F n P a K Q r) : o.uponIn F n P a K Q' r := by
  cases r with
  | ok x w' =>
    cases x <;> simp only [Oper.uponIn] at h ⊢ <;>
      first
        | exact h
        | exact ⟨h.1, CallsIn.mono h.2 (fun e w'' he => by cases e <;> first | exact he | exact hp _ _ _ he | exact ho he)⟩
        | exact ⟨h.1, RoundIn.mono h.2 (fun e w'' he => by cases e <;> first | exact he | exact hp _ _ _ he | exact ho he)⟩
  | halt x w' => cases x <;> simp only [Oper.uponIn] at h ⊢ <;> first | exact hp _ _ _ h | exact h

theorem wpListIn_app {F : Fence} {n : Nat} {P : Program} {ops : Array Oper} {Q Q' : Exit → Act → World → Prop} {os' : List Oper} (hp : ∀ ch a w, Q' (.panic ch) a w → Q (.panic ch) a w) (ho : LetsOut Q' → LetsOut Q)
    (hn : ∀ a w, Q' .normal a w → wpListIn F n P ops Q os' a w) : ∀ (os : List Oper) (a : Act) (w : World), wpListIn F n P ops Q' os a w → wpListIn F n P ops Q (os ++ os') a w
  | [], a, w, h => hn a w h
  | o :: os, a, w, h => by
    simp only [List.cons_append, wpListIn] at h ⊢
    split at h
    · rename_i hw
      rw [if_pos hw]
      have h2 := Oper.wpIn_mono (fun a w hh => wpListIn_app hp ho hn os a w hh) h
      exact ⟨h2.1, uponIn_swap hp ho h2.2⟩
    · rename_i hw
      rw [if_neg hw]
      exact ⟨h.1, wpListIn_app hp ho hn os _ _ h.2⟩

def calleeD (ok : Env) (x : V) (args : List V) : Option (FuncId × List V) := match x with
  | .func (.func f) fs cs => if ok.can f then some (f, fs ++ args ++ cs) else none
  | _ => none
theorem callee_invoke {P : Program} {ok : Env} (hok : EnvOk P ok) {m : LM} {v : V} {vs : List V} {p : FuncId × List V} {u : Value} {us : Array Value} (h : calleeD ok v vs = some p) (hv : VR m v u) (hvs : VRs m vs us.toList) :
    ∃ d, (∀ w, (Deferred.ofValue u us).run P w = .ok d w) ∧ DefR P m p d := by
  unfold calleeD at h
  split at h
  · rename_i f fs cs
    split at h
    · rename_i hc
      cases h
      obtain ⟨fs', cs', hu, h1, h2⟩ := hv.func_inv
      subst hu
      refine ⟨{ target := .fn (.func f) cs', args := fs' ++ us }, fun w => by simp [Deferred.ofValue], .func f, cs', fs' ++ us ++ cs', rfl, fun w => ?_, ?_⟩
      · simp [invoke, run_callFunc (hok.1 f hc)]
      · rw [Array.toList_append, Array.toList_append]
        exact (h1.append hvs).append h2
    · cases h
  · cases h

theorem CodeX.defer {P : Program} {ok : Env} (hok : EnvOk P ok) {id : Nat} {ops : Array Oper} {os : List Oper} {o : Oper} {x : Operand} {args : Array Operand} {ts : Array TypeId} (hops : ops.toList = os ++ [o]) (ho : o.op = .defer ⟨.value x, args, ts⟩) (hg : o.guard = none) (hd0 : o.dst = none)
    {ax : AX} {axs : List AX} (hx : AX.of x = some ax) (hxs : AX.ofs args.toList = some axs) {l : List AI} (hl : AI.ofs P ops os = some l) {Q : PostX} {ads : List (FuncId × List V)} {fr : List V} {S : St}
    (h : runIs ok (CallA P) (fun e fr S => match e with | .normal => (match calleeD ok (ax.ev fr) (axs.map (·.ev fr)) with | some p => Q (p :: ads) .normal fr S | none => False) | e => Q ads e fr S) l fr S) : CodeX P (.region id ops false) Q ads fr S := by
  intro m base w0 w a hS hf hd
  refine wpIn_region_list ?_
  rw [hops]
  refine wpListIn_app ?_ ?_ ?_ os a w (runIs_okR hok _ m base w0 os l hl m S w fr a (Ext.refl m) hS hf rfl h)
  · rintro ch a' w' ⟨e', fr', S', m', hq, hx', hS', hf', hd', hR⟩
    cases e' <;> simp only [ExR] at hR
    exact ⟨ads, .panic _, fr', S', m', hq, hx', hS', hf', by rw [hd']; exact hd.mono hx', hR⟩
  · rintro ⟨a', w', e', fr', S', m', hq, hx', hS', hf', hd', hR⟩
    cases e' <;> simp only [ExR] at hR
  · rintro a' w' ⟨e', fr', S', m', hq, hx', hS', hf', hd', hR⟩
    cases e' <;> simp only [ExR] at hR
    simp only at hq
    split at hq
    · rename_i p hp
      obtain ⟨d, h1, h2⟩ := callee_invoke (us := args.map a'.eval) hok hp (AX.of_rel hx hf') (by rw [Array.toList_map]; exact AX.ofs_rel hf' hxs)
      refine wpListIn_plain hg fun K hK => ⟨fun _ _ => trivial, ?_⟩
      have hsem : (o.semAt (FR none).round a'.eval).run P w' = .ok (.defer d) w' := by
        show (execOp a'.eval o).run P w' = _
        simp [execOp, ho, resolve, h1 w', Result.andThen]
      rw [hsem, Oper.uponIn_defer]
      refine hK _ _ (wpListIn_nil ⟨p :: ads, .normal, fr', S', m', hq, hx', hS', ?_, ?_, trivial⟩)
      · rw [hd0]; exact hf'
      · rw [hd0]; exact ⟨d, a'.defers, rfl, h2, by rw [hd']; exact hd.mono hx'⟩
    · exact hq.elim

end Go.Th
end

section
/- Functions that defer calls: how they leave; read without frames. -/
set_option linter.unusedSimpArgs false
set_option linter.unusedVariables false
namespace Go.Th
open Go.RowKit Go.Lib Go

def recd : FrameMode → FrameMode
  | .panicking ({ v, recovered := false, goexit := false } :: older) => .panicking ({ v, recovered := true } :: older)
  | m => m
def ModeR (m : LM) : Option V → FrameMode → Prop
  | none, u => u = .returning
  | some v, u => ∃ x, u = .panicking [{ v := x, recovered := false }] ∧ VR m v x
def CallD (P : Program) (f : FuncId) (args : List V) (pv : Option V) (S : St) (Q : Bool → St → Prop) : Prop :=
  ∀ (m : LM) (base : Nat) (w0 w : World) (args' : Array Value) (u : FrameMode), Sim m S base w0 w → VRs m args args'.toList → ModeR m pv u →
    CallsD P f args' u w fun e u' w' => ∃ b S' m', Q b S' ∧ Ext m m' ∧ Sim m' S' base w0 w' ∧ (∃ v, e = .returned v) ∧ u' = (if b then recd u else u)

def leaveX (P : Program) : List (FuncId × List V) → Option V → St → (Option V → St → Prop) → Prop
  | [], pv, S, K => K pv S
  | p :: ps, none, S, K => CallD P p.1 p.2 none S fun _ S' => leaveX P ps none S' K
  | p :: ps, some v, S, K => CallD P p.1 p.2 (some v) S fun b S' => ifC b (leaveX P ps none S' K) (leaveX P ps (some v) S' K)

theorem leaveX_ok {P : Program} {fn : Func} {tmps : Array Value} {R : Ending → World → Prop} {m : LM} {base : Nat} {w0 : World} {K : Option V → St → Prop}
    (h0 : ∀ m' S w, Ext m m' → K none S → Sim m' S base w0 w → ∃ v, (results fn tmps).run P w = .ok v w ∧ R (.returned v) w)
    (h1 : ∀ m' v S w x, Ext m m' → K (some v) S → Sim m' S base w0 w → VR m' v x → R (.panicked [{ v := x, recovered := false }]) w) :
    ∀ (ads : List (FuncId × List V)) (ds : List Deferred) (pv : Option V) (S : St) (w : World) (u : FrameMode) (m' : LM), Ext m m' → leaveX P ads pv S K → DsR P m' ads ds → Sim m' S base w0 w → ModeR m' pv u → Leaves P fn tmps R ds u w
  | [], ds, none, S, w, u, m', hx, h, hd, hS, hu => by
    simp only [DsR] at hd; subst hd
    simp only [ModeR] at hu; subst hu
    exact h0 m' S w hx h hS
  | [], ds, some v, S, w, u, m', hx, h, hd, hS, hu => by
    simp only [DsR] at hd; subst hd
    obtain ⟨x, rfl, hv⟩ := hu
    exact h1 m' v S w x hx h hS hv
  | p :: ps, ds, none, S, w, u, m', hx, h, hd, hS, hu => by
    obtain ⟨d, ds', rfl, ⟨fv, cap, args', g1, g2, g3⟩, hd'⟩ := hd
    simp only [ModeR] at hu; subst hu
    refine ⟨by simp, fv, cap, p.1, args', g1, g2 w, (h m' base w0 w args' .returning hS g3 rfl).mono ?_⟩
    rintro e u' w' ⟨b, S', m2, hq, hx2, hS2, ⟨v, rfl⟩, rfl⟩
    have e1 : (if b then recd FrameMode.returning else FrameMode.returning) = .returning := by cases b <;> rfl
    simp only [e1]
    exact leaveX_ok h0 h1 ps ds' none S' w' _ m2 (hx.trans hx2) hq (hd'.mono hx2) hS2 rfl
  | p :: ps, ds, some v, S, w, u, m', hx, h, hd, hS, hu => by
    obtain ⟨d, ds', rfl, ⟨fv, cap, args', g1, g2, g3⟩, hd'⟩ := hd
    obtain ⟨x, rfl, hv⟩ := hu
    refine ⟨by simp, fv, cap, p.1, args', g1, g2 w, (h m' base w0 w args' _ hS g3 ⟨x, rfl, hv⟩).mono ?_⟩
    rintro e u' w' ⟨b, S', m2, hq, hx2, hS2, ⟨v', rfl⟩, rfl⟩
    have hq2 := ifC_ok hq
    cases b with
    | true => exact leaveX_ok h0 h1 ps ds' none S' w' _ m2 (hx.trans hx2) hq2 (hd'.mono hx2) hS2 rfl
    | false => exact leaveX_ok h0 h1 ps ds' (some v) S' w' _ m2 (hx.trans hx2) hq2 (hd'.mono hx2) hS2 ⟨x, rfl, hv.mono hx2⟩

def finX (rs : List ARes) (Q : Post) (fr : List V) : Option V → St → Prop
  | none, S => match ARes.gets fr S rs with | some vs => Q (.ret (tupled vs)) S | none => False
  | some v, S => Q (.panic v) S
def endX (P : Program) (rs : List ARes) (Q : Post) : PostX := fun ads e fr S => match e with
  | .normal | .ret => leaveX P ads none S (finX rs Q fr)
  | .panic v => leaveX P ads (some v) S (finX rs Q fr)
  | .exit _ => False

theorem CallA.of_bodyX {P : Program} {f : FuncId} {fn : Func} {c : Code} {rs : List ARes} (hfn : P.funcs[f]? = some fn) (hb : fn.body = some c) (hrs : ARes.ofs P fn.results.toList = some rs) {args : List V} {S : St} {Q : Post}
    (h : CodeX P c (endX P rs Q) [] (args ++ List.replicate (fn.ntmps - args.length) .undef) S) : CallA P f args S Q := by
  intro m base w0 w args' hS hv
  have hl := hv.length
  rw [Array.length_toList] at hl
  refine CallsX.of (Array.getElem?_eq_some_iff.1 hfn).1 (calls_of_wp_defers hfn hb ?_)
  have hfr : VRs m (args ++ List.replicate (fn.ntmps - args.length) .undef) (args' ++ Array.replicate (fn.ntmps - args'.size) Go.undef).toList := by
    rw [Array.toList_append, Array.toList_replicate, hl]
    exact hv.append (VRs.replicate (VR.undef m) _)
  have hw : c.wp P (LiftX P m base w0 (endX P rs Q)) ⟨args' ++ Array.replicate (fn.ntmps - args'.size) Go.undef, []⟩ w := (wpIn_wide (n := 0)).1 (h m base w0 w ⟨args' ++ Array.replicate (fn.ntmps - args'.size) Go.undef, []⟩ hS hfr rfl)
  refine wp_mono hw ?_
  rintro e a w' ⟨ads, e', fr', S', m', hq, hx, hS', hf', hd', hR⟩
  have k0 : ∀ m'' S w, Ext m' m'' → finX rs Q fr' none S → Sim m'' S base w0 w → ∃ v, (results fn a.tmps).run P w = .ok v w ∧ ∃ r S'' m3, Q r S'' ∧ Ext m m3 ∧ Sim m3 S'' base w0 w ∧ ResR m3 r (.returned v) := fun m'' S w hx2 hk hS2 => fin_ok hrs hS2 (hf'.mono hx2) (hx.trans hx2) hk
  have k1 : ∀ m'' v S w x, Ext m' m'' → finX rs Q fr' (some v) S → Sim m'' S base w0 w → VR m'' v x → ∃ r S'' m3, Q r S'' ∧ Ext m m3 ∧ Sim m3 S'' base w0 w ∧ ResR m3 r (.panicked [{ v := x, recovered := false }]) := fun m'' v S w x hx2 hk hS2 hv => ⟨.panic v, S, m'', hk, hx.trans hx2, hS2, x, rfl, hv⟩
  cases e' with
  | normal =>
    cases e <;> simp only [ExR] at hR
    exact leaveX_ok (m := m') k0 k1 ads a.defers none S' w' .returning m' (Ext.refl m') hq hd' hS' rfl
  | ret =>
    cases e <;> simp only [ExR] at hR
    exact leaveX_ok (m := m') k0 k1 ads a.defers none S' w' .returning m' (Ext.refl m') hq hd' hS' rfl
  | panic v =>
    cases e <;> simp only [ExR] at hR
    obtain ⟨x, rfl, hv⟩ := hR
    exact leaveX_ok (m := m') k0 k1 ads a.defers (some v) S' w' _ m' (Ext.refl m') hq hd' hS' ⟨x, rfl, hv⟩
  | exit j => exact hq.elim

end Go.Th
end

section
/- Functions that defer calls, read without frames; deferred functions that recover. -/
set_option linter.unusedSimpArgs false
set_option linter.unusedVariables false
namespace Go.Th
open Go.RowKit Go.Lib Go

inductive AD where
  | ac (a : AC)
  | seq (a b : AD)
  | defer (l : List AI) (x : AX) (xs : List AX)

def deferOf (P : Program) (ops : Array Oper) : Option AD :=
  match ops.toList.getLast? with
  | some o => match o.op, o.guard, o.dst with
    | .defer ⟨.value x, args, _⟩, none, none => obind (AX.of x) fun ax => obind (AX.ofs args.toList) fun axs => obind (AI.ofs P ops ops.toList.dropLast) fun l => some (.defer l ax axs)
    | _, _, _ => none
  | none => none
def AD.of (P : Program) : Code → Option AD
  | .seq a b => match AC.of P a with
    | some x => obind (AD.of P b) fun y => some (.seq (.ac x) y)
    | none => obind (AD.of P a) fun x => obind (AD.of P b) fun y => some (.seq x y)
  | .region id ops dr => match AC.of P (.region id ops dr) with
    | some x => some (.ac x)
    | none => if dr then none else deferOf P ops
  | c => obind (AC.of P c) fun x => some (.ac x)

structure ADF where
  nt : Nat
  results : List ARes
  body : AD
def ADF.of (P : Program) (fn : Func) : Option ADF :=
  match fn.body with
  | none => none
  | some c => obind (AD.of P c) fun ac => obind (ARes.ofs P fn.results.toList) fun rs => some ⟨fn.ntmps, rs, ac⟩
def adfun (P : Program) (f : FuncId) : Option ADF := obind (P.funcs[f]?) (ADF.of P)

def wpX (P : Program) (ok : Env) : AD → PostX → List (FuncId × List V) → List V → St → Prop
  | .ac a, Q, ads, fr, S => wpA ok (CallA P) (LoopA P) a (Q ads) fr S
  | .seq a b, Q, ads, fr, S => wpX P ok a (fun ads e fr S => match e with | .normal => wpX P ok b Q ads fr S | e => Q ads e fr S) ads fr S
  | .defer l x xs, Q, ads, fr, S => runIs ok (CallA P) (fun e fr S => match e with | .normal => (match calleeD ok (x.ev fr) (xs.map (·.ev fr)) with | some p => Q (p :: ads) .normal fr S | none => False) | e => Q ads e fr S) l fr S

theorem getLast_split {α : Type} {l : List α} {o : α} (h : l.getLast? = some o) : l = l.dropLast ++ [o] := by
  rw [List.getLast?_eq_some_iff] at h
  obtain ⟨ys, rfl⟩ := h
  simp

theorem wpX_ok {P : Program} {ok : Env} (hok : EnvOk P ok) : ∀ (c : Code) (ad : AD), AD.of P c = some ad → ∀ (Q : PostX) (ads : List (FuncId × List V)) (fr : List V) (S : St), wpX P ok ad Q ads fr S → CodeX P c Q ads fr S := by
  have plain : ∀ (c : Code) (ad : AD), (obind (AC.of P c) fun x => some (AD.ac x)) = some ad → ∀ (Q : PostX) (ads : List (FuncId × List V)) (fr : List V) (S : St), wpX P ok ad Q ads fr S → CodeX P c Q ads fr S := by
    intro c ad h Q ads fr S hw
    obtain ⟨x, hx, h⟩ := obind_some h
    cases h
    exact CodeX.of (wpA_ok hok c x hx _ fr S hw)
  intro c
  induction c with
  | seq a b iha ihb =>
    intro ad h Q ads fr S hw
    simp only [AD.of] at h
    split at h
    · rename_i x hx
      obtain ⟨y, hy, h⟩ := obind_some h
      cases h
      refine CodeX.seq (CodeX.of (wpA_ok hok a x hx _ fr S ?_))
      refine wpA_mono (fun f args S Q Q' hq h => h.mono hq) (fun ac Q Q' fr S hq h => h.mono hq) x _ _ ?_ fr S hw
      intro e fr' S' hq
      cases e with
      | normal => exact ihb y hy _ _ _ _ hq
      | exit j => exact hq
      | ret => exact hq
      | panic v => exact hq
    · obtain ⟨x, hx, h⟩ := obind_some h
      obtain ⟨y, hy, h⟩ := obind_some h
      cases h
      refine CodeX.seq (iha x hx _ _ _ _ ?_)
      have mono : ∀ (d : AD) (Q Q' : PostX), (∀ ads e fr S, Q ads e fr S → Q' ads e fr S) → ∀ ads fr S, wpX P ok d Q ads fr S → wpX P ok d Q' ads fr S := by
        intro d
        induction d with
        | ac t => intro Q Q' hq ads fr S h; exact wpA_mono (fun f args S Q Q' hq h => h.mono hq) (fun ac Q Q' fr S hq h => h.mono hq) t _ _ (fun e fr S => hq ads e fr S) fr S h
        | seq u v ihu ihv =>
          intro Q Q' hq ads fr S h
          refine ihu _ _ ?_ ads fr S h
          intro ads e fr S h
          cases e with
          | normal => exact ihv _ _ hq _ _ _ h
          | exit j => exact hq _ _ _ _ h
          | ret => exact hq _ _ _ _ h
          | panic v => exact hq _ _ _ _ h
        | defer l x xs =>
          intro Q Q' hq ads fr S h
          refine runIs_mono (callH := CallA P) (callH' := CallA P) (fun f args S Q Q' hq h => CallA.mono h hq) ?_ l fr S h
          intro e fr S h
          cases e with
          | normal =>
            simp only at h ⊢
            split at h
            · exact hq _ _ _ _ h
            · exact h.elim
          | exit j => exact hq _ _ _ _ h
          | ret => exact hq _ _ _ _ h
          | panic v => exact hq _ _ _ _ h
      refine mono x _ _ ?_ ads fr S hw
      intro ads' e fr' S' hq
      cases e with
      | normal => exact ihb y hy _ _ _ _ hq
      | exit j => exact hq
      | ret => exact hq
      | panic v => exact hq
  | region id ops dr =>
    intro ad h Q ads fr S hw
    simp only [AD.of] at h
    split at h
    · rename_i x hx
      cases h
      exact CodeX.of (wpA_ok hok _ x hx _ fr S hw)
    · split at h
      · cases h
      · rename_i hdr
        have : dr = false := by simpa using hdr
        subst this
        unfold deferOf at h
        split at h
        · rename_i o ho
          split at h
          · rename_i x args ts h1 h2 h3
            obtain ⟨ax, hx, h⟩ := obind_some h
            obtain ⟨axs, hxs, h⟩ := obind_some h
            obtain ⟨l, hl, h⟩ := obind_some h
            cases h
            exact CodeX.defer hok (getLast_split ho) h1 h2 h3 hx hxs hl hw
          · cases h
        · cases h
  | _ => exact plain _

inductive TD where
  | ac (a : TC)
  | seq (a b : TD)
  | defer (l : List TI) (x : AX) (xs : List AX)
def TD.erase : TD → AD
  | .ac a => .ac a.erase
  | .seq a b => .seq a.erase b.erase
  | .defer l x xs => .defer (erI l) x xs
def TD.okL : TD → Bool
  | .ac a => a.okL
  | .seq a b => a.okL && b.okL
  | .defer _ _ _ => true
abbrev PostTX := List (FuncId × List V) → PostT
def wpD (P : Program) (ok : Env) : TD → PostTX → List (FuncId × List V) → SF → St → Prop
  | .ac t, Q, ads, F, S => wpG (callK P) (fun v F S => Q ads (.panic v) F S) (fun _ _ => False) ok t (Q ads) F S
  | .seq a b, Q, ads, F, S => wpD P ok a (fun ads e F S => match e with | .normal => wpD P ok b Q ads F S | e => Q ads e F S) ads F S
  | .defer l x xs, Q, ads, F, S => runG (callK P) (fun v F S => Q ads (.panic v) F S) ok l F S fun F S => needX F x fun v => needXs F xs fun vs => ifS (calleeD ok v vs) fun p => Q (p :: ads) .normal F S

def DownX (Q : PostTX) : PostX := fun ads e fr' S' => ∃ F', Le F' fr' ∧ Q ads e F' S'
theorem wpX_mono {P : Program} {ok : Env} : ∀ (d : AD) (Q Q' : PostX), (∀ ads e fr S, Q ads e fr S → Q' ads e fr S) → ∀ ads fr S, wpX P ok d Q ads fr S → wpX P ok d Q' ads fr S := by
  intro d
  induction d with
  | ac t => intro Q Q' hq ads fr S h; exact wpA_mono (fun f args S Q Q' hq h => h.mono hq) (fun ac Q Q' fr S hq h => h.mono hq) t _ _ (fun e fr S => hq ads e fr S) fr S h
  | seq u v ihu ihv =>
    intro Q Q' hq ads fr S h
    refine ihu _ _ ?_ ads fr S h
    intro ads e fr S h
    cases e with
    | normal => exact ihv _ _ hq _ _ _ h
    | exit j => exact hq _ _ _ _ h
    | ret => exact hq _ _ _ _ h
    | panic v => exact hq _ _ _ _ h
  | defer l x xs =>
    intro Q Q' hq ads fr S h
    refine runIs_mono (callH := CallA P) (callH' := CallA P) (fun f args S Q Q' hq h => CallA.mono h hq) ?_ l fr S h
    intro e fr S h
    cases e with
    | normal =>
      simp only at h ⊢
      split at h
      · exact hq _ _ _ _ h
      · exact h.elim
    | exit j => exact hq _ _ _ _ h
    | ret => exact hq _ _ _ _ h
    | panic v => exact hq _ _ _ _ h

theorem wpD_ok {P : Program} {ok : Env} (hok : EnvOk P ok) : ∀ (td : TD), td.okL = true → ∀ (Q : PostTX) (ads : List (FuncId × List V)) (F : SF) (fr : List V) (S : St), Le F fr → wpD P ok td Q ads F S → wpX P ok td.erase (DownX Q) ads fr S := by
  intro td
  induction td with
  | ac t =>
    intro hk Q ads F fr S hF h
    refine wpA_mono (fun f args S Q Q' hq h => h.mono hq) (fun ac Q Q' fr S hq h => h.mono hq) _ _ _ ?_ fr S (wpG_ok (callK_ok P) hok t hk (Q ads) (fun _ _ _ h => h) F fr S hF h)
    rintro e fr' S' (⟨F', h1, h2, h3⟩ | ⟨v, rfl, hp⟩)
    · exact ⟨F', h1, h3⟩
    · exact hp.elim
  | seq a b iha ihb =>
    intro hk Q ads F fr S hF h
    simp only [TD.okL, Bool.and_eq_true] at hk
    simp only [TD.erase, wpX]
    refine wpX_mono _ _ _ ?_ ads fr S (iha hk.1 _ ads F fr S hF h)
    rintro ads' e fr' S' ⟨F', h1, h2⟩
    cases e with
    | normal => exact ihb hk.2 _ _ F' fr' S' h1 h2
    | exit j => exact ⟨F', h1, h2⟩
    | ret => exact ⟨F', h1, h2⟩
    | panic v => exact ⟨F', h1, h2⟩
  | defer l x xs =>
    intro hk Q ads F fr S hF h
    simp only [TD.erase, wpX, erI_eq]
    refine runG_ok (callK_ok P) l hF h ?_ ?_
    · intro F' fr' S' h1 _ h3
      obtain ⟨p, h4, h5⟩ := ifS_ok (needXs_ok h1 (needX_ok h1 h3))
      simp only [h4]
      exact ⟨F', h1, h5⟩
    · intro v F' fr' S' h1 _ h3
      exact ⟨F', h1, h3⟩

def finT (rs : List ARes) (ds : List DT) (K : Cur (flats ds)) (F : SF) : Option V → St → Prop
  | none, S => resT F S rs ds fun vs => unC (flats ds) vs K S
  | some _, _ => False
def endD (P : Program) (rs : List ARes) (ds : List DT) (K : Cur (flats ds)) : PostTX := fun ads e F S => match e with
  | .normal => leaveX P ads none S (finT rs ds K F)
  | .ret => leaveX P ads none S (finT rs ds K F)
  | .panic v => leaveX P ads (some v) S (finT rs ds K F)
  | .exit _ => False

theorem CallD.mono {P : Program} {f : FuncId} {args : List V} {pv : Option V} {S : St} {Q Q' : Bool → St → Prop} (h : CallD P f args pv S Q) (hq : ∀ b S', Q b S' → Q' b S') : CallD P f args pv S Q' :=
  fun m base w0 w args' u hS hv hu => (h m base w0 w args' u hS hv hu).mono fun e u' w' ⟨b, S', m', h1, h2⟩ => ⟨b, S', m', hq _ _ h1, h2⟩
theorem leaveX_mono {P : Program} {K K' : Option V → St → Prop} (hk : ∀ pv S, K pv S → K' pv S) : ∀ (ads : List (FuncId × List V)) (pv : Option V) (S : St), leaveX P ads pv S K → leaveX P ads pv S K'
  | [], pv, S, h => hk _ _ h
  | p :: ps, none, S, h => CallD.mono h fun b S' h' => leaveX_mono hk ps none S' h'
  | p :: ps, some v, S, h => CallD.mono h fun b S' h' => ⟨fun hb => leaveX_mono hk ps none S' (h'.1 hb), fun hb => leaveX_mono hk ps (some v) S' (h'.2 hb)⟩

theorem CallA.of_D {P : Program} {f : FuncId} {A : ADF} (hA : adfun P f = some A) {td : TD} (ht : td.erase = A.body) (hl : td.okL = true) {args : List V} {S : St}
    {ds : List DT} {K : Cur (flats ds)} (h : wpD P (envP P) td (endD P A.results ds K) [] (startT args ++ List.replicate (A.nt - args.length) .none) S) : CallA P f args S (retT ds K) := by
  obtain ⟨fn, hfn, hA⟩ := obind_some hA
  unfold ADF.of at hA
  cases hb : fn.body with
  | none => rw [hb] at hA; cases hA
  | some c =>
    rw [hb] at hA
    obtain ⟨ad, had, hA⟩ := obind_some hA
    obtain ⟨rs, hrs, hA⟩ := obind_some hA
    cases hA
    simp only at ht h
    have fin : ∀ (F' : SF) (fr' : List V), Le F' fr' → ∀ pv S, finT rs ds K F' pv S → finX rs (retT ds K) fr' pv S := by
      intro F' fr' h1 pv S' hk
      cases pv with
      | some v => exact hk.elim
      | none =>
        obtain ⟨us, vs, g1, g2, g3⟩ := resT_ok h1 hk
        simp only [finX, g1, g2]
        exact unC_ok (mk := fun vs => tupled (group ds vs)) g3
    refine CallA.of_bodyX hfn hb hrs (wpX_ok (envP_ok P) c ad had _ _ _ _ ?_)
    rw [← ht]
    refine wpX_mono _ _ _ ?_ _ _ _ (wpD_ok (envP_ok P) td hl _ [] _ _ S startT_le h)
    rintro ads e fr' S' ⟨F', h1, h2⟩
    cases e with
    | normal => exact leaveX_mono (fin F' fr' h1) ads none S' h2
    | ret => exact leaveX_mono (fin F' fr' h1) ads none S' h2
    | panic v => exact leaveX_mono (fin F' fr' h1) ads (some v) S' h2
    | exit j => exact h2.elim

def annD : AD → ItL → JtL → LtL → TD × ItL × JtL × LtL
  | .ac a, s, j, l => let q := annC a s j l; (.ac q.1, q.2)
  | .seq a b, s, j, l => let q := annD a s j l; let w := annD b q.2.1 q.2.2.1 q.2.2.2; (.seq q.1 w.1, w.2)
  | .defer r x xs, s, j, l => let q := annI r s; (.defer q.1 x xs, q.2, j, l)
theorem annD_er : ∀ (c : AD) (s : ItL) (j : JtL) (l : LtL), (annD c s j l).1.erase = c
  | .ac a, s, j, l => by simp only [annD, TD.erase, annC_er]
  | .seq a b, s, j, l => by simp only [annD, TD.erase, annD_er a, annD_er b]
  | .defer r x xs, s, j, l => by simp only [annD, TD.erase, annI_er]
def tdOf (A : ADF) (s : ItL) (j : JtL) (l : LtL) : TD := (annD A.body s j l).1
def adfn (P : Program) (f : FuncId) : ADF := (adfun P f).getD ⟨0, [], .ac .skip⟩
def frD (A : ADF) (args : List V) : SF := startT args ++ List.replicate (A.nt - args.length) .none
def ReadsD (P : Program) (f : FuncId) (s : ItL) (j : JtL) (l : LtL) {α : Type} (W : ADF → TD → α) (p : α) : Prop :=
  ((adfun P f).isSome, (tdOf (adfn P f) s j l).okL, W (adfn P f) (tdOf (adfn P f) s j l)) = (true, true, p)
theorem ReadsD.of {P : Program} {f : FuncId} {s : ItL} {j : JtL} {l : LtL} {α : Type} {W : ADF → TD → α} {p : α} (h : ((adfun P f).isSome, (tdOf (adfn P f) s j l).okL, W (adfn P f) (tdOf (adfn P f) s j l)) = (true, true, p)) : ReadsD P f s j l W p := h
theorem ReadsD.run {P : Program} {f : FuncId} {s : ItL} {j : JtL} {l : LtL} {α : Type} {W : ADF → TD → α} {p : α} (h : ReadsD P f s j l W p) {args : List V} {S : St} {ds : List DT} {K : Cur (flats ds)} (ap : α → Prop)
    (hp : ap p) (he : ap (W (adfn P f) (tdOf (adfn P f) s j l)) = wpD P (envP P) (tdOf (adfn P f) s j l) (endD P (adfn P f).results ds K) [] (frD (adfn P f) args) S) : CallA P f args S (retT ds K) := by
  unfold ReadsD at h
  rw [Prod.mk.injEq, Prod.mk.injEq] at h
  have ha : adfun P f = some (adfn P f) := by
    have h1 := h.1
    unfold adfn
    cases ha : adfun P f with
    | none => rw [ha] at h1; cases h1
    | some A => rfl
  refine CallA.of_D ha (annD_er _ _ _ _) h.2.1 ?_
  rw [← h.2.2] at hp
  exact Eq.mp he hp

theorem Reads.runK {P : Program} {f : FuncId} {s : ItL} {j : JtL} {l : LtL} {α : Type} {W : AF → TC → α} {p : α} (h : Reads P f s j l W p) {args : List V} {S : St} {ds : List DT} {KP : V → St → Prop} {K : Cur (flats ds)} (ap : α → Prop)
    (hp : ap p) (he : ap (W (afn P f) (tcOf (afn P f) s j l)) = wpK P KP (envP P) (tcOf (afn P f) s j l) (endK (afn P f).results ds KP K) (frT (afn P f) args) S) : CallA P f args S (retK ds KP K) := by
  unfold Reads at h
  rw [Prod.mk.injEq, Prod.mk.injEq] at h
  refine CallA.of_K (envP_ok P) (afn_ok h.1) (annC_er _ _ _ _) h.2.1 ?_
  rw [← h.2.2] at hp
  exact Eq.mp he hp

theorem CallA.np {P : Program} {f : FuncId} {args : List V} {S : St} {ds : List DT} {KP : V → St → Prop} {K : Cur (flats ds)} (h : CallA P f args S (retT ds K)) : CallA P f args S (retK ds KP K) := CallA.mono h fun _ _ hr => .inl hr
end Go.Th
end

section
/- Deferred functions that recover. -/
set_option linter.unusedSimpArgs false
set_option linter.unusedVariables false
namespace Go.Th
open Go.RowKit Go.Lib Go

structure RF where
  nt : Nat
  d0 : Nat
  d1 : Nat
  body : AC
def isRec : Op → Bool
  | .call ⟨.builtin .recover, _, _⟩ => true
  | _ => false
def isMv (d : Nat) : Op → Bool
  | .assign (.tmp t) => t == d
  | .move (.tmp t) => t == d
  | _ => false
def RF.of (P : Program) (fn : Func) : Option RF :=
  match fn.body, fn.results.toList with
  | some (.seq (.region _ ops false) c), [] => match ops.toList with
    | [o0, o1] => match o0.dst, o1.dst, o0.guard, o1.guard with
      | some d0, some d1, none, none => if isRec o0.op && isMv d0 o1.op && decide (d0 < fn.ntmps) then obind (AC.of P c) fun ac => some ⟨fn.ntmps, d0, d1, ac⟩ else none
      | _, _, _, _ => none
    | _ => none
  | _, _ => none
def recfun (P : Program) (f : FuncId) : Option RF := obind (P.funcs[f]?) (RF.of P)

def endR (Q : St → Prop) : PostC := fun e _ S => match e with
  | .normal | .ret => Q S
  | _ => False

theorem run_recover {P : Program} {o : Oper} {a : Act} {w : World} (h : isRec o.op = true) : (execOp a.eval o).run P w = .ok .recover w := by
  unfold isRec at h
  split at h
  · rename_i ho; simp [execOp, ho, resolve, invoke, builtin]
  · cases h
theorem run_mv {P : Program} {o : Oper} {a : Act} {w : World} {d : Nat} (h : isMv d o.op = true) : (execOp a.eval o).run P w = .ok (.value (a.eval (.tmp d))) w := by
  unfold isMv at h
  split at h
  · rename_i ho
    have := eq_of_beq h; subst this
    simp [execOp, ho]
  · rename_i ho
    have := eq_of_beq h; subst this
    simp [execOp, ho]
  · cases h

theorem CallD.of_R {P : Program} {ok : Env} (hok : EnvOk P ok) {f : FuncId} {A : RF} (hA : recfun P f = some A) {args : List V} {pv : Option V} {S : St} {Q : St → Prop}
    (h : wpA ok (CallA P) (LoopA P) A.body (endR Q) (((args ++ List.replicate (A.nt - args.length) V.undef).set A.d0 (pv.getD .nilIface)).set A.d1 (pv.getD .nilIface)) S) : CallD P f args pv S fun b S' => b = pv.isSome ∧ Q S' := by
  obtain ⟨fn, hfn, hA⟩ := obind_some hA
  unfold RF.of at hA
  split at hA
  · rename_i id ops c hb hres
    split at hA
    · rename_i o0 o1 hops
      split at hA
      · rename_i d0 d1 e1 e2 e3 e4
        split at hA
        · rename_i hif
          simp only [Bool.and_eq_true, decide_eq_true_eq] at hif
          obtain ⟨⟨i1, i2⟩, i3⟩ := hif
          obtain ⟨ac, hac, hA⟩ := obind_some hA
          cases hA
          simp only at h
          intro m base w0 w args' u hS hv hu
          have hl := hv.length
          rw [Array.length_toList] at hl
          have hfr : VRs m (args ++ List.replicate (fn.ntmps - args.length) V.undef) (args' ++ Array.replicate (fn.ntmps - args'.size) Go.undef).toList := by
            rw [Array.toList_append, Array.toList_replicate, hl]
            exact hv.append (VRs.replicate (VR.undef m) _)
          refine callsD_of_wpS hfn hb fun c0 cs hc0 => ?_
          obtain ⟨a0, ha0⟩ : ∃ a0 : Act, a0 = ⟨args' ++ Array.replicate (fn.ntmps - args'.size) Go.undef, []⟩ := ⟨_, rfl⟩
          rw [← ha0]
          have hfr0 : VRs m (args ++ List.replicate (fn.ntmps - args.length) V.undef) a0.tmps.toList := by rw [ha0]; exact hfr
          have hops2 : ops = #[o0, o1] := by apply Array.ext'; simpa using hops
          subst hops2
          -- what recover hands back
          have hrec : ∃ x, VR m (pv.getD .nilIface) x ∧ (∀ (R : Value → List Frame → Prop), R x ({ c0 with mode := if pv.isSome then recd u else u } :: cs) → (match recoverD (c0 :: cs) with | some (v, cs') => R v cs' | none => R .nilIface (c0 :: cs))) := by
            cases pv with
            | none =>
              simp only [ModeR] at hu
              subst hu
              refine ⟨.nilIface, by simp [VR], fun R hR => ?_⟩
              simp only [recoverD, hc0]
              have : ({ c0 with mode := FrameMode.returning } : Frame) = c0 := by rw [← hc0]
              simpa [this] using hR
            | some v =>
              obtain ⟨x, rfl, hx⟩ := hu
              refine ⟨x, hx, fun R hR => ?_⟩
              simp only [recoverD, hc0]
              exact hR
          obtain ⟨x, hx, hR⟩ := hrec
          refine wpS_seq (wpS_region ?_)
          have er : List.range (#[o0, o1] : Array Oper).size = [0, 1] := rfl
          rw [er]
          have w0' : Region.wanted o0 (yielded #[o0, o1] a0.tmps) = true := by simp [Region.wanted, e3]
          unfold wpOpsS
          simp only [List.getElem?_toArray, List.getElem?_cons_zero, w0', if_true, run_recover i1]
          refine hR (fun v cs' => wpOpsS P #[o0, o1] _ [1] (a0.put o0.dst v) cs' w) ?_
          have w1' : Region.wanted o1 (yielded #[o0, o1] (a0.put o0.dst x).tmps) = true := by simp [Region.wanted, e4]
          unfold wpOpsS
          simp only [List.getElem?_toArray, List.getElem?_cons_succ, List.getElem?_cons_zero, w1', if_true, run_mv i2, Oper.upon]
          unfold wpOpsS
          simp only [Exit.thenS, e1, e2]
          have hlen : d0 < a0.tmps.size := by
            rw [ha0]
            simp only [Array.size_append, Array.size_replicate]
            exact Nat.lt_of_lt_of_le i3 (by omega)
          have hev : (a0.put (some d0) x).eval (.tmp d0) = x := by
            simp [Act.put, Act.eval, hlen]
          rw [hev]
          have hf2 : VRs m (((args ++ List.replicate (fn.ntmps - args.length) V.undef).set d0 (pv.getD .nilIface)).set d1 (pv.getD .nilIface)) ((a0.put (some d0) x).put (some d1) x).tmps.toList := put_rel (d := some d1) (put_rel (d := some d0) hfr0 hx) hx
          refine wpS_of_wp (wp_mono (wpA_ok hok c ac hac _ _ S h [] m base w0 w _ hS hf2 (by rw [ha0]; rfl)) ?_)
          rintro e a w' ⟨e', fr', S', m', hq, hx', hS', hf', hd', hRR⟩
          have fin : Q S' → bodyPostS P fn c0 cs (fun e u' w' => ∃ b S' m', (b = pv.isSome ∧ Q S') ∧ Ext m m' ∧ Sim m' S' base w0 w' ∧ (∃ v, e = .returned v) ∧ u' = (if b then recd u else u)) .normal a ({ c0 with mode := if pv.isSome then recd u else u } :: cs) w' := fun hq => by
            have hrun : (results fn a.tmps).run P w' = .ok (.tuple #[]) w' := by
              have : fn.results = #[] := by apply Array.ext'; simpa using hres
              rw [results_eq, this]
              simp
            exact ⟨hd', _, rfl, _, hrun, pv.isSome, S', m', ⟨rfl, hq⟩, hx', hS', ⟨_, rfl⟩, rfl⟩
          cases e' with
          | normal =>
            cases e <;> simp only [ExR] at hRR
            exact fin hq
          | ret =>
            cases e <;> simp only [ExR] at hRR
            exact fin hq
          | panic v => exact hq.elim
          | exit j => exact hq.elim
        · cases hA
      · cases hA
    · cases hA
  · cases hA

def endRT (K : St → Prop) : PostT := fun e _ S => match e with
  | .normal => K S
  | .ret => K S
  | _ => False
def recfn (P : Program) (f : FuncId) : RF := (recfun P f).getD ⟨0, 0, 0, .skip⟩
def frR (A : RF) (args : List V) (x : V) : SF := ((startT args ++ List.replicate (A.nt - args.length) Cell.none).set A.d0 (.val x)).set A.d1 (.val x)
def ReadsR (P : Program) (f : FuncId) (s : ItL) (j : JtL) (l : LtL) {α : Type} (W : RF → TC → α) (p : α) : Prop :=
  ((recfun P f).isSome, (annC (recfn P f).body s j l).1.okL, W (recfn P f) (annC (recfn P f).body s j l).1) = (true, true, p)
theorem ReadsR.of {P : Program} {f : FuncId} {s : ItL} {j : JtL} {l : LtL} {α : Type} {W : RF → TC → α} {p : α} (h : ((recfun P f).isSome, (annC (recfn P f).body s j l).1.okL, W (recfn P f) (annC (recfn P f).body s j l).1) = (true, true, p)) : ReadsR P f s j l W p := h
theorem ReadsR.run {P : Program} {f : FuncId} {s : ItL} {j : JtL} {l : LtL} {α : Type} {W : RF → TC → α} {p : α} (h : ReadsR P f s j l W p) {args : List V} {pv : Option V} {S : St} {K : St → Prop} (ap : α → Prop)
    (hp : ap p) (he : ap (W (recfn P f) (annC (recfn P f).body s j l).1) = wpT P (envP P) (annC (recfn P f).body s j l).1 (endRT K) (frR (recfn P f) args (pv.getD .nilIface)) S) : CallD P f args pv S fun b S' => b = pv.isSome ∧ K S' := by
  unfold ReadsR at h
  rw [Prod.mk.injEq, Prod.mk.injEq] at h
  have ha : recfun P f = some (recfn P f) := by
    have h1 := h.1
    unfold recfn
    cases ha : recfun P f with
    | none => rw [ha] at h1; cases h1
    | some A => rfl
  refine CallD.of_R (envP_ok P) ha ?_
  rw [← h.2.2] at hp
  have hw := Eq.mp he hp
  have hle : Le (frR (recfn P f) args (pv.getD .nilIface)) (((args ++ List.replicate ((recfn P f).nt - args.length) V.undef).set (recfn P f).d0 (pv.getD .nilIface)).set (recfn P f).d1 (pv.getD .nilIface)) :=
    (startT_le.put (some (recfn P f).d0) (Cell.le_val _)).put (some (recfn P f).d1) (Cell.le_val _)
  have hr := wpG_ok (callN_ok P) (envP_ok P) _ h.2.1 (endRT K) (fun _ _ _ h => h.elim) _ _ S hle hw
  rw [annC_er] at hr
  refine wpA_mono (fun f args S Q Q' hq h => h.mono hq) (fun ac Q Q' fr S hq h => h.mono hq) _ _ _ ?_ _ _ hr
  rintro e fr' S' (⟨F', h1, h2, h3⟩ | ⟨v, rfl, hp⟩)
  · cases e with
    | normal => exact h3
    | ret => exact h3
    | exit j => exact h3.elim
    | panic v => exact h3.elim
  · exact hp.elim

end Go.Th
end

section
/- A function without results, without recover, that is called as a deferred one. -/
set_option linter.unusedSimpArgs false
set_option linter.unusedVariables false
namespace Go.Th
open Go.RowKit Go.Lib Go

def panD (P : Program) (ads : List (FuncId × List V)) (R : St → Prop) (v : V) (S : St) : Prop := leaveX P ads (some v) S fun pv S' => match pv with
  | none => R S'
  | some _ => False

theorem CallD.of_body {P : Program} {ok : Env} (hok : EnvOk P ok) {f : FuncId} {F : AF} (hF : afun P f = some F) {args : List V} {pv : Option V} {S : St} {Q : St → Prop}
    (h : wpA ok (CallA P) (LoopA P) F.body (endQ F.results fun r S' => (∃ v, r = .ret v) ∧ Q S') (args ++ List.replicate (F.nt - args.length) .undef) S) : CallD P f args pv S fun b S' => b = false ∧ Q S' := by
  obtain ⟨fn, hfn, hF⟩ := obind_some hF
  unfold AF.of at hF
  cases hb : fn.body with
  | none => rw [hb] at hF; cases hF
  | some c =>
    rw [hb] at hF
    obtain ⟨ac, hac, hF⟩ := obind_some hF
    obtain ⟨rs, hrs, hF⟩ := obind_some hF
    cases hF
    intro m base w0 w args' u hS hv hu
    have hl := hv.length
    rw [Array.length_toList] at hl
    have hfr : VRs m (args ++ List.replicate (fn.ntmps - args.length) .undef) (args' ++ Array.replicate (fn.ntmps - args'.size) Go.undef).toList := by
      rw [Array.toList_append, Array.toList_replicate, hl]
      exact hv.append (VRs.replicate (VR.undef m) _)
    refine CallsD.mono (callsD_of_wp (R := fun e w' => ∃ r S'' m'', ((∃ v, r = Res.ret v) ∧ Q S'') ∧ Ext m m'' ∧ Sim m'' S'' base w0 w' ∧ ResR m'' r e) hfn hb ?_) ?_
    · refine wp_mono (wpA_ok hok c ac hac _ _ S h [] m base w0 w ⟨args' ++ Array.replicate (fn.ntmps - args'.size) Go.undef, []⟩ hS hfr rfl) ?_
      rintro e a w' ⟨e', fr', S', m', hq, hx, hS', hf', hd', hR⟩
      have fin : (match ARes.gets fr' S' rs with
          | some vs => (∃ v, Res.ret (tupled vs) = .ret v) ∧ Q S'
          | none => False) → ∃ v, (results fn a.tmps).run P w' = .ok v w' ∧ ∃ r S'' m'', ((∃ v, r = Res.ret v) ∧ Q S'') ∧ Ext m m'' ∧ Sim m'' S'' base w0 w' ∧ ResR m'' r (.returned v) := fun hk => fin_ok (Q := fun r S' => (∃ v, r = .ret v) ∧ Q S') hrs hS' hf' hx hk
      cases e' with
      | normal =>
        cases e <;> simp only [ExR] at hR
        obtain ⟨v, h1, h2⟩ := fin hq
        exact ⟨hd', v, h1, h2⟩
      | ret =>
        cases e <;> simp only [ExR] at hR
        obtain ⟨v, h1, h2⟩ := fin hq
        exact ⟨hd', v, h1, h2⟩
      | panic v => obtain ⟨⟨_, h0⟩, _⟩ := hq; cases h0
      | exit j => exact hq.elim
    · rintro e u' w' ⟨rfl, r, S', m', ⟨⟨v, rfl⟩, hq⟩, hx, hS', hR⟩
      obtain ⟨v', rfl, _⟩ := hR
      exact ⟨false, S', m', ⟨rfl, hq⟩, hx, hS', ⟨v', rfl⟩, rfl⟩

theorem Reads.runD {P : Program} {f : FuncId} {s : ItL} {j : JtL} {l : LtL} {α : Type} {W : AF → TC → α} {p : α} (h : Reads P f s j l W p) {args : List V} {pv : Option V} {S : St} {K : St → Prop} (ap : α → Prop)
    (hp : ap p) (he : ap (W (afn P f) (tcOf (afn P f) s j l)) = wpT P (envP P) (tcOf (afn P f) s j l) (endT (afn P f).results [] K) (frT (afn P f) args) S) : CallD P f args pv S fun b S' => b = false ∧ K S' := by
  unfold Reads at h
  rw [Prod.mk.injEq, Prod.mk.injEq] at h
  have hA := afn_ok h.1
  rw [← h.2.2] at hp
  have hw := Eq.mp he hp
  refine CallD.of_body (envP_ok P) hA ?_
  have ht : (tcOf (afn P f) s j l).erase = (afn P f).body := annC_er _ _ _ _
  rw [← ht]
  refine wpA_mono (fun f args S Q Q' hq h => h.mono hq) (fun ac Q Q' fr S hq h => h.mono hq) _ _ _ ?_ _ _ (wpG_ok (callN_ok P) (envP_ok P) _ h.2.1 _ (fun _ _ _ h => h.elim) _ _ S startT_le hw)
  rintro e fr' S' (⟨F', h1, h2, h3⟩ | ⟨v, rfl, hp⟩)
  rotate_left
  · exact hp.elim
  cases e with
  | normal =>
    obtain ⟨us, vs, g1, g2, g3⟩ := resT_ok h1 h3
    rw [endQ_normal, g1]
    cases vs with
    | nil => exact ⟨⟨_, rfl⟩, g3⟩
    | cons => exact g3.elim
  | ret =>
    obtain ⟨us, vs, g1, g2, g3⟩ := resT_ok h1 h3
    rw [endQ_ret, g1]
    cases vs with
    | nil => exact ⟨⟨_, rfl⟩, g3⟩
    | cons => exact g3.elim
  | exit j => exact h3.elim
  | panic v => exact h3.elim

end Go.Th
end

section
/- Keys of the functions' names (printed by tools/lib.py). -/
namespace Go.Th.L
abbrev Fn.codec_Encode : Nat := 2
abbrev Fn.codec_Decode : Nat := 5
abbrev Fn.codec_Sum : Nat := 6
abbrev Fn.keep_Bytes : Nat := 10
abbrev Fn.codec_PutChange : Nat := 15
abbrev Fn.codec_PutRows : Nat := 19
abbrev Fn.codec_GetChange : Nat := 24
abbrev Fn.codec_GetRows : Nat := 26
abbrev Fn.codec_lay : Nat := 31
abbrev Fn.codec_reading_number : Nat := 34
abbrev Fn.codec_reading_cut : Nat := 35
abbrev Fn.codec_may : Nat := 38
abbrev Fn.flat_Check : Nat := 42
abbrev Fn.codec_reading_coords : Nat := 45
abbrev Fn.vec_Check : Nat := 47
abbrev Fn.codec_reading_coords_1 : Nat := 49
abbrev Fn.vec_dim : Nat := 50
abbrev Fn.slices_Clone_Lint : Nat := 152
abbrev Fn.strconv_Itoa : Nat := 194
abbrev Fn.strconv_Atoi : Nat := 199
abbrev Fn.slices_Contains_Lstring : Nat := 233
abbrev Fn.strings_HasPrefix : Nat := 246
abbrev Fn.disk_New : Nat := 320
abbrev Fn.disk_Disk_Clone : Nat := 326
abbrev Fn.disk_Disk_Crash : Nat := 331
abbrev Fn.disk_Disk_Create : Nat := 332
abbrev Fn.disk_Disk_SyncDir : Nat := 333
abbrev Fn.disk_Disk_Sync : Nat := 334
abbrev Fn.disk_Disk_Read : Nat := 335
abbrev Fn.disk_Disk_Append : Nat := 336
abbrev Fn.disk_Disk_Names : Nat := 337
abbrev Fn.disk_Disk_Down : Nat := 338
abbrev Fn.disk_Disk_Stop : Nat := 340
abbrev Fn.disk_Disk_Steps : Nat := 341
abbrev Fn.disk_Disk_Used : Nat := 342
abbrev Fn.disk_Disk_Rename : Nat := 344
abbrev Fn.disk_Disk_Remove : Nat := 345
abbrev Fn.disk_Disk_Clone_1 : Nat := 351
abbrev Fn.disk_Disk_Crash_1 : Nat := 361
abbrev Fn.maps_Clone_disk_names : Nat := 362
abbrev Fn.disk_says : Nat := 363
abbrev Fn.disk_names_do : Nat := 364
abbrev Fn.slices_Clone_Lbyte : Nat := 365
abbrev Fn.disk_Disk_ready : Nat := 366
abbrev Fn.disk_good : Nat := 367
abbrev Fn.disk_Disk_change : Nat := 368
abbrev Fn.disk_Disk_done : Nat := 369
abbrev Fn.disk_Disk_find : Nat := 370
abbrev Fn.maps_Keys_disk_names : Nat := 371
abbrev Fn.slices_Sorted_string : Nat := 372
abbrev Fn.slices_Collect_string : Nat := 381
abbrev Fn.slices_Sort_Lstring : Nat := 382
abbrev Fn.maps_Keys_disk_names_1 : Nat := 383
abbrev Fn.slices_AppendSeq_Lstring : Nat := 385
abbrev Fn.wal_Open : Nat := 389
abbrev Fn.wal_Log_Append : Nat := 390
abbrev Fn.wal_Log_Sync : Nat := 391
abbrev Fn.wal_Log_Cut : Nat := 392
abbrev Fn.wal_Log_Last : Nat := 394
abbrev Fn.wal_Open_1 : Nat := 397
abbrev Fn.wal_begins : Nat := 398
abbrev Fn.wal_records : Nat := 399
abbrev Fn.wal_Log_settle : Nat := 400
abbrev Fn.wal_Log_begin : Nat := 401
abbrev Fn.wal_Log_lay : Nat := 402
abbrev Fn.slices_Delete_Lpwal_segment : Nat := 403
abbrev Fn.wal_whole : Nat := 404
abbrev Fn.wal_get32 : Nat := 405
abbrev Fn.wal_get64 : Nat := 406
abbrev Fn.wal_head : Nat := 407
abbrev Fn.wal_laid : Nat := 408
abbrev Fn.wal_put32 : Nat := 416
abbrev Fn.wal_put64 : Nat := 417
abbrev Fn.wal_sealed : Nat := 418
abbrev Fn.law19_large : Nat := 516
abbrev Fn.store_Open : Nat := 517
abbrev Fn.store_Store_Put : Nat := 518
abbrev Fn.store_Store_Delete : Nat := 519
abbrev Fn.store_Store_Sync : Nat := 520
abbrev Fn.store_Store_Snapshot : Nat := 521
abbrev Fn.store_Store_Since : Nat := 522
abbrev Fn.law19_awake : Nat := 525
abbrev Fn.store_Store_Rows : Nat := 526
abbrev Fn.store_Store_Seq : Nat := 527
abbrev Fn.law19_StoreNil : Nat := 528
abbrev Fn.store_Store_Get : Nat := 529
abbrev Fn.store_Store_Len : Nat := 530
abbrev Fn.store_Store_Safe : Nat := 531
abbrev Fn.store_Open_1 : Nat := 536
abbrev Fn.store_caught : Nat := 537
abbrev Fn.store_must : Nat := 538
abbrev Fn.store_take : Nat := 539
abbrev Fn.store_Store_do : Nat := 540
abbrev Fn.flat_May : Nat := 541
abbrev Fn.store_Store_change : Nat := 542
abbrev Fn.store_lay : Nat := 543
abbrev Fn.flat_Own : Nat := 544
abbrev Fn.ty_store_failed : Nat := 554
end Go.Th.L
end

section
/- Functions of codec, read without frames (printed by tools/lib.py). -/
set_option linter.unusedVariables false
set_option maxRecDepth 100000
set_option maxHeartbeats 2000000
namespace Go.Th.L
open Go Go.Th

def codec_Sum.p (P : Program) (N : Nat → Nat) (x0 : V) (S : St) (K : Int → St → Prop) : Prop :=
  ∃ x7 : Int, lenV S 2 x0 = some (V.int .i64 x7) ∧ Loop2 (fun (k1 : Int → Int → St → Prop) (x3 : Int) (x8 : Int) (S1 : St) => ifC (decide (x8 < x7)) (ifS (idxAddrV 1 x0 (V.int .i64 x8)) fun x10 => ∃ x11 : Int, loadV S1 x10 = some (V.int .u8 x11) ∧ setI (IntKind.u32.wrap x11) fun x14 => setI (intBits .xor .u32 x3 x14) fun x15 => Loop2 (fun (k2 : Int → Int → St → Prop) (x3_1 : Int) (x16 : Int) (S2 : St) => ifC (decide (x16 < (8 : Int))) (0 ≤ (1 : Int) ∧ setI (Int.fdiv x3_1 (2 ^ (min (Int.toNat (1 : Int)) (IntKind.bits .u32)))) fun x19 => setI (intBits .and .u32 x3_1 (1 : Int)) fun x21 => setI (IntKind.u32.wrap (0 - x21)) fun x22 => setI (intBits .and .u32 x22 (3988292384 : Int)) fun x23 => setI (intBits .xor .u32 x19 x23) fun x24 => setI (IntKind.i64.wrap (x16 + (1 : Int))) fun x25 => k2 x24 x25 S2) (setI (IntKind.i64.wrap (x8 + (1 : Int))) fun x26 => k1 x3_1 x26 S2)) x15 0 S1) (setI (intBits .xor .u32 (if (IntKind.signed .u32) then -1 else (IntKind.max .u32)) x3) fun x28 => K x28 S1)) 4294967295 0 S
abbrev codec_Sum.Ok (P : Program) (N : Nat → Nat) : Prop := Reads P (N Fn.codec_Sum) [(3, (.dt (.one (.int .i64))), []), (3, (.dt (.one (.int .u8))), [])] [] [[(3, (.one (.int .u32))), (8, (.one (.int .i64)))], [(3, (.one (.int .u32))), (16, (.one (.int .i64)))]] (fun A T (x0 : V) (S : St) (K : Int → St → Prop) => wpT P (envP P) T (endT A.results [(.one (.int .u32))] K) (frT A [x0]) S) (fun x0 S K => codec_Sum.p P N x0 S K)
theorem codec_Sum.run {P : Program} {N : Nat → Nat} (hF : codec_Sum.Ok P N) {x0 : V} {S : St} {K : Int → St → Prop} (h : codec_Sum.p P N x0 S K) : CallA P (N Fn.codec_Sum) [x0] S (retT [(.one (.int .u32))] K) := hF.run (fun q => q x0 S K) h rfl

def codec_PutChange.p (P : Program) (N : Nat → Nat) (x0_a : Int) (x0_b : Int) (x0_c : V) (S : St) (K : List UInt8 → Int → St → Prop) : Prop :=
  newS S (.cells [(V.int .i64 x0_a), (V.int .i64 x0_b), x0_c] true) fun S1 => ∃ x8_a x8_b : Int, ∃ x8_c : V, loadNV S1 3 (V.ptr S.next 0) = some (V.agg [(V.int .i64 x8_a), (V.int .i64 x8_b), x8_c]) ∧ CallA P (N Fn.codec_may) [(V.agg [(V.int .i64 x8_a), (V.int .i64 x8_b), x8_c])] S1 (retT [(.one (.int .i64))] fun (x9 : Int) (S2 : St) => ifC (!decide (x9 = (0 : Int))) (K ([] : List UInt8) x9 S2) (∃ x14 : Int, loadV S2 (V.ptr S.next 0) = some (V.int .i64 x14) ∧ ∃ x17 : Int, loadV S2 (V.ptr S.next 1) = some (V.int .i64 x17) ∧ CallA P (N Fn.codec_lay) [V.nilSlice, (V.int .i64 x14), (V.int .i64 1)] S2 (retT [(.one .any)] fun (x15 : V) (S3 : St) => Same (S.next :: []) S2 S3 ∧ CallA P (N Fn.codec_lay) [x15, (V.int .i64 x17), (V.int .i64 4)] S3 (retT [(.one .any)] fun (x18 : V) (S4 : St) => Same (S.next :: []) S3 S4 ∧ Join1 (fun (k1 : V → St → Prop) => ∃ x20 : Int, loadV S4 (V.ptr S.next 0) = some (V.int .i64 x20) ∧ ifC (decide (x20 = (1 : Int))) (ifS (loadV S4 (V.ptr S.next 2)) fun x24 => ∃ x25 : Int, lenV S4 2 x24 = some (V.int .i64 x25) ∧ CallA P (N Fn.codec_lay) [x18, (V.int .i64 x25), (V.int .i64 1)] S4 (retT [(.one .any)] fun (x26 : V) (S6 : St) => k1 x26 S6)) (k1 x18 S4)) (fun (x5 : V) (S5 : St) => ifS (loadV S5 (V.ptr S.next 2)) fun x28 => ∃ x29 : Int, lenV S5 2 x28 = some (V.int .i64 x29) ∧ Loop2 (fun (k2 : V → Int → St → Prop) (x5_1 : V) (x30 : Int) (S7 : St) => ifC (decide (x30 < x29)) (ifS (idxAddrV 1 x28 (V.int .i64 x30)) fun x32 => ∃ x33 : Int, loadV S7 x32 = some (V.int .i64 x33) ∧ CallA P (N Fn.codec_lay) [x5_1, (V.int .i64 x33), (V.int .i64 4)] S7 (retT [(.one .any)] fun (x36 : V) (S8 : St) => setI (IntKind.i64.wrap (x30 + (1 : Int))) fun x37 => k2 x36 x37 S8)) (∃ x39 : List UInt8, convBSV S7 x5_1 = some (V.str x39) ∧ K x39 0 S7)) x5 0 S5)))))
abbrev codec_PutChange.Ok (P : Program) (N : Nat → Nat) : Prop := Reads P (N Fn.codec_PutChange) [(3, (.dt (.agg [(.int .i64), (.int .i64), .any])), []), (0, .no, [(.one (.int .i64))]), (7, (.dt (.one (.int .i64))), []), (1, (.dt (.one (.int .i64))), []), (0, .no, [(.one .any)]), (0, .no, [(.one .any)]), (2, (.dt (.one (.int .i64))), []), (4, (.dt (.one (.int .i64))), []), (0, .no, [(.one .any)]), (3, (.dt (.one (.int .i64))), []), (3, (.dt (.one (.int .i64))), []), (3, .no, [(.one .any)]), (4, (.dt (.one .str)), [])] [(6, [(5, (.one .any))])] [[(5, (.one .any)), (30, (.one (.int .i64)))]] (fun A T (x0_a : Int) (x0_b : Int) (x0_c : V) (S : St) (K : List UInt8 → Int → St → Prop) => wpT P (envP P) T (endT A.results [(.one .str), (.one (.int .i64))] K) (frT A [(V.agg [(V.int .i64 x0_a), (V.int .i64 x0_b), x0_c])]) S) (fun x0_a x0_b x0_c S K => codec_PutChange.p P N x0_a x0_b x0_c S K)
theorem codec_PutChange.run {P : Program} {N : Nat → Nat} (hF : codec_PutChange.Ok P N) {x0_a : Int} {x0_b : Int} {x0_c : V} {S : St} {K : List UInt8 → Int → St → Prop} (h : codec_PutChange.p P N x0_a x0_b x0_c S K) : CallA P (N Fn.codec_PutChange) [(V.agg [(V.int .i64 x0_a), (V.int .i64 x0_b), x0_c])] S (retT [(.one .str), (.one (.int .i64))] K) := hF.run (fun q => q x0_a x0_b x0_c S K) h rfl

def codec_GetChange.p (P : Program) (N : Nat → Nat) (x0 : List UInt8) (S : St) (K : Int → Int → V → Int → St → Prop) : Prop :=
  newS S (.cells [(V.int .i64 0), (V.int .i64 0), V.nilSlice] true) fun S1 => newS S1 (.cells [(V.str x0), (V.bool false)] true) fun S2 => CallA P (N Fn.codec_reading_number) [(V.ptr S1.next 0), (V.int .i64 1)] S2 (retT [(.one (.int .i64))] fun (x10 : Int) (S3 : St) => CallA P (N Fn.codec_reading_number) [(V.ptr S1.next 0), (V.int .i64 4)] S3 (retT [(.one (.int .i64))] fun (x12 : Int) (S4 : St) => newS S4 (.cells [(V.int .i64 0), (V.int .i64 0), V.nilSlice] true) fun S5 => ifS (storeV S5 3 (V.ptr S4.next 0) (V.agg [(V.int .i64 x10), (V.int .i64 x12), V.nilSlice])) fun S6 => Join0 (fun (k1 : St → Prop) => ∃ x15 : Int, loadV S6 (V.ptr S4.next 0) = some (V.int .i64 x15) ∧ ifC (decide (x15 = (1 : Int))) (CallA P (N Fn.codec_reading_number) [(V.ptr S1.next 0), (V.int .i64 1)] S6 (retT [(.one (.int .i64))] fun (x19 : Int) (S8 : St) => CallA P (N Fn.codec_reading_coords) [(V.ptr S1.next 0), (V.int .i64 x19)] S8 (retT [(.one .any)] fun (x20 : V) (S9 : St) => ifS (storeV S9 1 (V.ptr S4.next 2) x20) fun S10 => k1  S10))) (k1  S6)) (fun (S7 : St) => Join1 (fun (k2 : Bool → St → Prop) => nilV (V.ptr S1.next 0) = some (V.ptr S1.next 0) ∧ ∃ x25 : Bool, loadV S7 (V.ptr S1.next 1) = some (V.bool x25) ∧ ifC x25 (k2 true S7) (nilV (V.ptr S1.next 0) = some (V.ptr S1.next 0) ∧ ∃ x30 : List UInt8, loadV S7 (V.ptr S1.next 0) = some (V.str x30) ∧ ifC (!decide (x30 = ([] : List UInt8))) (k2 true S7) (∃ x34_a x34_b : Int, ∃ x34_c : V, loadNV S7 3 (V.ptr S4.next 0) = some (V.agg [(V.int .i64 x34_a), (V.int .i64 x34_b), x34_c]) ∧ CallA P (N Fn.codec_may) [(V.agg [(V.int .i64 x34_a), (V.int .i64 x34_b), x34_c])] S7 (retT [(.one (.int .i64))] fun (x35 : Int) (S12 : St) => k2 (!decide (x35 = (0 : Int))) S12)))) (fun (x37 : Bool) (S11 : St) => ifC x37 (ifS (storeV S11 3 (V.ptr S.next 0) (V.agg [(V.int .i64 0), (V.int .i64 0), V.nilSlice])) fun S13 => ∃ xr_a xr_b : Int, ∃ xr_c : V, cellNV S13 3 (V.ptr S.next 0) = some (V.agg [(V.int .i64 xr_a), (V.int .i64 xr_b), xr_c]) ∧ K xr_a xr_b xr_c 161 S13) (∃ x39_a x39_b : Int, ∃ x39_c : V, loadNV S11 3 (V.ptr S4.next 0) = some (V.agg [(V.int .i64 x39_a), (V.int .i64 x39_b), x39_c]) ∧ ifS (storeV S11 3 (V.ptr S.next 0) (V.agg [(V.int .i64 x39_a), (V.int .i64 x39_b), x39_c])) fun S14 => ∃ xr_a_1 xr_b_1 : Int, ∃ xr_c_1 : V, cellNV S14 3 (V.ptr S.next 0) = some (V.agg [(V.int .i64 xr_a_1), (V.int .i64 xr_b_1), xr_c_1]) ∧ K xr_a_1 xr_b_1 xr_c_1 0 S14)))))
abbrev codec_GetChange.Ok (P : Program) (N : Nat → Nat) : Prop := Reads P (N Fn.codec_GetChange) [(3, (.dt (.agg [.str, .bool])), []), (3, .no, [(.one (.int .i64))]), (1, .no, [(.one (.int .i64))]), (0, (.dt (.agg [(.int .i64), (.int .i64), .any])), []), (3, (.dt (.one (.int .i64))), []), (3, .no, [(.one (.int .i64))]), (0, .no, [(.one .any)]), (5, (.dt (.one .bool)), []), (4, (.dt (.one .str)), []), (3, (.dt (.agg [(.int .i64), (.int .i64), .any])), []), (0, .no, [(.one (.int .i64))]), (2, (.dt (.agg [(.int .i64), (.int .i64), .any])), []), (2, (.dt (.agg [(.int .i64), (.int .i64), .any])), [])] [(3, []), (2, [(37, (.one .bool))])] [] (fun A T (x0 : List UInt8) (S : St) (K : Int → Int → V → Int → St → Prop) => wpT P (envP P) T (endT A.results [(.agg [(.int .i64), (.int .i64), .any]), (.one (.int .i64))] K) (frT A [(V.str x0)]) S) (fun x0 S K => codec_GetChange.p P N x0 S K)
theorem codec_GetChange.run {P : Program} {N : Nat → Nat} (hF : codec_GetChange.Ok P N) {x0 : List UInt8} {S : St} {K : Int → Int → V → Int → St → Prop} (h : codec_GetChange.p P N x0 S K) : CallA P (N Fn.codec_GetChange) [(V.str x0)] S (retT [(.agg [(.int .i64), (.int .i64), .any]), (.one (.int .i64))] K) := hF.run (fun q => q x0 S K) h rfl

def codec_lay.p (P : Program) (N : Nat → Nat) (x0 : V) (x1 : Int) (x2 : Int) (S : St) (K : V → St → Prop) : Prop :=
  Loop3 (fun (k1 : V → Int → Int → St → Prop) (x0_1 : V) (x1_1 : Int) (x8 : Int) (S1 : St) => ifC (decide (x8 < x2)) (setI (IntKind.u8.wrap x1_1) fun x12 => newS S1 (.cells [(V.int .u8 x12)] true) fun S2 => ifP (appV S2 1 1 x0_1 (V.slice S1.next 0 1 1 1 true)) fun x14 S3 => 0 ≤ (8 : Int) ∧ setI (Int.fdiv x1_1 (2 ^ (min (Int.toNat (8 : Int)) (IntKind.bits .i64)))) fun x16 => setI (IntKind.i64.wrap (x8 + (1 : Int))) fun x17 => k1 x14 x16 x17 S3) (K x0_1 S1)) x0 x1 0 S
abbrev codec_lay.Ok (P : Program) (N : Nat → Nat) : Prop := Reads P (N Fn.codec_lay) [(7, (.dt (.agg [(.int .u8)])), [])] [] [[(0, (.one .any)), (1, (.one (.int .i64))), (8, (.one (.int .i64)))]] (fun A T (x0 : V) (x1 : Int) (x2 : Int) (S : St) (K : V → St → Prop) => wpT P (envP P) T (endT A.results [(.one .any)] K) (frT A [x0, (V.int .i64 x1), (V.int .i64 x2)]) S) (fun x0 x1 x2 S K => codec_lay.p P N x0 x1 x2 S K)
theorem codec_lay.run {P : Program} {N : Nat → Nat} (hF : codec_lay.Ok P N) {x0 : V} {x1 : Int} {x2 : Int} {S : St} {K : V → St → Prop} (h : codec_lay.p P N x0 x1 x2 S K) : CallA P (N Fn.codec_lay) [x0, (V.int .i64 x1), (V.int .i64 x2)] S (retT [(.one .any)] K) := hF.run (fun q => q x0 x1 x2 S K) h rfl

def codec_reading_number.p (P : Program) (N : Nat → Nat) (x0 : V) (x1 : Int) (S : St) (K : Int → St → Prop) : Prop :=
  CallA P (N Fn.codec_reading_cut) [x0, (V.int .i64 x1)] S (retT [(.one .any)] fun (x10 : V) (S1 : St) => ∃ x11 : Int, lenV S1 2 x10 = some (V.int .i64 x11) ∧ Loop2 (fun (k1 : Int → Int → St → Prop) (x5 : Int) (x12 : Int) (S2 : St) => ifC (decide (x12 < x11)) (ifS (idxAddrV 1 x10 (V.int .i64 x12)) fun x15 => ∃ x16 : Int, loadV S2 x15 = some (V.int .u8 x16) ∧ setI (IntKind.i64.wrap x16) fun x19 => setI (IntKind.i64.wrap ((8 : Int) * x12)) fun x21 => 0 ≤ x21 ∧ setI (IntKind.i64.wrap (x19 * 2 ^ (min (Int.toNat x21) (IntKind.bits .i64)))) fun x22 => setI (intBits .or .i64 x5 x22) fun x23 => setI (IntKind.i64.wrap (x12 + (1 : Int))) fun x24 => k1 x23 x24 S2) (K x5 S2)) 0 0 S1)
abbrev codec_reading_number.Ok (P : Program) (N : Nat → Nat) : Prop := Reads P (N Fn.codec_reading_number) [(4, .no, [(.one .any)]), (0, (.dt (.one (.int .i64))), []), (4, (.dt (.one (.int .u8))), [])] [] [[(5, (.one (.int .i64))), (12, (.one (.int .i64)))]] (fun A T (x0 : V) (x1 : Int) (S : St) (K : Int → St → Prop) => wpT P (envP P) T (endT A.results [(.one (.int .i64))] K) (frT A [x0, (V.int .i64 x1)]) S) (fun x0 x1 S K => codec_reading_number.p P N x0 x1 S K)
theorem codec_reading_number.run {P : Program} {N : Nat → Nat} (hF : codec_reading_number.Ok P N) {x0 : V} {x1 : Int} {S : St} {K : Int → St → Prop} (h : codec_reading_number.p P N x0 x1 S K) : CallA P (N Fn.codec_reading_number) [x0, (V.int .i64 x1)] S (retT [(.one (.int .i64))] K) := hF.run (fun q => q x0 x1 S K) h rfl

def codec_reading_cut.p (P : Program) (N : Nat → Nat) (x0 : V) (x1 : Int) (S : St) (K : V → St → Prop) : Prop :=
  ifP (mkSliceV S 1 1 [(V.int .u8 0)] (V.int .i64 x1) (V.int .i64 x1)) fun x7 S1 => Join0 (fun (k1 : St → Prop) => nilV x0 = some x0 ∧ ifS (fieldAddrV 1 x0) fun x11 => ∃ x12 : Bool, loadV S1 x11 = some (V.bool x12) ∧ ifC x12 (nilV x0 = some x0 ∧ ifS (fieldAddrV 1 x0) fun x23 => ifS (storeV S1 1 x23 (V.bool true)) fun S3 => k1  S3) (nilV x0 = some x0 ∧ ifS (fieldAddrV 0 x0) fun x17 => ∃ x18 : List UInt8, loadV S1 x17 = some (V.str x18) ∧ nilV x0 = some x0 ∧ ifS (fieldAddrV 1 x0) fun x23_1 => ifS (storeV S1 1 x23_1 (V.bool (decide ((x18.length : Int) < x1)))) fun S4 => k1  S4)) (fun (S2 : St) => nilV x0 = some x0 ∧ ifS (fieldAddrV 1 x0) fun x26 => ∃ x27 : Bool, loadV S2 x26 = some (V.bool x27) ∧ ifC x27 (K x7 S2) (nilV x0 = some x0 ∧ ifS (fieldAddrV 0 x0) fun x32 => ∃ x33 : List UInt8, loadV S2 x32 = some (V.str x33) ∧ ifP (copyV S2 1 x7 (V.str x33)) fun x34 S5 => nilV x0 = some x0 ∧ ifS (fieldAddrV 0 x0) fun x38 => ∃ x39 : List UInt8, loadV S5 x38 = some (V.str x39) ∧ ∃ x41 : List UInt8, sliceStrV (V.str x39) (some (V.int .i64 x1)) none = some (V.str x41) ∧ nilV x0 = some x0 ∧ ifS (fieldAddrV 0 x0) fun x43 => ifS (storeV S5 1 x43 (V.str x41)) fun S6 => K x7 S6))
abbrev codec_reading_cut.Ok (P : Program) (N : Nat → Nat) : Prop := Reads P (N Fn.codec_reading_cut) [(8, (.dt (.one .bool)), []), (5, (.dt (.one .str)), []), (9, (.dt (.one .bool)), []), (6, (.dt (.one .str)), []), (5, (.dt (.one .str)), []), (1, (.dt (.one .str)), [])] [(3, [])] [] (fun A T (x0 : V) (x1 : Int) (S : St) (K : V → St → Prop) => wpT P (envP P) T (endT A.results [(.one .any)] K) (frT A [x0, (V.int .i64 x1)]) S) (fun x0 x1 S K => codec_reading_cut.p P N x0 x1 S K)
theorem codec_reading_cut.run {P : Program} {N : Nat → Nat} (hF : codec_reading_cut.Ok P N) {x0 : V} {x1 : Int} {S : St} {K : V → St → Prop} (h : codec_reading_cut.p P N x0 x1 S K) : CallA P (N Fn.codec_reading_cut) [x0, (V.int .i64 x1)] S (retT [(.one .any)] K) := hF.run (fun q => q x0 x1 S K) h rfl

def codec_may.p (P : Program) (N : Nat → Nat) (x0_a : Int) (x0_b : Int) (x0_c : V) (S : St) (K : Int → St → Prop) : Prop :=
  newS S (.cells [(V.int .i64 x0_a), (V.int .i64 x0_b), x0_c] true) fun S1 => Join1 (fun (k1 : Bool → St → Prop) => ∃ x5 : Int, loadV S1 (V.ptr S.next 0) = some (V.int .i64 x5) ∧ ifC (!decide (x5 = (1 : Int))) (∃ x9 : Int, loadV S1 (V.ptr S.next 0) = some (V.int .i64 x9) ∧ k1 (!decide (x9 = (2 : Int))) S1) (k1 false S1)) (fun (x3 : Bool) (S2 : St) => ifC x3 (K 160 S2) (Join1 (fun (k2 : Bool → St → Prop) => ∃ x14 : Int, loadV S2 (V.ptr S.next 1) = some (V.int .i64 x14) ∧ ifC (decide (x14 < (1 : Int))) (k2 true S2) (∃ x18 : Int, loadV S2 (V.ptr S.next 1) = some (V.int .i64 x18) ∧ k2 (decide ((1000000000 : Int) < x18)) S2)) (fun (x12 : Bool) (S3 : St) => ifC x12 (K 50 S3) (∃ x23 : Int, loadV S3 (V.ptr S.next 0) = some (V.int .i64 x23) ∧ ifC (decide (x23 = (1 : Int))) (ifS (loadV S3 (V.ptr S.next 2)) fun x26 => ifS (loadV S3 (V.ptr S.next 2)) fun x28 => ∃ x29 : Int, lenV S3 2 x28 = some (V.int .i64 x29) ∧ CallA P (N Fn.vec_Check) [x26, (V.int .i64 x29)] S3 (retT [(.one (.int .i64))] fun (x30 : Int) (S4 : St) => K x30 S4)) (ifS (loadV S3 (V.ptr S.next 2)) fun x33 => ∃ x34 : Int, lenV S3 2 x33 = some (V.int .i64 x34) ∧ ifC (decide ((0 : Int) < x34)) (K 1 S3) (K 0 S3))))))
abbrev codec_may.Ok (P : Program) (N : Nat → Nat) : Prop := Reads P (N Fn.codec_may) [(3, (.dt (.one (.int .i64))), []), (3, (.dt (.one (.int .i64))), []), (5, (.dt (.one (.int .i64))), []), (3, (.dt (.one (.int .i64))), []), (5, (.dt (.one (.int .i64))), []), (6, (.dt (.one (.int .i64))), []), (0, .no, [(.one (.int .i64))]), (3, (.dt (.one (.int .i64))), [])] [(2, [(3, (.one .bool))]), (1, [(12, (.one .bool))])] [] (fun A T (x0_a : Int) (x0_b : Int) (x0_c : V) (S : St) (K : Int → St → Prop) => wpT P (envP P) T (endT A.results [(.one (.int .i64))] K) (frT A [(V.agg [(V.int .i64 x0_a), (V.int .i64 x0_b), x0_c])]) S) (fun x0_a x0_b x0_c S K => codec_may.p P N x0_a x0_b x0_c S K)
theorem codec_may.run {P : Program} {N : Nat → Nat} (hF : codec_may.Ok P N) {x0_a : Int} {x0_b : Int} {x0_c : V} {S : St} {K : Int → St → Prop} (h : codec_may.p P N x0_a x0_b x0_c S K) : CallA P (N Fn.codec_may) [(V.agg [(V.int .i64 x0_a), (V.int .i64 x0_b), x0_c])] S (retT [(.one (.int .i64))] K) := hF.run (fun q => q x0_a x0_b x0_c S K) h rfl

def codec_reading_coords.p (P : Program) (N : Nat → Nat) (x0 : V) (x1 : Int) (S : St) (K : V → St → Prop) : Prop :=
  newS S (.cells (V.cells x0) true) fun S1 => Loop2 (fun (k1 : V → Int → St → Prop) (x6 : V) (x9 : Int) (S2 : St) => ifC (decide (x9 < x1)) (ifS (calleeV (envP P) (V.func (.func (N Fn.codec_reading_coords_1)) [] [(V.ptr S.next 0)]) []) fun xf => CallA P xf.1 xf.2 S2 (retT [(.one (.int .i64))] fun (x13 : Int) (S3 : St) => newS S3 (.cells [(V.int .i64 x13)] true) fun S4 => ifP (appV S4 1 8 x6 (V.slice S3.next 0 1 1 1 true)) fun x15 S5 => setI (IntKind.i64.wrap (x9 + (1 : Int))) fun x16 => k1 x15 x16 S5)) (K x6 S2)) V.nilSlice 0 S1
abbrev codec_reading_coords.Ok (P : Program) (N : Nat → Nat) : Prop := Reads P (N Fn.codec_reading_coords) [(10, .no, [(.one (.int .i64))]), (0, (.dt (.agg [(.int .i64)])), [])] [] [[(6, (.one .any)), (9, (.one (.int .i64)))]] (fun A T (x0 : V) (x1 : Int) (S : St) (K : V → St → Prop) => wpT P (envP P) T (endT A.results [(.one .any)] K) (frT A [x0, (V.int .i64 x1)]) S) (fun x0 x1 S K => codec_reading_coords.p P N x0 x1 S K)
theorem codec_reading_coords.run {P : Program} {N : Nat → Nat} (hF : codec_reading_coords.Ok P N) {x0 : V} {x1 : Int} {S : St} {K : V → St → Prop} (h : codec_reading_coords.p P N x0 x1 S K) : CallA P (N Fn.codec_reading_coords) [x0, (V.int .i64 x1)] S (retT [(.one .any)] K) := hF.run (fun q => q x0 x1 S K) h rfl

def codec_reading_coords_1.p (P : Program) (N : Nat → Nat) (x0 : V) (S : St) (K : Int → St → Prop) : Prop :=
  ifS (loadV S x0) fun x2 => CallA P (N Fn.codec_reading_number) [x2, (V.int .i64 4)] S (retT [(.one (.int .i64))] fun (x3 : Int) (S1 : St) => setI (IntKind.i32.wrap x3) fun x4 => setI (IntKind.i64.wrap x4) fun x5 => K x5 S1)
abbrev codec_reading_coords_1.Ok (P : Program) (N : Nat → Nat) : Prop := Reads P (N Fn.codec_reading_coords_1) [(2, .no, [(.one (.int .i64))])] [] [] (fun A T (x0 : V) (S : St) (K : Int → St → Prop) => wpT P (envP P) T (endT A.results [(.one (.int .i64))] K) (frT A [x0]) S) (fun x0 S K => codec_reading_coords_1.p P N x0 S K)
theorem codec_reading_coords_1.run {P : Program} {N : Nat → Nat} (hF : codec_reading_coords_1.Ok P N) {x0 : V} {S : St} {K : Int → St → Prop} (h : codec_reading_coords_1.p P N x0 S K) : CallA P (N Fn.codec_reading_coords_1) [x0] S (retT [(.one (.int .i64))] K) := hF.run (fun q => q x0 S K) h rfl

end Go.Th.L
end

section
/- Functions of disk, read without frames (printed by tools/lib.py). -/
set_option linter.unusedVariables false
set_option maxRecDepth 100000
set_option maxHeartbeats 2000000
namespace Go.Th.L
open Go Go.Th

def disk_New.p (P : Program) (N : Nat → Nat) (x0 : Int) (S : St) (K : V → Int → St → Prop) : Prop :=
  Join0 (fun (k1 : St → Prop) => ifC (decide (x0 < (1 : Int))) (K V.nilPtr 1 S) (ifC (decide ((4194304 : Int) < x0)) (K V.nilPtr 1 S) (k1  S))) (fun (S1 : St) => newS S1 (.map [] true) fun S2 => newS S2 (.map [] true) fun S3 => V.cells (V.map S1.next) = [(V.map S1.next)] ∧ V.cells (V.map S2.next) = [(V.map S2.next)] ∧ newS S3 (.cells [(V.int .i64 x0), (V.map S1.next), (V.map S2.next), V.nilSlice, (V.int .i64 0), (V.bool false), (V.int .i64 0)] true) fun S4 => K (V.ptr S3.next 0) 0 S4)
abbrev disk_New.Ok (P : Program) (N : Nat → Nat) : Prop := Reads P (N Fn.disk_New) [(13, (.dt (.agg [(.int .i64), .any, .any, .any, (.int .i64), .bool, (.int .i64)])), [])] [(1, [])] [] (fun A T (x0 : Int) (S : St) (K : V → Int → St → Prop) => wpT P (envP P) T (endT A.results [(.one .any), (.one (.int .i64))] K) (frT A [(V.int .i64 x0)]) S) (fun x0 S K => disk_New.p P N x0 S K)
theorem disk_New.run {P : Program} {N : Nat → Nat} (hF : disk_New.Ok P N) {x0 : Int} {S : St} {K : V → Int → St → Prop} (h : disk_New.p P N x0 S K) : CallA P (N Fn.disk_New) [(V.int .i64 x0)] S (retT [(.one .any), (.one (.int .i64))] K) := hF.run (fun q => q x0 S K) h rfl

def disk_Disk_Clone.p (P : Program) (N : Nat → Nat) (x0 : V) (S : St) (K : V → St → Prop) : Prop :=
  ∃ x13 : Bool, eqV 1 [] x0 V.nilPtr = some x13 ∧ ifC x13 (K V.nilPtr S) (nilV x0 = some x0 ∧ ∃ x16_a : Int, ∃ x16_b x16_c x16_d : V, ∃ x16_e : Int, ∃ x16_f : Bool, ∃ x16_g : Int, loadNV S 7 x0 = some (V.agg [(V.int .i64 x16_a), x16_b, x16_c, x16_d, (V.int .i64 x16_e), (V.bool x16_f), (V.int .i64 x16_g)]) ∧ newS S (.cells [(V.int .i64 0), V.nilMap, V.nilMap, V.nilSlice, (V.int .i64 0), (V.bool false), (V.int .i64 0)] true) fun S1 => ifS (storeV S1 7 (V.ptr S.next 0) (V.agg [(V.int .i64 x16_a), x16_b, x16_c, x16_d, (V.int .i64 x16_e), (V.bool x16_f), (V.int .i64 x16_g)])) fun S2 => newS S2 (.map [] true) fun S3 => newS S3 (.cells [V.nilMap] true) fun S4 => ifS (storeV S4 1 (V.ptr S3.next 0) (V.map S2.next)) fun S5 => newS S5 (.map [] true) fun S6 => newS S6 (.map [] true) fun S7 => ifS (storeV S7 1 (V.ptr S.next 1) (V.map S5.next)) fun S8 => ifS (storeV S8 1 (V.ptr S.next 2) (V.map S6.next)) fun S9 => ifS (storeV S9 1 (V.ptr S.next 3) V.nilSlice) fun S10 => nilV x0 = some x0 ∧ ifS (fieldAddrV 1 x0) fun x26 => ifS (loadV S10 x26) fun x27 => anyK (rangeP S10 x27) fun x28 S11 => Loop0 (fun (k1 : St → Prop) (S12 : St) => anyK (nextP S12 x28) fun x29 S13 => ∃ x30 : Bool, extractV 0 x29 = some (V.bool x30) ∧ ifC x30 (ifS (entryV S13 x28) fun x31 => ∃ x32 : List UInt8, extractV 0 x31 = some (V.str x32) ∧ ifS (extractV 1 x31) fun x33 => ifS (loadV S13 (V.ptr S.next 1)) fun x35 => ifS (calleeV (envP P) (V.func (.func (N Fn.disk_Disk_Clone_1)) [] [(V.ptr S3.next 0)]) [x33]) fun xf => CallA P xf.1 xf.2 S13 (retT [(.one .any)] fun (x39 : V) (S14 : St) => Same (S.next :: []) S13 S14 ∧ ifS (mapUpdV S14 2 x35 (V.str x32) x39) fun S15 => k1  S15)) (nilV x0 = some x0 ∧ ifS (fieldAddrV 2 x0) fun x42 => ifS (loadV S13 x42) fun x43 => anyK (rangeP S13 x43) fun x44 S16 => Loop0 (fun (k2 : St → Prop) (S17 : St) => anyK (nextP S17 x44) fun x45 S18 => ∃ x46 : Bool, extractV 0 x45 = some (V.bool x46) ∧ ifC x46 (ifS (entryV S18 x44) fun x47 => ∃ x48 : List UInt8, extractV 0 x47 = some (V.str x48) ∧ ifS (extractV 1 x47) fun x49 => ifS (loadV S18 (V.ptr S.next 2)) fun x51 => ifS (calleeV (envP P) (V.func (.func (N Fn.disk_Disk_Clone_1)) [] [(V.ptr S3.next 0)]) [x49]) fun xf_1 => CallA P xf_1.1 xf_1.2 S18 (retT [(.one .any)] fun (x55 : V) (S19 : St) => Same (S.next :: []) S18 S19 ∧ ifS (mapUpdV S19 2 x51 (V.str x48) x55) fun S20 => k2  S20)) (nilV x0 = some x0 ∧ ifS (fieldAddrV 3 x0) fun x58 => ifS (loadV S18 x58) fun x59 => ∃ x60 : Int, lenV S18 2 x59 = some (V.int .i64 x60) ∧ Loop1 (fun (k3 : Int → St → Prop) (x61 : Int) (S21 : St) => ifC (decide (x61 < x60)) (ifS (idxAddrV 3 x59 (V.int .i64 x61)) fun x63 => ∃ x64_a : List UInt8, ∃ x64_b : List UInt8, ∃ x64_c : V, loadNV S21 3 x63 = some (V.agg [(V.str x64_a), (V.str x64_b), x64_c]) ∧ newS S21 (.cells [(V.str ([] : List UInt8)), (V.str ([] : List UInt8)), V.nilPtr] true) fun S22 => ifS (storeV S22 3 (V.ptr S21.next 0) (V.agg [(V.str x64_a), (V.str x64_b), x64_c])) fun S23 => ifS (loadV S23 (V.ptr S.next 3)) fun x66 => ∃ x68 : List UInt8, loadV S23 (V.ptr S21.next 0) = some (V.str x68) ∧ ∃ x70 : List UInt8, loadV S23 (V.ptr S21.next 1) = some (V.str x70) ∧ ifS (loadV S23 (V.ptr S21.next 2)) fun x73 => ifS (calleeV (envP P) (V.func (.func (N Fn.disk_Disk_Clone_1)) [] [(V.ptr S3.next 0)]) [x73]) fun xf_2 => CallA P xf_2.1 xf_2.2 S23 (retT [(.one .any)] fun (x74 : V) (S24 : St) => Same (S21.next :: (S21.next :: (S.next :: []))) S23 S24 ∧ V.cells x74 = [x74] ∧ newS S24 (.cells [(V.str x68), (V.str x70), x74] true) fun S25 => Same (S21.next :: (S21.next :: (S21.next :: (S.next :: [])))) S24 S25 ∧ ifP (appV S25 3 40 x66 (V.slice S24.next 0 1 1 3 true)) fun x77 S26 => ifS (storeV S26 1 (V.ptr S.next 3) x77) fun S27 => setI (IntKind.i64.wrap (x61 + (1 : Int))) fun x79 => k3 x79 S27)) (K (V.ptr S.next 0) S21)) 0 S18)) S16)) S11)
abbrev disk_Disk_Clone.Ok (P : Program) (N : Nat → Nat) : Prop := Reads P (N Fn.disk_Disk_Clone) [(6, (.dt (.agg [(.int .i64), .any, .any, .any, (.int .i64), .bool, (.int .i64)])), []), (21, (.dt (.one .bool)), []), (1, (.dt (.one .str)), []), (8, .no, [(.one .any)]), (7, (.dt (.one .bool)), []), (1, (.dt (.one .str)), []), (8, .no, [(.one .any)]), (5, (.dt (.one (.int .i64))), []), (3, (.dt (.agg [.str, .str, .any])), []), (5, (.dt (.one .str)), []), (1, (.dt (.one .str)), []), (3, .no, [(.one .any)]), (0, (.dt (.agg [.str, .str, .any])), []), (0, (.dt (.agg [.str, .str, .any])), [])] [] [[], [], [(61, (.one (.int .i64)))]] (fun A T (x0 : V) (S : St) (K : V → St → Prop) => wpT P (envP P) T (endT A.results [(.one .any)] K) (frT A [x0]) S) (fun x0 S K => disk_Disk_Clone.p P N x0 S K)
def disk_Disk_Crash.p (P : Program) (N : Nat → Nat) (x0 : V) (x1 : V) (S : St) (K : Int → St → Prop) : Prop :=
  newS S (.cells (V.cells x1) true) fun S1 => ∃ x14 : Bool, eqV 1 [] x0 V.nilPtr = some x14 ∧ ifC x14 (K 3 S1) (nilV x0 = some x0 ∧ ifS (fieldAddrV 5 x0) fun x19 => ifS (storeV S1 1 x19 (V.bool false)) fun S2 => nilV x0 = some x0 ∧ ifS (fieldAddrV 6 x0) fun x21 => ifS (storeV S2 1 x21 (V.int .i64 0)) fun S3 => nilV x0 = some x0 ∧ ifS (fieldAddrV 2 x0) fun x25 => ifS (loadV S3 x25) fun x26 => CallA P (N Fn.maps_Clone_disk_names) [x26] S3 (retT [(.one .any)] fun (x27 : V) (S4 : St) => nilV x0 = some x0 ∧ ifS (fieldAddrV 1 x0) fun x29 => ifS (storeV S4 1 x29 x27) fun S5 => nilV x0 = some x0 ∧ ifS (fieldAddrV 3 x0) fun x32 => ifS (loadV S5 x32) fun x33 => nilV x0 = some x0 ∧ ifS (fieldAddrV 3 x0) fun x38 => ifS (loadV S5 x38) fun x39 => ∃ x40 : Int, lenV S5 2 x39 = some (V.int .i64 x40) ∧ ifS (calleeV (envP P) (V.func (.func (N Fn.disk_Disk_Crash_1)) [] [(V.ptr S.next 0)]) []) fun xf => CallA P xf.1 xf.2 S5 (retT [(.one (.int .i64))] fun (x35 : Int) (S6 : St) => sameK (V.block x39 ++ (V.block x38 ++ (V.block x32 ++ []))) S5 S6 (CallA P (N Fn.disk_says) [(V.int .i64 x35), (V.int .i64 x40)] S6 (retT [(.one (.int .i64))] fun (x41 : Int) (S7 : St) => sameK (V.block x38 ++ (V.block x32 ++ [])) S6 S7 (ifS (sliceSlV 3 x33 none (some (V.int .i64 x41)) none) fun x42 => ∃ x43 : Int, lenV S7 2 x42 = some (V.int .i64 x43) ∧ Loop1 (fun (k1 : Int → St → Prop) (x44 : Int) (S8 : St) => ifC (decide (x44 < x43)) (ifS (idxAddrV 3 x42 (V.int .i64 x44)) fun x46 => ∃ x47_a : List UInt8, ∃ x47_b : List UInt8, ∃ x47_c : V, loadNV S8 3 x46 = some (V.agg [(V.str x47_a), (V.str x47_b), x47_c]) ∧ newS S8 (.cells [(V.str ([] : List UInt8)), (V.str ([] : List UInt8)), V.nilPtr] true) fun S9 => ifS (storeV S9 3 (V.ptr S8.next 0) (V.agg [(V.str x47_a), (V.str x47_b), x47_c])) fun S10 => nilV x0 = some x0 ∧ ifS (fieldAddrV 1 x0) fun x50 => ifS (loadV S10 x50) fun x51 => ∃ x52_a : List UInt8, ∃ x52_b : List UInt8, ∃ x52_c : V, loadNV S10 3 (V.ptr S8.next 0) = some (V.agg [(V.str x52_a), (V.str x52_b), x52_c]) ∧ CallA P (N Fn.disk_names_do) [x51, (V.agg [(V.str x52_a), (V.str x52_b), x52_c])] S10 (retT [] fun (S11 : St) => setI (IntKind.i64.wrap (x44 + (1 : Int))) fun x54 => k1 x54 S11)) (CallA P (N Fn.disk_Disk_Names) [x0] S8 (retT [(.one .any)] fun (x56 : V) (S12 : St) => ∃ x57 : Int, lenV S12 2 x56 = some (V.int .i64 x57) ∧ Loop1 (fun (k2 : Int → St → Prop) (x58 : Int) (S13 : St) => ifC (decide (x58 < x57)) (ifS (idxAddrV 1 x56 (V.int .i64 x58)) fun x60 => ∃ x61 : List UInt8, loadV S13 x60 = some (V.str x61) ∧ nilV x0 = some x0 ∧ ifS (fieldAddrV 1 x0) fun x64 => ifS (loadV S13 x64) fun x65 => ifS (lookupV S13 2 V.nilPtr false x65 (V.str x61)) fun x67 => ifS (calleeV (envP P) (V.func (.func (N Fn.disk_Disk_Crash_1)) [] [(V.ptr S.next 0)]) []) fun xf_1 => CallA P xf_1.1 xf_1.2 S13 (retT [(.one (.int .i64))] fun (x69 : Int) (S14 : St) => nilV x67 = some x67 ∧ ifS (fieldAddrV 0 x67) fun x72 => ifS (loadV S14 x72) fun x73 => nilV x67 = some x67 ∧ ifS (fieldAddrV 1 x67) fun x76 => ∃ x77 : Int, loadV S14 x76 = some (V.int .i64 x77) ∧ nilV x67 = some x67 ∧ ifS (fieldAddrV 0 x67) fun x81 => ifS (loadV S14 x81) fun x82 => ∃ x83 : Int, lenV S14 2 x82 = some (V.int .i64 x83) ∧ nilV x67 = some x67 ∧ ifS (fieldAddrV 1 x67) fun x86 => ∃ x87 : Int, loadV S14 x86 = some (V.int .i64 x87) ∧ setI (IntKind.i64.wrap (x83 - x87)) fun x88 => CallA P (N Fn.disk_says) [(V.int .i64 x69), (V.int .i64 x88)] S14 (retT [(.one (.int .i64))] fun (x89 : Int) (S15 : St) => sameK (V.block x86 ++ (V.block x82 ++ (V.block x81 ++ (V.block x76 ++ (V.block x72 ++ []))))) S14 S15 (setI (IntKind.i64.wrap (x77 + x89)) fun x90 => ifS (sliceSlV 1 x73 none (some (V.int .i64 x90)) none) fun x91 => CallA P (N Fn.slices_Clone_Lbyte) [x91] S15 (retT [(.one .any)] fun (x92 : V) (S16 : St) => sameK (V.block x86 ++ (V.block x82 ++ (V.block x81 ++ (V.block x76 ++ (V.block x72 ++ []))))) S15 S16 (Join0 (fun (k3 : St → Prop) => ifC (decide (x69 < (0 : Int))) (nilV x67 = some x67 ∧ ifS (fieldAddrV 1 x67) fun x98 => ∃ x99 : Int, loadV S16 x98 = some (V.int .i64 x99) ∧ ifS (sliceSlV 1 x92 (some (V.int .i64 x99)) none none) fun x100 => ifS (clearV S16 1 [(V.int .u8 0)] x100) fun S18 => k3  S18) (k3  S16)) (fun (S17 : St) => nilV x0 = some x0 ∧ ifS (fieldAddrV 1 x0) fun x103 => ifS (loadV S17 x103) fun x104 => ∃ x108 : Int, lenV S17 2 x92 = some (V.int .i64 x108) ∧ V.cells x92 = [x92] ∧ newS S17 (.cells [x92, (V.int .i64 x108)] true) fun S19 => ifS (mapUpdV S19 2 x104 (V.str x61) (V.ptr S17.next 0)) fun S20 => setI (IntKind.i64.wrap (x58 + (1 : Int))) fun x111 => k2 x111 S20))))))) (nilV x0 = some x0 ∧ ifS (fieldAddrV 1 x0) fun x115 => ifS (loadV S13 x115) fun x116 => CallA P (N Fn.maps_Clone_disk_names) [x116] S13 (retT [(.one .any)] fun (x117 : V) (S21 : St) => nilV x0 = some x0 ∧ ifS (fieldAddrV 2 x0) fun x119 => ifS (storeV S21 1 x119 x117) fun S22 => nilV x0 = some x0 ∧ ifS (fieldAddrV 3 x0) fun x122 => ifS (storeV S22 1 x122 V.nilSlice) fun S23 => K 0 S23))) 0 S12))) 0 S7))))))
abbrev disk_Disk_Crash.Ok (P : Program) (N : Nat → Nat) : Prop := Reads P (N Fn.disk_Disk_Crash) [(20, .no, [(.one .any)]), (12, (.dt (.one (.int .i64))), []), (1, .no, [(.one (.int .i64))]), (0, .no, [(.one (.int .i64))]), (1, (.dt (.one (.int .i64))), []), (2, (.dt (.agg [.str, .str, .any])), []), (6, (.dt (.agg [.str, .str, .any])), []), (4, .no, [(.one .any)]), (0, (.dt (.one (.int .i64))), []), (3, (.dt (.one .str)), []), (9, .no, [(.one (.int .i64))]), (8, (.dt (.one (.int .i64))), []), (5, (.dt (.one (.int .i64))), []), (3, (.dt (.one (.int .i64))), []), (1, .no, [(.one (.int .i64))]), (2, .no, [(.one .any)]), (7, (.dt (.one (.int .i64))), []), (9, (.dt (.one (.int .i64))), []), (0, (.dt (.agg [.any, (.int .i64)])), []), (9, .no, [(.one .any)])] [(22, [])] [[(44, (.one (.int .i64)))], [(58, (.one (.int .i64)))]] (fun A T (x0 : V) (x1 : V) (S : St) (K : Int → St → Prop) => wpT P (envP P) T (endT A.results [(.one (.int .i64))] K) (frT A [x0, x1]) S) (fun x0 x1 S K => disk_Disk_Crash.p P N x0 x1 S K)
theorem disk_Disk_Crash.run {P : Program} {N : Nat → Nat} (hF : disk_Disk_Crash.Ok P N) {x0 : V} {x1 : V} {S : St} {K : Int → St → Prop} (h : disk_Disk_Crash.p P N x0 x1 S K) : CallA P (N Fn.disk_Disk_Crash) [x0, x1] S (retT [(.one (.int .i64))] K) := hF.run (fun q => q x0 x1 S K) h rfl

def disk_Disk_Create.p (P : Program) (N : Nat → Nat) (x0 : V) (x1 : List UInt8) (S : St) (K : Int → St → Prop) : Prop :=
  CallA P (N Fn.disk_Disk_ready) [x0] S (retT [(.one (.int .i64))] fun (x9 : Int) (S1 : St) => ifC (!decide (x9 = (0 : Int))) (K x9 S1) (nilV x0 = some x0 ∧ ifS (fieldAddrV 1 x0) fun x16 => ifS (loadV S1 x16) fun x17 => ∃ x19a : V, ∃ x19b : Bool, lookupV S1 2 V.nilPtr true x17 (V.str x1) = some (V.tuple [x19a, (V.bool x19b)]) ∧ CallA P (N Fn.disk_good) [(V.str x1)] S1 (retT [(.one .bool)] fun (x24 : Bool) (S2 : St) => ifC (!x24) (K 170 S2) (ifC x19b (K 171 S2) (nilV x0 = some x0 ∧ ifS (fieldAddrV 1 x0) fun x31 => ifS (loadV S2 x31) fun x32 => ∃ x33 : Int, lenV S2 3 x32 = some (V.int .i64 x33) ∧ ifC (decide ((64 : Int) ≤ x33)) (K 175 S2) (newS S2 (.cells [V.nilSlice, (V.int .i64 0)] true) fun S3 => V.cells (V.ptr S2.next 0) = [(V.ptr S2.next 0)] ∧ CallA P (N Fn.disk_Disk_change) [x0, (V.agg [(V.str ([] : List UInt8)), (V.str x1), (V.ptr S2.next 0)])] S3 (retT [(.one (.int .i64))] fun (x40 : Int) (S4 : St) => K x40 S4)))))))
abbrev disk_Disk_Create.Ok (P : Program) (N : Nat → Nat) : Prop := Reads P (N Fn.disk_Disk_Create) [(2, .no, [(.one (.int .i64))]), (10, (.tup [(.one .any), (.one .bool)]), []), (6, .no, [(.one .bool)]), (10, (.dt (.one (.int .i64))), []), (5, (.dt (.agg [.any, (.int .i64)])), []), (1, (.dt (.agg [.str, .str, .any])), []), (0, .no, [(.one (.int .i64))])] [] [] (fun A T (x0 : V) (x1 : List UInt8) (S : St) (K : Int → St → Prop) => wpT P (envP P) T (endT A.results [(.one (.int .i64))] K) (frT A [x0, (V.str x1)]) S) (fun x0 x1 S K => disk_Disk_Create.p P N x0 x1 S K)
theorem disk_Disk_Create.run {P : Program} {N : Nat → Nat} (hF : disk_Disk_Create.Ok P N) {x0 : V} {x1 : List UInt8} {S : St} {K : Int → St → Prop} (h : disk_Disk_Create.p P N x0 x1 S K) : CallA P (N Fn.disk_Disk_Create) [x0, (V.str x1)] S (retT [(.one (.int .i64))] K) := hF.run (fun q => q x0 x1 S K) h rfl

def disk_Disk_SyncDir.p (P : Program) (N : Nat → Nat) (x0 : V) (S : St) (K : Int → St → Prop) : Prop :=
  CallA P (N Fn.disk_Disk_ready) [x0] S (retT [(.one (.int .i64))] fun (x5 : Int) (S1 : St) => ifC (!decide (x5 = (0 : Int))) (K x5 S1) (nilV x0 = some x0 ∧ ifS (fieldAddrV 1 x0) fun x12 => ifS (loadV S1 x12) fun x13 => CallA P (N Fn.maps_Clone_disk_names) [x13] S1 (retT [(.one .any)] fun (x14 : V) (S2 : St) => nilV x0 = some x0 ∧ ifS (fieldAddrV 2 x0) fun x16 => ifS (storeV S2 1 x16 x14) fun S3 => nilV x0 = some x0 ∧ ifS (fieldAddrV 3 x0) fun x19 => ifS (storeV S3 1 x19 V.nilSlice) fun S4 => CallA P (N Fn.disk_Disk_done) [x0] S4 (retT [(.one (.int .i64))] fun (x21 : Int) (S5 : St) => K x21 S5))))
abbrev disk_Disk_SyncDir.Ok (P : Program) (N : Nat → Nat) : Prop := Reads P (N Fn.disk_Disk_SyncDir) [(2, .no, [(.one (.int .i64))]), (10, .no, [(.one .any)]), (8, .no, [(.one (.int .i64))])] [] [] (fun A T (x0 : V) (S : St) (K : Int → St → Prop) => wpT P (envP P) T (endT A.results [(.one (.int .i64))] K) (frT A [x0]) S) (fun x0 S K => disk_Disk_SyncDir.p P N x0 S K)
theorem disk_Disk_SyncDir.run {P : Program} {N : Nat → Nat} (hF : disk_Disk_SyncDir.Ok P N) {x0 : V} {S : St} {K : Int → St → Prop} (h : disk_Disk_SyncDir.p P N x0 S K) : CallA P (N Fn.disk_Disk_SyncDir) [x0] S (retT [(.one (.int .i64))] K) := hF.run (fun q => q x0 S K) h rfl

def disk_Disk_Sync.p (P : Program) (N : Nat → Nat) (x0 : V) (x1 : List UInt8) (S : St) (K : Int → St → Prop) : Prop :=
  CallA P (N Fn.disk_Disk_find) [x0, (V.str x1)] S (retT [(.one .any), (.one (.int .i64))] fun (x10a : V) (x10b : Int) (S1 : St) => ifC (!decide (x10b = (0 : Int))) (K x10b S1) (nilV x10a = some x10a ∧ ifS (fieldAddrV 0 x10a) fun x19 => ifS (loadV S1 x19) fun x20 => ∃ x21 : Int, lenV S1 2 x20 = some (V.int .i64 x21) ∧ nilV x10a = some x10a ∧ ifS (fieldAddrV 1 x10a) fun x23 => ifS (storeV S1 1 x23 (V.int .i64 x21)) fun S2 => CallA P (N Fn.disk_Disk_done) [x0] S2 (retT [(.one (.int .i64))] fun (x25 : Int) (S3 : St) => K x25 S3)))
abbrev disk_Disk_Sync.Ok (P : Program) (N : Nat → Nat) : Prop := Reads P (N Fn.disk_Disk_Sync) [(3, .no, [(.one .any), (.one (.int .i64))]), (14, (.dt (.one (.int .i64))), []), (4, .no, [(.one (.int .i64))])] [] [] (fun A T (x0 : V) (x1 : List UInt8) (S : St) (K : Int → St → Prop) => wpT P (envP P) T (endT A.results [(.one (.int .i64))] K) (frT A [x0, (V.str x1)]) S) (fun x0 x1 S K => disk_Disk_Sync.p P N x0 x1 S K)
theorem disk_Disk_Sync.run {P : Program} {N : Nat → Nat} (hF : disk_Disk_Sync.Ok P N) {x0 : V} {x1 : List UInt8} {S : St} {K : Int → St → Prop} (h : disk_Disk_Sync.p P N x0 x1 S K) : CallA P (N Fn.disk_Disk_Sync) [x0, (V.str x1)] S (retT [(.one (.int .i64))] K) := hF.run (fun q => q x0 x1 S K) h rfl

def disk_Disk_Read.p (P : Program) (N : Nat → Nat) (x0 : V) (x1 : List UInt8) (S : St) (K : V → Int → St → Prop) : Prop :=
  CallA P (N Fn.disk_Disk_find) [x0, (V.str x1)] S (retT [(.one .any), (.one (.int .i64))] fun (x11a : V) (x11b : Int) (S1 : St) => ifC (!decide (x11b = (0 : Int))) (K V.nilSlice x11b S1) (nilV x11a = some x11a ∧ ifS (fieldAddrV 0 x11a) fun x19 => ifS (loadV S1 x19) fun x20 => CallA P (N Fn.slices_Clone_Lbyte) [x20] S1 (retT [(.one .any)] fun (x21 : V) (S2 : St) => K x21 0 S2)))
abbrev disk_Disk_Read.Ok (P : Program) (N : Nat → Nat) : Prop := Reads P (N Fn.disk_Disk_Read) [(4, .no, [(.one .any), (.one (.int .i64))]), (14, .no, [(.one .any)])] [] [] (fun A T (x0 : V) (x1 : List UInt8) (S : St) (K : V → Int → St → Prop) => wpT P (envP P) T (endT A.results [(.one .any), (.one (.int .i64))] K) (frT A [x0, (V.str x1)]) S) (fun x0 x1 S K => disk_Disk_Read.p P N x0 x1 S K)
theorem disk_Disk_Read.run {P : Program} {N : Nat → Nat} (hF : disk_Disk_Read.Ok P N) {x0 : V} {x1 : List UInt8} {S : St} {K : V → Int → St → Prop} (h : disk_Disk_Read.p P N x0 x1 S K) : CallA P (N Fn.disk_Disk_Read) [x0, (V.str x1)] S (retT [(.one .any), (.one (.int .i64))] K) := hF.run (fun q => q x0 x1 S K) h rfl

def disk_Disk_Append.p (P : Program) (N : Nat → Nat) (x0 : V) (x1 : List UInt8) (x2 : V) (S : St) (K : Int → St → Prop) : Prop :=
  CallA P (N Fn.disk_Disk_find) [x0, (V.str x1)] S (retT [(.one .any), (.one (.int .i64))] fun (x12a : V) (x12b : Int) (S1 : St) => ifC (!decide (x12b = (0 : Int))) (K x12b S1) (∃ x21 : Int, lenV S1 2 x2 = some (V.int .i64 x21) ∧ nilV x0 = some x0 ∧ ifS (fieldAddrV 0 x0) fun x24 => ∃ x25 : Int, loadV S1 x24 = some (V.int .i64 x25) ∧ CallA P (N Fn.disk_Disk_Used) [x0] S1 (retT [(.one (.int .i64))] fun (x27 : Int) (S2 : St) => sameK (V.block x24 ++ (V.block x2 ++ [])) S1 S2 (setI (IntKind.i64.wrap (x25 - x27)) fun x28 => ifC (decide (x28 < x21)) (K 173 S2) (nilV x12a = some x12a ∧ ifS (fieldAddrV 0 x12a) fun x33 => ifS (loadV S2 x33) fun x34 => nilV x12a = some x12a ∧ ifS (fieldAddrV 0 x12a) fun x37 => ifS (loadV S2 x37) fun x38 => ∃ x39 : Int, lenV S2 2 x38 = some (V.int .i64 x39) ∧ nilV x12a = some x12a ∧ ifS (fieldAddrV 0 x12a) fun x42 => ifS (loadV S2 x42) fun x43 => ∃ x44 : Int, lenV S2 2 x43 = some (V.int .i64 x44) ∧ ifS (sliceSlV 1 x34 none (some (V.int .i64 x39)) (some (V.int .i64 x44))) fun x45 => ifP (appV S2 1 1 x45 x2) fun x47 S3 => nilV x12a = some x12a ∧ ifS (fieldAddrV 0 x12a) fun x49 => ifS (storeV S3 1 x49 x47) fun S4 => CallA P (N Fn.disk_Disk_done) [x0] S4 (retT [(.one (.int .i64))] fun (x51 : Int) (S5 : St) => K x51 S5))))))
abbrev disk_Disk_Append.Ok (P : Program) (N : Nat → Nat) : Prop := Reads P (N Fn.disk_Disk_Append) [(3, .no, [(.one .any), (.one (.int .i64))]), (11, (.dt (.one (.int .i64))), []), (3, (.dt (.one (.int .i64))), []), (1, .no, [(.one (.int .i64))]), (13, (.dt (.one (.int .i64))), []), (4, (.dt (.one (.int .i64))), []), (7, .no, [(.one (.int .i64))])] [] [] (fun A T (x0 : V) (x1 : List UInt8) (x2 : V) (S : St) (K : Int → St → Prop) => wpT P (envP P) T (endT A.results [(.one (.int .i64))] K) (frT A [x0, (V.str x1), x2]) S) (fun x0 x1 x2 S K => disk_Disk_Append.p P N x0 x1 x2 S K)
theorem disk_Disk_Append.run {P : Program} {N : Nat → Nat} (hF : disk_Disk_Append.Ok P N) {x0 : V} {x1 : List UInt8} {x2 : V} {S : St} {K : Int → St → Prop} (h : disk_Disk_Append.p P N x0 x1 x2 S K) : CallA P (N Fn.disk_Disk_Append) [x0, (V.str x1), x2] S (retT [(.one (.int .i64))] K) := hF.run (fun q => q x0 x1 x2 S K) h rfl

def disk_Disk_Names.p (P : Program) (N : Nat → Nat) (x0 : V) (S : St) (K : V → St → Prop) : Prop :=
  CallA P (N Fn.disk_Disk_ready) [x0] S (retT [(.one (.int .i64))] fun (x4 : Int) (S1 : St) => ifC (!decide (x4 = (0 : Int))) (K V.nilSlice S1) (nilV x0 = some x0 ∧ ifS (fieldAddrV 1 x0) fun x8 => ifS (loadV S1 x8) fun x9 => CallA P (N Fn.maps_Keys_disk_names) [x9] S1 (retT [(.one .any)] fun (x10 : V) (S2 : St) => CallA P (N Fn.slices_Sorted_string) [x10] S2 (retT [(.one .any)] fun (x11 : V) (S3 : St) => K x11 S3))))
abbrev disk_Disk_Names.Ok (P : Program) (N : Nat → Nat) : Prop := Reads P (N Fn.disk_Disk_Names) [(2, .no, [(.one (.int .i64))]), (6, .no, [(.one .any)]), (0, .no, [(.one .any)])] [] [] (fun A T (x0 : V) (S : St) (K : V → St → Prop) => wpT P (envP P) T (endT A.results [(.one .any)] K) (frT A [x0]) S) (fun x0 S K => disk_Disk_Names.p P N x0 S K)
theorem disk_Disk_Names.run {P : Program} {N : Nat → Nat} (hF : disk_Disk_Names.Ok P N) {x0 : V} {S : St} {K : V → St → Prop} (h : disk_Disk_Names.p P N x0 S K) : CallA P (N Fn.disk_Disk_Names) [x0] S (retT [(.one .any)] K) := hF.run (fun q => q x0 S K) h rfl

def disk_Disk_Down.p (P : Program) (N : Nat → Nat) (x0 : V) (S : St) (K : Bool → St → Prop) : Prop :=
  ∃ x4 : Bool, eqV 1 [] x0 V.nilPtr = some x4 ∧ ifC (!x4) (nilV x0 = some x0 ∧ ifS (fieldAddrV 5 x0) fun x8 => ∃ x9 : Bool, loadV S x8 = some (V.bool x9) ∧ ifC x9 (nilV x0 = some x0 ∧ ifS (fieldAddrV 6 x0) fun x14 => ∃ x15 : Int, loadV S x14 = some (V.int .i64 x15) ∧ K (decide (x15 = (0 : Int))) S) (K false S)) (K false S)
abbrev disk_Disk_Down.Ok (P : Program) (N : Nat → Nat) : Prop := Reads P (N Fn.disk_Disk_Down) [(7, (.dt (.one .bool)), []), (5, (.dt (.one (.int .i64))), [])] [] [] (fun A T (x0 : V) (S : St) (K : Bool → St → Prop) => wpT P (envP P) T (endT A.results [(.one .bool)] K) (frT A [x0]) S) (fun x0 S K => disk_Disk_Down.p P N x0 S K)
theorem disk_Disk_Down.run {P : Program} {N : Nat → Nat} (hF : disk_Disk_Down.Ok P N) {x0 : V} {S : St} {K : Bool → St → Prop} (h : disk_Disk_Down.p P N x0 S K) : CallA P (N Fn.disk_Disk_Down) [x0] S (retT [(.one .bool)] K) := hF.run (fun q => q x0 S K) h rfl

def disk_Disk_Stop.p (P : Program) (N : Nat → Nat) (x0 : V) (x1 : Int) (S : St) (K : Int → St → Prop) : Prop :=
  CallA P (N Fn.disk_Disk_ready) [x0] S (retT [(.one (.int .i64))] fun (x7 : Int) (S1 : St) => ifC (!decide (x7 = (0 : Int))) (K x7 S1) (ifC (decide (x1 < (0 : Int))) (K 1 S1) (nilV x0 = some x0 ∧ ifS (fieldAddrV 5 x0) fun x17 => ifS (storeV S1 1 x17 (V.bool true)) fun S2 => nilV x0 = some x0 ∧ ifS (fieldAddrV 6 x0) fun x19 => ifS (storeV S2 1 x19 (V.int .i64 x1)) fun S3 => K 0 S3)))
abbrev disk_Disk_Stop.Ok (P : Program) (N : Nat → Nat) : Prop := Reads P (N Fn.disk_Disk_Stop) [(2, .no, [(.one (.int .i64))])] [] [] (fun A T (x0 : V) (x1 : Int) (S : St) (K : Int → St → Prop) => wpT P (envP P) T (endT A.results [(.one (.int .i64))] K) (frT A [x0, (V.int .i64 x1)]) S) (fun x0 x1 S K => disk_Disk_Stop.p P N x0 x1 S K)
theorem disk_Disk_Stop.run {P : Program} {N : Nat → Nat} (hF : disk_Disk_Stop.Ok P N) {x0 : V} {x1 : Int} {S : St} {K : Int → St → Prop} (h : disk_Disk_Stop.p P N x0 x1 S K) : CallA P (N Fn.disk_Disk_Stop) [x0, (V.int .i64 x1)] S (retT [(.one (.int .i64))] K) := hF.run (fun q => q x0 x1 S K) h rfl

def disk_Disk_Steps.p (P : Program) (N : Nat → Nat) (x0 : V) (S : St) (K : Int → St → Prop) : Prop :=
  ∃ x4 : Bool, eqV 1 [] x0 V.nilPtr = some x4 ∧ ifC x4 (K 0 S) (nilV x0 = some x0 ∧ ifS (fieldAddrV 4 x0) fun x7 => ∃ x8 : Int, loadV S x7 = some (V.int .i64 x8) ∧ K x8 S)
abbrev disk_Disk_Steps.Ok (P : Program) (N : Nat → Nat) : Prop := Reads P (N Fn.disk_Disk_Steps) [(7, (.dt (.one (.int .i64))), [])] [] [] (fun A T (x0 : V) (S : St) (K : Int → St → Prop) => wpT P (envP P) T (endT A.results [(.one (.int .i64))] K) (frT A [x0]) S) (fun x0 S K => disk_Disk_Steps.p P N x0 S K)
def disk_Disk_Used.p (P : Program) (N : Nat → Nat) (x0 : V) (S : St) (K : Int → St → Prop) : Prop :=
  CallA P (N Fn.disk_Disk_ready) [x0] S (retT [(.one (.int .i64))] fun (x7 : Int) (S1 : St) => ifC (!decide (x7 = (0 : Int))) (K 0 S1) (nilV x0 = some x0 ∧ ifS (fieldAddrV 1 x0) fun x11 => ifS (loadV S1 x11) fun x12 => anyK (rangeP S1 x12) fun x13 S2 => Loop1 (fun (k1 : Int → St → Prop) (x3 : Int) (S3 : St) => anyK (nextP S3 x13) fun x14 S4 => ∃ x15 : Bool, extractV 0 x14 = some (V.bool x15) ∧ ifC x15 (ifS (entryV S4 x13) fun x16 => ifS (extractV 1 x16) fun x17 => nilV x17 = some x17 ∧ ifS (fieldAddrV 0 x17) fun x21 => ifS (loadV S4 x21) fun x22 => ∃ x23 : Int, lenV S4 2 x22 = some (V.int .i64 x23) ∧ setI (IntKind.i64.wrap (x3 + x23)) fun x24 => k1 x24 S4) (K x3 S4)) 0 S2))
abbrev disk_Disk_Used.Ok (P : Program) (N : Nat → Nat) : Prop := Reads P (N Fn.disk_Disk_Used) [(2, .no, [(.one (.int .i64))]), (9, (.dt (.one .bool)), []), (8, (.dt (.one (.int .i64))), [])] [] [[(3, (.one (.int .i64)))]] (fun A T (x0 : V) (S : St) (K : Int → St → Prop) => wpT P (envP P) T (endT A.results [(.one (.int .i64))] K) (frT A [x0]) S) (fun x0 S K => disk_Disk_Used.p P N x0 S K)
theorem disk_Disk_Used.run {P : Program} {N : Nat → Nat} (hF : disk_Disk_Used.Ok P N) {x0 : V} {S : St} {K : Int → St → Prop} (h : disk_Disk_Used.p P N x0 S K) : CallA P (N Fn.disk_Disk_Used) [x0] S (retT [(.one (.int .i64))] K) := hF.run (fun q => q x0 S K) h rfl

def disk_Disk_Rename.p (P : Program) (N : Nat → Nat) (x0 : V) (x1 : List UInt8) (x2 : List UInt8) (S : St) (K : Int → St → Prop) : Prop :=
  CallA P (N Fn.disk_Disk_find) [x0, (V.str x1)] S (retT [(.one .any), (.one (.int .i64))] fun (x12a : V) (x12b : Int) (S1 : St) => ifC (!decide (x12b = (0 : Int))) (K x12b S1) (CallA P (N Fn.disk_good) [(V.str x2)] S1 (retT [(.one .bool)] fun (x21 : Bool) (S2 : St) => ifC (!x21) (K 170 S2) (V.cells x12a = [x12a] ∧ CallA P (N Fn.disk_Disk_change) [x0, (V.agg [(V.str x1), (V.str x2), x12a])] S2 (retT [(.one (.int .i64))] fun (x28 : Int) (S3 : St) => K x28 S3)))))
abbrev disk_Disk_Rename.Ok (P : Program) (N : Nat → Nat) : Prop := Reads P (N Fn.disk_Disk_Rename) [(3, .no, [(.one .any), (.one (.int .i64))]), (11, .no, [(.one .bool)]), (7, (.dt (.agg [.str, .str, .any])), []), (0, .no, [(.one (.int .i64))])] [] [] (fun A T (x0 : V) (x1 : List UInt8) (x2 : List UInt8) (S : St) (K : Int → St → Prop) => wpT P (envP P) T (endT A.results [(.one (.int .i64))] K) (frT A [x0, (V.str x1), (V.str x2)]) S) (fun x0 x1 x2 S K => disk_Disk_Rename.p P N x0 x1 x2 S K)
def disk_Disk_Remove.p (P : Program) (N : Nat → Nat) (x0 : V) (x1 : List UInt8) (S : St) (K : Int → St → Prop) : Prop :=
  CallA P (N Fn.disk_Disk_find) [x0, (V.str x1)] S (retT [(.one .any), (.one (.int .i64))] fun (x10a : V) (x10b : Int) (S1 : St) => ifC (!decide (x10b = (0 : Int))) (K x10b S1) (CallA P (N Fn.disk_Disk_change) [x0, (V.agg [(V.str x1), (V.str ([] : List UInt8)), V.nilPtr])] S1 (retT [(.one (.int .i64))] fun (x19 : Int) (S2 : St) => K x19 S2)))
abbrev disk_Disk_Remove.Ok (P : Program) (N : Nat → Nat) : Prop := Reads P (N Fn.disk_Disk_Remove) [(3, .no, [(.one .any), (.one (.int .i64))]), (11, (.dt (.agg [.str, .str, .any])), []), (0, .no, [(.one (.int .i64))])] [] [] (fun A T (x0 : V) (x1 : List UInt8) (S : St) (K : Int → St → Prop) => wpT P (envP P) T (endT A.results [(.one (.int .i64))] K) (frT A [x0, (V.str x1)]) S) (fun x0 x1 S K => disk_Disk_Remove.p P N x0 x1 S K)
theorem disk_Disk_Remove.run {P : Program} {N : Nat → Nat} (hF : disk_Disk_Remove.Ok P N) {x0 : V} {x1 : List UInt8} {S : St} {K : Int → St → Prop} (h : disk_Disk_Remove.p P N x0 x1 S K) : CallA P (N Fn.disk_Disk_Remove) [x0, (V.str x1)] S (retT [(.one (.int .i64))] K) := hF.run (fun q => q x0 x1 S K) h rfl

def disk_Disk_Clone_1.p (P : Program) (N : Nat → Nat) (x0 : V) (x1 : V) (S : St) (K : V → St → Prop) : Prop :=
  ∃ x5 : Bool, eqV 1 [] x0 V.nilPtr = some x5 ∧ ifC x5 (K V.nilPtr S) (Join0 (fun (k1 : St → Prop) => ifS (loadV S x1) fun x6 => ifS (lookupPV S V.nilPtr false x6 x0) fun x8 => ∃ x9 : Bool, eqV 1 [] x8 V.nilPtr = some x9 ∧ ifC x9 (ifS (loadV S x1) fun x10 => nilV x0 = some x0 ∧ ifS (fieldAddrV 0 x0) fun x14 => ifS (loadV S x14) fun x15 => nilV x0 = some x0 ∧ ifS (fieldAddrV 1 x0) fun x19 => ∃ x20 : Int, loadV S x19 = some (V.int .i64 x20) ∧ CallA P (N Fn.slices_Clone_Lbyte) [x15] S (retT [(.one .any)] fun (x16 : V) (S2 : St) => sameK (V.block x19 ++ (V.block x1 ++ [])) S S2 (V.cells x16 = [x16] ∧ newS S2 (.cells [x16, (V.int .i64 x20)] true) fun S3 => sameK (V.block x19 ++ (V.block x14 ++ (V.block x1 ++ []))) S2 S3 (ifS (mapUpdPV S3 x10 x0 (V.ptr S2.next 0)) fun S4 => k1  S4)))) (k1  S)) (fun (S1 : St) => ifS (loadV S1 x1) fun x23 => ifS (lookupPV S1 V.nilPtr false x23 x0) fun x25 => K x25 S1))
abbrev disk_Disk_Clone_1.Ok (P : Program) (N : Nat → Nat) : Prop := Reads P (N Fn.disk_Disk_Clone_1) [(17, (.dt (.one (.int .i64))), []), (0, .no, [(.one .any)]), (0, (.dt (.agg [.any, (.int .i64)])), [])] [(4, [])] [] (fun A T (x0 : V) (x1 : V) (S : St) (K : V → St → Prop) => wpT P (envP P) T (endT A.results [(.one .any)] K) (frT A [x0, x1]) S) (fun x0 x1 S K => disk_Disk_Clone_1.p P N x0 x1 S K)
def disk_Disk_Crash_1.p (P : Program) (N : Nat → Nat) (x0 : V) (S : St) (K : Int → St → Prop) : Prop :=
  ifS (loadV S x0) fun x3 => ∃ x4 : Int, lenV S 2 x3 = some (V.int .i64 x4) ∧ ifC (decide (x4 = (0 : Int))) (K 0 S) (ifS (loadV S x0) fun x6 => ifS (idxAddrV 1 x6 (V.int .i64 0)) fun x7 => ∃ x8 : Int, loadV S x7 = some (V.int .i64 x8) ∧ ifS (loadV S x0) fun x9 => ifS (sliceSlV 1 x9 (some (V.int .i64 1)) none none) fun x10 => ifS (storeV S 1 x0 x10) fun S1 => K x8 S1)
abbrev disk_Disk_Crash_1.Ok (P : Program) (N : Nat → Nat) : Prop := Reads P (N Fn.disk_Disk_Crash_1) [(2, (.dt (.one (.int .i64))), []), (4, (.dt (.one (.int .i64))), [])] [] [] (fun A T (x0 : V) (S : St) (K : Int → St → Prop) => wpT P (envP P) T (endT A.results [(.one (.int .i64))] K) (frT A [x0]) S) (fun x0 S K => disk_Disk_Crash_1.p P N x0 S K)
theorem disk_Disk_Crash_1.run {P : Program} {N : Nat → Nat} (hF : disk_Disk_Crash_1.Ok P N) {x0 : V} {S : St} {K : Int → St → Prop} (h : disk_Disk_Crash_1.p P N x0 S K) : CallA P (N Fn.disk_Disk_Crash_1) [x0] S (retT [(.one (.int .i64))] K) := hF.run (fun q => q x0 S K) h rfl

def disk_says.p (P : Program) (N : Nat → Nat) (x0 : Int) (x1 : Int) (S : St) (K : Int → St → Prop) : Prop :=
  Join1 (fun (k1 : Int → St → Prop) => ifC (decide (x0 < (0 : Int))) (setI (IntKind.i64.wrap (x0 + (1 : Int))) fun x8 => setI (IntKind.i64.wrap (0 - x8)) fun x9 => k1 x9 S) (k1 x0 S)) (fun (x0_1 : Int) (S1 : St) => setI (IntKind.i64.wrap (x1 + (1 : Int))) fun x12 => x12 ≠ 0 ∧ setI (Int.tmod x0_1 x12) fun x13 => K x13 S1)
abbrev disk_says.Ok (P : Program) (N : Nat → Nat) : Prop := Reads P (N Fn.disk_says) [] [(1, [(0, (.one (.int .i64)))])] [] (fun A T (x0 : Int) (x1 : Int) (S : St) (K : Int → St → Prop) => wpT P (envP P) T (endT A.results [(.one (.int .i64))] K) (frT A [(V.int .i64 x0), (V.int .i64 x1)]) S) (fun x0 x1 S K => disk_says.p P N x0 x1 S K)
theorem disk_says.run {P : Program} {N : Nat → Nat} (hF : disk_says.Ok P N) {x0 : Int} {x1 : Int} {S : St} {K : Int → St → Prop} (h : disk_says.p P N x0 x1 S K) : CallA P (N Fn.disk_says) [(V.int .i64 x0), (V.int .i64 x1)] S (retT [(.one (.int .i64))] K) := hF.run (fun q => q x0 x1 S K) h rfl

def disk_names_do.p (P : Program) (N : Nat → Nat) (x0 : V) (x1_a : List UInt8) (x1_b : List UInt8) (x1_c : V) (S : St) (K : St → Prop) : Prop :=
  newS S (.cells [(V.str x1_a), (V.str x1_b), x1_c] true) fun S1 => Join0 (fun (k1 : St → Prop) => ∃ x5 : List UInt8, loadV S1 (V.ptr S.next 0) = some (V.str x5) ∧ ifC (!decide (x5 = ([] : List UInt8))) (∃ x9 : List UInt8, loadV S1 (V.ptr S.next 0) = some (V.str x9) ∧ ifS (deleteV S1 2 x0 (V.str x9)) fun S3 => k1  S3) (k1  S1)) (fun (S2 : St) => ∃ x11 : List UInt8, loadV S2 (V.ptr S.next 1) = some (V.str x11) ∧ ifC (!decide (x11 = ([] : List UInt8))) (∃ x15 : List UInt8, loadV S2 (V.ptr S.next 1) = some (V.str x15) ∧ ifS (loadV S2 (V.ptr S.next 2)) fun x17 => ifS (mapUpdV S2 2 x0 (V.str x15) x17) fun S4 => K  S4) (K  S2))
abbrev disk_names_do.Ok (P : Program) (N : Nat → Nat) : Prop := Reads P (N Fn.disk_names_do) [(2, (.dt (.one .str)), []), (3, (.dt (.one .str)), []), (2, (.dt (.one .str)), []), (3, (.dt (.one .str)), [])] [(1, [])] [] (fun A T (x0 : V) (x1_a : List UInt8) (x1_b : List UInt8) (x1_c : V) (S : St) (K : St → Prop) => wpT P (envP P) T (endT A.results [] K) (frT A [x0, (V.agg [(V.str x1_a), (V.str x1_b), x1_c])]) S) (fun x0 x1_a x1_b x1_c S K => disk_names_do.p P N x0 x1_a x1_b x1_c S K)
theorem disk_names_do.run {P : Program} {N : Nat → Nat} (hF : disk_names_do.Ok P N) {x0 : V} {x1_a : List UInt8} {x1_b : List UInt8} {x1_c : V} {S : St} {K : St → Prop} (h : disk_names_do.p P N x0 x1_a x1_b x1_c S K) : CallA P (N Fn.disk_names_do) [x0, (V.agg [(V.str x1_a), (V.str x1_b), x1_c])] S (retT [] K) := hF.run (fun q => q x0 x1_a x1_b x1_c S K) h rfl

def disk_Disk_ready.p (P : Program) (N : Nat → Nat) (x0 : V) (S : St) (K : Int → St → Prop) : Prop :=
  ∃ x5 : Bool, eqV 1 [] x0 V.nilPtr = some x5 ∧ ifC x5 (K 3 S) (CallA P (N Fn.disk_Disk_Down) [x0] S (retT [(.one .bool)] fun (x8 : Bool) (S1 : St) => ifC x8 (K 174 S1) (K 0 S1)))
abbrev disk_Disk_ready.Ok (P : Program) (N : Nat → Nat) : Prop := Reads P (N Fn.disk_Disk_ready) [(6, .no, [(.one .bool)])] [] [] (fun A T (x0 : V) (S : St) (K : Int → St → Prop) => wpT P (envP P) T (endT A.results [(.one (.int .i64))] K) (frT A [x0]) S) (fun x0 S K => disk_Disk_ready.p P N x0 S K)
theorem disk_Disk_ready.run {P : Program} {N : Nat → Nat} (hF : disk_Disk_ready.Ok P N) {x0 : V} {S : St} {K : Int → St → Prop} (h : disk_Disk_ready.p P N x0 S K) : CallA P (N Fn.disk_Disk_ready) [x0] S (retT [(.one (.int .i64))] K) := hF.run (fun q => q x0 S K) h rfl

def disk_good.p (P : Program) (N : Nat → Nat) (x0 : List UInt8) (S : St) (K : Bool → St → Prop) : Prop :=
  newS S (.cells (bytesV x0) false) fun S1 => ∃ x7 : Int, lenV S1 2 (V.slice S.next 0 x0.length x0.length 1 false) = some (V.int .i64 x7) ∧ Loop1 (fun (k1 : Int → St → Prop) (x8 : Int) (S2 : St) => ifC (decide (x8 < x7)) (ifS (idxAddrV 1 (V.slice S.next 0 x0.length x0.length 1 false) (V.int .i64 x8)) fun x10 => ∃ x11 : Int, loadV S2 x10 = some (V.int .u8 x11) ∧ ifC (decide (x11 < (97 : Int))) (ifC (decide (x11 < (48 : Int))) (ifC (!decide (x11 = (46 : Int))) (ifC (!decide (x11 = (45 : Int))) (K false S2) (setI (IntKind.i64.wrap (x8 + (1 : Int))) fun x34 => k1 x34 S2)) (setI (IntKind.i64.wrap (x8 + (1 : Int))) fun x34_1 => k1 x34_1 S2)) (ifC (decide ((57 : Int) < x11)) (ifC (!decide (x11 = (46 : Int))) (ifC (!decide (x11 = (45 : Int))) (K false S2) (setI (IntKind.i64.wrap (x8 + (1 : Int))) fun x34_2 => k1 x34_2 S2)) (setI (IntKind.i64.wrap (x8 + (1 : Int))) fun x34_3 => k1 x34_3 S2)) (setI (IntKind.i64.wrap (x8 + (1 : Int))) fun x34_4 => k1 x34_4 S2))) (ifC (decide ((122 : Int) < x11)) (ifC (decide (x11 < (48 : Int))) (ifC (!decide (x11 = (46 : Int))) (ifC (!decide (x11 = (45 : Int))) (K false S2) (setI (IntKind.i64.wrap (x8 + (1 : Int))) fun x34_5 => k1 x34_5 S2)) (setI (IntKind.i64.wrap (x8 + (1 : Int))) fun x34_6 => k1 x34_6 S2)) (ifC (decide ((57 : Int) < x11)) (ifC (!decide (x11 = (46 : Int))) (ifC (!decide (x11 = (45 : Int))) (K false S2) (setI (IntKind.i64.wrap (x8 + (1 : Int))) fun x34_7 => k1 x34_7 S2)) (setI (IntKind.i64.wrap (x8 + (1 : Int))) fun x34_8 => k1 x34_8 S2)) (setI (IntKind.i64.wrap (x8 + (1 : Int))) fun x34_9 => k1 x34_9 S2))) (setI (IntKind.i64.wrap (x8 + (1 : Int))) fun x34_10 => k1 x34_10 S2))) (ifC (!decide (x0 = ([] : List UInt8))) (K (decide ((x0.length : Int) ≤ (32 : Int))) S2) (K false S2))) 0 S1
abbrev disk_good.Ok (P : Program) (N : Nat → Nat) : Prop := Reads P (N Fn.disk_good) [(3, (.dt (.one (.int .i64))), []), (3, (.dt (.one (.int .u8))), [])] [] [[(8, (.one (.int .i64)))]] (fun A T (x0 : List UInt8) (S : St) (K : Bool → St → Prop) => wpT P (envP P) T (endT A.results [(.one .bool)] K) (frT A [(V.str x0)]) S) (fun x0 S K => disk_good.p P N x0 S K)
theorem disk_good.run {P : Program} {N : Nat → Nat} (hF : disk_good.Ok P N) {x0 : List UInt8} {S : St} {K : Bool → St → Prop} (h : disk_good.p P N x0 S K) : CallA P (N Fn.disk_good) [(V.str x0)] S (retT [(.one .bool)] K) := hF.run (fun q => q x0 S K) h rfl

def disk_Disk_change.p (P : Program) (N : Nat → Nat) (x0 : V) (x1_a : List UInt8) (x1_b : List UInt8) (x1_c : V) (S : St) (K : Int → St → Prop) : Prop :=
  newS S (.cells [(V.str x1_a), (V.str x1_b), x1_c] true) fun S1 => nilV x0 = some x0 ∧ ifS (fieldAddrV 1 x0) fun x7 => ifS (loadV S1 x7) fun x8 => ∃ x9_a : List UInt8, ∃ x9_b : List UInt8, ∃ x9_c : V, loadNV S1 3 (V.ptr S.next 0) = some (V.agg [(V.str x9_a), (V.str x9_b), x9_c]) ∧ CallA P (N Fn.disk_names_do) [x8, (V.agg [(V.str x9_a), (V.str x9_b), x9_c])] S1 (retT [] fun (S2 : St) => nilV x0 = some x0 ∧ ifS (fieldAddrV 3 x0) fun x14 => ifS (loadV S2 x14) fun x15 => ∃ x16_a : List UInt8, ∃ x16_b : List UInt8, ∃ x16_c : V, loadNV S2 3 (V.ptr S.next 0) = some (V.agg [(V.str x16_a), (V.str x16_b), x16_c]) ∧ newS S2 (.cells [(V.str x16_a), (V.str x16_b), x16_c] true) fun S3 => sameK (V.block x14 ++ []) S2 S3 (ifP (appV S3 3 40 x15 (V.slice S2.next 0 1 1 3 true)) fun x18 S4 => nilV x0 = some x0 ∧ ifS (fieldAddrV 3 x0) fun x20 => ifS (storeV S4 1 x20 x18) fun S5 => CallA P (N Fn.disk_Disk_done) [x0] S5 (retT [(.one (.int .i64))] fun (x22 : Int) (S6 : St) => K x22 S6)))
abbrev disk_Disk_change.Ok (P : Program) (N : Nat → Nat) : Prop := Reads P (N Fn.disk_Disk_change) [(6, (.dt (.agg [.str, .str, .any])), []), (6, (.dt (.agg [.str, .str, .any])), []), (0, (.dt (.agg [.str, .str, .any])), []), (5, .no, [(.one (.int .i64))])] [] [] (fun A T (x0 : V) (x1_a : List UInt8) (x1_b : List UInt8) (x1_c : V) (S : St) (K : Int → St → Prop) => wpT P (envP P) T (endT A.results [(.one (.int .i64))] K) (frT A [x0, (V.agg [(V.str x1_a), (V.str x1_b), x1_c])]) S) (fun x0 x1_a x1_b x1_c S K => disk_Disk_change.p P N x0 x1_a x1_b x1_c S K)
theorem disk_Disk_change.run {P : Program} {N : Nat → Nat} (hF : disk_Disk_change.Ok P N) {x0 : V} {x1_a : List UInt8} {x1_b : List UInt8} {x1_c : V} {S : St} {K : Int → St → Prop} (h : disk_Disk_change.p P N x0 x1_a x1_b x1_c S K) : CallA P (N Fn.disk_Disk_change) [x0, (V.agg [(V.str x1_a), (V.str x1_b), x1_c])] S (retT [(.one (.int .i64))] K) := hF.run (fun q => q x0 x1_a x1_b x1_c S K) h rfl

def disk_Disk_done.p (P : Program) (N : Nat → Nat) (x0 : V) (S : St) (K : Int → St → Prop) : Prop :=
  nilV x0 = some x0 ∧ ifS (fieldAddrV 4 x0) fun x5 => ∃ x6 : Int, loadV S x5 = some (V.int .i64 x6) ∧ setI (IntKind.i64.wrap (x6 + (1 : Int))) fun x7 => nilV x0 = some x0 ∧ ifS (fieldAddrV 4 x0) fun x9 => ifS (storeV S 1 x9 (V.int .i64 x7)) fun S1 => nilV x0 = some x0 ∧ ifS (fieldAddrV 5 x0) fun x12 => ∃ x13 : Bool, loadV S1 x12 = some (V.bool x13) ∧ ifC x13 (nilV x0 = some x0 ∧ ifS (fieldAddrV 6 x0) fun x16 => ∃ x17 : Int, loadV S1 x16 = some (V.int .i64 x17) ∧ setI (IntKind.i64.wrap (x17 - (1 : Int))) fun x18 => nilV x0 = some x0 ∧ ifS (fieldAddrV 6 x0) fun x20 => ifS (storeV S1 1 x20 (V.int .i64 x18)) fun S2 => K 0 S2) (K 0 S1)
abbrev disk_Disk_done.Ok (P : Program) (N : Nat → Nat) : Prop := Reads P (N Fn.disk_Disk_done) [(4, (.dt (.one (.int .i64))), []), (7, (.dt (.one .bool)), []), (3, (.dt (.one (.int .i64))), [])] [] [] (fun A T (x0 : V) (S : St) (K : Int → St → Prop) => wpT P (envP P) T (endT A.results [(.one (.int .i64))] K) (frT A [x0]) S) (fun x0 S K => disk_Disk_done.p P N x0 S K)
theorem disk_Disk_done.run {P : Program} {N : Nat → Nat} (hF : disk_Disk_done.Ok P N) {x0 : V} {S : St} {K : Int → St → Prop} (h : disk_Disk_done.p P N x0 S K) : CallA P (N Fn.disk_Disk_done) [x0] S (retT [(.one (.int .i64))] K) := hF.run (fun q => q x0 S K) h rfl

def disk_Disk_find.p (P : Program) (N : Nat → Nat) (x0 : V) (x1 : List UInt8) (S : St) (K : V → Int → St → Prop) : Prop :=
  CallA P (N Fn.disk_Disk_ready) [x0] S (retT [(.one (.int .i64))] fun (x10 : Int) (S1 : St) => ifC (!decide (x10 = (0 : Int))) (K V.nilPtr x10 S1) (nilV x0 = some x0 ∧ ifS (fieldAddrV 1 x0) fun x17 => ifS (loadV S1 x17) fun x18 => ∃ x20a : V, ∃ x20b : Bool, lookupV S1 2 V.nilPtr true x18 (V.str x1) = some (V.tuple [x20a, (V.bool x20b)]) ∧ ifC (!x20b) (K V.nilPtr 172 S1) (K x20a 0 S1)))
abbrev disk_Disk_find.Ok (P : Program) (N : Nat → Nat) : Prop := Reads P (N Fn.disk_Disk_find) [(3, .no, [(.one (.int .i64))]), (11, (.tup [(.one .any), (.one .bool)]), [])] [] [] (fun A T (x0 : V) (x1 : List UInt8) (S : St) (K : V → Int → St → Prop) => wpT P (envP P) T (endT A.results [(.one .any), (.one (.int .i64))] K) (frT A [x0, (V.str x1)]) S) (fun x0 x1 S K => disk_Disk_find.p P N x0 x1 S K)
theorem disk_Disk_find.run {P : Program} {N : Nat → Nat} (hF : disk_Disk_find.Ok P N) {x0 : V} {x1 : List UInt8} {S : St} {K : V → Int → St → Prop} (h : disk_Disk_find.p P N x0 x1 S K) : CallA P (N Fn.disk_Disk_find) [x0, (V.str x1)] S (retT [(.one .any), (.one (.int .i64))] K) := hF.run (fun q => q x0 x1 S K) h rfl

end Go.Th.L
end

section
/- Functions of flat, read without frames (printed by tools/lib.py). -/
set_option linter.unusedVariables false
set_option maxRecDepth 100000
set_option maxHeartbeats 2000000
namespace Go.Th.L
open Go Go.Th

def flat_May.p (P : Program) (N : Nat → Nat) (x0_a : Int) (x0_b : V) (x1 : Int) (x2 : Bool) (x3 : Int) (S : St) (K : Int → St → Prop) : Prop :=
  newS S (.cells [(V.int .i64 x0_a), x0_b] true) fun S1 => ifS (loadV S1 (V.ptr S.next 1)) fun x11 => CallA P (N Fn.vec_Check) [x11, (V.int .i64 x1)] S1 (retT [(.one (.int .i64))] fun (x13 : Int) (S2 : St) => Join1 (fun (k1 : Bool → St → Prop) => ∃ x16 : Int, loadV S2 (V.ptr S.next 0) = some (V.int .i64 x16) ∧ ifC (decide (x16 < (1 : Int))) (k1 true S2) (∃ x20 : Int, loadV S2 (V.ptr S.next 0) = some (V.int .i64 x20) ∧ k1 (decide ((1000000000 : Int) < x20)) S2)) (fun (x14 : Bool) (S3 : St) => ifC x14 (K 50 S3) (ifC (!decide (x13 = (0 : Int))) (K x13 S3) (ifC (!x2) (ifC (decide ((512 : Int) ≤ x3)) (K 2 S3) (K 0 S3)) (K 0 S3)))))
abbrev flat_May.Ok (P : Program) (N : Nat → Nat) : Prop := Reads P (N Fn.flat_May) [(5, .no, [(.one (.int .i64))]), (2, (.dt (.one (.int .i64))), []), (3, (.dt (.one (.int .i64))), [])] [(3, [(14, (.one .bool))])] [] (fun A T (x0_a : Int) (x0_b : V) (x1 : Int) (x2 : Bool) (x3 : Int) (S : St) (K : Int → St → Prop) => wpT P (envP P) T (endT A.results [(.one (.int .i64))] K) (frT A [(V.agg [(V.int .i64 x0_a), x0_b]), (V.int .i64 x1), (V.bool x2), (V.int .i64 x3)]) S) (fun x0_a x0_b x1 x2 x3 S K => flat_May.p P N x0_a x0_b x1 x2 x3 S K)
theorem flat_May.run {P : Program} {N : Nat → Nat} (hF : flat_May.Ok P N) {x0_a : Int} {x0_b : V} {x1 : Int} {x2 : Bool} {x3 : Int} {S : St} {K : Int → St → Prop} (h : flat_May.p P N x0_a x0_b x1 x2 x3 S K) : CallA P (N Fn.flat_May) [(V.agg [(V.int .i64 x0_a), x0_b]), (V.int .i64 x1), (V.bool x2), (V.int .i64 x3)] S (retT [(.one (.int .i64))] K) := hF.run (fun q => q x0_a x0_b x1 x2 x3 S K) h rfl

end Go.Th.L
end

section
/- Functions of law19, read without frames (printed by tools/lib.py). -/
set_option linter.unusedVariables false
set_option maxRecDepth 100000
set_option maxHeartbeats 2000000
namespace Go.Th.L
open Go Go.Th

def law19_StoreNil.p (P : Program) (N : Nat → Nat) (x0_a : Int) (x0_b : Int) (x0_c : Int) (x0_d : Int) (x0_e : V) (x0_f : V) (x1 : Int) (S : St) (K : Bool → St → Prop) : Prop :=
  newS S (.cells [(V.int .i64 x0_a), (V.int .i64 x0_b), (V.int .i64 x0_c), (V.int .i64 x0_d), x0_e, x0_f] true) fun S1 => ∃ x15_a x15_b x15_c x15_d : Int, ∃ x15_e x15_f : V, loadNV S1 6 (V.ptr S.next 0) = some (V.agg [(V.int .i64 x15_a), (V.int .i64 x15_b), (V.int .i64 x15_c), (V.int .i64 x15_d), x15_e, x15_f]) ∧ newS S1 (.cells [(V.int .i64 x15_a), (V.int .i64 x15_b), (V.int .i64 x15_c), (V.int .i64 x15_d), x15_e, x15_f] true) fun S2 => CallA P (N Fn.law19_large) [(V.slice S1.next 0 1 1 6 true)] S2 (retT [(.one .bool)] fun (x17 : Bool) (S3 : St) => ifC x17 (K true S3) (CallA P (N Fn.store_Open) [V.nilPtr, (V.int .i64 x1)] S3 (retT [(.one .any), (.one (.int .i64))] fun (x20a : V) (x20b : Int) (S4 : St) => Join0 (fun (k1 : St → Prop) => ∃ x24 : Bool, eqV 1 [] x20a V.nilPtr = some x24 ∧ ifC (!x24) (K false S4) (ifC (!decide (x20b = (3 : Int))) (K false S4) (k1  S4))) (fun (S5 : St) => ∃ x32_a : Int, ∃ x32_b : V, loadNV S5 2 (V.ptr S.next 3) = some (V.agg [(V.int .i64 x32_a), x32_b]) ∧ CallA P (N Fn.store_Store_Put) [x20a, (V.agg [(V.int .i64 x32_a), x32_b])] S5 (retT [(.one (.int .i64)), (.one (.int .i64))] fun (x33a : Int) (x33b : Int) (S6 : St) => ∃ x39 : Int, loadV S6 (V.ptr S.next 1) = some (V.int .i64 x39) ∧ CallA P (N Fn.store_Store_Delete) [x20a, (V.int .i64 x39)] S6 (retT [(.one (.int .i64)), (.one (.int .i64))] fun (x40a : Int) (x40b : Int) (S7 : St) => ∃ x46 : Int, loadV S7 (V.ptr S.next 1) = some (V.int .i64 x46) ∧ CallA P (N Fn.store_Store_Get) [x20a, (V.int .i64 x46)] S7 (retT [(.one .any), (.one (.int .i64))] fun (x47a : V) (x47b : Int) (S8 : St) => ∃ x53 : Int, loadV S8 (V.ptr S.next 2) = some (V.int .i64 x53) ∧ CallA P (N Fn.store_Store_Since) [x20a, (V.int .i64 x53)] S8 (retT [(.one .any), (.one (.int .i64))] fun (x54a : V) (x54b : Int) (S9 : St) => CallA P (N Fn.law19_awake) [] S9 (retT [(.one .bool)] fun (x57 : Bool) (S10 : St) => ifC x57 (ifC (decide (x33b = (3 : Int))) (ifC (decide (x40b = (3 : Int))) (ifC (decide (x47b = (3 : Int))) (ifC (decide (x54b = (3 : Int))) (CallA P (N Fn.store_Store_Sync) [x20a] S10 (retT [(.one (.int .i64))] fun (x76 : Int) (S11 : St) => ifC (decide (x76 = (3 : Int))) (CallA P (N Fn.store_Store_Snapshot) [x20a] S11 (retT [(.one (.int .i64))] fun (x81 : Int) (S12 : St) => ifC (decide (x81 = (3 : Int))) (CallA P (N Fn.store_Store_Len) [x20a] S12 (retT [(.one (.int .i64))] fun (x86 : Int) (S13 : St) => ifC (decide (x86 = (0 : Int))) (CallA P (N Fn.store_Store_Rows) [x20a] S13 (retT [(.one .any)] fun (x91 : V) (S14 : St) => ∃ x92 : Int, lenV S14 2 x91 = some (V.int .i64 x92) ∧ ifC (decide (x92 = (0 : Int))) (CallA P (N Fn.store_Store_Seq) [x20a] S14 (retT [(.one (.int .i64))] fun (x97 : Int) (S15 : St) => ifC (decide (x97 = (0 : Int))) (CallA P (N Fn.store_Store_Safe) [x20a] S15 (retT [(.one (.int .i64))] fun (x102 : Int) (S16 : St) => K (decide (x102 = (0 : Int))) S16)) (K false S15))) (K false S14))) (K false S13))) (K false S12))) (K false S11))) (K false S10)) (K false S10)) (K false S10)) (K false S10)) (K false S10))))))))))
abbrev law19_StoreNil.Ok (P : Program) (N : Nat → Nat) : Prop := Reads P (N Fn.law19_StoreNil) [(2, (.dt (.agg [(.int .i64), (.int .i64), (.int .i64), (.int .i64), .any, .any])), []), (0, (.dt (.agg [(.int .i64), (.int .i64), (.int .i64), (.int .i64), .any, .any])), []), (0, .no, [(.one .bool)]), (2, .no, [(.one .any), (.one (.int .i64))]), (14, (.dt (.agg [(.int .i64), .any])), []), (0, .no, [(.one (.int .i64)), (.one (.int .i64))]), (7, (.dt (.one (.int .i64))), []), (0, .no, [(.one (.int .i64)), (.one (.int .i64))]), (7, (.dt (.one (.int .i64))), []), (0, .no, [(.one .any), (.one (.int .i64))]), (7, (.dt (.one (.int .i64))), []), (0, .no, [(.one .any), (.one (.int .i64))]), (5, .no, [(.one .bool)]), (18, .no, [(.one (.int .i64))]), (4, .no, [(.one (.int .i64))]), (4, .no, [(.one (.int .i64))]), (4, .no, [(.one .any)]), (0, (.dt (.one (.int .i64))), []), (4, .no, [(.one (.int .i64))]), (4, .no, [(.one (.int .i64))])] [(5, [])] [] (fun A T (x0_a : Int) (x0_b : Int) (x0_c : Int) (x0_d : Int) (x0_e : V) (x0_f : V) (x1 : Int) (S : St) (K : Bool → St → Prop) => wpT P (envP P) T (endT A.results [(.one .bool)] K) (frT A [(V.agg [(V.int .i64 x0_a), (V.int .i64 x0_b), (V.int .i64 x0_c), (V.int .i64 x0_d), x0_e, x0_f]), (V.int .i64 x1)]) S) (fun x0_a x0_b x0_c x0_d x0_e x0_f x1 S K => law19_StoreNil.p P N x0_a x0_b x0_c x0_d x0_e x0_f x1 S K)
theorem law19_StoreNil.run {P : Program} {N : Nat → Nat} (hF : law19_StoreNil.Ok P N) {x0_a : Int} {x0_b : Int} {x0_c : Int} {x0_d : Int} {x0_e : V} {x0_f : V} {x1 : Int} {S : St} {K : Bool → St → Prop} (h : law19_StoreNil.p P N x0_a x0_b x0_c x0_d x0_e x0_f x1 S K) : CallA P (N Fn.law19_StoreNil) [(V.agg [(V.int .i64 x0_a), (V.int .i64 x0_b), (V.int .i64 x0_c), (V.int .i64 x0_d), x0_e, x0_f]), (V.int .i64 x1)] S (retT [(.one .bool)] K) := hF.run (fun q => q x0_a x0_b x0_c x0_d x0_e x0_f x1 S K) h rfl

def law19_large.p (P : Program) (N : Nat → Nat) (x0 : V) (S : St) (K : Bool → St → Prop) : Prop :=
  ∃ x5 : Int, lenV S 2 x0 = some (V.int .i64 x5) ∧ ifC (decide ((400 : Int) < x5)) (K true S) (Loop1 (fun (k1 : Int → St → Prop) (x3 : Int) (S1 : St) => ∃ x9 : Int, lenV S1 2 x0 = some (V.int .i64 x9) ∧ ifC (decide (x3 < x9)) (ifS (idxAddrV 6 x0 (V.int .i64 x3)) fun x15 => ifS (fieldAddrV 3 x15) fun x16 => ifS (fieldAddrV 1 x16) fun x17 => ifS (loadV S1 x17) fun x18 => ∃ x19 : Int, lenV S1 2 x18 = some (V.int .i64 x19) ∧ ifC (decide ((16384 : Int) < x19)) (K true S1) (ifS (idxAddrV 6 x0 (V.int .i64 x3)) fun x24 => ifS (fieldAddrV 5 x24) fun x25 => ifS (loadV S1 x25) fun x26 => ∃ x27 : Int, lenV S1 2 x26 = some (V.int .i64 x27) ∧ ifC (decide ((400 : Int) < x27)) (K true S1) (setI (IntKind.i64.wrap (x3 + (1 : Int))) fun x12 => k1 x12 S1))) (K false S1)) 0 S)
abbrev law19_large.Ok (P : Program) (N : Nat → Nat) : Prop := Reads P (N Fn.law19_large) [(2, (.dt (.one (.int .i64))), []), (5, (.dt (.one (.int .i64))), []), (7, (.dt (.one (.int .i64))), []), (7, (.dt (.one (.int .i64))), [])] [] [[(3, (.one (.int .i64)))]] (fun A T (x0 : V) (S : St) (K : Bool → St → Prop) => wpT P (envP P) T (endT A.results [(.one .bool)] K) (frT A [x0]) S) (fun x0 S K => law19_large.p P N x0 S K)
theorem law19_large.run {P : Program} {N : Nat → Nat} (hF : law19_large.Ok P N) {x0 : V} {S : St} {K : Bool → St → Prop} (h : law19_large.p P N x0 S K) : CallA P (N Fn.law19_large) [x0] S (retT [(.one .bool)] K) := hF.run (fun q => q x0 S K) h rfl

def law19_awake.p (P : Program) (N : Nat → Nat) (S : St) (K : Bool → St → Prop) : Prop :=
  CallA P (N Fn.disk_New) [(V.int .i64 4194304)] S (retT [(.one .any), (.one (.int .i64))] fun (x20a : V) (x20b : Int) (S1 : St) => CallA P (N Fn.store_Open) [x20a, (V.int .i64 2)] S1 (retT [(.one .any), (.one (.int .i64))] fun (x25a : V) (x25b : Int) (S2 : St) => Join0 (fun (k1 : St → Prop) => ∃ x29 : Bool, eqV 1 [] x20a V.nilPtr = some x29 ∧ ifC x29 (K false S2) (∃ x32 : Bool, eqV 1 [] x25a V.nilPtr = some x32 ∧ ifC x32 (K false S2) (ifC (!decide (x20b = (0 : Int))) (K false S2) (ifC (!decide (x25b = (0 : Int))) (K false S2) (k1  S2))))) (fun (S3 : St) => newS S3 (.cells [(V.int .i64 3), (V.int .i64 4)] true) fun S4 => V.cells (V.slice S3.next 0 2 2 1 true) = [(V.slice S3.next 0 2 2 1 true)] ∧ CallA P (N Fn.store_Store_Put) [x25a, (V.agg [(V.int .i64 1), (V.slice S3.next 0 2 2 1 true)])] S4 (retT [(.one (.int .i64)), (.one (.int .i64))] fun (x46a : Int) (x46b : Int) (S5 : St) => newS S5 (.cells [(V.int .i64 3), (V.int .i64 4)] true) fun S6 => V.cells (V.slice S5.next 0 2 2 1 true) = [(V.slice S5.next 0 2 2 1 true)] ∧ CallA P (N Fn.store_Store_Put) [x25a, (V.agg [(V.int .i64 0), (V.slice S5.next 0 2 2 1 true)])] S6 (retT [(.one (.int .i64)), (.one (.int .i64))] fun (x53a : Int) (x53b : Int) (S7 : St) => CallA P (N Fn.store_Store_Sync) [x25a] S7 (retT [(.one (.int .i64))] fun (x57 : Int) (S8 : St) => newS S8 (.cells [(V.int .i64 5), (V.int .i64 5)] true) fun S9 => V.cells (V.slice S8.next 0 2 2 1 true) = [(V.slice S8.next 0 2 2 1 true)] ∧ CallA P (N Fn.store_Store_Put) [x25a, (V.agg [(V.int .i64 2), (V.slice S8.next 0 2 2 1 true)])] S9 (retT [(.one (.int .i64)), (.one (.int .i64))] fun (x62a : Int) (x62b : Int) (S10 : St) => CallA P (N Fn.store_Store_Delete) [x25a, (V.int .i64 1)] S10 (retT [(.one (.int .i64)), (.one (.int .i64))] fun (x67a : Int) (x67b : Int) (S11 : St) => CallA P (N Fn.store_Store_Since) [x25a, (V.int .i64 1)] S11 (retT [(.one .any), (.one (.int .i64))] fun (x72a : V) (x72b : Int) (S12 : St) => CallA P (N Fn.disk_Disk_Crash) [x20a, V.nilSlice] S12 (retT [(.one (.int .i64))] fun (x76 : Int) (S13 : St) => CallA P (N Fn.store_Open) [x20a, (V.int .i64 2)] S13 (retT [(.one .any), (.one (.int .i64))] fun (x79a : V) (x79b : Int) (S14 : St) => Join0 (fun (k2 : St → Prop) => ∃ x83 : Bool, eqV 1 [] x79a V.nilPtr = some x83 ∧ ifC x83 (K false S14) (ifC (!decide (x79b = (0 : Int))) (K false S14) (k2  S14))) (fun (S15 : St) => Join1 (fun (k3 : Bool → St → Prop) => ifC (decide (x46b = (0 : Int))) (ifC (decide (x46a = (1 : Int))) (ifC (decide (x53b = (50 : Int))) (ifC (decide (x57 = (0 : Int))) (ifC (decide (x62b = (0 : Int))) (ifC (decide (x62a = (2 : Int))) (ifC (decide (x67b = (0 : Int))) (ifC (decide (x67a = (3 : Int))) (ifC (decide (x72b = (0 : Int))) (∃ x124 : Int, lenV S15 2 x72a = some (V.int .i64 x124) ∧ ifC (decide (x124 = (2 : Int))) (ifS (idxAddrV 3 x72a (V.int .i64 1)) fun x129 => ifS (fieldAddrV 1 x129) fun x130 => ∃ x131 : Int, loadV S15 x130 = some (V.int .i64 x131) ∧ k3 (decide (x131 = (1 : Int))) S15) (k3 false S15)) (k3 false S15)) (k3 false S15)) (k3 false S15)) (k3 false S15)) (k3 false S15)) (k3 false S15)) (k3 false S15)) (k3 false S15)) (k3 false S15)) (fun (x18 : Bool) (S16 : St) => ifC x18 (CallA P (N Fn.store_Store_Seq) [x79a] S16 (retT [(.one (.int .i64))] fun (x137 : Int) (S17 : St) => ifC (decide ((1 : Int) ≤ x137)) (CallA P (N Fn.store_Store_Seq) [x79a] S17 (retT [(.one (.int .i64))] fun (x142 : Int) (S18 : St) => ifC (decide (x142 ≤ (3 : Int))) (CallA P (N Fn.store_Store_Safe) [x79a] S18 (retT [(.one (.int .i64))] fun (x147 : Int) (S19 : St) => CallA P (N Fn.store_Store_Seq) [x79a] S19 (retT [(.one (.int .i64))] fun (x149 : Int) (S20 : St) => ifC (decide (x147 = x149)) (CallA P (N Fn.store_Store_Len) [x79a] S20 (retT [(.one (.int .i64))] fun (x154 : Int) (S21 : St) => K (decide ((1 : Int) ≤ x154)) S21)) (K false S20)))) (K false S18))) (K false S17))) (K false S16))))))))))))))
abbrev law19_awake.Ok (P : Program) (N : Nat → Nat) : Prop := Reads P (N Fn.law19_awake) [(1, .no, [(.one .any), (.one (.int .i64))]), (6, .no, [(.one .any), (.one (.int .i64))]), (21, (.dt (.agg [(.int .i64), (.int .i64)])), []), (0, (.dt (.agg [(.int .i64), .any])), []), (0, .no, [(.one (.int .i64)), (.one (.int .i64))]), (6, (.dt (.agg [(.int .i64), (.int .i64)])), []), (0, (.dt (.agg [(.int .i64), .any])), []), (0, .no, [(.one (.int .i64)), (.one (.int .i64))]), (6, .no, [(.one (.int .i64))]), (2, (.dt (.agg [(.int .i64), (.int .i64)])), []), (0, (.dt (.agg [(.int .i64), .any])), []), (0, .no, [(.one (.int .i64)), (.one (.int .i64))]), (6, .no, [(.one (.int .i64)), (.one (.int .i64))]), (6, .no, [(.one .any), (.one (.int .i64))]), (6, .no, [(.one (.int .i64))]), (1, .no, [(.one .any), (.one (.int .i64))]), (48, (.dt (.one (.int .i64))), []), (6, (.dt (.one (.int .i64))), []), (6, .no, [(.one (.int .i64))]), (4, .no, [(.one (.int .i64))]), (4, .no, [(.one (.int .i64))]), (1, .no, [(.one (.int .i64))]), (4, .no, [(.one (.int .i64))])] [(3, []), (10, []), (2, [(18, (.one .bool))])] [] (fun A T (S : St) (K : Bool → St → Prop) => wpT P (envP P) T (endT A.results [(.one .bool)] K) (frT A []) S) (fun  S K => law19_awake.p P N  S K)
theorem law19_awake.run {P : Program} {N : Nat → Nat} (hF : law19_awake.Ok P N) {S : St} {K : Bool → St → Prop} (h : law19_awake.p P N  S K) : CallA P (N Fn.law19_awake) [] S (retT [(.one .bool)] K) := hF.run (fun q => q  S K) h rfl

end Go.Th.L
end

section
/- Functions of maps, read without frames (printed by tools/lib.py). -/
set_option linter.unusedVariables false
set_option maxRecDepth 100000
set_option maxHeartbeats 2000000
namespace Go.Th.L
open Go Go.Th

def maps_Keys_disk_names.p (P : Program) (N : Nat → Nat) (x0 : V) (S : St) (K : V → St → Prop) : Prop :=
  newS S (.cells (V.cells x0) true) fun S1 => K (V.func (.func (N Fn.maps_Keys_disk_names_1)) [] [(V.ptr S.next 0)]) S1
abbrev maps_Keys_disk_names.Ok (P : Program) (N : Nat → Nat) : Prop := Reads P (N Fn.maps_Keys_disk_names) [] [] [] (fun A T (x0 : V) (S : St) (K : V → St → Prop) => wpT P (envP P) T (endT A.results [(.one .any)] K) (frT A [x0]) S) (fun x0 S K => maps_Keys_disk_names.p P N x0 S K)
theorem maps_Keys_disk_names.run {P : Program} {N : Nat → Nat} (hF : maps_Keys_disk_names.Ok P N) {x0 : V} {S : St} {K : V → St → Prop} (h : maps_Keys_disk_names.p P N x0 S K) : CallA P (N Fn.maps_Keys_disk_names) [x0] S (retT [(.one .any)] K) := hF.run (fun q => q x0 S K) h rfl

def maps_Keys_disk_names_1.p (P : Program) (N : Nat → Nat) (x0 : V) (x1 : V) (S : St) (K : St → Prop) : Prop :=
  ifS (loadV S x1) fun x4 => anyK (rangeP S x4) fun x5 S1 => Loop0 (fun (k1 : St → Prop) (S2 : St) => anyK (nextP S2 x5) fun x6 S3 => ∃ x7 : Bool, extractV 0 x6 = some (V.bool x7) ∧ ifC x7 (ifS (entryV S3 x5) fun x8 => ∃ x9 : List UInt8, extractV 0 x8 = some (V.str x9) ∧ ifS (calleeV (envP P) x0 [(V.str x9)]) fun xf => CallA P xf.1 xf.2 S3 (retT [(.one .bool)] fun (x12 : Bool) (S4 : St) => ifC (!x12) (K  S4) (k1  S4))) (K  S3)) S1
abbrev maps_Keys_disk_names_1.Ok (P : Program) (N : Nat → Nat) : Prop := Reads P (N Fn.maps_Keys_disk_names_1) [(3, (.dt (.one .bool)), []), (1, (.dt (.one .str)), []), (3, .no, [(.one .bool)])] [] [[]] (fun A T (x0 : V) (x1 : V) (S : St) (K : St → Prop) => wpT P (envP P) T (endT A.results [] K) (frT A [x0, x1]) S) (fun x0 x1 S K => maps_Keys_disk_names_1.p P N x0 x1 S K)
theorem maps_Keys_disk_names_1.run {P : Program} {N : Nat → Nat} (hF : maps_Keys_disk_names_1.Ok P N) {x0 : V} {x1 : V} {S : St} {K : St → Prop} (h : maps_Keys_disk_names_1.p P N x0 x1 S K) : CallA P (N Fn.maps_Keys_disk_names_1) [x0, x1] S (retT [] K) := hF.run (fun q => q x0 x1 S K) h rfl

end Go.Th.L
end

section
/- Functions of slicesByte, read without frames (printed by tools/lib.py). -/
set_option linter.unusedVariables false
set_option maxRecDepth 100000
set_option maxHeartbeats 2000000
namespace Go.Th.L
open Go Go.Th

def slices_Clone_Lbyte.p (P : Program) (N : Nat → Nat) (x0 : V) (S : St) (K : V → St → Prop) : Prop :=
  ∃ x4 : Bool, eqV 2 [] x0 V.nilSlice = some x4 ∧ ifC x4 (K V.nilSlice S) (newS S (.cells [] true) fun S1 => ifP (appV S1 1 1 (V.slice S.next 0 0 0 1 true) x0) fun x7 S2 => K x7 S2)
abbrev slices_Clone_Lbyte.Ok (P : Program) (N : Nat → Nat) : Prop := Reads P (N Fn.slices_Clone_Lbyte) [(4, (.dt (.agg [])), [])] [] [] (fun A T (x0 : V) (S : St) (K : V → St → Prop) => wpT P (envP P) T (endT A.results [(.one .any)] K) (frT A [x0]) S) (fun x0 S K => slices_Clone_Lbyte.p P N x0 S K)
theorem slices_Clone_Lbyte.run {P : Program} {N : Nat → Nat} (hF : slices_Clone_Lbyte.Ok P N) {x0 : V} {S : St} {K : V → St → Prop} (h : slices_Clone_Lbyte.p P N x0 S K) : CallA P (N Fn.slices_Clone_Lbyte) [x0] S (retT [(.one .any)] K) := hF.run (fun q => q x0 S K) h rfl

end Go.Th.L
end

section
/- Functions of slicesInt, read without frames (printed by tools/lib.py). -/
set_option linter.unusedVariables false
set_option maxRecDepth 100000
set_option maxHeartbeats 2000000
namespace Go.Th.L
open Go Go.Th

def slices_Clone_Lint.p (P : Program) (N : Nat → Nat) (x0 : V) (S : St) (K : V → St → Prop) : Prop :=
  ∃ x4 : Bool, eqV 2 [] x0 V.nilSlice = some x4 ∧ ifC x4 (K V.nilSlice S) (newS S (.cells [] true) fun S1 => ifP (appV S1 1 8 (V.slice S.next 0 0 0 1 true) x0) fun x7 S2 => K x7 S2)
abbrev slices_Clone_Lint.Ok (P : Program) (N : Nat → Nat) : Prop := Reads P (N Fn.slices_Clone_Lint) [(4, (.dt (.agg [])), [])] [] [] (fun A T (x0 : V) (S : St) (K : V → St → Prop) => wpT P (envP P) T (endT A.results [(.one .any)] K) (frT A [x0]) S) (fun x0 S K => slices_Clone_Lint.p P N x0 S K)
theorem slices_Clone_Lint.run {P : Program} {N : Nat → Nat} (hF : slices_Clone_Lint.Ok P N) {x0 : V} {S : St} {K : V → St → Prop} (h : slices_Clone_Lint.p P N x0 S K) : CallA P (N Fn.slices_Clone_Lint) [x0] S (retT [(.one .any)] K) := hF.run (fun q => q x0 S K) h rfl

end Go.Th.L
end

section
/- Functions of slicesStr, read without frames (printed by tools/lib.py). -/
set_option linter.unusedVariables false
set_option maxRecDepth 100000
set_option maxHeartbeats 2000000
namespace Go.Th.L
open Go Go.Th

def slices_Sorted_string.p (P : Program) (N : Nat → Nat) (x0 : V) (S : St) (K : V → St → Prop) : Prop :=
  CallA P (N Fn.slices_Collect_string) [x0] S (retT [(.one .any)] fun (x5 : V) (S1 : St) => CallA P (N Fn.slices_Sort_Lstring) [x5] S1 (retT [] fun (S2 : St) => K x5 S2))
abbrev slices_Sorted_string.Ok (P : Program) (N : Nat → Nat) : Prop := Reads P (N Fn.slices_Sorted_string) [(2, .no, [(.one .any)])] [] [] (fun A T (x0 : V) (S : St) (K : V → St → Prop) => wpT P (envP P) T (endT A.results [(.one .any)] K) (frT A [x0]) S) (fun x0 S K => slices_Sorted_string.p P N x0 S K)
theorem slices_Sorted_string.run {P : Program} {N : Nat → Nat} (hF : slices_Sorted_string.Ok P N) {x0 : V} {S : St} {K : V → St → Prop} (h : slices_Sorted_string.p P N x0 S K) : CallA P (N Fn.slices_Sorted_string) [x0] S (retT [(.one .any)] K) := hF.run (fun q => q x0 S K) h rfl

def slices_Collect_string.p (P : Program) (N : Nat → Nat) (x0 : V) (S : St) (K : V → St → Prop) : Prop :=
  CallA P (N Fn.slices_AppendSeq_Lstring) [V.nilSlice, x0] S (retT [(.one .any)] fun (x4 : V) (S1 : St) => K x4 S1)
abbrev slices_Collect_string.Ok (P : Program) (N : Nat → Nat) : Prop := Reads P (N Fn.slices_Collect_string) [(2, .no, [(.one .any)])] [] [] (fun A T (x0 : V) (S : St) (K : V → St → Prop) => wpT P (envP P) T (endT A.results [(.one .any)] K) (frT A [x0]) S) (fun x0 S K => slices_Collect_string.p P N x0 S K)
theorem slices_Collect_string.run {P : Program} {N : Nat → Nat} (hF : slices_Collect_string.Ok P N) {x0 : V} {S : St} {K : V → St → Prop} (h : slices_Collect_string.p P N x0 S K) : CallA P (N Fn.slices_Collect_string) [x0] S (retT [(.one .any)] K) := hF.run (fun q => q x0 S K) h rfl

end Go.Th.L
end

section
/- Functions of store, read without frames (printed by tools/lib.py). -/
set_option linter.unusedVariables false
set_option maxRecDepth 100000
set_option maxHeartbeats 2000000
namespace Go.Th.L
open Go Go.Th

def store_Open.p (P : Program) (N : Nat → Nat) (x0 : V) (x1 : Int) (S : St) (K : V → Int → St → Prop) : Prop :=
  newS S (.cells [V.nilPtr] true) fun S1 => newS S1 (.cells [(V.int .i64 0)] true) fun S2 => ifS (calleeD (envP P) (V.func (.func (N Fn.store_Open_1)) [] [(V.ptr S1.next 0), (V.ptr S.next 0)]) []) fun xd => ifS (calleeD (envP P) (V.func (.func (N Fn.store_caught)) [] []) [(V.ptr S1.next 0)]) fun xd_1 => ∃ x27 : Bool, eqV 1 [] x0 V.nilPtr = some x27 ∧ ifC x27 (ifS (storeV S2 1 (V.ptr S.next 0) V.nilPtr) fun S3 => ifS (storeV S3 1 (V.ptr S1.next 0) (V.int .i64 3)) fun S4 => CallD P xd_1.1 xd_1.2 none S4 fun (xb : Bool) (S5 : St) => CallD P xd.1 xd.2 none S5 fun (xb_1 : Bool) (S6 : St) => ∃ xr : V, cell1V S6 (V.ptr S.next 0) = some xr ∧ ∃ xr_1 : Int, cell1V S6 (V.ptr S1.next 0) = some (V.int .i64 xr_1) ∧ K xr xr_1 S6) (Join1 (fun (k1 : Bool → St → Prop) => ifC (decide (x1 < (1 : Int))) (k1 true S2) (k1 (decide ((64 : Int) < x1)) S2)) (fun (x28 : Bool) (S7 : St) => ifC x28 (ifS (storeV S7 1 (V.ptr S.next 0) V.nilPtr) fun S8 => ifS (storeV S8 1 (V.ptr S1.next 0) (V.int .i64 30)) fun S9 => CallD P xd_1.1 xd_1.2 none S9 fun (xb_2 : Bool) (S10 : St) => CallD P xd.1 xd.2 none S10 fun (xb_3 : Bool) (S11 : St) => ∃ xr_2 : V, cell1V S11 (V.ptr S.next 0) = some xr_2 ∧ ∃ xr_3 : Int, cell1V S11 (V.ptr S1.next 0) = some (V.int .i64 xr_3) ∧ K xr_2 xr_3 S11) (newS S7 (.map [] true) fun S12 => V.cells x0 = [x0] ∧ V.cells (V.map S7.next) = [(V.map S7.next)] ∧ newS S12 (.cells [(V.int .i64 x1), x0, V.nilPtr, (V.map S7.next), (V.int .i64 0), (V.int .i64 0), V.nilSlice] true) fun S13 => ifS (storeV S13 1 (V.ptr S.next 0) (V.ptr S12.next 0)) fun S14 => CallA P (N Fn.disk_Disk_Read) [x0, (V.str ([115, 110, 97, 112, 46, 110, 111, 119] : List UInt8))] S14 (retK [(.one .any), (.one (.int .i64))] (panD P [xd_1, xd] fun (S16 : St) => ∃ xr_4 : V, cell1V S16 (V.ptr S.next 0) = some xr_4 ∧ ∃ xr_5 : Int, cell1V S16 (V.ptr S1.next 0) = some (V.int .i64 xr_5) ∧ K xr_4 xr_5 S16) fun (x42a : V) (x42b : Int) (S15 : St) => ifS (storeV S15 1 (V.ptr S1.next 0) (V.int .i64 x42b)) fun S17 => ∃ x45 : Int, loadV S17 (V.ptr S1.next 0) = some (V.int .i64 x45) ∧ ifC (decide (x45 = (0 : Int))) (CallA P (N Fn.codec_Decode) [x42a] S17 (retK [(.one (.int .i64)), (.one .str), (.one (.int .i64)), (.one (.int .i64))] (panD P [xd_1, xd] fun (S19 : St) => ∃ xr_6 : V, cell1V S19 (V.ptr S.next 0) = some xr_6 ∧ ∃ xr_7 : Int, cell1V S19 (V.ptr S1.next 0) = some (V.int .i64 xr_7) ∧ K xr_6 xr_7 S19) fun (x49a : Int) (x49b : List UInt8) (x49c : Int) (x49d : Int) (S18 : St) => Join0 (fun (k2 : St → Prop) => ifC (!decide (x49d = (0 : Int))) (CallA P (N Fn.store_must) [(V.int .i64 192)] S18 (retK [] (panD P [xd_1, xd] fun (S22 : St) => ∃ xr_8 : V, cell1V S22 (V.ptr S.next 0) = some xr_8 ∧ ∃ xr_9 : Int, cell1V S22 (V.ptr S1.next 0) = some (V.int .i64 xr_9) ∧ K xr_8 xr_9 S22) fun (S21 : St) => k2  S21)) (k2  S18)) (fun (S20 : St) => CallA P (N Fn.store_take) [(V.str x49b)] S20 (retK [(.one (.int .i64)), (.one .str)] (panD P [xd_1, xd] fun (S24 : St) => ∃ xr_10 : V, cell1V S24 (V.ptr S.next 0) = some xr_10 ∧ ∃ xr_11 : Int, cell1V S24 (V.ptr S1.next 0) = some (V.int .i64 xr_11) ∧ K xr_10 xr_11 S24) fun (x59a : Int) (x59b : List UInt8) (S23 : St) => CallA P (N Fn.codec_GetRows) [(V.str x59b)] S23 (retK [(.one .any), (.one (.int .i64))] (panD P [xd_1, xd] fun (S26 : St) => ∃ xr_12 : V, cell1V S26 (V.ptr S.next 0) = some xr_12 ∧ ∃ xr_13 : Int, cell1V S26 (V.ptr S1.next 0) = some (V.int .i64 xr_13) ∧ K xr_12 xr_13 S26) fun (x64a : V) (x64b : Int) (S25 : St) => Join0 (fun (k3 : St → Prop) => Join1 (fun (k4 : Bool → St → Prop) => ifC (!decide (x64b = (0 : Int))) (k4 true S25) (CallA P (N Fn.flat_Check) [x64a, (V.int .i64 x1)] S25 (retK [(.one (.int .i64))] (panD P [xd_1, xd] fun (S30 : St) => ∃ xr_14 : V, cell1V S30 (V.ptr S.next 0) = some xr_14 ∧ ∃ xr_15 : Int, cell1V S30 (V.ptr S1.next 0) = some (V.int .i64 xr_15) ∧ K xr_14 xr_15 S30) fun (x72 : Int) (S29 : St) => k4 (!decide (x72 = (0 : Int))) S29))) (fun (x74 : Bool) (S28 : St) => ifC x74 (CallA P (N Fn.store_must) [(V.int .i64 192)] S28 (retK [] (panD P [xd_1, xd] fun (S32 : St) => ∃ xr_16 : V, cell1V S32 (V.ptr S.next 0) = some xr_16 ∧ ∃ xr_17 : Int, cell1V S32 (V.ptr S1.next 0) = some (V.int .i64 xr_17) ∧ K xr_16 xr_17 S32) fun (S31 : St) => k3  S31)) (k3  S28))) (fun (S27 : St) => ifS (loadV S27 (V.ptr S.next 0)) fun x76 => nilV x76 = some x76 ∧ ifS (fieldAddrV 4 x76) fun x79 => ifS (storeV S27 1 x79 (V.int .i64 x59a)) fun S33 => ∃ x81 : Int, lenV S33 2 x64a = some (V.int .i64 x81) ∧ Loop1 (fun (k5 : Int → St → Prop) (x82 : Int) (S34 : St) => ifC (decide (x82 < x81)) (ifS (idxAddrV 2 x64a (V.int .i64 x82)) fun x84 => ∃ x85_a : Int, ∃ x85_b : V, loadNV S34 2 x84 = some (V.agg [(V.int .i64 x85_a), x85_b]) ∧ newS S34 (.cells [(V.int .i64 0), V.nilSlice] true) fun S35 => ifS (storeV S35 2 (V.ptr S34.next 0) (V.agg [(V.int .i64 x85_a), x85_b])) fun S36 => ifS (loadV S36 (V.ptr S.next 0)) fun x86 => nilV x86 = some x86 ∧ ifS (fieldAddrV 3 x86) fun x88 => ifS (loadV S36 x88) fun x89 => ∃ x91 : Int, loadV S36 (V.ptr S34.next 0) = some (V.int .i64 x91) ∧ ifS (loadV S36 (V.ptr S34.next 1)) fun x93 => ifS (mapUpdV S36 1 x89 (V.int .i64 x91) x93) fun S37 => setI (IntKind.i64.wrap (x82 + (1 : Int))) fun x94 => k5 x94 S37) (CallA P (N Fn.wal_Open) [x0] S34 (retK [(.one .any), (.one .any), (.one (.int .i64))] (panD P [xd_1, xd] fun (S39 : St) => ∃ xr_18 : V, cell1V S39 (V.ptr S.next 0) = some xr_18 ∧ ∃ xr_19 : Int, cell1V S39 (V.ptr S1.next 0) = some (V.int .i64 xr_19) ∧ K xr_18 xr_19 S39) fun (x101a : V) (x101b : V) (x101c : Int) (S38 : St) => ifS (storeV S38 1 (V.ptr S1.next 0) (V.int .i64 x101c)) fun S40 => ∃ x105 : Int, loadV S40 (V.ptr S1.next 0) = some (V.int .i64 x105) ∧ CallA P (N Fn.store_must) [(V.int .i64 x105)] S40 (retK [] (panD P [xd_1, xd] fun (S42 : St) => ∃ xr_20 : V, cell1V S42 (V.ptr S.next 0) = some xr_20 ∧ ∃ xr_21 : Int, cell1V S42 (V.ptr S1.next 0) = some (V.int .i64 xr_21) ∧ K xr_20 xr_21 S42) fun (S41 : St) => ifS (loadV S41 (V.ptr S.next 0)) fun x107 => nilV x107 = some x107 ∧ ifS (fieldAddrV 2 x107) fun x110 => ifS (storeV S41 1 x110 x101a) fun S43 => ∃ x112 : Int, lenV S43 2 x101b = some (V.int .i64 x112) ∧ Loop1 (fun (k6 : Int → St → Prop) (x113 : Int) (S44 : St) => ifC (decide (x113 < x112)) (ifS (idxAddrV 2 x101b (V.int .i64 x113)) fun x115 => ∃ x116_a : Int, ∃ x116_b : List UInt8, loadNV S44 2 x115 = some (V.agg [(V.int .i64 x116_a), (V.str x116_b)]) ∧ newS S44 (.cells [(V.int .i64 0), (V.str ([] : List UInt8))] true) fun S45 => ifS (storeV S45 2 (V.ptr S44.next 0) (V.agg [(V.int .i64 x116_a), (V.str x116_b)])) fun S46 => ∃ x119 : List UInt8, loadV S46 (V.ptr S44.next 1) = some (V.str x119) ∧ CallA P (N Fn.store_take) [(V.str x119)] S46 (retK [(.one (.int .i64)), (.one .str)] (panD P [xd_1, xd] fun (S48 : St) => ∃ xr_22 : V, cell1V S48 (V.ptr S.next 0) = some xr_22 ∧ ∃ xr_23 : Int, cell1V S48 (V.ptr S1.next 0) = some (V.int .i64 xr_23) ∧ K xr_22 xr_23 S48) fun (x120a : Int) (x120b : List UInt8) (S47 : St) => ifS (loadV S47 (V.ptr S.next 0)) fun x124 => nilV x124 = some x124 ∧ ifS (fieldAddrV 4 x124) fun x126 => ∃ x127 : Int, loadV S47 x126 = some (V.int .i64 x127) ∧ ifC (decide (x120a ≤ x127)) (setI (IntKind.i64.wrap (x113 + (1 : Int))) fun x153 => k6 x153 S47) (CallA P (N Fn.codec_GetChange) [(V.str x120b)] S47 (retK [(.agg [(.int .i64), (.int .i64), .any]), (.one (.int .i64))] (panD P [xd_1, xd] fun (S50 : St) => ∃ xr_24 : V, cell1V S50 (V.ptr S.next 0) = some xr_24 ∧ ∃ xr_25 : Int, cell1V S50 (V.ptr S1.next 0) = some (V.int .i64 xr_25) ∧ K xr_24 xr_25 S50) fun (x131a_a : Int) (x131a_b : Int) (x131a_c : V) (x131b : Int) (S49 : St) => newS S49 (.cells [(V.int .i64 0), (V.int .i64 0), V.nilSlice] true) fun S51 => ifS (storeV S51 3 (V.ptr S49.next 0) (V.agg [(V.int .i64 x131a_a), (V.int .i64 x131a_b), x131a_c])) fun S52 => Join0 (fun (k7 : St → Prop) => Join1 (fun (k8 : Bool → St → Prop) => ifC (!decide (x131b = (0 : Int))) (k8 true S52) (ifS (loadV S52 (V.ptr S.next 0)) fun x138 => nilV x138 = some x138 ∧ ifS (fieldAddrV 4 x138) fun x140 => ∃ x141 : Int, loadV S52 x140 = some (V.int .i64 x141) ∧ setI (IntKind.i64.wrap (x141 + (1 : Int))) fun x142 => k8 (!decide (x120a = x142)) S52)) (fun (x144 : Bool) (S54 : St) => ifC x144 (CallA P (N Fn.store_must) [(V.int .i64 192)] S54 (retK [] (panD P [xd_1, xd] fun (S56 : St) => ∃ xr_26 : V, cell1V S56 (V.ptr S.next 0) = some xr_26 ∧ ∃ xr_27 : Int, cell1V S56 (V.ptr S1.next 0) = some (V.int .i64 xr_27) ∧ K xr_26 xr_27 S56) fun (S55 : St) => k7  S55)) (k7  S54))) (fun (S53 : St) => ifS (loadV S53 (V.ptr S.next 0)) fun x146 => ∃ x147_a x147_b : Int, ∃ x147_c : V, loadNV S53 3 (V.ptr S49.next 0) = some (V.agg [(V.int .i64 x147_a), (V.int .i64 x147_b), x147_c]) ∧ CallA P (N Fn.store_Store_do) [x146, (V.agg [(V.int .i64 x147_a), (V.int .i64 x147_b), x147_c])] S53 (retK [] (panD P [xd_1, xd] fun (S58 : St) => ∃ xr_28 : V, cell1V S58 (V.ptr S.next 0) = some xr_28 ∧ ∃ xr_29 : Int, cell1V S58 (V.ptr S1.next 0) = some (V.int .i64 xr_29) ∧ K xr_28 xr_29 S58) fun (S57 : St) => ifS (loadV S57 (V.ptr S.next 0)) fun x149 => nilV x149 = some x149 ∧ ifS (fieldAddrV 4 x149) fun x152 => ifS (storeV S57 1 x152 (V.int .i64 x120a)) fun S59 => setI (IntKind.i64.wrap (x113 + (1 : Int))) fun x153_1 => k6 x153_1 S59)))))) (ifS (loadV S44 (V.ptr S.next 0)) fun x154 => ifS (loadV S44 (V.ptr S.next 0)) fun x155 => nilV x155 = some x155 ∧ ifS (fieldAddrV 4 x155) fun x157 => ∃ x158 : Int, loadV S44 x157 = some (V.int .i64 x158) ∧ nilV x154 = some x154 ∧ ifS (fieldAddrV 5 x154) fun x160 => ifS (storeV S44 1 x160 (V.int .i64 x158)) fun S60 => ifS (loadV S60 (V.ptr S.next 0)) fun x161 => ifS (storeV S60 1 (V.ptr S.next 0) x161) fun S61 => ifS (storeV S61 1 (V.ptr S1.next 0) (V.int .i64 0)) fun S62 => CallD P xd_1.1 xd_1.2 none S62 fun (xb_4 : Bool) (S63 : St) => CallD P xd.1 xd.2 none S63 fun (xb_5 : Bool) (S64 : St) => ∃ xr_30 : V, cell1V S64 (V.ptr S.next 0) = some xr_30 ∧ ∃ xr_31 : Int, cell1V S64 (V.ptr S1.next 0) = some (V.int .i64 xr_31) ∧ K xr_30 xr_31 S64)) 0 S43)))) 0 S33)))))) (∃ x95 : Int, loadV S17 (V.ptr S1.next 0) = some (V.int .i64 x95) ∧ ifC (!decide (x95 = (172 : Int))) (∃ x97 : Int, loadV S17 (V.ptr S1.next 0) = some (V.int .i64 x97) ∧ CallA P (N Fn.store_must) [(V.int .i64 x97)] S17 (retK [] (panD P [xd_1, xd] fun (S66 : St) => ∃ xr_32 : V, cell1V S66 (V.ptr S.next 0) = some xr_32 ∧ ∃ xr_33 : Int, cell1V S66 (V.ptr S1.next 0) = some (V.int .i64 xr_33) ∧ K xr_32 xr_33 S66) fun (S65 : St) => CallA P (N Fn.wal_Open) [x0] S65 (retK [(.one .any), (.one .any), (.one (.int .i64))] (panD P [xd_1, xd] fun (S68 : St) => ∃ xr_34 : V, cell1V S68 (V.ptr S.next 0) = some xr_34 ∧ ∃ xr_35 : Int, cell1V S68 (V.ptr S1.next 0) = some (V.int .i64 xr_35) ∧ K xr_34 xr_35 S68) fun (x101a_1 : V) (x101b_1 : V) (x101c_1 : Int) (S67 : St) => ifS (storeV S67 1 (V.ptr S1.next 0) (V.int .i64 x101c_1)) fun S69 => ∃ x105_1 : Int, loadV S69 (V.ptr S1.next 0) = some (V.int .i64 x105_1) ∧ CallA P (N Fn.store_must) [(V.int .i64 x105_1)] S69 (retK [] (panD P [xd_1, xd] fun (S71 : St) => ∃ xr_36 : V, cell1V S71 (V.ptr S.next 0) = some xr_36 ∧ ∃ xr_37 : Int, cell1V S71 (V.ptr S1.next 0) = some (V.int .i64 xr_37) ∧ K xr_36 xr_37 S71) fun (S70 : St) => ifS (loadV S70 (V.ptr S.next 0)) fun x107_1 => nilV x107_1 = some x107_1 ∧ ifS (fieldAddrV 2 x107_1) fun x110_1 => ifS (storeV S70 1 x110_1 x101a_1) fun S72 => ∃ x112_1 : Int, lenV S72 2 x101b_1 = some (V.int .i64 x112_1) ∧ Loop1 (fun (k9 : Int → St → Prop) (x113_1 : Int) (S73 : St) => ifC (decide (x113_1 < x112_1)) (ifS (idxAddrV 2 x101b_1 (V.int .i64 x113_1)) fun x115_1 => ∃ x116_a_1 : Int, ∃ x116_b_1 : List UInt8, loadNV S73 2 x115_1 = some (V.agg [(V.int .i64 x116_a_1), (V.str x116_b_1)]) ∧ newS S73 (.cells [(V.int .i64 0), (V.str ([] : List UInt8))] true) fun S74 => ifS (storeV S74 2 (V.ptr S73.next 0) (V.agg [(V.int .i64 x116_a_1), (V.str x116_b_1)])) fun S75 => ∃ x119_1 : List UInt8, loadV S75 (V.ptr S73.next 1) = some (V.str x119_1) ∧ CallA P (N Fn.store_take) [(V.str x119_1)] S75 (retK [(.one (.int .i64)), (.one .str)] (panD P [xd_1, xd] fun (S77 : St) => ∃ xr_38 : V, cell1V S77 (V.ptr S.next 0) = some xr_38 ∧ ∃ xr_39 : Int, cell1V S77 (V.ptr S1.next 0) = some (V.int .i64 xr_39) ∧ K xr_38 xr_39 S77) fun (x120a_1 : Int) (x120b_1 : List UInt8) (S76 : St) => ifS (loadV S76 (V.ptr S.next 0)) fun x124_1 => nilV x124_1 = some x124_1 ∧ ifS (fieldAddrV 4 x124_1) fun x126_1 => ∃ x127_1 : Int, loadV S76 x126_1 = some (V.int .i64 x127_1) ∧ ifC (decide (x120a_1 ≤ x127_1)) (setI (IntKind.i64.wrap (x113_1 + (1 : Int))) fun x153_2 => k9 x153_2 S76) (CallA P (N Fn.codec_GetChange) [(V.str x120b_1)] S76 (retK [(.agg [(.int .i64), (.int .i64), .any]), (.one (.int .i64))] (panD P [xd_1, xd] fun (S79 : St) => ∃ xr_40 : V, cell1V S79 (V.ptr S.next 0) = some xr_40 ∧ ∃ xr_41 : Int, cell1V S79 (V.ptr S1.next 0) = some (V.int .i64 xr_41) ∧ K xr_40 xr_41 S79) fun (x131a_a_1 : Int) (x131a_b_1 : Int) (x131a_c_1 : V) (x131b_1 : Int) (S78 : St) => newS S78 (.cells [(V.int .i64 0), (V.int .i64 0), V.nilSlice] true) fun S80 => ifS (storeV S80 3 (V.ptr S78.next 0) (V.agg [(V.int .i64 x131a_a_1), (V.int .i64 x131a_b_1), x131a_c_1])) fun S81 => Join0 (fun (k10 : St → Prop) => Join1 (fun (k11 : Bool → St → Prop) => ifC (!decide (x131b_1 = (0 : Int))) (k11 true S81) (ifS (loadV S81 (V.ptr S.next 0)) fun x138_1 => nilV x138_1 = some x138_1 ∧ ifS (fieldAddrV 4 x138_1) fun x140_1 => ∃ x141_1 : Int, loadV S81 x140_1 = some (V.int .i64 x141_1) ∧ setI (IntKind.i64.wrap (x141_1 + (1 : Int))) fun x142_1 => k11 (!decide (x120a_1 = x142_1)) S81)) (fun (x144_1 : Bool) (S83 : St) => ifC x144_1 (CallA P (N Fn.store_must) [(V.int .i64 192)] S83 (retK [] (panD P [xd_1, xd] fun (S85 : St) => ∃ xr_42 : V, cell1V S85 (V.ptr S.next 0) = some xr_42 ∧ ∃ xr_43 : Int, cell1V S85 (V.ptr S1.next 0) = some (V.int .i64 xr_43) ∧ K xr_42 xr_43 S85) fun (S84 : St) => k10  S84)) (k10  S83))) (fun (S82 : St) => ifS (loadV S82 (V.ptr S.next 0)) fun x146_1 => ∃ x147_a_1 x147_b_1 : Int, ∃ x147_c_1 : V, loadNV S82 3 (V.ptr S78.next 0) = some (V.agg [(V.int .i64 x147_a_1), (V.int .i64 x147_b_1), x147_c_1]) ∧ CallA P (N Fn.store_Store_do) [x146_1, (V.agg [(V.int .i64 x147_a_1), (V.int .i64 x147_b_1), x147_c_1])] S82 (retK [] (panD P [xd_1, xd] fun (S87 : St) => ∃ xr_44 : V, cell1V S87 (V.ptr S.next 0) = some xr_44 ∧ ∃ xr_45 : Int, cell1V S87 (V.ptr S1.next 0) = some (V.int .i64 xr_45) ∧ K xr_44 xr_45 S87) fun (S86 : St) => ifS (loadV S86 (V.ptr S.next 0)) fun x149_1 => nilV x149_1 = some x149_1 ∧ ifS (fieldAddrV 4 x149_1) fun x152_1 => ifS (storeV S86 1 x152_1 (V.int .i64 x120a_1)) fun S88 => setI (IntKind.i64.wrap (x113_1 + (1 : Int))) fun x153_3 => k9 x153_3 S88)))))) (ifS (loadV S73 (V.ptr S.next 0)) fun x154_1 => ifS (loadV S73 (V.ptr S.next 0)) fun x155_1 => nilV x155_1 = some x155_1 ∧ ifS (fieldAddrV 4 x155_1) fun x157_1 => ∃ x158_1 : Int, loadV S73 x157_1 = some (V.int .i64 x158_1) ∧ nilV x154_1 = some x154_1 ∧ ifS (fieldAddrV 5 x154_1) fun x160_1 => ifS (storeV S73 1 x160_1 (V.int .i64 x158_1)) fun S89 => ifS (loadV S89 (V.ptr S.next 0)) fun x161_1 => ifS (storeV S89 1 (V.ptr S.next 0) x161_1) fun S90 => ifS (storeV S90 1 (V.ptr S1.next 0) (V.int .i64 0)) fun S91 => CallD P xd_1.1 xd_1.2 none S91 fun (xb_6 : Bool) (S92 : St) => CallD P xd.1 xd.2 none S92 fun (xb_7 : Bool) (S93 : St) => ∃ xr_46 : V, cell1V S93 (V.ptr S.next 0) = some xr_46 ∧ ∃ xr_47 : Int, cell1V S93 (V.ptr S1.next 0) = some (V.int .i64 xr_47) ∧ K xr_46 xr_47 S93)) 0 S72)))) (CallA P (N Fn.wal_Open) [x0] S17 (retK [(.one .any), (.one .any), (.one (.int .i64))] (panD P [xd_1, xd] fun (S95 : St) => ∃ xr_48 : V, cell1V S95 (V.ptr S.next 0) = some xr_48 ∧ ∃ xr_49 : Int, cell1V S95 (V.ptr S1.next 0) = some (V.int .i64 xr_49) ∧ K xr_48 xr_49 S95) fun (x101a_2 : V) (x101b_2 : V) (x101c_2 : Int) (S94 : St) => ifS (storeV S94 1 (V.ptr S1.next 0) (V.int .i64 x101c_2)) fun S96 => ∃ x105_2 : Int, loadV S96 (V.ptr S1.next 0) = some (V.int .i64 x105_2) ∧ CallA P (N Fn.store_must) [(V.int .i64 x105_2)] S96 (retK [] (panD P [xd_1, xd] fun (S98 : St) => ∃ xr_50 : V, cell1V S98 (V.ptr S.next 0) = some xr_50 ∧ ∃ xr_51 : Int, cell1V S98 (V.ptr S1.next 0) = some (V.int .i64 xr_51) ∧ K xr_50 xr_51 S98) fun (S97 : St) => ifS (loadV S97 (V.ptr S.next 0)) fun x107_2 => nilV x107_2 = some x107_2 ∧ ifS (fieldAddrV 2 x107_2) fun x110_2 => ifS (storeV S97 1 x110_2 x101a_2) fun S99 => ∃ x112_2 : Int, lenV S99 2 x101b_2 = some (V.int .i64 x112_2) ∧ Loop1 (fun (k12 : Int → St → Prop) (x113_2 : Int) (S100 : St) => ifC (decide (x113_2 < x112_2)) (ifS (idxAddrV 2 x101b_2 (V.int .i64 x113_2)) fun x115_2 => ∃ x116_a_2 : Int, ∃ x116_b_2 : List UInt8, loadNV S100 2 x115_2 = some (V.agg [(V.int .i64 x116_a_2), (V.str x116_b_2)]) ∧ newS S100 (.cells [(V.int .i64 0), (V.str ([] : List UInt8))] true) fun S101 => ifS (storeV S101 2 (V.ptr S100.next 0) (V.agg [(V.int .i64 x116_a_2), (V.str x116_b_2)])) fun S102 => ∃ x119_2 : List UInt8, loadV S102 (V.ptr S100.next 1) = some (V.str x119_2) ∧ CallA P (N Fn.store_take) [(V.str x119_2)] S102 (retK [(.one (.int .i64)), (.one .str)] (panD P [xd_1, xd] fun (S104 : St) => ∃ xr_52 : V, cell1V S104 (V.ptr S.next 0) = some xr_52 ∧ ∃ xr_53 : Int, cell1V S104 (V.ptr S1.next 0) = some (V.int .i64 xr_53) ∧ K xr_52 xr_53 S104) fun (x120a_2 : Int) (x120b_2 : List UInt8) (S103 : St) => ifS (loadV S103 (V.ptr S.next 0)) fun x124_2 => nilV x124_2 = some x124_2 ∧ ifS (fieldAddrV 4 x124_2) fun x126_2 => ∃ x127_2 : Int, loadV S103 x126_2 = some (V.int .i64 x127_2) ∧ ifC (decide (x120a_2 ≤ x127_2)) (setI (IntKind.i64.wrap (x113_2 + (1 : Int))) fun x153_4 => k12 x153_4 S103) (CallA P (N Fn.codec_GetChange) [(V.str x120b_2)] S103 (retK [(.agg [(.int .i64), (.int .i64), .any]), (.one (.int .i64))] (panD P [xd_1, xd] fun (S106 : St) => ∃ xr_54 : V, cell1V S106 (V.ptr S.next 0) = some xr_54 ∧ ∃ xr_55 : Int, cell1V S106 (V.ptr S1.next 0) = some (V.int .i64 xr_55) ∧ K xr_54 xr_55 S106) fun (x131a_a_2 : Int) (x131a_b_2 : Int) (x131a_c_2 : V) (x131b_2 : Int) (S105 : St) => newS S105 (.cells [(V.int .i64 0), (V.int .i64 0), V.nilSlice] true) fun S107 => ifS (storeV S107 3 (V.ptr S105.next 0) (V.agg [(V.int .i64 x131a_a_2), (V.int .i64 x131a_b_2), x131a_c_2])) fun S108 => Join0 (fun (k13 : St → Prop) => Join1 (fun (k14 : Bool → St → Prop) => ifC (!decide (x131b_2 = (0 : Int))) (k14 true S108) (ifS (loadV S108 (V.ptr S.next 0)) fun x138_2 => nilV x138_2 = some x138_2 ∧ ifS (fieldAddrV 4 x138_2) fun x140_2 => ∃ x141_2 : Int, loadV S108 x140_2 = some (V.int .i64 x141_2) ∧ setI (IntKind.i64.wrap (x141_2 + (1 : Int))) fun x142_2 => k14 (!decide (x120a_2 = x142_2)) S108)) (fun (x144_2 : Bool) (S110 : St) => ifC x144_2 (CallA P (N Fn.store_must) [(V.int .i64 192)] S110 (retK [] (panD P [xd_1, xd] fun (S112 : St) => ∃ xr_56 : V, cell1V S112 (V.ptr S.next 0) = some xr_56 ∧ ∃ xr_57 : Int, cell1V S112 (V.ptr S1.next 0) = some (V.int .i64 xr_57) ∧ K xr_56 xr_57 S112) fun (S111 : St) => k13  S111)) (k13  S110))) (fun (S109 : St) => ifS (loadV S109 (V.ptr S.next 0)) fun x146_2 => ∃ x147_a_2 x147_b_2 : Int, ∃ x147_c_2 : V, loadNV S109 3 (V.ptr S105.next 0) = some (V.agg [(V.int .i64 x147_a_2), (V.int .i64 x147_b_2), x147_c_2]) ∧ CallA P (N Fn.store_Store_do) [x146_2, (V.agg [(V.int .i64 x147_a_2), (V.int .i64 x147_b_2), x147_c_2])] S109 (retK [] (panD P [xd_1, xd] fun (S114 : St) => ∃ xr_58 : V, cell1V S114 (V.ptr S.next 0) = some xr_58 ∧ ∃ xr_59 : Int, cell1V S114 (V.ptr S1.next 0) = some (V.int .i64 xr_59) ∧ K xr_58 xr_59 S114) fun (S113 : St) => ifS (loadV S113 (V.ptr S.next 0)) fun x149_2 => nilV x149_2 = some x149_2 ∧ ifS (fieldAddrV 4 x149_2) fun x152_2 => ifS (storeV S113 1 x152_2 (V.int .i64 x120a_2)) fun S115 => setI (IntKind.i64.wrap (x113_2 + (1 : Int))) fun x153_5 => k12 x153_5 S115)))))) (ifS (loadV S100 (V.ptr S.next 0)) fun x154_2 => ifS (loadV S100 (V.ptr S.next 0)) fun x155_2 => nilV x155_2 = some x155_2 ∧ ifS (fieldAddrV 4 x155_2) fun x157_2 => ∃ x158_2 : Int, loadV S100 x157_2 = some (V.int .i64 x158_2) ∧ nilV x154_2 = some x154_2 ∧ ifS (fieldAddrV 5 x154_2) fun x160_2 => ifS (storeV S100 1 x160_2 (V.int .i64 x158_2)) fun S116 => ifS (loadV S116 (V.ptr S.next 0)) fun x161_2 => ifS (storeV S116 1 (V.ptr S.next 0) x161_2) fun S117 => ifS (storeV S117 1 (V.ptr S1.next 0) (V.int .i64 0)) fun S118 => CallD P xd_1.1 xd_1.2 none S118 fun (xb_8 : Bool) (S119 : St) => CallD P xd.1 xd.2 none S119 fun (xb_9 : Bool) (S120 : St) => ∃ xr_60 : V, cell1V S120 (V.ptr S.next 0) = some xr_60 ∧ ∃ xr_61 : Int, cell1V S120 (V.ptr S1.next 0) = some (V.int .i64 xr_61) ∧ K xr_60 xr_61 S120)) 0 S99))))))))
abbrev store_Open.Ok (P : Program) (N : Nat → Nat) : Prop := ReadsD P (N Fn.store_Open) [(20, (.dt (.agg [(.int .i64), .any, .any, .any, (.int .i64), (.int .i64), .any])), []), (3, .no, [(.one .any), (.one (.int .i64))]), (5, (.dt (.one (.int .i64))), []), (2, .no, [(.one (.int .i64)), (.one .str), (.one (.int .i64)), (.one (.int .i64))]), (13, .no, [(.one (.int .i64)), (.one .str)]), (6, .no, [(.one .any), (.one (.int .i64))]), (10, .no, [(.one (.int .i64))]), (9, (.dt (.one (.int .i64))), []), (3, (.dt (.agg [(.int .i64), .any])), []), (7, (.dt (.one (.int .i64))), []), (5, (.dt (.one (.int .i64))), []), (1, (.dt (.one (.int .i64))), []), (2, .no, [(.one .any), (.one .any), (.one (.int .i64))]), (7, (.dt (.one (.int .i64))), []), (7, (.dt (.one (.int .i64))), []), (3, (.dt (.agg [(.int .i64), .str])), []), (3, (.dt (.one .str)), []), (0, .no, [(.one (.int .i64)), (.one .str)]), (9, (.dt (.one (.int .i64))), []), (2, .no, [(.agg [(.int .i64), (.int .i64), .any]), (.one (.int .i64))]), (13, (.dt (.one (.int .i64))), []), (5, (.dt (.agg [(.int .i64), (.int .i64), .any])), []), (12, (.dt (.one (.int .i64))), [])] [(2, [(28, (.one .bool))]), (3, []), (3, []), (0, [(74, (.one .bool))]), (16, []), (0, [(144, (.one .bool))])] [[(82, (.one (.int .i64)))], [(113, (.one (.int .i64)))]] (fun A T (x0 : V) (x1 : Int) (S : St) (K : V → Int → St → Prop) => wpD P (envP P) T (endD P A.results [(.one .any), (.one (.int .i64))] K) [] (frD A [x0, (V.int .i64 x1)]) S) (fun x0 x1 S K => store_Open.p P N x0 x1 S K)
theorem store_Open.run {P : Program} {N : Nat → Nat} (hF : store_Open.Ok P N) {x0 : V} {x1 : Int} {S : St} {K : V → Int → St → Prop} (h : store_Open.p P N x0 x1 S K) : CallA P (N Fn.store_Open) [x0, (V.int .i64 x1)] S (retT [(.one .any), (.one (.int .i64))] K) := hF.run (fun q => q x0 x1 S K) h rfl

def store_Store_Put.p (P : Program) (N : Nat → Nat) (x0 : V) (x1_a : Int) (x1_b : V) (S : St) (K : Int → Int → St → Prop) : Prop :=
  newS S (.cells [(V.int .i64 x1_a), x1_b] true) fun S1 => ∃ x10 : Bool, eqV 1 [] x0 V.nilPtr = some x10 ∧ ifC x10 (K 0 3 S1) (nilV x0 = some x0 ∧ ifS (fieldAddrV 3 x0) fun x14 => ifS (loadV S1 x14) fun x15 => ∃ x17 : Int, loadV S1 (V.ptr S.next 0) = some (V.int .i64 x17) ∧ ∃ x18a : V, ∃ x18b : Bool, lookupV S1 1 V.nilSlice true x15 (V.int .i64 x17) = some (V.tuple [x18a, (V.bool x18b)]) ∧ ∃ x21_a : Int, ∃ x21_b : V, loadNV S1 2 (V.ptr S.next 0) = some (V.agg [(V.int .i64 x21_a), x21_b]) ∧ nilV x0 = some x0 ∧ ifS (fieldAddrV 0 x0) fun x24 => ∃ x25 : Int, loadV S1 x24 = some (V.int .i64 x25) ∧ nilV x0 = some x0 ∧ ifS (fieldAddrV 3 x0) fun x29 => ifS (loadV S1 x29) fun x30 => ∃ x31 : Int, lenV S1 3 x30 = some (V.int .i64 x31) ∧ CallA P (N Fn.flat_May) [(V.agg [(V.int .i64 x21_a), x21_b]), (V.int .i64 x25), (V.bool x18b), (V.int .i64 x31)] S1 (retT [(.one (.int .i64))] fun (x32 : Int) (S2 : St) => sameK (V.block x29 ++ []) S1 S2 (ifC (decide (x32 = (0 : Int))) (∃ x41 : Int, loadV S2 (V.ptr S.next 0) = some (V.int .i64 x41) ∧ ifS (loadV S2 (V.ptr S.next 1)) fun x43 => CallA P (N Fn.slices_Clone_Lint) [x43] S2 (retT [(.one .any)] fun (x44 : V) (S3 : St) => Same (S.next :: []) S2 S3 ∧ V.cells x44 = [x44] ∧ CallA P (N Fn.store_Store_change) [x0, (V.agg [(V.int .i64 1), (V.int .i64 x41), x44])] S3 (retT [(.one (.int .i64)), (.one (.int .i64))] fun (x46a : Int) (x46b : Int) (S4 : St) => Same (S.next :: (S.next :: [])) S3 S4 ∧ K x46a x46b S4))) (ifC (decide (x32 = (2 : Int))) (K 0 191 S2) (K 0 x32 S2)))))
abbrev store_Store_Put.Ok (P : Program) (N : Nat → Nat) : Prop := Reads P (N Fn.store_Store_Put) [(12, (.dt (.one (.int .i64))), []), (0, (.tup [(.one .any), (.one .bool)]), []), (5, (.dt (.agg [(.int .i64), .any])), []), (3, (.dt (.one (.int .i64))), []), (5, (.dt (.one (.int .i64))), []), (0, .no, [(.one (.int .i64))]), (13, (.dt (.one (.int .i64))), []), (2, .no, [(.one .any)]), (0, (.dt (.agg [(.int .i64), (.int .i64), .any])), []), (0, .no, [(.one (.int .i64)), (.one (.int .i64))])] [] [] (fun A T (x0 : V) (x1_a : Int) (x1_b : V) (S : St) (K : Int → Int → St → Prop) => wpT P (envP P) T (endT A.results [(.one (.int .i64)), (.one (.int .i64))] K) (frT A [x0, (V.agg [(V.int .i64 x1_a), x1_b])]) S) (fun x0 x1_a x1_b S K => store_Store_Put.p P N x0 x1_a x1_b S K)
theorem store_Store_Put.run {P : Program} {N : Nat → Nat} (hF : store_Store_Put.Ok P N) {x0 : V} {x1_a : Int} {x1_b : V} {S : St} {K : Int → Int → St → Prop} (h : store_Store_Put.p P N x0 x1_a x1_b S K) : CallA P (N Fn.store_Store_Put) [x0, (V.agg [(V.int .i64 x1_a), x1_b])] S (retT [(.one (.int .i64)), (.one (.int .i64))] K) := hF.run (fun q => q x0 x1_a x1_b S K) h rfl

def store_Store_Delete.p (P : Program) (N : Nat → Nat) (x0 : V) (x1 : Int) (S : St) (K : Int → Int → St → Prop) : Prop :=
  ∃ x9 : Bool, eqV 1 [] x0 V.nilPtr = some x9 ∧ ifC x9 (K 0 3 S) (nilV x0 = some x0 ∧ ifS (fieldAddrV 3 x0) fun x13 => ifS (loadV S x13) fun x14 => ∃ x16a : V, ∃ x16b : Bool, lookupV S 1 V.nilSlice true x14 (V.int .i64 x1) = some (V.tuple [x16a, (V.bool x16b)]) ∧ ifC (!x16b) (K 0 190 S) (CallA P (N Fn.store_Store_change) [x0, (V.agg [(V.int .i64 2), (V.int .i64 x1), V.nilSlice])] S (retT [(.one (.int .i64)), (.one (.int .i64))] fun (x24a : Int) (x24b : Int) (S1 : St) => K x24a x24b S1)))
abbrev store_Store_Delete.Ok (P : Program) (N : Nat → Nat) : Prop := Reads P (N Fn.store_Store_Delete) [(11, (.tup [(.one .any), (.one .bool)]), []), (11, (.dt (.agg [(.int .i64), (.int .i64), .any])), []), (0, .no, [(.one (.int .i64)), (.one (.int .i64))])] [] [] (fun A T (x0 : V) (x1 : Int) (S : St) (K : Int → Int → St → Prop) => wpT P (envP P) T (endT A.results [(.one (.int .i64)), (.one (.int .i64))] K) (frT A [x0, (V.int .i64 x1)]) S) (fun x0 x1 S K => store_Store_Delete.p P N x0 x1 S K)
theorem store_Store_Delete.run {P : Program} {N : Nat → Nat} (hF : store_Store_Delete.Ok P N) {x0 : V} {x1 : Int} {S : St} {K : Int → Int → St → Prop} (h : store_Store_Delete.p P N x0 x1 S K) : CallA P (N Fn.store_Store_Delete) [x0, (V.int .i64 x1)] S (retT [(.one (.int .i64)), (.one (.int .i64))] K) := hF.run (fun q => q x0 x1 S K) h rfl

def store_Store_Sync.p (P : Program) (N : Nat → Nat) (x0 : V) (S : St) (K : Int → St → Prop) : Prop :=
  ∃ x5 : Bool, eqV 1 [] x0 V.nilPtr = some x5 ∧ ifC x5 (K 3 S) (nilV x0 = some x0 ∧ ifS (fieldAddrV 2 x0) fun x8 => ifS (loadV S x8) fun x9 => CallA P (N Fn.wal_Log_Sync) [x9] S (retT [(.one (.int .i64))] fun (x10 : Int) (S1 : St) => ifC (!decide (x10 = (0 : Int))) (K x10 S1) (CallA P (N Fn.store_Store_Seq) [x0] S1 (retT [(.one (.int .i64))] fun (x16 : Int) (S2 : St) => nilV x0 = some x0 ∧ ifS (fieldAddrV 5 x0) fun x18 => ifS (storeV S2 1 x18 (V.int .i64 x16)) fun S3 => K 0 S3))))
abbrev store_Store_Sync.Ok (P : Program) (N : Nat → Nat) : Prop := Reads P (N Fn.store_Store_Sync) [(8, .no, [(.one (.int .i64))]), (7, .no, [(.one (.int .i64))])] [] [] (fun A T (x0 : V) (S : St) (K : Int → St → Prop) => wpT P (envP P) T (endT A.results [(.one (.int .i64))] K) (frT A [x0]) S) (fun x0 S K => store_Store_Sync.p P N x0 S K)
theorem store_Store_Sync.run {P : Program} {N : Nat → Nat} (hF : store_Store_Sync.Ok P N) {x0 : V} {S : St} {K : Int → St → Prop} (h : store_Store_Sync.p P N x0 S K) : CallA P (N Fn.store_Store_Sync) [x0] S (retT [(.one (.int .i64))] K) := hF.run (fun q => q x0 S K) h rfl

def store_Store_Snapshot.p (P : Program) (N : Nat → Nat) (x0 : V) (S : St) (K : Int → St → Prop) : Prop :=
  newS S (.cells [(V.int .i64 0)] true) fun S1 => ifS (calleeD (envP P) (V.func (.func (N Fn.store_caught)) [] []) [(V.ptr S.next 0)]) fun xd => CallA P (N Fn.store_Store_Sync) [x0] S1 (retK [(.one (.int .i64))] (panD P [xd] fun (S3 : St) => ∃ xr : Int, cell1V S3 (V.ptr S.next 0) = some (V.int .i64 xr) ∧ K xr S3) fun (x6 : Int) (S2 : St) => CallA P (N Fn.store_must) [(V.int .i64 x6)] S2 (retK [] (panD P [xd] fun (S5 : St) => ∃ xr_1 : Int, cell1V S5 (V.ptr S.next 0) = some (V.int .i64 xr_1) ∧ K xr_1 S5) fun (S4 : St) => CallA P (N Fn.store_Store_Rows) [x0] S4 (retK [(.one .any)] (panD P [xd] fun (S7 : St) => ∃ xr_2 : Int, cell1V S7 (V.ptr S.next 0) = some (V.int .i64 xr_2) ∧ K xr_2 S7) fun (x10 : V) (S6 : St) => CallA P (N Fn.codec_PutRows) [x10] S6 (retK [(.one .str), (.one (.int .i64))] (panD P [xd] fun (S9 : St) => ∃ xr_3 : Int, cell1V S9 (V.ptr S.next 0) = some (V.int .i64 xr_3) ∧ K xr_3 S9) fun (x11a : List UInt8) (x11b : Int) (S8 : St) => ifS (storeV S8 1 (V.ptr S.next 0) (V.int .i64 x11b)) fun S10 => ∃ x14 : Int, loadV S10 (V.ptr S.next 0) = some (V.int .i64 x14) ∧ CallA P (N Fn.store_must) [(V.int .i64 x14)] S10 (retK [] (panD P [xd] fun (S12 : St) => ∃ xr_4 : Int, cell1V S12 (V.ptr S.next 0) = some (V.int .i64 xr_4) ∧ K xr_4 S12) fun (S11 : St) => CallA P (N Fn.store_Store_Seq) [x0] S11 (retK [(.one (.int .i64))] (panD P [xd] fun (S14 : St) => ∃ xr_5 : Int, cell1V S14 (V.ptr S.next 0) = some (V.int .i64 xr_5) ∧ K xr_5 S14) fun (x18 : Int) (S13 : St) => CallA P (N Fn.store_lay) [(V.int .i64 x18)] S13 (retK [(.one .str)] (panD P [xd] fun (S16 : St) => ∃ xr_6 : Int, cell1V S16 (V.ptr S.next 0) = some (V.int .i64 xr_6) ∧ K xr_6 S16) fun (x19 : List UInt8) (S15 : St) => x19.length + x11a.length < 2 ^ 62 ∧ CallA P (N Fn.codec_Encode) [(V.int .i64 1), (V.str (x19 ++ x11a))] S15 (retK [(.one .any), (.one (.int .i64))] (panD P [xd] fun (S18 : St) => ∃ xr_7 : Int, cell1V S18 (V.ptr S.next 0) = some (V.int .i64 xr_7) ∧ K xr_7 S18) fun (x22a : V) (x22b : Int) (S17 : St) => ifS (storeV S17 1 (V.ptr S.next 0) (V.int .i64 x22b)) fun S19 => ∃ x25 : Int, loadV S19 (V.ptr S.next 0) = some (V.int .i64 x25) ∧ CallA P (N Fn.store_must) [(V.int .i64 x25)] S19 (retK [] (panD P [xd] fun (S21 : St) => ∃ xr_8 : Int, cell1V S21 (V.ptr S.next 0) = some (V.int .i64 xr_8) ∧ K xr_8 S21) fun (S20 : St) => nilV x0 = some x0 ∧ ifS (fieldAddrV 1 x0) fun x29 => ifS (loadV S20 x29) fun x30 => CallA P (N Fn.disk_Disk_Names) [x30] S20 (retK [(.one .any)] (panD P [xd] fun (S23 : St) => ∃ xr_9 : Int, cell1V S23 (V.ptr S.next 0) = some (V.int .i64 xr_9) ∧ K xr_9 S23) fun (x31 : V) (S22 : St) => CallA P (N Fn.slices_Contains_Lstring) [x31, (V.str ([115, 110, 97, 112, 46, 110, 101, 120, 116] : List UInt8))] S22 (retK [(.one .bool)] (panD P [xd] fun (S25 : St) => ∃ xr_10 : Int, cell1V S25 (V.ptr S.next 0) = some (V.int .i64 xr_10) ∧ K xr_10 S25) fun (x32 : Bool) (S24 : St) => ifC x32 (nilV x0 = some x0 ∧ ifS (fieldAddrV 1 x0) fun x35 => ifS (loadV S24 x35) fun x36 => CallA P (N Fn.disk_Disk_Remove) [x36, (V.str ([115, 110, 97, 112, 46, 110, 101, 120, 116] : List UInt8))] S24 (retK [(.one (.int .i64))] (panD P [xd] fun (S27 : St) => ∃ xr_11 : Int, cell1V S27 (V.ptr S.next 0) = some (V.int .i64 xr_11) ∧ K xr_11 S27) fun (x37 : Int) (S26 : St) => CallA P (N Fn.store_must) [(V.int .i64 x37)] S26 (retK [] (panD P [xd] fun (S29 : St) => ∃ xr_12 : Int, cell1V S29 (V.ptr S.next 0) = some (V.int .i64 xr_12) ∧ K xr_12 S29) fun (S28 : St) => nilV x0 = some x0 ∧ ifS (fieldAddrV 1 x0) fun x41 => ifS (loadV S28 x41) fun x42 => CallA P (N Fn.disk_Disk_Create) [x42, (V.str ([115, 110, 97, 112, 46, 110, 101, 120, 116] : List UInt8))] S28 (retK [(.one (.int .i64))] (panD P [xd] fun (S31 : St) => ∃ xr_13 : Int, cell1V S31 (V.ptr S.next 0) = some (V.int .i64 xr_13) ∧ K xr_13 S31) fun (x43 : Int) (S30 : St) => CallA P (N Fn.store_must) [(V.int .i64 x43)] S30 (retK [] (panD P [xd] fun (S33 : St) => ∃ xr_14 : Int, cell1V S33 (V.ptr S.next 0) = some (V.int .i64 xr_14) ∧ K xr_14 S33) fun (S32 : St) => nilV x0 = some x0 ∧ ifS (fieldAddrV 1 x0) fun x47 => ifS (loadV S32 x47) fun x48 => CallA P (N Fn.disk_Disk_Append) [x48, (V.str ([115, 110, 97, 112, 46, 110, 101, 120, 116] : List UInt8)), x22a] S32 (retK [(.one (.int .i64))] (panD P [xd] fun (S35 : St) => ∃ xr_15 : Int, cell1V S35 (V.ptr S.next 0) = some (V.int .i64 xr_15) ∧ K xr_15 S35) fun (x50 : Int) (S34 : St) => CallA P (N Fn.store_must) [(V.int .i64 x50)] S34 (retK [] (panD P [xd] fun (S37 : St) => ∃ xr_16 : Int, cell1V S37 (V.ptr S.next 0) = some (V.int .i64 xr_16) ∧ K xr_16 S37) fun (S36 : St) => nilV x0 = some x0 ∧ ifS (fieldAddrV 1 x0) fun x54 => ifS (loadV S36 x54) fun x55 => CallA P (N Fn.disk_Disk_Sync) [x55, (V.str ([115, 110, 97, 112, 46, 110, 101, 120, 116] : List UInt8))] S36 (retK [(.one (.int .i64))] (panD P [xd] fun (S39 : St) => ∃ xr_17 : Int, cell1V S39 (V.ptr S.next 0) = some (V.int .i64 xr_17) ∧ K xr_17 S39) fun (x56 : Int) (S38 : St) => CallA P (N Fn.store_must) [(V.int .i64 x56)] S38 (retK [] (panD P [xd] fun (S41 : St) => ∃ xr_18 : Int, cell1V S41 (V.ptr S.next 0) = some (V.int .i64 xr_18) ∧ K xr_18 S41) fun (S40 : St) => nilV x0 = some x0 ∧ ifS (fieldAddrV 1 x0) fun x60 => ifS (loadV S40 x60) fun x61 => CallA P (N Fn.disk_Disk_Rename) [x61, (V.str ([115, 110, 97, 112, 46, 110, 101, 120, 116] : List UInt8)), (V.str ([115, 110, 97, 112, 46, 110, 111, 119] : List UInt8))] S40 (retK [(.one (.int .i64))] (panD P [xd] fun (S43 : St) => ∃ xr_19 : Int, cell1V S43 (V.ptr S.next 0) = some (V.int .i64 xr_19) ∧ K xr_19 S43) fun (x62 : Int) (S42 : St) => CallA P (N Fn.store_must) [(V.int .i64 x62)] S42 (retK [] (panD P [xd] fun (S45 : St) => ∃ xr_20 : Int, cell1V S45 (V.ptr S.next 0) = some (V.int .i64 xr_20) ∧ K xr_20 S45) fun (S44 : St) => nilV x0 = some x0 ∧ ifS (fieldAddrV 1 x0) fun x66 => ifS (loadV S44 x66) fun x67 => CallA P (N Fn.disk_Disk_SyncDir) [x67] S44 (retK [(.one (.int .i64))] (panD P [xd] fun (S47 : St) => ∃ xr_21 : Int, cell1V S47 (V.ptr S.next 0) = some (V.int .i64 xr_21) ∧ K xr_21 S47) fun (x68 : Int) (S46 : St) => CallA P (N Fn.store_must) [(V.int .i64 x68)] S46 (retK [] (panD P [xd] fun (S49 : St) => ∃ xr_22 : Int, cell1V S49 (V.ptr S.next 0) = some (V.int .i64 xr_22) ∧ K xr_22 S49) fun (S48 : St) => nilV x0 = some x0 ∧ ifS (fieldAddrV 2 x0) fun x72 => ifS (loadV S48 x72) fun x73 => nilV x0 = some x0 ∧ ifS (fieldAddrV 2 x0) fun x76 => ifS (loadV S48 x76) fun x77 => CallA P (N Fn.wal_Log_Last) [x77] S48 (retK [(.one (.int .i64))] (fun _ _ => False) fun (x78 : Int) (S50 : St) => sameK (V.block x72 ++ []) S48 S50 (CallA P (N Fn.wal_Log_Cut) [x73, (V.int .i64 x78)] S50 (retK [(.one (.int .i64))] (fun _ _ => False) fun (x79 : Int) (S52 : St) => sameK (V.block x76 ++ []) S50 S52 (CallA P (N Fn.store_must) [(V.int .i64 x79)] S52 (retK [] (fun _ _ => False) fun (S54 : St) => sameK (V.block x76 ++ (V.block x72 ++ [])) S52 S54 (nilV x0 = some x0 ∧ ifS (fieldAddrV 2 x0) fun x83 => ifS (loadV S54 x83) fun x84 => CallA P (N Fn.wal_Log_Sync) [x84] S54 (retK [(.one (.int .i64))] (panD P [xd] fun (S57 : St) => ∃ xr_23 : Int, cell1V S57 (V.ptr S.next 0) = some (V.int .i64 xr_23) ∧ K xr_23 S57) fun (x85 : Int) (S56 : St) => CallA P (N Fn.store_must) [(V.int .i64 x85)] S56 (retK [] (panD P [xd] fun (S59 : St) => ∃ xr_24 : Int, cell1V S59 (V.ptr S.next 0) = some (V.int .i64 xr_24) ∧ K xr_24 S59) fun (S58 : St) => ifS (storeV S58 1 (V.ptr S.next 0) (V.int .i64 0)) fun S60 => CallD P xd.1 xd.2 none S60 fun (xb : Bool) (S61 : St) => ∃ xr_25 : Int, cell1V S61 (V.ptr S.next 0) = some (V.int .i64 xr_25) ∧ K xr_25 S61))))))))))))))))))))) (nilV x0 = some x0 ∧ ifS (fieldAddrV 1 x0) fun x41_1 => ifS (loadV S24 x41_1) fun x42_1 => CallA P (N Fn.disk_Disk_Create) [x42_1, (V.str ([115, 110, 97, 112, 46, 110, 101, 120, 116] : List UInt8))] S24 (retK [(.one (.int .i64))] (panD P [xd] fun (S63 : St) => ∃ xr_26 : Int, cell1V S63 (V.ptr S.next 0) = some (V.int .i64 xr_26) ∧ K xr_26 S63) fun (x43_1 : Int) (S62 : St) => CallA P (N Fn.store_must) [(V.int .i64 x43_1)] S62 (retK [] (panD P [xd] fun (S65 : St) => ∃ xr_27 : Int, cell1V S65 (V.ptr S.next 0) = some (V.int .i64 xr_27) ∧ K xr_27 S65) fun (S64 : St) => nilV x0 = some x0 ∧ ifS (fieldAddrV 1 x0) fun x47_1 => ifS (loadV S64 x47_1) fun x48_1 => CallA P (N Fn.disk_Disk_Append) [x48_1, (V.str ([115, 110, 97, 112, 46, 110, 101, 120, 116] : List UInt8)), x22a] S64 (retK [(.one (.int .i64))] (panD P [xd] fun (S67 : St) => ∃ xr_28 : Int, cell1V S67 (V.ptr S.next 0) = some (V.int .i64 xr_28) ∧ K xr_28 S67) fun (x50_1 : Int) (S66 : St) => CallA P (N Fn.store_must) [(V.int .i64 x50_1)] S66 (retK [] (panD P [xd] fun (S69 : St) => ∃ xr_29 : Int, cell1V S69 (V.ptr S.next 0) = some (V.int .i64 xr_29) ∧ K xr_29 S69) fun (S68 : St) => nilV x0 = some x0 ∧ ifS (fieldAddrV 1 x0) fun x54_1 => ifS (loadV S68 x54_1) fun x55_1 => CallA P (N Fn.disk_Disk_Sync) [x55_1, (V.str ([115, 110, 97, 112, 46, 110, 101, 120, 116] : List UInt8))] S68 (retK [(.one (.int .i64))] (panD P [xd] fun (S71 : St) => ∃ xr_30 : Int, cell1V S71 (V.ptr S.next 0) = some (V.int .i64 xr_30) ∧ K xr_30 S71) fun (x56_1 : Int) (S70 : St) => CallA P (N Fn.store_must) [(V.int .i64 x56_1)] S70 (retK [] (panD P [xd] fun (S73 : St) => ∃ xr_31 : Int, cell1V S73 (V.ptr S.next 0) = some (V.int .i64 xr_31) ∧ K xr_31 S73) fun (S72 : St) => nilV x0 = some x0 ∧ ifS (fieldAddrV 1 x0) fun x60_1 => ifS (loadV S72 x60_1) fun x61_1 => CallA P (N Fn.disk_Disk_Rename) [x61_1, (V.str ([115, 110, 97, 112, 46, 110, 101, 120, 116] : List UInt8)), (V.str ([115, 110, 97, 112, 46, 110, 111, 119] : List UInt8))] S72 (retK [(.one (.int .i64))] (panD P [xd] fun (S75 : St) => ∃ xr_32 : Int, cell1V S75 (V.ptr S.next 0) = some (V.int .i64 xr_32) ∧ K xr_32 S75) fun (x62_1 : Int) (S74 : St) => CallA P (N Fn.store_must) [(V.int .i64 x62_1)] S74 (retK [] (panD P [xd] fun (S77 : St) => ∃ xr_33 : Int, cell1V S77 (V.ptr S.next 0) = some (V.int .i64 xr_33) ∧ K xr_33 S77) fun (S76 : St) => nilV x0 = some x0 ∧ ifS (fieldAddrV 1 x0) fun x66_1 => ifS (loadV S76 x66_1) fun x67_1 => CallA P (N Fn.disk_Disk_SyncDir) [x67_1] S76 (retK [(.one (.int .i64))] (panD P [xd] fun (S79 : St) => ∃ xr_34 : Int, cell1V S79 (V.ptr S.next 0) = some (V.int .i64 xr_34) ∧ K xr_34 S79) fun (x68_1 : Int) (S78 : St) => CallA P (N Fn.store_must) [(V.int .i64 x68_1)] S78 (retK [] (panD P [xd] fun (S81 : St) => ∃ xr_35 : Int, cell1V S81 (V.ptr S.next 0) = some (V.int .i64 xr_35) ∧ K xr_35 S81) fun (S80 : St) => nilV x0 = some x0 ∧ ifS (fieldAddrV 2 x0) fun x72_1 => ifS (loadV S80 x72_1) fun x73_1 => nilV x0 = some x0 ∧ ifS (fieldAddrV 2 x0) fun x76_1 => ifS (loadV S80 x76_1) fun x77_1 => CallA P (N Fn.wal_Log_Last) [x77_1] S80 (retK [(.one (.int .i64))] (fun _ _ => False) fun (x78_1 : Int) (S82 : St) => sameK (V.block x72_1 ++ []) S80 S82 (CallA P (N Fn.wal_Log_Cut) [x73_1, (V.int .i64 x78_1)] S82 (retK [(.one (.int .i64))] (fun _ _ => False) fun (x79_1 : Int) (S84 : St) => sameK (V.block x76_1 ++ []) S82 S84 (CallA P (N Fn.store_must) [(V.int .i64 x79_1)] S84 (retK [] (fun _ _ => False) fun (S86 : St) => sameK (V.block x76_1 ++ (V.block x72_1 ++ [])) S84 S86 (nilV x0 = some x0 ∧ ifS (fieldAddrV 2 x0) fun x83_1 => ifS (loadV S86 x83_1) fun x84_1 => CallA P (N Fn.wal_Log_Sync) [x84_1] S86 (retK [(.one (.int .i64))] (panD P [xd] fun (S89 : St) => ∃ xr_36 : Int, cell1V S89 (V.ptr S.next 0) = some (V.int .i64 xr_36) ∧ K xr_36 S89) fun (x85_1 : Int) (S88 : St) => CallA P (N Fn.store_must) [(V.int .i64 x85_1)] S88 (retK [] (panD P [xd] fun (S91 : St) => ∃ xr_37 : Int, cell1V S91 (V.ptr S.next 0) = some (V.int .i64 xr_37) ∧ K xr_37 S91) fun (S90 : St) => ifS (storeV S90 1 (V.ptr S.next 0) (V.int .i64 0)) fun S92 => CallD P xd.1 xd.2 none S92 fun (xb_1 : Bool) (S93 : St) => ∃ xr_38 : Int, cell1V S93 (V.ptr S.next 0) = some (V.int .i64 xr_38) ∧ K xr_38 S93))))))))))))))))))))))))))))))
abbrev store_Store_Snapshot.Ok (P : Program) (N : Nat → Nat) : Prop := ReadsD P (N Fn.store_Store_Snapshot) [(2, .no, [(.one (.int .i64))]), (2, .no, [(.one .any)]), (0, .no, [(.one .str), (.one (.int .i64))]), (5, (.dt (.one (.int .i64))), []), (2, .no, [(.one (.int .i64))]), (0, .no, [(.one .str)]), (2, .no, [(.one .any), (.one (.int .i64))]), (5, (.dt (.one (.int .i64))), []), (5, .no, [(.one .any)]), (0, .no, [(.one .bool)]), (4, .no, [(.one (.int .i64))]), (5, .no, [(.one (.int .i64))]), (6, .no, [(.one (.int .i64))]), (5, .no, [(.one (.int .i64))]), (5, .no, [(.one (.int .i64))]), (5, .no, [(.one (.int .i64))]), (9, .no, [(.one (.int .i64))]), (0, .no, [(.one (.int .i64))]), (5, .no, [(.one (.int .i64))])] [] [] (fun A T (x0 : V) (S : St) (K : Int → St → Prop) => wpD P (envP P) T (endD P A.results [(.one (.int .i64))] K) [] (frD A [x0]) S) (fun x0 S K => store_Store_Snapshot.p P N x0 S K)
theorem store_Store_Snapshot.run {P : Program} {N : Nat → Nat} (hF : store_Store_Snapshot.Ok P N) {x0 : V} {S : St} {K : Int → St → Prop} (h : store_Store_Snapshot.p P N x0 S K) : CallA P (N Fn.store_Store_Snapshot) [x0] S (retT [(.one (.int .i64))] K) := hF.run (fun q => q x0 S K) h rfl

def store_Store_Since.p (P : Program) (N : Nat → Nat) (x0 : V) (x1 : Int) (S : St) (K : V → Int → St → Prop) : Prop :=
  Join0 (fun (k1 : St → Prop) => ∃ x11 : Bool, eqV 1 [] x0 V.nilPtr = some x11 ∧ ifC x11 (K V.nilSlice 3 S) (nilV x0 = some x0 ∧ ifS (fieldAddrV 4 x0) fun x16 => ∃ x17 : Int, loadV S x16 = some (V.int .i64 x17) ∧ ifC (decide (x1 < x17)) (K V.nilSlice 193 S) (CallA P (N Fn.store_Store_Seq) [x0] S (retT [(.one (.int .i64))] fun (x22 : Int) (S2 : St) => ifC (decide (x22 < x1)) (K V.nilSlice 193 S2) (k1  S2))))) (fun (S1 : St) => nilV x0 = some x0 ∧ ifS (fieldAddrV 6 x0) fun x27 => ifS (loadV S1 x27) fun x28 => nilV x0 = some x0 ∧ ifS (fieldAddrV 4 x0) fun x32 => ∃ x33 : Int, loadV S1 x32 = some (V.int .i64 x33) ∧ setI (IntKind.i64.wrap (x1 - x33)) fun x34 => ifS (sliceSlV 3 x28 (some (V.int .i64 x34)) none none) fun x35 => ∃ x36 : Int, lenV S1 2 x35 = some (V.int .i64 x36) ∧ Loop2 (fun (k2 : V → Int → St → Prop) (x6 : V) (x37 : Int) (S3 : St) => ifC (decide (x37 < x36)) (ifS (idxAddrV 3 x35 (V.int .i64 x37)) fun x39 => ∃ x40_a x40_b : Int, ∃ x40_c : V, loadNV S3 3 x39 = some (V.agg [(V.int .i64 x40_a), (V.int .i64 x40_b), x40_c]) ∧ newS S3 (.cells [(V.int .i64 0), (V.int .i64 0), V.nilSlice] true) fun S4 => ifS (storeV S4 3 (V.ptr S3.next 0) (V.agg [(V.int .i64 x40_a), (V.int .i64 x40_b), x40_c])) fun S5 => ifS (loadV S5 (V.ptr S3.next 2)) fun x42 => CallA P (N Fn.slices_Clone_Lint) [x42] S5 (retT [(.one .any)] fun (x43 : V) (S6 : St) => ifS (storeV S6 1 (V.ptr S3.next 2) x43) fun S7 => ∃ x46_a x46_b : Int, ∃ x46_c : V, loadNV S7 3 (V.ptr S3.next 0) = some (V.agg [(V.int .i64 x46_a), (V.int .i64 x46_b), x46_c]) ∧ newS S7 (.cells [(V.int .i64 x46_a), (V.int .i64 x46_b), x46_c] true) fun S8 => ifP (appV S8 3 40 x6 (V.slice S7.next 0 1 1 3 true)) fun x48 S9 => setI (IntKind.i64.wrap (x37 + (1 : Int))) fun x49 => k2 x48 x49 S9)) (K x6 0 S3)) V.nilSlice 0 S1)
abbrev store_Store_Since.Ok (P : Program) (N : Nat → Nat) : Prop := Reads P (N Fn.store_Store_Since) [(11, (.dt (.one (.int .i64))), []), (4, .no, [(.one (.int .i64))]), (14, (.dt (.one (.int .i64))), []), (2, (.dt (.one (.int .i64))), []), (3, (.dt (.agg [(.int .i64), (.int .i64), .any])), []), (4, .no, [(.one .any)]), (3, (.dt (.agg [(.int .i64), (.int .i64), .any])), []), (0, (.dt (.agg [(.int .i64), (.int .i64), .any])), [])] [(1, [])] [[(6, (.one .any)), (37, (.one (.int .i64)))]] (fun A T (x0 : V) (x1 : Int) (S : St) (K : V → Int → St → Prop) => wpT P (envP P) T (endT A.results [(.one .any), (.one (.int .i64))] K) (frT A [x0, (V.int .i64 x1)]) S) (fun x0 x1 S K => store_Store_Since.p P N x0 x1 S K)
theorem store_Store_Since.run {P : Program} {N : Nat → Nat} (hF : store_Store_Since.Ok P N) {x0 : V} {x1 : Int} {S : St} {K : V → Int → St → Prop} (h : store_Store_Since.p P N x0 x1 S K) : CallA P (N Fn.store_Store_Since) [x0, (V.int .i64 x1)] S (retT [(.one .any), (.one (.int .i64))] K) := hF.run (fun q => q x0 x1 S K) h rfl

def store_Store_Rows.p (P : Program) (N : Nat → Nat) (x0 : V) (S : St) (K : V → St → Prop) : Prop :=
  ∃ x7 : Bool, eqV 1 [] x0 V.nilPtr = some x7 ∧ ifC x7 (K V.nilSlice S) (nilV x0 = some x0 ∧ ifS (fieldAddrV 3 x0) fun x10 => ifS (loadV S x10) fun x11 => anyK (rangeP S x11) fun x12 S1 => Loop1 (fun (k1 : V → St → Prop) (x3 : V) (S2 : St) => anyK (nextP S2 x12) fun x13 S3 => ∃ x14 : Bool, extractV 0 x13 = some (V.bool x14) ∧ ifC x14 (ifS (entryV S3 x12) fun x15 => ∃ x16 : Int, extractV 0 x15 = some (V.int .i64 x16) ∧ ifS (extractV 1 x15) fun x17 => V.cells x17 = [x17] ∧ newS S3 (.cells [(V.int .i64 x16), x17] true) fun S4 => ifP (appV S4 2 32 x3 (V.slice S3.next 0 1 1 2 true)) fun x23 S5 => k1 x23 S5) (CallA P (N Fn.flat_Own) [x3] S3 (retT [(.one .any)] fun (x25 : V) (S6 : St) => K x25 S6))) V.nilSlice S1)
abbrev store_Store_Rows.Ok (P : Program) (N : Nat → Nat) : Prop := Reads P (N Fn.store_Store_Rows) [(11, (.dt (.one .bool)), []), (1, (.dt (.one (.int .i64))), []), (6, (.dt (.agg [(.int .i64), .any])), []), (0, (.dt (.agg [(.int .i64), .any])), []), (3, .no, [(.one .any)])] [] [[(3, (.one .any))]] (fun A T (x0 : V) (S : St) (K : V → St → Prop) => wpT P (envP P) T (endT A.results [(.one .any)] K) (frT A [x0]) S) (fun x0 S K => store_Store_Rows.p P N x0 S K)
theorem store_Store_Rows.run {P : Program} {N : Nat → Nat} (hF : store_Store_Rows.Ok P N) {x0 : V} {S : St} {K : V → St → Prop} (h : store_Store_Rows.p P N x0 S K) : CallA P (N Fn.store_Store_Rows) [x0] S (retT [(.one .any)] K) := hF.run (fun q => q x0 S K) h rfl

def store_Store_Seq.p (P : Program) (N : Nat → Nat) (x0 : V) (S : St) (K : Int → St → Prop) : Prop :=
  ∃ x4 : Bool, eqV 1 [] x0 V.nilPtr = some x4 ∧ ifC x4 (K 0 S) (nilV x0 = some x0 ∧ ifS (fieldAddrV 4 x0) fun x7 => ∃ x8 : Int, loadV S x7 = some (V.int .i64 x8) ∧ nilV x0 = some x0 ∧ ifS (fieldAddrV 6 x0) fun x11 => ifS (loadV S x11) fun x12 => ∃ x13 : Int, lenV S 2 x12 = some (V.int .i64 x13) ∧ setI (IntKind.i64.wrap (x8 + x13)) fun x14 => K x14 S)
abbrev store_Store_Seq.Ok (P : Program) (N : Nat → Nat) : Prop := Reads P (N Fn.store_Store_Seq) [(7, (.dt (.one (.int .i64))), []), (4, (.dt (.one (.int .i64))), [])] [] [] (fun A T (x0 : V) (S : St) (K : Int → St → Prop) => wpT P (envP P) T (endT A.results [(.one (.int .i64))] K) (frT A [x0]) S) (fun x0 S K => store_Store_Seq.p P N x0 S K)
theorem store_Store_Seq.run {P : Program} {N : Nat → Nat} (hF : store_Store_Seq.Ok P N) {x0 : V} {S : St} {K : Int → St → Prop} (h : store_Store_Seq.p P N x0 S K) : CallA P (N Fn.store_Store_Seq) [x0] S (retT [(.one (.int .i64))] K) := hF.run (fun q => q x0 S K) h rfl

def store_Store_Get.p (P : Program) (N : Nat → Nat) (x0 : V) (x1 : Int) (S : St) (K : V → Int → St → Prop) : Prop :=
  ∃ x9 : Bool, eqV 1 [] x0 V.nilPtr = some x9 ∧ ifC x9 (K V.nilSlice 3 S) (nilV x0 = some x0 ∧ ifS (fieldAddrV 3 x0) fun x13 => ifS (loadV S x13) fun x14 => ∃ x16a : V, ∃ x16b : Bool, lookupV S 1 V.nilSlice true x14 (V.int .i64 x1) = some (V.tuple [x16a, (V.bool x16b)]) ∧ ifC (!x16b) (K V.nilSlice 190 S) (CallA P (N Fn.slices_Clone_Lint) [x16a] S (retT [(.one .any)] fun (x22 : V) (S1 : St) => K x22 0 S1)))
abbrev store_Store_Get.Ok (P : Program) (N : Nat → Nat) : Prop := Reads P (N Fn.store_Store_Get) [(11, (.tup [(.one .any), (.one .bool)]), []), (10, .no, [(.one .any)])] [] [] (fun A T (x0 : V) (x1 : Int) (S : St) (K : V → Int → St → Prop) => wpT P (envP P) T (endT A.results [(.one .any), (.one (.int .i64))] K) (frT A [x0, (V.int .i64 x1)]) S) (fun x0 x1 S K => store_Store_Get.p P N x0 x1 S K)
theorem store_Store_Get.run {P : Program} {N : Nat → Nat} (hF : store_Store_Get.Ok P N) {x0 : V} {x1 : Int} {S : St} {K : V → Int → St → Prop} (h : store_Store_Get.p P N x0 x1 S K) : CallA P (N Fn.store_Store_Get) [x0, (V.int .i64 x1)] S (retT [(.one .any), (.one (.int .i64))] K) := hF.run (fun q => q x0 x1 S K) h rfl

def store_Store_Len.p (P : Program) (N : Nat → Nat) (x0 : V) (S : St) (K : Int → St → Prop) : Prop :=
  ∃ x4 : Bool, eqV 1 [] x0 V.nilPtr = some x4 ∧ ifC x4 (K 0 S) (nilV x0 = some x0 ∧ ifS (fieldAddrV 3 x0) fun x7 => ifS (loadV S x7) fun x8 => ∃ x9 : Int, lenV S 3 x8 = some (V.int .i64 x9) ∧ K x9 S)
abbrev store_Store_Len.Ok (P : Program) (N : Nat → Nat) : Prop := Reads P (N Fn.store_Store_Len) [(8, (.dt (.one (.int .i64))), [])] [] [] (fun A T (x0 : V) (S : St) (K : Int → St → Prop) => wpT P (envP P) T (endT A.results [(.one (.int .i64))] K) (frT A [x0]) S) (fun x0 S K => store_Store_Len.p P N x0 S K)
theorem store_Store_Len.run {P : Program} {N : Nat → Nat} (hF : store_Store_Len.Ok P N) {x0 : V} {S : St} {K : Int → St → Prop} (h : store_Store_Len.p P N x0 S K) : CallA P (N Fn.store_Store_Len) [x0] S (retT [(.one (.int .i64))] K) := hF.run (fun q => q x0 S K) h rfl

def store_Store_Safe.p (P : Program) (N : Nat → Nat) (x0 : V) (S : St) (K : Int → St → Prop) : Prop :=
  ∃ x4 : Bool, eqV 1 [] x0 V.nilPtr = some x4 ∧ ifC x4 (K 0 S) (nilV x0 = some x0 ∧ ifS (fieldAddrV 5 x0) fun x7 => ∃ x8 : Int, loadV S x7 = some (V.int .i64 x8) ∧ K x8 S)
abbrev store_Store_Safe.Ok (P : Program) (N : Nat → Nat) : Prop := Reads P (N Fn.store_Store_Safe) [(7, (.dt (.one (.int .i64))), [])] [] [] (fun A T (x0 : V) (S : St) (K : Int → St → Prop) => wpT P (envP P) T (endT A.results [(.one (.int .i64))] K) (frT A [x0]) S) (fun x0 S K => store_Store_Safe.p P N x0 S K)
theorem store_Store_Safe.run {P : Program} {N : Nat → Nat} (hF : store_Store_Safe.Ok P N) {x0 : V} {S : St} {K : Int → St → Prop} (h : store_Store_Safe.p P N x0 S K) : CallA P (N Fn.store_Store_Safe) [x0] S (retT [(.one (.int .i64))] K) := hF.run (fun q => q x0 S K) h rfl

def store_Open_1.p (P : Program) (N : Nat → Nat) (x0 : V) (x1 : V) (S : St) (K : St → Prop) : Prop :=
  ∃ x2 : Int, loadV S x0 = some (V.int .i64 x2) ∧ ifC (!decide (x2 = (0 : Int))) (ifS (storeV S 1 x1 V.nilPtr) fun S1 => K  S1) (K  S)
abbrev store_Open_1.Ok (P : Program) (N : Nat → Nat) : Prop := Reads P (N Fn.store_Open_1) [(0, (.dt (.one (.int .i64))), [])] [] [] (fun A T (x0 : V) (x1 : V) (S : St) (K : St → Prop) => wpT P (envP P) T (endT A.results [] K) (frT A [x0, x1]) S) (fun x0 x1 S K => store_Open_1.p P N x0 x1 S K)
def store_caught.p (P : Program) (N : Nat → Nat) (x0 : V) (x : V) (S : St) (K : St → Prop) : Prop :=
  ∃ x5 : Bool, eqV 5 [] x V.nilIface = some x5 ∧ ifC (!x5) (∃ x8_a : Int, assertV (N Fn.ty_store_failed) false (V.agg [(V.int .i64 0)]) x = some (V.agg [(V.int .i64 x8_a)]) ∧ nilV x0 = some x0 ∧ ifS (storeV S 1 x0 (V.int .i64 x8_a)) fun S1 => K  S1) (K  S)
abbrev store_caught.Ok (P : Program) (N : Nat → Nat) : Prop := ReadsR P (N Fn.store_caught) [(4, (.dt (.agg [(.int .i64)])), [])] [] [] (fun A T (x0 : V) (x : V) (S : St) (K : St → Prop) => wpT P (envP P) T (endRT K) (frR A [x0] x) S) (fun x0 x S K => store_caught.p P N x0 x S K)
theorem store_caught.run {P : Program} {N : Nat → Nat} (hF : store_caught.Ok P N) {x0 : V} {pv : Option V} {S : St} {K : St → Prop} (h : store_caught.p P N x0 (pv.getD .nilIface) S K) : CallD P (N Fn.store_caught) [x0] pv S (fun b S' => b = pv.isSome ∧ K S') := hF.run (fun q => q x0 (pv.getD .nilIface) S K) h rfl

def store_must.p (P : Program) (N : Nat → Nat) (x0 : Int) (S : St) (KP : V → St → Prop) (K : St → Prop) : Prop :=
  ifC (!decide (x0 = (0 : Int))) (KP (V.iface (N Fn.ty_store_failed) (V.agg [(V.int .i64 x0)])) S) (K  S)
abbrev store_must.Ok (P : Program) (N : Nat → Nat) : Prop := Reads P (N Fn.store_must) [(3, (.dt (.agg [(.int .i64)])), [])] [] [] (fun A T (x0 : Int) (S : St) (KP : V → St → Prop) (K : St → Prop) => wpK P KP (envP P) T (endK A.results [] KP K) (frT A [(V.int .i64 x0)]) S) (fun x0 S KP K => store_must.p P N x0 S KP K)
theorem store_must.run {P : Program} {N : Nat → Nat} (hF : store_must.Ok P N) {x0 : Int} {S : St} {KP : V → St → Prop} {K : St → Prop} (h : store_must.p P N x0 S KP K) : CallA P (N Fn.store_must) [(V.int .i64 x0)] S (retK [] KP K) := hF.runK (fun q => q x0 S KP K) h rfl

def store_take.p (P : Program) (N : Nat → Nat) (x0 : List UInt8) (S : St) (KP : V → St → Prop) (K : Int → List UInt8 → St → Prop) : Prop :=
  Join0 (fun (k1 : St → Prop) => ifC (decide ((x0.length : Int) < (8 : Int))) (CallA P (N Fn.store_must) [(V.int .i64 192)] S (retK [] KP fun (S2 : St) => k1  S2)) (k1  S)) (fun (S1 : St) => Loop2 (fun (k2 : Int → Int → St → Prop) (x4 : Int) (x10 : Int) (S3 : St) => ifC (decide (x10 < (8 : Int))) (∃ x16 : Int, idxStrV (V.str x0) (V.int .i64 x10) = some (V.int .u8 x16) ∧ setI (IntKind.i64.wrap x16) fun x17 => setI (IntKind.i64.wrap ((8 : Int) * x10)) fun x19 => 0 ≤ x19 ∧ setI (IntKind.i64.wrap (x17 * 2 ^ (min (Int.toNat x19) (IntKind.bits .i64)))) fun x20 => setI (intBits .or .i64 x4 x20) fun x21 => setI (IntKind.i64.wrap (x10 + (1 : Int))) fun x22 => k2 x21 x22 S3) (∃ x25 : List UInt8, sliceStrV (V.str x0) (some (V.int .i64 8)) none = some (V.str x25) ∧ K x4 x25 S3)) 0 0 S1)
abbrev store_take.Ok (P : Program) (N : Nat → Nat) : Prop := Reads P (N Fn.store_take) [(14, (.dt (.one (.int .u8))), []), (10, (.dt (.one .str)), [])] [(1, [])] [[(4, (.one (.int .i64))), (10, (.one (.int .i64)))]] (fun A T (x0 : List UInt8) (S : St) (KP : V → St → Prop) (K : Int → List UInt8 → St → Prop) => wpK P KP (envP P) T (endK A.results [(.one (.int .i64)), (.one .str)] KP K) (frT A [(V.str x0)]) S) (fun x0 S KP K => store_take.p P N x0 S KP K)
theorem store_take.run {P : Program} {N : Nat → Nat} (hF : store_take.Ok P N) {x0 : List UInt8} {S : St} {KP : V → St → Prop} {K : Int → List UInt8 → St → Prop} (h : store_take.p P N x0 S KP K) : CallA P (N Fn.store_take) [(V.str x0)] S (retK [(.one (.int .i64)), (.one .str)] KP K) := hF.runK (fun q => q x0 S KP K) h rfl

def store_Store_do.p (P : Program) (N : Nat → Nat) (x0 : V) (x1_a : Int) (x1_b : Int) (x1_c : V) (S : St) (K : St → Prop) : Prop :=
  newS S (.cells [(V.int .i64 x1_a), (V.int .i64 x1_b), x1_c] true) fun S1 => ∃ x5 : Int, loadV S1 (V.ptr S.next 0) = some (V.int .i64 x5) ∧ ifC (decide (x5 = (2 : Int))) (nilV x0 = some x0 ∧ ifS (fieldAddrV 3 x0) fun x9 => ifS (loadV S1 x9) fun x10 => ∃ x12 : Int, loadV S1 (V.ptr S.next 1) = some (V.int .i64 x12) ∧ ifS (deleteV S1 1 x10 (V.int .i64 x12)) fun S2 => K  S2) (nilV x0 = some x0 ∧ ifS (fieldAddrV 3 x0) fun x15 => ifS (loadV S1 x15) fun x16 => ∃ x18 : Int, loadV S1 (V.ptr S.next 1) = some (V.int .i64 x18) ∧ ifS (loadV S1 (V.ptr S.next 2)) fun x20 => ifS (mapUpdV S1 1 x16 (V.int .i64 x18) x20) fun S3 => K  S3)
abbrev store_Store_do.Ok (P : Program) (N : Nat → Nat) : Prop := Reads P (N Fn.store_Store_do) [(2, (.dt (.one (.int .i64))), []), (6, (.dt (.one (.int .i64))), []), (6, (.dt (.one (.int .i64))), [])] [] [] (fun A T (x0 : V) (x1_a : Int) (x1_b : Int) (x1_c : V) (S : St) (K : St → Prop) => wpT P (envP P) T (endT A.results [] K) (frT A [x0, (V.agg [(V.int .i64 x1_a), (V.int .i64 x1_b), x1_c])]) S) (fun x0 x1_a x1_b x1_c S K => store_Store_do.p P N x0 x1_a x1_b x1_c S K)
theorem store_Store_do.run {P : Program} {N : Nat → Nat} (hF : store_Store_do.Ok P N) {x0 : V} {x1_a : Int} {x1_b : Int} {x1_c : V} {S : St} {K : St → Prop} (h : store_Store_do.p P N x0 x1_a x1_b x1_c S K) : CallA P (N Fn.store_Store_do) [x0, (V.agg [(V.int .i64 x1_a), (V.int .i64 x1_b), x1_c])] S (retT [] K) := hF.run (fun q => q x0 x1_a x1_b x1_c S K) h rfl

def store_Store_change.p (P : Program) (N : Nat → Nat) (x0 : V) (x1_a : Int) (x1_b : Int) (x1_c : V) (S : St) (K : Int → Int → St → Prop) : Prop :=
  newS S (.cells [(V.int .i64 x1_a), (V.int .i64 x1_b), x1_c] true) fun S1 => ∃ x12_a x12_b : Int, ∃ x12_c : V, loadNV S1 3 (V.ptr S.next 0) = some (V.agg [(V.int .i64 x12_a), (V.int .i64 x12_b), x12_c]) ∧ CallA P (N Fn.codec_PutChange) [(V.agg [(V.int .i64 x12_a), (V.int .i64 x12_b), x12_c])] S1 (retT [(.one .str), (.one (.int .i64))] fun (x13a : List UInt8) (x13b : Int) (S2 : St) => ifC (!decide (x13b = (0 : Int))) (K 0 x13b S2) (CallA P (N Fn.store_Store_Seq) [x0] S2 (retT [(.one (.int .i64))] fun (x20 : Int) (S3 : St) => setI (IntKind.i64.wrap (x20 + (1 : Int))) fun x21 => nilV x0 = some x0 ∧ ifS (fieldAddrV 2 x0) fun x25 => ifS (loadV S3 x25) fun x26 => CallA P (N Fn.store_lay) [(V.int .i64 x21)] S3 (retT [(.one .str)] fun (x28 : List UInt8) (S4 : St) => sameK (V.block x25 ++ []) S3 S4 (x28.length + x13a.length < 2 ^ 62 ∧ CallA P (N Fn.wal_Log_Append) [x26, (V.str (x28 ++ x13a))] S4 (retT [(.one (.int .i64)), (.one (.int .i64))] fun (x31a : Int) (x31b : Int) (S5 : St) => ifC (!decide (x31b = (0 : Int))) (K 0 x31b S5) (∃ x38_a x38_b : Int, ∃ x38_c : V, loadNV S5 3 (V.ptr S.next 0) = some (V.agg [(V.int .i64 x38_a), (V.int .i64 x38_b), x38_c]) ∧ CallA P (N Fn.store_Store_do) [x0, (V.agg [(V.int .i64 x38_a), (V.int .i64 x38_b), x38_c])] S5 (retT [] fun (S6 : St) => nilV x0 = some x0 ∧ ifS (fieldAddrV 6 x0) fun x43 => ifS (loadV S6 x43) fun x44 => ∃ x45_a x45_b : Int, ∃ x45_c : V, loadNV S6 3 (V.ptr S.next 0) = some (V.agg [(V.int .i64 x45_a), (V.int .i64 x45_b), x45_c]) ∧ newS S6 (.cells [(V.int .i64 x45_a), (V.int .i64 x45_b), x45_c] true) fun S7 => sameK (V.block x43 ++ []) S6 S7 (ifP (appV S7 3 40 x44 (V.slice S6.next 0 1 1 3 true)) fun x47 S8 => nilV x0 = some x0 ∧ ifS (fieldAddrV 6 x0) fun x49 => ifS (storeV S8 1 x49 x47) fun S9 => K x21 0 S9)))))))))
abbrev store_Store_change.Ok (P : Program) (N : Nat → Nat) : Prop := Reads P (N Fn.store_Store_change) [(3, (.dt (.agg [(.int .i64), (.int .i64), .any])), []), (0, .no, [(.one .str), (.one (.int .i64))]), (11, .no, [(.one (.int .i64))]), (8, .no, [(.one .str)]), (1, .no, [(.one (.int .i64)), (.one (.int .i64))]), (11, (.dt (.agg [(.int .i64), (.int .i64), .any])), []), (6, (.dt (.agg [(.int .i64), (.int .i64), .any])), []), (0, (.dt (.agg [(.int .i64), (.int .i64), .any])), [])] [] [] (fun A T (x0 : V) (x1_a : Int) (x1_b : Int) (x1_c : V) (S : St) (K : Int → Int → St → Prop) => wpT P (envP P) T (endT A.results [(.one (.int .i64)), (.one (.int .i64))] K) (frT A [x0, (V.agg [(V.int .i64 x1_a), (V.int .i64 x1_b), x1_c])]) S) (fun x0 x1_a x1_b x1_c S K => store_Store_change.p P N x0 x1_a x1_b x1_c S K)
theorem store_Store_change.run {P : Program} {N : Nat → Nat} (hF : store_Store_change.Ok P N) {x0 : V} {x1_a : Int} {x1_b : Int} {x1_c : V} {S : St} {K : Int → Int → St → Prop} (h : store_Store_change.p P N x0 x1_a x1_b x1_c S K) : CallA P (N Fn.store_Store_change) [x0, (V.agg [(V.int .i64 x1_a), (V.int .i64 x1_b), x1_c])] S (retT [(.one (.int .i64)), (.one (.int .i64))] K) := hF.run (fun q => q x0 x1_a x1_b x1_c S K) h rfl

def store_lay.p (P : Program) (N : Nat → Nat) (x0 : Int) (S : St) (K : List UInt8 → St → Prop) : Prop :=
  newS S (.cells [(V.int .u8 0), (V.int .u8 0), (V.int .u8 0), (V.int .u8 0), (V.int .u8 0), (V.int .u8 0), (V.int .u8 0), (V.int .u8 0)] true) fun S1 => Loop1 (fun (k1 : Int → St → Prop) (x5 : Int) (S2 : St) => ifC (decide (x5 < (8 : Int))) (setI (IntKind.i64.wrap ((8 : Int) * x5)) fun x11 => 0 ≤ x11 ∧ setI (Int.fdiv x0 (2 ^ (min (Int.toNat x11) (IntKind.bits .i64)))) fun x12 => setI (IntKind.u8.wrap x12) fun x13 => ifS (idxAddrArrV 8 1 (V.ptr S.next 0) (V.int .i64 x5)) fun x14 => ifS (storeV S2 1 x14 (V.int .u8 x13)) fun S3 => setI (IntKind.i64.wrap (x5 + (1 : Int))) fun x15 => k1 x15 S3) (ifS (sliceArrV S2 8 1 (V.ptr S.next 0) none none none) fun x16 => ∃ x17 : List UInt8, convBSV S2 x16 = some (V.str x17) ∧ K x17 S2)) 0 S1
abbrev store_lay.Ok (P : Program) (N : Nat → Nat) : Prop := Reads P (N Fn.store_lay) [(17, (.dt (.one .str)), [])] [] [[(5, (.one (.int .i64)))]] (fun A T (x0 : Int) (S : St) (K : List UInt8 → St → Prop) => wpT P (envP P) T (endT A.results [(.one .str)] K) (frT A [(V.int .i64 x0)]) S) (fun x0 S K => store_lay.p P N x0 S K)
theorem store_lay.run {P : Program} {N : Nat → Nat} (hF : store_lay.Ok P N) {x0 : Int} {S : St} {K : List UInt8 → St → Prop} (h : store_lay.p P N x0 S K) : CallA P (N Fn.store_lay) [(V.int .i64 x0)] S (retT [(.one .str)] K) := hF.run (fun q => q x0 S K) h rfl

end Go.Th.L
end

section
/- Functions of vec, read without frames (printed by tools/lib.py). -/
set_option linter.unusedVariables false
set_option maxRecDepth 100000
set_option maxHeartbeats 2000000
namespace Go.Th.L
open Go Go.Th

def vec_Check.p (P : Program) (N : Nat → Nat) (x0 : V) (x1 : Int) (S : St) (K : Int → St → Prop) : Prop :=
  Join0 (fun (k1 : St → Prop) => CallA P (N Fn.vec_dim) [(V.int .i64 x1)] S (retT [(.one .bool)] fun (x8 : Bool) (S2 : St) => ifC (!x8) (K 30 S2) (∃ x12 : Int, lenV S2 2 x0 = some (V.int .i64 x12) ∧ ifC (!decide (x12 = x1)) (K 30 S2) (k1  S2)))) (fun (S1 : St) => ∃ x17 : Int, lenV S1 2 x0 = some (V.int .i64 x17) ∧ Loop1 (fun (k2 : Int → St → Prop) (x18 : Int) (S3 : St) => ifC (decide (x18 < x17)) (ifS (idxAddrV 1 x0 (V.int .i64 x18)) fun x20 => ∃ x21 : Int, loadV S3 x20 = some (V.int .i64 x21) ∧ ifC (decide (x21 < (-2147483647 : Int))) (K 31 S3) (ifC (decide ((2147483647 : Int) < x21)) (K 31 S3) (setI (IntKind.i64.wrap (x18 + (1 : Int))) fun x28 => k2 x28 S3))) (K 0 S3)) 0 S1)
abbrev vec_Check.Ok (P : Program) (N : Nat → Nat) : Prop := Reads P (N Fn.vec_Check) [(2, .no, [(.one .bool)]), (3, (.dt (.one (.int .i64))), []), (5, (.dt (.one (.int .i64))), []), (3, (.dt (.one (.int .i64))), [])] [(1, [])] [[(18, (.one (.int .i64)))]] (fun A T (x0 : V) (x1 : Int) (S : St) (K : Int → St → Prop) => wpT P (envP P) T (endT A.results [(.one (.int .i64))] K) (frT A [x0, (V.int .i64 x1)]) S) (fun x0 x1 S K => vec_Check.p P N x0 x1 S K)
theorem vec_Check.run {P : Program} {N : Nat → Nat} (hF : vec_Check.Ok P N) {x0 : V} {x1 : Int} {S : St} {K : Int → St → Prop} (h : vec_Check.p P N x0 x1 S K) : CallA P (N Fn.vec_Check) [x0, (V.int .i64 x1)] S (retT [(.one (.int .i64))] K) := hF.run (fun q => q x0 x1 S K) h rfl

def vec_dim.p (P : Program) (N : Nat → Nat) (x0 : Int) (S : St) (K : Bool → St → Prop) : Prop :=
  ifC (decide ((1 : Int) ≤ x0)) (K (decide (x0 ≤ (64 : Int))) S) (K false S)
abbrev vec_dim.Ok (P : Program) (N : Nat → Nat) : Prop := Reads P (N Fn.vec_dim) [] [] [] (fun A T (x0 : Int) (S : St) (K : Bool → St → Prop) => wpT P (envP P) T (endT A.results [(.one .bool)] K) (frT A [(V.int .i64 x0)]) S) (fun x0 S K => vec_dim.p P N x0 S K)
theorem vec_dim.run {P : Program} {N : Nat → Nat} (hF : vec_dim.Ok P N) {x0 : Int} {S : St} {K : Bool → St → Prop} (h : vec_dim.p P N x0 S K) : CallA P (N Fn.vec_dim) [(V.int .i64 x0)] S (retT [(.one .bool)] K) := hF.run (fun q => q x0 S K) h rfl

end Go.Th.L
end

section
/- Functions of wal, read without frames (printed by tools/lib.py). -/
set_option linter.unusedVariables false
set_option maxRecDepth 100000
set_option maxHeartbeats 2000000
namespace Go.Th.L
open Go Go.Th

def wal_Open.p (P : Program) (N : Nat → Nat) (x0 : V) (S : St) (K : V → V → Int → St → Prop) : Prop :=
  ∃ x22 : Bool, eqV 1 [] x0 V.nilPtr = some x22 ∧ ifC x22 (K V.nilPtr V.nilSlice 3 S) (CallA P (N Fn.disk_Disk_Down) [x0] S (retT [(.one .bool)] fun (x25 : Bool) (S1 : St) => ifC x25 (K V.nilPtr V.nilSlice 174 S1) (V.cells x0 = [x0] ∧ newS S1 (.cells [x0, V.nilSlice, (V.int .i64 0), (V.bool false), (V.int .i64 0)] true) fun S2 => newS S2 (.cells [V.nilSlice] true) fun S3 => CallA P (N Fn.disk_Disk_Names) [x0] S3 (retT [(.one .any)] fun (x31 : V) (S4 : St) => ∃ x32 : Int, lenV S4 2 x31 = some (V.int .i64 x32) ∧ Loop4 (fun (k1 : V → V → Bool → Int → St → Prop) (x6 : V) (x7 : V) (x10 : Bool) (x33 : Int) (S5 : St) => ifC (decide (x33 < x32)) (ifS (idxAddrV 1 x31 (V.int .i64 x33)) fun x35 => ∃ x36 : List UInt8, loadV S5 x35 = some (V.str x36) ∧ CallA P (N Fn.strings_HasPrefix) [(V.str x36), (V.str ([108, 111, 103, 46] : List UInt8))] S5 (retT [(.one .bool)] fun (x38 : Bool) (S6 : St) => ifC (!x38) (setI (IntKind.i64.wrap (x33 + (1 : Int))) fun x119 => k1 x6 x7 x10 x119 S6) (Join0 (fun (k2 : St → Prop) => ∃ x42 : List UInt8, sliceStrV (V.str x36) (some (V.int .i64 4)) none = some (V.str x42) ∧ CallA P (N Fn.strconv_Atoi) [(V.str x42)] S6 (retT [(.one (.int .i64)), (.one .any)] fun (x43a : Int) (x43b : V) (S8 : St) => ∃ x47 : Bool, eqV 5 [] x43b V.nilIface = some x47 ∧ ifC x47 (nilV (V.ptr S1.next 0) = some (V.ptr S1.next 0) ∧ ∃ x52 : Int, loadV S8 (V.ptr S1.next 4) = some (V.int .i64 x52) ∧ nilV (V.ptr S1.next 0) = some (V.ptr S1.next 0) ∧ ifS (storeV S8 1 (V.ptr S1.next 4) (V.int .i64 (goMax x52 x43a))) fun S9 => k2  S9) (k2  S8))) (fun (S7 : St) => CallA P (N Fn.disk_Disk_Read) [x0, (V.str x36)] S7 (retT [(.one .any), (.one (.int .i64))] fun (x60a : V) (x60b : Int) (S10 : St) => ifC (!decide (x60b = (0 : Int))) (K V.nilPtr V.nilSlice x60b S10) (CallA P (N Fn.wal_begins) [x60a] S10 (retT [(.one (.int .i64)), (.one .bool)] fun (x68a : Int) (x68b : Bool) (S11 : St) => Join1 (fun (k3 : Bool → St → Prop) => ifC (!x68b) (k3 true S11) (nilV (V.ptr S1.next 0) = some (V.ptr S1.next 0) ∧ ifS (loadV S11 (V.ptr S1.next 1)) fun x77 => ∃ x78 : Int, lenV S11 2 x77 = some (V.int .i64 x78) ∧ ifC (decide ((0 : Int) < x78)) (CallA P (N Fn.wal_Log_Last) [(V.ptr S1.next 0)] S11 (retT [(.one (.int .i64))] fun (x83 : Int) (S13 : St) => setI (IntKind.i64.wrap (x83 + (1 : Int))) fun x84 => k3 (!decide (x68a = x84)) S13)) (k3 false S11))) (fun (x87 : Bool) (S12 : St) => ifC x87 (ifS (calleeV (envP P) (V.func (.func (N Fn.wal_Open_1)) [] [(V.ptr S2.next 0)]) [(V.str x36)]) fun xf => CallA P xf.1 xf.2 S12 (retT [] fun (S14 : St) => setI (IntKind.i64.wrap (x33 + (1 : Int))) fun x119_1 => k1 x6 x7 x10 x119_1 S14)) (CallA P (N Fn.wal_records) [x60a, (V.int .i64 x68a)] S12 (retT [(.one .any), (.one .bool)] fun (x94a : V) (x94b : Bool) (S15 : St) => ifP (appV S15 2 24 x6 x94a) fun x99 S16 => nilV (V.ptr S1.next 0) = some (V.ptr S1.next 0) ∧ ifS (loadV S16 (V.ptr S1.next 1)) fun x104 => ∃ x109 : Int, lenV S16 2 x94a = some (V.int .i64 x109) ∧ setI (IntKind.i64.wrap (x68a + x109)) fun x110 => ∃ x112 : Int, lenV S16 2 x60a = some (V.int .i64 x112) ∧ newS S16 (.cells [(V.str x36), (V.int .i64 x68a), (V.int .i64 x110), (V.int .i64 x112), (V.bool true)] true) fun S17 => V.cells (V.ptr S16.next 0) = [(V.ptr S16.next 0)] ∧ newS S17 (.cells [(V.ptr S16.next 0)] true) fun S18 => ifP (appV S18 1 8 x104 (V.slice S17.next 0 1 1 1 true)) fun x116 S19 => nilV (V.ptr S1.next 0) = some (V.ptr S1.next 0) ∧ ifS (storeV S19 1 (V.ptr S1.next 1) x116) fun S20 => setI (IntKind.i64.wrap (x33 + (1 : Int))) fun x119_2 => k1 x99 x94a x94b x119_2 S20)))))))))) (ifS (loadV S5 (V.ptr S2.next 0)) fun x121 => CallA P (N Fn.wal_Log_settle) [(V.ptr S1.next 0), x121, x7, (V.bool x10)] S5 (retT [(.one (.int .i64))] fun (x124 : Int) (S21 : St) => ifC (!decide (x124 = (0 : Int))) (K V.nilPtr V.nilSlice x124 S21) (CallA P (N Fn.wal_Log_Last) [(V.ptr S1.next 0)] S21 (retT [(.one (.int .i64))] fun (x130 : Int) (S22 : St) => nilV (V.ptr S1.next 0) = some (V.ptr S1.next 0) ∧ ifS (storeV S22 1 (V.ptr S1.next 2) (V.int .i64 x130)) fun S23 => K (V.ptr S1.next 0) x6 0 S23))))) V.nilSlice V.nilSlice false 0 S4))))
abbrev wal_Open.Ok (P : Program) (N : Nat → Nat) : Prop := Reads P (N Fn.wal_Open) [(10, .no, [(.one .bool)]), (5, (.dt (.agg [.any, .any, (.int .i64), .bool, (.int .i64)])), []), (9, .no, [(.one .any)]), (0, (.dt (.one (.int .i64))), []), (3, (.dt (.one .str)), []), (2, .no, [(.one .bool)]), (2, (.dt (.one .str)), []), (0, .no, [(.one (.int .i64)), (.one .any)]), (11, (.dt (.one (.int .i64))), []), (7, .no, [(.one .any), (.one (.int .i64))]), (12, .no, [(.one (.int .i64)), (.one .bool)]), (12, (.dt (.one (.int .i64))), []), (4, .no, [(.one (.int .i64))]), (9, .no, [(.one .any), (.one .bool)]), (18, (.dt (.one (.int .i64))), []), (2, (.dt (.one (.int .i64))), []), (0, (.dt (.agg [.str, (.int .i64), (.int .i64), (.int .i64), .bool])), []), (1, (.dt (.agg [.any])), []), (10, .no, [(.one (.int .i64))]), (9, .no, [(.one (.int .i64))])] [(19, []), (8, [(87, (.one .bool))])] [[(6, (.one .any)), (7, (.one .any)), (10, (.one .bool)), (33, (.one (.int .i64)))]] (fun A T (x0 : V) (S : St) (K : V → V → Int → St → Prop) => wpT P (envP P) T (endT A.results [(.one .any), (.one .any), (.one (.int .i64))] K) (frT A [x0]) S) (fun x0 S K => wal_Open.p P N x0 S K)
theorem wal_Open.run {P : Program} {N : Nat → Nat} (hF : wal_Open.Ok P N) {x0 : V} {S : St} {K : V → V → Int → St → Prop} (h : wal_Open.p P N x0 S K) : CallA P (N Fn.wal_Open) [x0] S (retT [(.one .any), (.one .any), (.one (.int .i64))] K) := hF.run (fun q => q x0 S K) h rfl

def wal_Log_Append.p (P : Program) (N : Nat → Nat) (x0 : V) (x1 : List UInt8) (S : St) (K : Int → Int → St → Prop) : Prop :=
  ∃ x11 : Bool, eqV 1 [] x0 V.nilPtr = some x11 ∧ ifC x11 (K 0 3 S) (ifC (decide ((65536 : Int) < (x1.length : Int))) (K 0 2 S) (CallA P (N Fn.wal_Log_Last) [x0] S (retT [(.one (.int .i64))] fun (x17 : Int) (S1 : St) => setI (IntKind.i64.wrap (x17 + (1 : Int))) fun x18 => newS S1 (.cells [(V.int .i64 0), (V.str ([] : List UInt8))] true) fun S2 => ifS (storeV S2 2 (V.ptr S1.next 0) (V.agg [(V.int .i64 x18), (V.str x1)])) fun S3 => Join0 (fun (k1 : St → Prop) => nilV x0 = some x0 ∧ ifS (fieldAddrV 1 x0) fun x23 => ifS (loadV S3 x23) fun x24 => nilV x0 = some x0 ∧ ifS (fieldAddrV 1 x0) fun x27 => ifS (loadV S3 x27) fun x28 => ∃ x29 : Int, lenV S3 2 x28 = some (V.int .i64 x29) ∧ setI (IntKind.i64.wrap (x29 - (1 : Int))) fun x30 => ifS (idxAddrV 1 x24 (V.int .i64 x30)) fun x31 => ifS (loadV S3 x31) fun x32 => nilV x32 = some x32 ∧ ifS (fieldAddrV 3 x32) fun x34 => ∃ x35 : Int, loadV S3 x34 = some (V.int .i64 x35) ∧ ifC (decide ((16384 : Int) < x35)) (∃ x39 : Int, loadV S3 (V.ptr S1.next 0) = some (V.int .i64 x39) ∧ CallA P (N Fn.wal_Log_begin) [x0, (V.int .i64 x39)] S3 (retT [(.one (.int .i64))] fun (x40 : Int) (S5 : St) => ifC (!decide (x40 = (0 : Int))) (K 0 x40 S5) (k1  S5))) (k1  S3)) (fun (S4 : St) => ∃ x45_a : Int, ∃ x45_b : List UInt8, loadNV S4 2 (V.ptr S1.next 0) = some (V.agg [(V.int .i64 x45_a), (V.str x45_b)]) ∧ CallA P (N Fn.wal_Log_lay) [x0, (V.agg [(V.int .i64 x45_a), (V.str x45_b)])] S4 (retT [(.one (.int .i64))] fun (x46 : Int) (S6 : St) => ifC (!decide (x46 = (0 : Int))) (K 0 x46 S6) (∃ x51 : Int, loadV S6 (V.ptr S1.next 0) = some (V.int .i64 x51) ∧ K x51 0 S6))))))
abbrev wal_Log_Append.Ok (P : Program) (N : Nat → Nat) : Prop := Reads P (N Fn.wal_Log_Append) [(14, .no, [(.one (.int .i64))]), (2, (.dt (.agg [(.int .i64), .str])), []), (10, (.dt (.one (.int .i64))), []), (5, (.dt (.one (.int .i64))), []), (3, (.dt (.one (.int .i64))), []), (0, .no, [(.one (.int .i64))]), (7, (.dt (.agg [(.int .i64), .str])), []), (0, .no, [(.one (.int .i64))]), (7, (.dt (.one (.int .i64))), [])] [(7, [])] [] (fun A T (x0 : V) (x1 : List UInt8) (S : St) (K : Int → Int → St → Prop) => wpT P (envP P) T (endT A.results [(.one (.int .i64)), (.one (.int .i64))] K) (frT A [x0, (V.str x1)]) S) (fun x0 x1 S K => wal_Log_Append.p P N x0 x1 S K)
theorem wal_Log_Append.run {P : Program} {N : Nat → Nat} (hF : wal_Log_Append.Ok P N) {x0 : V} {x1 : List UInt8} {S : St} {K : Int → Int → St → Prop} (h : wal_Log_Append.p P N x0 x1 S K) : CallA P (N Fn.wal_Log_Append) [x0, (V.str x1)] S (retT [(.one (.int .i64)), (.one (.int .i64))] K) := hF.run (fun q => q x0 x1 S K) h rfl

def wal_Log_Sync.p (P : Program) (N : Nat → Nat) (x0 : V) (S : St) (K : Int → St → Prop) : Prop :=
  ∃ x8 : Bool, eqV 1 [] x0 V.nilPtr = some x8 ∧ ifC x8 (K 3 S) (nilV x0 = some x0 ∧ ifS (fieldAddrV 1 x0) fun x11 => ifS (loadV S x11) fun x12 => ∃ x13 : Int, lenV S 2 x12 = some (V.int .i64 x13) ∧ Loop1 (fun (k1 : Int → St → Prop) (x14 : Int) (S1 : St) => ifC (decide (x14 < x13)) (ifS (idxAddrV 1 x12 (V.int .i64 x14)) fun x16 => ifS (loadV S1 x16) fun x17 => nilV x17 = some x17 ∧ ifS (fieldAddrV 4 x17) fun x20 => ∃ x21 : Bool, loadV S1 x20 = some (V.bool x21) ∧ ifC (!x21) (setI (IntKind.i64.wrap (x14 + (1 : Int))) fun x38 => k1 x38 S1) (nilV x0 = some x0 ∧ ifS (fieldAddrV 0 x0) fun x25 => ifS (loadV S1 x25) fun x26 => nilV x17 = some x17 ∧ ifS (fieldAddrV 0 x17) fun x29 => ∃ x30 : List UInt8, loadV S1 x29 = some (V.str x30) ∧ CallA P (N Fn.disk_Disk_Sync) [x26, (V.str x30)] S1 (retT [(.one (.int .i64))] fun (x31 : Int) (S2 : St) => ifC (!decide (x31 = (0 : Int))) (K x31 S2) (nilV x17 = some x17 ∧ ifS (fieldAddrV 4 x17) fun x37 => ifS (storeV S2 1 x37 (V.bool false)) fun S3 => setI (IntKind.i64.wrap (x14 + (1 : Int))) fun x38_1 => k1 x38_1 S3)))) (Join0 (fun (k2 : St → Prop) => nilV x0 = some x0 ∧ ifS (fieldAddrV 3 x0) fun x41 => ∃ x42 : Bool, loadV S1 x41 = some (V.bool x42) ∧ ifC x42 (nilV x0 = some x0 ∧ ifS (fieldAddrV 0 x0) fun x45 => ifS (loadV S1 x45) fun x46 => CallA P (N Fn.disk_Disk_SyncDir) [x46] S1 (retT [(.one (.int .i64))] fun (x47 : Int) (S5 : St) => ifC (!decide (x47 = (0 : Int))) (K x47 S5) (nilV x0 = some x0 ∧ ifS (fieldAddrV 3 x0) fun x53 => ifS (storeV S5 1 x53 (V.bool false)) fun S6 => k2  S6))) (k2  S1)) (fun (S4 : St) => CallA P (N Fn.wal_Log_Last) [x0] S4 (retT [(.one (.int .i64))] fun (x56 : Int) (S7 : St) => nilV x0 = some x0 ∧ ifS (fieldAddrV 2 x0) fun x58 => ifS (storeV S7 1 x58 (V.int .i64 x56)) fun S8 => K 0 S8)))) 0 S)
abbrev wal_Log_Sync.Ok (P : Program) (N : Nat → Nat) : Prop := Reads P (N Fn.wal_Log_Sync) [(8, (.dt (.one (.int .i64))), []), (8, (.dt (.one .bool)), []), (8, (.dt (.one .str)), []), (0, .no, [(.one (.int .i64))]), (14, (.dt (.one .bool)), []), (4, .no, [(.one (.int .i64))]), (11, .no, [(.one (.int .i64))])] [(16, [])] [[(14, (.one (.int .i64)))]] (fun A T (x0 : V) (S : St) (K : Int → St → Prop) => wpT P (envP P) T (endT A.results [(.one (.int .i64))] K) (frT A [x0]) S) (fun x0 S K => wal_Log_Sync.p P N x0 S K)
theorem wal_Log_Sync.run {P : Program} {N : Nat → Nat} (hF : wal_Log_Sync.Ok P N) {x0 : V} {S : St} {K : Int → St → Prop} (h : wal_Log_Sync.p P N x0 S K) : CallA P (N Fn.wal_Log_Sync) [x0] S (retT [(.one (.int .i64))] K) := hF.run (fun q => q x0 S K) h rfl

def wal_Log_Cut.p (P : Program) (N : Nat → Nat) (x0 : V) (x1 : Int) (S : St) (K : Int → St → Prop) : Prop :=
  Join0 (fun (k1 : St → Prop) => ∃ x12 : Bool, eqV 1 [] x0 V.nilPtr = some x12 ∧ ifC x12 (K 3 S) (ifC (decide (x1 < (0 : Int))) (K 180 S) (CallA P (N Fn.wal_Log_Last) [x0] S (retT [(.one (.int .i64))] fun (x19 : Int) (S2 : St) => ifC (decide (x19 < x1)) (K 180 S2) (k1  S2))))) (fun (S1 : St) => Join0 (fun (k2 : St → Prop) => nilV x0 = some x0 ∧ ifS (fieldAddrV 1 x0) fun x24 => ifS (loadV S1 x24) fun x25 => ∃ x26 : Int, lenV S1 2 x25 = some (V.int .i64 x26) ∧ Join1 (fun (k3 : Bool → St → Prop) => CallA P (N Fn.wal_Log_Last) [x0] S1 (retT [(.one (.int .i64))] fun (x29 : Int) (S5 : St) => ifC (decide (x1 = x29)) (nilV x0 = some x0 ∧ ifS (fieldAddrV 1 x0) fun x34 => ifS (loadV S5 x34) fun x35 => setI (IntKind.i64.wrap (x26 - (1 : Int))) fun x37 => ifS (idxAddrV 1 x35 (V.int .i64 x37)) fun x38 => ifS (loadV S5 x38) fun x39 => nilV x39 = some x39 ∧ ifS (fieldAddrV 2 x39) fun x41 => ∃ x42 : Int, loadV S5 x41 = some (V.int .i64 x42) ∧ nilV x0 = some x0 ∧ ifS (fieldAddrV 1 x0) fun x45 => ifS (loadV S5 x45) fun x46 => setI (IntKind.i64.wrap (x26 - (1 : Int))) fun x48 => ifS (idxAddrV 1 x46 (V.int .i64 x48)) fun x49 => ifS (loadV S5 x49) fun x50 => nilV x50 = some x50 ∧ ifS (fieldAddrV 1 x50) fun x52 => ∃ x53 : Int, loadV S5 x52 = some (V.int .i64 x53) ∧ k3 (decide (x53 < x42)) S5) (k3 false S5))) (fun (x55 : Bool) (S4 : St) => ifC x55 (setI (IntKind.i64.wrap (x1 + (1 : Int))) fun x58 => CallA P (N Fn.wal_Log_begin) [x0, (V.int .i64 x58)] S4 (retT [(.one (.int .i64))] fun (x59 : Int) (S6 : St) => ifC (!decide (x59 = (0 : Int))) (K x59 S6) (k2  S6))) (k2  S4))) (fun (S3 : St) => Join1 (fun (k4 : Int → St → Prop) => Loop1 (fun (k5 : Int → St → Prop) (x7_1 : Int) (S8 : St) => nilV x0 = some x0 ∧ ifS (fieldAddrV 1 x0) fun x66 => ifS (loadV S8 x66) fun x67 => ∃ x68 : Int, lenV S8 2 x67 = some (V.int .i64 x68) ∧ setI (IntKind.i64.wrap (x68 - (1 : Int))) fun x69 => ifC (decide (x7_1 < x69)) (nilV x0 = some x0 ∧ ifS (fieldAddrV 1 x0) fun x74 => ifS (loadV S8 x74) fun x75 => ifS (idxAddrV 1 x75 (V.int .i64 x7_1)) fun x77 => ifS (loadV S8 x77) fun x78 => nilV x78 = some x78 ∧ ifS (fieldAddrV 2 x78) fun x80 => ∃ x81 : Int, loadV S8 x80 = some (V.int .i64 x81) ∧ setI (IntKind.i64.wrap (x1 + (1 : Int))) fun x83 => ifC (decide (x81 ≤ x83)) (setI (IntKind.i64.wrap (x7_1 + (1 : Int))) fun x87 => k5 x87 S8) (k4 x7_1 S8)) (k4 x7_1 S8)) 0 S3) (fun (x7 : Int) (S7 : St) => ifC (decide (x7 = (0 : Int))) (K 0 S7) (CallA P (N Fn.wal_Log_Sync) [x0] S7 (retT [(.one (.int .i64))] fun (x91 : Int) (S9 : St) => ifC (!decide (x91 = (0 : Int))) (K x91 S9) (Loop1 (fun (k6 : Int → St → Prop) (x96 : Int) (S10 : St) => ifC (decide (x96 < x7)) (nilV x0 = some x0 ∧ ifS (fieldAddrV 3 x0) fun x100 => ifS (storeV S10 1 x100 (V.bool true)) fun S11 => nilV x0 = some x0 ∧ ifS (fieldAddrV 0 x0) fun x103 => ifS (loadV S11 x103) fun x104 => nilV x0 = some x0 ∧ ifS (fieldAddrV 1 x0) fun x107 => ifS (loadV S11 x107) fun x108 => ifS (idxAddrV 1 x108 (V.int .i64 0)) fun x109 => ifS (loadV S11 x109) fun x110 => nilV x110 = some x110 ∧ ifS (fieldAddrV 0 x110) fun x112 => ∃ x113 : List UInt8, loadV S11 x112 = some (V.str x113) ∧ CallA P (N Fn.disk_Disk_Remove) [x104, (V.str x113)] S11 (retT [(.one (.int .i64))] fun (x114 : Int) (S12 : St) => sameK (V.block x109 ++ (V.block x107 ++ [])) S11 S12 (ifC (!decide (x114 = (0 : Int))) (K x114 S12) (nilV x0 = some x0 ∧ ifS (fieldAddrV 1 x0) fun x121 => ifS (loadV S12 x121) fun x122 => CallA P (N Fn.slices_Delete_Lpwal_segment) [x122, (V.int .i64 0), (V.int .i64 1)] S12 (retT [(.one .any)] fun (x123 : V) (S13 : St) => nilV x0 = some x0 ∧ ifS (fieldAddrV 1 x0) fun x125 => ifS (storeV S13 1 x125 x123) fun S14 => setI (IntKind.i64.wrap (x96 + (1 : Int))) fun x126 => k6 x126 S14))))) (K 0 S10)) 0 S9))))))
abbrev wal_Log_Cut.Ok (P : Program) (N : Nat → Nat) : Prop := Reads P (N Fn.wal_Log_Cut) [(10, .no, [(.one (.int .i64))]), (8, (.dt (.one (.int .i64))), []), (3, .no, [(.one (.int .i64))]), (12, (.dt (.one (.int .i64))), []), (10, (.dt (.one (.int .i64))), []), (5, .no, [(.one (.int .i64))]), (11, (.dt (.one (.int .i64))), []), (12, (.dt (.one (.int .i64))), []), (11, .no, [(.one (.int .i64))]), (24, (.dt (.one .str)), []), (0, .no, [(.one (.int .i64))]), (10, .no, [(.one .any)])] [(1, []), (4, []), (1, [(55, (.one .bool))]), (4, [(7, (.one (.int .i64)))])] [[(7, (.one (.int .i64)))], [(96, (.one (.int .i64)))]] (fun A T (x0 : V) (x1 : Int) (S : St) (K : Int → St → Prop) => wpT P (envP P) T (endT A.results [(.one (.int .i64))] K) (frT A [x0, (V.int .i64 x1)]) S) (fun x0 x1 S K => wal_Log_Cut.p P N x0 x1 S K)
def wal_Log_Last.p (P : Program) (N : Nat → Nat) (x0 : V) (S : St) (K : Int → St → Prop) : Prop :=
  Join0 (fun (k1 : St → Prop) => ∃ x4 : Bool, eqV 1 [] x0 V.nilPtr = some x4 ∧ ifC x4 (K 0 S) (nilV x0 = some x0 ∧ ifS (fieldAddrV 1 x0) fun x8 => ifS (loadV S x8) fun x9 => ∃ x10 : Int, lenV S 2 x9 = some (V.int .i64 x10) ∧ ifC (decide (x10 = (0 : Int))) (K 0 S) (k1  S))) (fun (S1 : St) => nilV x0 = some x0 ∧ ifS (fieldAddrV 1 x0) fun x15 => ifS (loadV S1 x15) fun x16 => nilV x0 = some x0 ∧ ifS (fieldAddrV 1 x0) fun x19 => ifS (loadV S1 x19) fun x20 => ∃ x21 : Int, lenV S1 2 x20 = some (V.int .i64 x21) ∧ setI (IntKind.i64.wrap (x21 - (1 : Int))) fun x22 => ifS (idxAddrV 1 x16 (V.int .i64 x22)) fun x23 => ifS (loadV S1 x23) fun x24 => nilV x24 = some x24 ∧ ifS (fieldAddrV 2 x24) fun x26 => ∃ x27 : Int, loadV S1 x26 = some (V.int .i64 x27) ∧ setI (IntKind.i64.wrap (x27 - (1 : Int))) fun x28 => K x28 S1)
abbrev wal_Log_Last.Ok (P : Program) (N : Nat → Nat) : Prop := Reads P (N Fn.wal_Log_Last) [(8, (.dt (.one (.int .i64))), []), (11, (.dt (.one (.int .i64))), []), (5, (.dt (.one (.int .i64))), [])] [(1, [])] [] (fun A T (x0 : V) (S : St) (K : Int → St → Prop) => wpT P (envP P) T (endT A.results [(.one (.int .i64))] K) (frT A [x0]) S) (fun x0 S K => wal_Log_Last.p P N x0 S K)
theorem wal_Log_Last.run {P : Program} {N : Nat → Nat} (hF : wal_Log_Last.Ok P N) {x0 : V} {S : St} {K : Int → St → Prop} (h : wal_Log_Last.p P N x0 S K) : CallA P (N Fn.wal_Log_Last) [x0] S (retT [(.one (.int .i64))] K) := hF.run (fun q => q x0 S K) h rfl

def wal_begins.p (P : Program) (N : Nat → Nat) (x0 : V) (S : St) (K : Int → Bool → St → Prop) : Prop :=
  Join0 (fun (k1 : St → Prop) => ∃ x9 : Int, lenV S 2 x0 = some (V.int .i64 x9) ∧ ifC (decide (x9 < (16 : Int))) (K 0 false S) (ifS (sliceSlV 1 x0 none (some (V.int .i64 16)) none) fun x13 => CallA P (N Fn.wal_whole) [x13] S (retT [(.one .bool)] fun (x14 : Bool) (S2 : St) => ifC (!x14) (K 0 false S2) (k1  S2)))) (fun (S1 : St) => CallA P (N Fn.wal_get32) [x0, (V.int .i64 0)] S1 (retT [(.one (.int .u32)), (.one (.int .i64))] fun (x19a : Int) (x19b : Int) (S3 : St) => CallA P (N Fn.wal_get64) [x0, (V.int .i64 4)] S3 (retT [(.one (.int .u64)), (.one (.int .i64))] fun (x24a : Int) (x24b : Int) (S4 : St) => setI (IntKind.i64.wrap x24a) fun x28 => K x28 (decide (x19a = (1818326888 : Int))) S4)))
abbrev wal_begins.Ok (P : Program) (N : Nat → Nat) : Prop := Reads P (N Fn.wal_begins) [(3, (.dt (.one (.int .i64))), []), (4, .no, [(.one .bool)]), (5, .no, [(.one (.int .u32)), (.one (.int .i64))]), (6, .no, [(.one (.int .u64)), (.one (.int .i64))])] [(1, [])] [] (fun A T (x0 : V) (S : St) (K : Int → Bool → St → Prop) => wpT P (envP P) T (endT A.results [(.one (.int .i64)), (.one .bool)] K) (frT A [x0]) S) (fun x0 S K => wal_begins.p P N x0 S K)
theorem wal_begins.run {P : Program} {N : Nat → Nat} (hF : wal_begins.Ok P N) {x0 : V} {S : St} {K : Int → Bool → St → Prop} (h : wal_begins.p P N x0 S K) : CallA P (N Fn.wal_begins) [x0] S (retT [(.one (.int .i64)), (.one .bool)] K) := hF.run (fun q => q x0 S K) h rfl

def wal_records.p (P : Program) (N : Nat → Nat) (x0 : V) (x1 : Int) (S : St) (K : V → Bool → St → Prop) : Prop :=
  ifS (sliceSlV 1 x0 (some (V.int .i64 16)) none none) fun x11 => Loop3 (fun (k1 : V → Int → V → St → Prop) (x0_1 : V) (x1_1 : Int) (x4 : V) (S1 : St) => ∃ x13 : Int, lenV S1 2 x0_1 = some (V.int .i64 x13) ∧ ifC (decide ((16 : Int) ≤ x13)) (CallA P (N Fn.wal_get32) [x0_1, (V.int .i64 0)] S1 (retT [(.one (.int .u32)), (.one (.int .i64))] fun (x17a : Int) (x17b : Int) (S2 : St) => CallA P (N Fn.wal_get64) [x0_1, (V.int .i64 4)] S2 (retT [(.one (.int .u64)), (.one (.int .i64))] fun (x22a : Int) (x22b : Int) (S3 : St) => Join1 (fun (k2 : V → St → Prop) => ifC (decide ((65536 : Int) < x17a)) (K x4 false S3) (setI (IntKind.i64.wrap x17a) fun x29 => setI (IntKind.i64.wrap (x29 + (16 : Int))) fun x30 => ∃ x32 : Int, lenV S3 2 x0_1 = some (V.int .i64 x32) ∧ ifC (decide (x32 < x30)) (K x4 false S3) (setI (IntKind.u64.wrap x1_1) fun x38 => ifC (!decide (x22a = x38)) (K x4 false S3) (setI (IntKind.i64.wrap x17a) fun x44 => setI (IntKind.i64.wrap (x44 + (16 : Int))) fun x45 => ifS (sliceSlV 1 x0_1 none (some (V.int .i64 x45)) none) fun x46 => CallA P (N Fn.wal_whole) [x46] S3 (retT [(.one .bool)] fun (x47 : Bool) (S5 : St) => ifC (!x47) (K x4 false S5) (k2 x4 S5)))))) (fun (x4_1 : V) (S4 : St) => setI (IntKind.u32.wrap ((12 : Int) + x17a)) fun x55 => ifS (sliceSlV 1 x0_1 (some (V.int .i64 12)) (some (V.int .u32 x55)) none) fun x56 => ∃ x57 : List UInt8, convBSV S4 x56 = some (V.str x57) ∧ newS S4 (.cells [(V.int .i64 x1_1), (V.str x57)] true) fun S6 => ifP (appV S6 2 24 x4_1 (V.slice S4.next 0 1 1 2 true)) fun x60 S7 => setI (IntKind.i64.wrap x17a) fun x63 => setI (IntKind.i64.wrap (x63 + (16 : Int))) fun x64 => ifS (sliceSlV 1 x0_1 (some (V.int .i64 x64)) none none) fun x65 => setI (IntKind.i64.wrap (x1_1 + (1 : Int))) fun x67 => k1 x65 x67 x60 S7)))) (∃ x70 : Int, lenV S1 2 x0_1 = some (V.int .i64 x70) ∧ K x4 (decide (x70 = (0 : Int))) S1)) x11 x1 V.nilSlice S
abbrev wal_records.Ok (P : Program) (N : Nat → Nat) : Prop := Reads P (N Fn.wal_records) [(6, (.dt (.one (.int .i64))), []), (2, .no, [(.one (.int .u32)), (.one (.int .i64))]), (6, .no, [(.one (.int .u64)), (.one (.int .i64))]), (12, (.dt (.one (.int .i64))), []), (14, .no, [(.one .bool)]), (11, (.dt (.one .str)), []), (0, (.dt (.agg [(.int .i64), .str])), []), (0, (.dt (.agg [(.int .i64), .str])), []), (13, (.dt (.one (.int .i64))), [])] [(7, [(4, (.one .any))])] [[(0, (.one .any)), (1, (.one (.int .i64))), (4, (.one .any))]] (fun A T (x0 : V) (x1 : Int) (S : St) (K : V → Bool → St → Prop) => wpT P (envP P) T (endT A.results [(.one .any), (.one .bool)] K) (frT A [x0, (V.int .i64 x1)]) S) (fun x0 x1 S K => wal_records.p P N x0 x1 S K)
theorem wal_records.run {P : Program} {N : Nat → Nat} (hF : wal_records.Ok P N) {x0 : V} {x1 : Int} {S : St} {K : V → Bool → St → Prop} (h : wal_records.p P N x0 x1 S K) : CallA P (N Fn.wal_records) [x0, (V.int .i64 x1)] S (retT [(.one .any), (.one .bool)] K) := hF.run (fun q => q x0 x1 S K) h rfl

def wal_Log_settle.p (P : Program) (N : Nat → Nat) (x0 : V) (x1 : V) (x2 : V) (x3 : Bool) (S : St) (K : Int → St → Prop) : Prop :=
  nilV x0 = some x0 ∧ ifS (fieldAddrV 3 x0) fun x24 => ifS (storeV S 1 x24 (V.bool true)) fun S1 => ∃ x26 : Int, lenV S1 2 x1 = some (V.int .i64 x26) ∧ Loop1 (fun (k1 : Int → St → Prop) (x27 : Int) (S2 : St) => ifC (decide (x27 < x26)) (ifS (idxAddrV 1 x1 (V.int .i64 x27)) fun x29 => ∃ x30 : List UInt8, loadV S2 x29 = some (V.str x30) ∧ nilV x0 = some x0 ∧ ifS (fieldAddrV 0 x0) fun x33 => ifS (loadV S2 x33) fun x34 => CallA P (N Fn.disk_Disk_Remove) [x34, (V.str x30)] S2 (retT [(.one (.int .i64))] fun (x36 : Int) (S3 : St) => ifC (!decide (x36 = (0 : Int))) (K x36 S3) (setI (IntKind.i64.wrap (x27 + (1 : Int))) fun x40 => k1 x40 S3))) (CallA P (N Fn.wal_Log_Sync) [x0] S2 (retT [(.one (.int .i64))] fun (x42 : Int) (S4 : St) => ifC (!decide (x42 = (0 : Int))) (K x42 S4) (ifC x3 (K 0 S4) (CallA P (N Fn.wal_Log_Last) [x0] S4 (retT [(.one (.int .i64))] fun (x48 : Int) (S5 : St) => setI (IntKind.i64.wrap (x48 + (1 : Int))) fun x49 => Join3 (fun (k2 : V → V → Int → St → Prop) => nilV x0 = some x0 ∧ ifS (fieldAddrV 1 x0) fun x52 => ifS (loadV S5 x52) fun x53 => ∃ x54 : Int, lenV S5 2 x53 = some (V.int .i64 x54) ∧ Join1 (fun (k3 : Bool → St → Prop) => ifC (decide ((0 : Int) < x54)) (ifC (decide ((8 : Int) ≤ x54)) (k3 true S5) (∃ x62 : Int, lenV S5 2 x2 = some (V.int .i64 x62) ∧ k3 (decide (x62 = (0 : Int))) S5)) (k3 false S5)) (fun (x65 : Bool) (S7 : St) => ifC x65 (nilV x0 = some x0 ∧ ifS (fieldAddrV 1 x0) fun x68 => ifS (loadV S7 x68) fun x69 => setI (IntKind.i64.wrap (x54 - (1 : Int))) fun x71 => ifS (idxAddrV 1 x69 (V.int .i64 x71)) fun x72 => ifS (loadV S7 x72) fun x73 => nilV x0 = some x0 ∧ ifS (fieldAddrV 1 x0) fun x77 => ifS (loadV S7 x77) fun x78 => setI (IntKind.i64.wrap (x54 - (1 : Int))) fun x80 => ifS (sliceSlV 1 x78 none (some (V.int .i64 x80)) none) fun x81 => nilV x0 = some x0 ∧ ifS (fieldAddrV 1 x0) fun x83 => ifS (storeV S7 1 x83 x81) fun S8 => nilV x73 = some x73 ∧ ifS (fieldAddrV 1 x73) fun x86 => ∃ x87 : Int, loadV S8 x86 = some (V.int .i64 x87) ∧ k2 x2 x73 x87 S8) (k2 V.nilSlice V.nilPtr x49 S7))) (fun (x2_1 : V) (x13 : V) (x14 : Int) (S6 : St) => CallA P (N Fn.wal_Log_begin) [x0, (V.int .i64 x14)] S6 (retT [(.one (.int .i64))] fun (x90 : Int) (S9 : St) => ifC (!decide (x90 = (0 : Int))) (K x90 S9) (∃ x95 : Int, lenV S9 2 x2_1 = some (V.int .i64 x95) ∧ Loop1 (fun (k4 : Int → St → Prop) (x96 : Int) (S10 : St) => ifC (decide (x96 < x95)) (ifS (idxAddrV 2 x2_1 (V.int .i64 x96)) fun x98 => ∃ x99_a : Int, ∃ x99_b : List UInt8, loadNV S10 2 x98 = some (V.agg [(V.int .i64 x99_a), (V.str x99_b)]) ∧ newS S10 (.cells [(V.int .i64 0), (V.str ([] : List UInt8))] true) fun S11 => ifS (storeV S11 2 (V.ptr S10.next 0) (V.agg [(V.int .i64 x99_a), (V.str x99_b)])) fun S12 => ∃ x101_a : Int, ∃ x101_b : List UInt8, loadNV S12 2 (V.ptr S10.next 0) = some (V.agg [(V.int .i64 x101_a), (V.str x101_b)]) ∧ CallA P (N Fn.wal_Log_lay) [x0, (V.agg [(V.int .i64 x101_a), (V.str x101_b)])] S12 (retT [(.one (.int .i64))] fun (x102 : Int) (S13 : St) => ifC (!decide (x102 = (0 : Int))) (K x102 S13) (setI (IntKind.i64.wrap (x96 + (1 : Int))) fun x106 => k4 x106 S13))) (Join0 (fun (k5 : St → Prop) => CallA P (N Fn.wal_Log_Sync) [x0] S10 (retT [(.one (.int .i64))] fun (x108 : Int) (S15 : St) => ifC (!decide (x108 = (0 : Int))) (K x108 S15) (∃ x113 : Bool, eqV 1 [] x13 V.nilPtr = some x113 ∧ ifC x113 (K x108 S15) (k5  S15)))) (fun (S14 : St) => nilV x0 = some x0 ∧ ifS (fieldAddrV 3 x0) fun x118 => ifS (storeV S14 1 x118 (V.bool true)) fun S16 => nilV x0 = some x0 ∧ ifS (fieldAddrV 0 x0) fun x121 => ifS (loadV S16 x121) fun x122 => nilV x13 = some x13 ∧ ifS (fieldAddrV 0 x13) fun x125 => ∃ x126 : List UInt8, loadV S16 x125 = some (V.str x126) ∧ CallA P (N Fn.disk_Disk_Remove) [x122, (V.str x126)] S16 (retT [(.one (.int .i64))] fun (x127 : Int) (S17 : St) => ifC (!decide (x127 = (0 : Int))) (K x127 S17) (CallA P (N Fn.wal_Log_Sync) [x0] S17 (retT [(.one (.int .i64))] fun (x132 : Int) (S18 : St) => K x132 S18)))))) 0 S9))))))))) 0 S1
abbrev wal_Log_settle.Ok (P : Program) (N : Nat → Nat) : Prop := Reads P (N Fn.wal_Log_settle) [(6, (.dt (.one (.int .i64))), []), (3, (.dt (.one .str)), []), (6, .no, [(.one (.int .i64))]), (8, .no, [(.one (.int .i64))]), (9, .no, [(.one (.int .i64))]), (6, (.dt (.one (.int .i64))), []), (8, (.dt (.one (.int .i64))), []), (26, (.dt (.one (.int .i64))), []), (4, .no, [(.one (.int .i64))]), (6, (.dt (.one (.int .i64))), []), (3, (.dt (.agg [(.int .i64), .str])), []), (3, (.dt (.agg [(.int .i64), .str])), []), (0, .no, [(.one (.int .i64))]), (8, .no, [(.one (.int .i64))]), (20, (.dt (.one .str)), []), (0, .no, [(.one (.int .i64))]), (6, .no, [(.one (.int .i64))])] [(20, [(2, (.one .any)), (13, (.one .any)), (14, (.one (.int .i64)))]), (1, [(65, (.one .bool))]), (15, [])] [[(27, (.one (.int .i64)))], [(96, (.one (.int .i64)))]] (fun A T (x0 : V) (x1 : V) (x2 : V) (x3 : Bool) (S : St) (K : Int → St → Prop) => wpT P (envP P) T (endT A.results [(.one (.int .i64))] K) (frT A [x0, x1, x2, (V.bool x3)]) S) (fun x0 x1 x2 x3 S K => wal_Log_settle.p P N x0 x1 x2 x3 S K)
theorem wal_Log_settle.run {P : Program} {N : Nat → Nat} (hF : wal_Log_settle.Ok P N) {x0 : V} {x1 : V} {x2 : V} {x3 : Bool} {S : St} {K : Int → St → Prop} (h : wal_Log_settle.p P N x0 x1 x2 x3 S K) : CallA P (N Fn.wal_Log_settle) [x0, x1, x2, (V.bool x3)] S (retT [(.one (.int .i64))] K) := hF.run (fun q => q x0 x1 x2 x3 S K) h rfl

def wal_Log_begin.p (P : Program) (N : Nat → Nat) (x0 : V) (x1 : Int) (S : St) (K : Int → St → Prop) : Prop :=
  nilV x0 = some x0 ∧ ifS (fieldAddrV 4 x0) fun x11 => ∃ x12 : Int, loadV S x11 = some (V.int .i64 x12) ∧ setI (IntKind.i64.wrap ((1000001 : Int) + x12)) fun x13 => CallA P (N Fn.strconv_Itoa) [(V.int .i64 x13)] S (retT [(.one .str)] fun (x14 : List UInt8) (S1 : St) => ∃ x15 : List UInt8, sliceStrV (V.str x14) (some (V.int .i64 1)) none = some (V.str x15) ∧ ([108, 111, 103, 46] : List UInt8).length + x15.length < 2 ^ 62 ∧ newS S1 (.cells [(V.str (([108, 111, 103, 46] : List UInt8) ++ x15)), (V.int .i64 x1), (V.int .i64 x1), (V.int .i64 16), (V.bool true)] true) fun S2 => Join0 (fun (k1 : St → Prop) => nilV x0 = some x0 ∧ ifS (fieldAddrV 0 x0) fun x24 => ifS (loadV S2 x24) fun x25 => nilV (V.ptr S1.next 0) = some (V.ptr S1.next 0) ∧ ∃ x29 : List UInt8, loadV S2 (V.ptr S1.next 0) = some (V.str x29) ∧ CallA P (N Fn.disk_Disk_Create) [x25, (V.str x29)] S2 (retT [(.one (.int .i64))] fun (x30 : Int) (S4 : St) => ifC (!decide (x30 = (0 : Int))) (ifC (!decide (x30 = (171 : Int))) (K x30 S4) (k1  S4)) (k1  S4))) (fun (S3 : St) => nilV x0 = some x0 ∧ ifS (fieldAddrV 3 x0) fun x40 => ifS (storeV S3 1 x40 (V.bool true)) fun S5 => nilV x0 = some x0 ∧ ifS (fieldAddrV 0 x0) fun x43 => ifS (loadV S5 x43) fun x44 => nilV (V.ptr S1.next 0) = some (V.ptr S1.next 0) ∧ ∃ x48 : List UInt8, loadV S5 (V.ptr S1.next 0) = some (V.str x48) ∧ CallA P (N Fn.wal_head) [(V.int .i64 x1)] S5 (retT [(.one .any)] fun (x50 : V) (S6 : St) => Same (S1.next :: (V.block x43 ++ [])) S5 S6 ∧ CallA P (N Fn.disk_Disk_Append) [x44, (V.str x48), x50] S6 (retT [(.one (.int .i64))] fun (x51 : Int) (S7 : St) => ifC (!decide (x51 = (0 : Int))) (nilV x0 = some x0 ∧ ifS (fieldAddrV 0 x0) fun x56 => ifS (loadV S7 x56) fun x57 => nilV (V.ptr S1.next 0) = some (V.ptr S1.next 0) ∧ ∃ x61 : List UInt8, loadV S7 (V.ptr S1.next 0) = some (V.str x61) ∧ CallA P (N Fn.disk_Disk_Remove) [x57, (V.str x61)] S7 (retT [(.one (.int .i64))] fun (x62 : Int) (S8 : St) => K x51 S8)) (nilV x0 = some x0 ∧ ifS (fieldAddrV 4 x0) fun x66 => ∃ x67 : Int, loadV S7 x66 = some (V.int .i64 x67) ∧ setI (IntKind.i64.wrap (x67 + (1 : Int))) fun x68 => nilV x0 = some x0 ∧ ifS (fieldAddrV 4 x0) fun x70 => ifS (storeV S7 1 x70 (V.int .i64 x68)) fun S9 => nilV x0 = some x0 ∧ ifS (fieldAddrV 1 x0) fun x74 => ifS (loadV S9 x74) fun x75 => V.cells (V.ptr S1.next 0) = [(V.ptr S1.next 0)] ∧ newS S9 (.cells [(V.ptr S1.next 0)] true) fun S10 => ifP (appV S10 1 8 x75 (V.slice S9.next 0 1 1 1 true)) fun x78 S11 => nilV x0 = some x0 ∧ ifS (fieldAddrV 1 x0) fun x80 => ifS (storeV S11 1 x80 x78) fun S12 => K 0 S12)))))
abbrev wal_Log_begin.Ok (P : Program) (N : Nat → Nat) : Prop := Reads P (N Fn.wal_Log_begin) [(4, (.dt (.one (.int .i64))), []), (1, .no, [(.one .str)]), (0, (.dt (.one .str)), []), (5, (.dt (.agg [.str, (.int .i64), (.int .i64), (.int .i64), .bool])), []), (9, (.dt (.one .str)), []), (0, .no, [(.one (.int .i64))]), (20, (.dt (.one .str)), []), (1, .no, [(.one .any)]), (0, .no, [(.one (.int .i64))]), (10, (.dt (.one .str)), []), (0, .no, [(.one (.int .i64))]), (5, (.dt (.one (.int .i64))), []), (10, (.dt (.agg [.any])), [])] [(3, [])] [] (fun A T (x0 : V) (x1 : Int) (S : St) (K : Int → St → Prop) => wpT P (envP P) T (endT A.results [(.one (.int .i64))] K) (frT A [x0, (V.int .i64 x1)]) S) (fun x0 x1 S K => wal_Log_begin.p P N x0 x1 S K)
theorem wal_Log_begin.run {P : Program} {N : Nat → Nat} (hF : wal_Log_begin.Ok P N) {x0 : V} {x1 : Int} {S : St} {K : Int → St → Prop} (h : wal_Log_begin.p P N x0 x1 S K) : CallA P (N Fn.wal_Log_begin) [x0, (V.int .i64 x1)] S (retT [(.one (.int .i64))] K) := hF.run (fun q => q x0 x1 S K) h rfl

def wal_Log_lay.p (P : Program) (N : Nat → Nat) (x0 : V) (x1_a : Int) (x1_b : List UInt8) (S : St) (K : Int → St → Prop) : Prop :=
  newS S (.cells [(V.int .i64 x1_a), (V.str x1_b)] true) fun S1 => nilV x0 = some x0 ∧ ifS (fieldAddrV 1 x0) fun x10 => ifS (loadV S1 x10) fun x11 => nilV x0 = some x0 ∧ ifS (fieldAddrV 1 x0) fun x14 => ifS (loadV S1 x14) fun x15 => ∃ x16 : Int, lenV S1 2 x15 = some (V.int .i64 x16) ∧ setI (IntKind.i64.wrap (x16 - (1 : Int))) fun x17 => ifS (idxAddrV 1 x11 (V.int .i64 x17)) fun x18 => ifS (loadV S1 x18) fun x19 => ∃ x20_a : Int, ∃ x20_b : List UInt8, loadNV S1 2 (V.ptr S.next 0) = some (V.agg [(V.int .i64 x20_a), (V.str x20_b)]) ∧ CallA P (N Fn.wal_laid) [(V.agg [(V.int .i64 x20_a), (V.str x20_b)])] S1 (retT [(.one .any)] fun (x21 : V) (S2 : St) => nilV x0 = some x0 ∧ ifS (fieldAddrV 0 x0) fun x24 => ifS (loadV S2 x24) fun x25 => nilV x19 = some x19 ∧ ifS (fieldAddrV 0 x19) fun x28 => ∃ x29 : List UInt8, loadV S2 x28 = some (V.str x29) ∧ CallA P (N Fn.disk_Disk_Append) [x25, (V.str x29), x21] S2 (retT [(.one (.int .i64))] fun (x31 : Int) (S3 : St) => ifC (!decide (x31 = (0 : Int))) (K x31 S3) (nilV x19 = some x19 ∧ ifS (fieldAddrV 3 x19) fun x37 => ∃ x38 : Int, loadV S3 x37 = some (V.int .i64 x38) ∧ ∃ x40 : Int, lenV S3 2 x21 = some (V.int .i64 x40) ∧ setI (IntKind.i64.wrap (x38 + x40)) fun x41 => nilV x19 = some x19 ∧ ifS (fieldAddrV 3 x19) fun x43 => ifS (storeV S3 1 x43 (V.int .i64 x41)) fun S4 => nilV x19 = some x19 ∧ ifS (fieldAddrV 2 x19) fun x46 => ∃ x47 : Int, loadV S4 x46 = some (V.int .i64 x47) ∧ setI (IntKind.i64.wrap (x47 + (1 : Int))) fun x48 => nilV x19 = some x19 ∧ ifS (fieldAddrV 2 x19) fun x50 => ifS (storeV S4 1 x50 (V.int .i64 x48)) fun S5 => nilV x19 = some x19 ∧ ifS (fieldAddrV 4 x19) fun x53 => ifS (storeV S5 1 x53 (V.bool true)) fun S6 => K 0 S6)))
abbrev wal_Log_lay.Ok (P : Program) (N : Nat → Nat) : Prop := Reads P (N Fn.wal_Log_lay) [(10, (.dt (.one (.int .i64))), []), (4, (.dt (.agg [(.int .i64), .str])), []), (0, .no, [(.one .any)]), (8, (.dt (.one .str)), []), (1, .no, [(.one (.int .i64))]), (8, (.dt (.one (.int .i64))), []), (1, (.dt (.one (.int .i64))), []), (7, (.dt (.one (.int .i64))), [])] [] [] (fun A T (x0 : V) (x1_a : Int) (x1_b : List UInt8) (S : St) (K : Int → St → Prop) => wpT P (envP P) T (endT A.results [(.one (.int .i64))] K) (frT A [x0, (V.agg [(V.int .i64 x1_a), (V.str x1_b)])]) S) (fun x0 x1_a x1_b S K => wal_Log_lay.p P N x0 x1_a x1_b S K)
theorem wal_Log_lay.run {P : Program} {N : Nat → Nat} (hF : wal_Log_lay.Ok P N) {x0 : V} {x1_a : Int} {x1_b : List UInt8} {S : St} {K : Int → St → Prop} (h : wal_Log_lay.p P N x0 x1_a x1_b S K) : CallA P (N Fn.wal_Log_lay) [x0, (V.agg [(V.int .i64 x1_a), (V.str x1_b)])] S (retT [(.one (.int .i64))] K) := hF.run (fun q => q x0 x1_a x1_b S K) h rfl

def wal_whole.p (P : Program) (N : Nat → Nat) (x0 : V) (S : St) (K : Bool → St → Prop) : Prop :=
  ∃ x8 : Int, lenV S 2 x0 = some (V.int .i64 x8) ∧ setI (IntKind.i64.wrap (x8 - (4 : Int))) fun x9 => CallA P (N Fn.wal_get32) [x0, (V.int .i64 x9)] S (retT [(.one (.int .u32)), (.one (.int .i64))] fun (x10a : Int) (x10b : Int) (S1 : St) => ifC (decide (x10b = (0 : Int))) (∃ x19 : Int, lenV S1 2 x0 = some (V.int .i64 x19) ∧ setI (IntKind.i64.wrap (x19 - (4 : Int))) fun x20 => ifS (sliceSlV 1 x0 none (some (V.int .i64 x20)) none) fun x21 => CallA P (N Fn.codec_Sum) [x21] S1 (retT [(.one (.int .u32))] fun (x22 : Int) (S2 : St) => K (decide (x10a = x22)) S2)) (K false S1))
abbrev wal_whole.Ok (P : Program) (N : Nat → Nat) : Prop := Reads P (N Fn.wal_whole) [(3, (.dt (.one (.int .i64))), []), (1, .no, [(.one (.int .u32)), (.one (.int .i64))]), (11, (.dt (.one (.int .i64))), []), (2, .no, [(.one (.int .u32))])] [] [] (fun A T (x0 : V) (S : St) (K : Bool → St → Prop) => wpT P (envP P) T (endT A.results [(.one .bool)] K) (frT A [x0]) S) (fun x0 S K => wal_whole.p P N x0 S K)
theorem wal_whole.run {P : Program} {N : Nat → Nat} (hF : wal_whole.Ok P N) {x0 : V} {S : St} {K : Bool → St → Prop} (h : wal_whole.p P N x0 S K) : CallA P (N Fn.wal_whole) [x0] S (retT [(.one .bool)] K) := hF.run (fun q => q x0 S K) h rfl

def wal_get32.p (P : Program) (N : Nat → Nat) (x0 : V) (x1 : Int) (S : St) (K : Int → Int → St → Prop) : Prop :=
  Join0 (fun (k1 : St → Prop) => ifC (decide (x1 < (0 : Int))) (K 0 161 S) (setI (IntKind.i64.wrap (x1 + (4 : Int))) fun x10 => ∃ x12 : Int, lenV S 2 x0 = some (V.int .i64 x12) ∧ ifC (decide (x12 < x10)) (K 0 161 S) (k1  S))) (fun (S1 : St) => ifS (idxAddrV 1 x0 (V.int .i64 x1)) fun x17 => ∃ x18 : Int, loadV S1 x17 = some (V.int .u8 x18) ∧ setI (IntKind.u32.wrap x18) fun x19 => setI (IntKind.i64.wrap (x1 + (1 : Int))) fun x22 => ifS (idxAddrV 1 x0 (V.int .i64 x22)) fun x23 => ∃ x24 : Int, loadV S1 x23 = some (V.int .u8 x24) ∧ setI (IntKind.u32.wrap x24) fun x25 => 0 ≤ (8 : Int) ∧ setI (IntKind.u32.wrap (x25 * 2 ^ (min (Int.toNat (8 : Int)) (IntKind.bits .u32)))) fun x26 => setI (intBits .or .u32 x19 x26) fun x27 => setI (IntKind.i64.wrap (x1 + (2 : Int))) fun x30 => ifS (idxAddrV 1 x0 (V.int .i64 x30)) fun x31 => ∃ x32 : Int, loadV S1 x31 = some (V.int .u8 x32) ∧ setI (IntKind.u32.wrap x32) fun x33 => 0 ≤ (16 : Int) ∧ setI (IntKind.u32.wrap (x33 * 2 ^ (min (Int.toNat (16 : Int)) (IntKind.bits .u32)))) fun x34 => setI (intBits .or .u32 x27 x34) fun x35 => setI (IntKind.i64.wrap (x1 + (3 : Int))) fun x38 => ifS (idxAddrV 1 x0 (V.int .i64 x38)) fun x39 => ∃ x40 : Int, loadV S1 x39 = some (V.int .u8 x40) ∧ setI (IntKind.u32.wrap x40) fun x41 => 0 ≤ (24 : Int) ∧ setI (IntKind.u32.wrap (x41 * 2 ^ (min (Int.toNat (24 : Int)) (IntKind.bits .u32)))) fun x42 => setI (intBits .or .u32 x35 x42) fun x43 => K x43 0 S1)
abbrev wal_get32.Ok (P : Program) (N : Nat → Nat) : Prop := Reads P (N Fn.wal_get32) [(8, (.dt (.one (.int .i64))), []), (7, (.dt (.one (.int .u8))), []), (5, (.dt (.one (.int .u8))), []), (7, (.dt (.one (.int .u8))), []), (7, (.dt (.one (.int .u8))), [])] [(1, [])] [] (fun A T (x0 : V) (x1 : Int) (S : St) (K : Int → Int → St → Prop) => wpT P (envP P) T (endT A.results [(.one (.int .u32)), (.one (.int .i64))] K) (frT A [x0, (V.int .i64 x1)]) S) (fun x0 x1 S K => wal_get32.p P N x0 x1 S K)
theorem wal_get32.run {P : Program} {N : Nat → Nat} (hF : wal_get32.Ok P N) {x0 : V} {x1 : Int} {S : St} {K : Int → Int → St → Prop} (h : wal_get32.p P N x0 x1 S K) : CallA P (N Fn.wal_get32) [x0, (V.int .i64 x1)] S (retT [(.one (.int .u32)), (.one (.int .i64))] K) := hF.run (fun q => q x0 x1 S K) h rfl

def wal_get64.p (P : Program) (N : Nat → Nat) (x0 : V) (x1 : Int) (S : St) (K : Int → Int → St → Prop) : Prop :=
  CallA P (N Fn.wal_get32) [x0, (V.int .i64 x1)] S (retT [(.one (.int .u32)), (.one (.int .i64))] fun (x12a : Int) (x12b : Int) (S1 : St) => ifC (!decide (x12b = (0 : Int))) (K 0 x12b S1) (setI (IntKind.i64.wrap (x1 + (4 : Int))) fun x21 => CallA P (N Fn.wal_get32) [x0, (V.int .i64 x21)] S1 (retT [(.one (.int .u32)), (.one (.int .i64))] fun (x22a : Int) (x22b : Int) (S2 : St) => setI (IntKind.u64.wrap x12a) fun x26 => setI (IntKind.u64.wrap x22a) fun x28 => 0 ≤ (32 : Int) ∧ setI (IntKind.u64.wrap (x28 * 2 ^ (min (Int.toNat (32 : Int)) (IntKind.bits .u64)))) fun x29 => setI (intBits .or .u64 x26 x29) fun x30 => K x30 x22b S2)))
abbrev wal_get64.Ok (P : Program) (N : Nat → Nat) : Prop := Reads P (N Fn.wal_get64) [(4, .no, [(.one (.int .u32)), (.one (.int .i64))]), (13, .no, [(.one (.int .u32)), (.one (.int .i64))])] [] [] (fun A T (x0 : V) (x1 : Int) (S : St) (K : Int → Int → St → Prop) => wpT P (envP P) T (endT A.results [(.one (.int .u64)), (.one (.int .i64))] K) (frT A [x0, (V.int .i64 x1)]) S) (fun x0 x1 S K => wal_get64.p P N x0 x1 S K)
theorem wal_get64.run {P : Program} {N : Nat → Nat} (hF : wal_get64.Ok P N) {x0 : V} {x1 : Int} {S : St} {K : Int → Int → St → Prop} (h : wal_get64.p P N x0 x1 S K) : CallA P (N Fn.wal_get64) [x0, (V.int .i64 x1)] S (retT [(.one (.int .u64)), (.one (.int .i64))] K) := hF.run (fun q => q x0 x1 S K) h rfl

def wal_head.p (P : Program) (N : Nat → Nat) (x0 : Int) (S : St) (K : V → St → Prop) : Prop :=
  CallA P (N Fn.wal_put32) [V.nilSlice, (V.int .u32 1818326888)] S (retT [(.one .any)] fun (x3 : V) (S1 : St) => setI (IntKind.u64.wrap x0) fun x5 => CallA P (N Fn.wal_put64) [x3, (V.int .u64 x5)] S1 (retT [(.one .any)] fun (x6 : V) (S2 : St) => CallA P (N Fn.wal_sealed) [x6] S2 (retT [(.one .any)] fun (x7 : V) (S3 : St) => K x7 S3)))
abbrev wal_head.Ok (P : Program) (N : Nat → Nat) : Prop := Reads P (N Fn.wal_head) [(1, .no, [(.one .any)]), (2, .no, [(.one .any)]), (0, .no, [(.one .any)])] [] [] (fun A T (x0 : Int) (S : St) (K : V → St → Prop) => wpT P (envP P) T (endT A.results [(.one .any)] K) (frT A [(V.int .i64 x0)]) S) (fun x0 S K => wal_head.p P N x0 S K)
theorem wal_head.run {P : Program} {N : Nat → Nat} (hF : wal_head.Ok P N) {x0 : Int} {S : St} {K : V → St → Prop} (h : wal_head.p P N x0 S K) : CallA P (N Fn.wal_head) [(V.int .i64 x0)] S (retT [(.one .any)] K) := hF.run (fun q => q x0 S K) h rfl

def wal_laid.p (P : Program) (N : Nat → Nat) (x0_a : Int) (x0_b : List UInt8) (S : St) (K : V → St → Prop) : Prop :=
  newS S (.cells [(V.int .i64 x0_a), (V.str x0_b)] true) fun S1 => ∃ x5 : List UInt8, loadV S1 (V.ptr S.next 1) = some (V.str x5) ∧ setI (IntKind.u32.wrap (x5.length : Int)) fun x7 => ∃ x10 : Int, loadV S1 (V.ptr S.next 0) = some (V.int .i64 x10) ∧ setI (IntKind.u64.wrap x10) fun x11 => CallA P (N Fn.wal_put32) [V.nilSlice, (V.int .u32 x7)] S1 (retT [(.one .any)] fun (x8 : V) (S2 : St) => Same (S.next :: (S.next :: [])) S1 S2 ∧ CallA P (N Fn.wal_put64) [x8, (V.int .u64 x11)] S2 (retT [(.one .any)] fun (x12 : V) (S3 : St) => Same (S.next :: (S.next :: [])) S2 S3 ∧ ∃ x15 : List UInt8, loadV S3 (V.ptr S.next 1) = some (V.str x15) ∧ ifP (appV S3 1 1 x12 (V.str x15)) fun x16 S4 => CallA P (N Fn.wal_sealed) [x16] S4 (retT [(.one .any)] fun (x17 : V) (S5 : St) => K x17 S5)))
abbrev wal_laid.Ok (P : Program) (N : Nat → Nat) : Prop := Reads P (N Fn.wal_laid) [(3, (.dt (.one .str)), []), (3, (.dt (.one (.int .i64))), []), (1, .no, [(.one .any)]), (0, .no, [(.one .any)]), (3, (.dt (.one .str)), []), (1, .no, [(.one .any)])] [] [] (fun A T (x0_a : Int) (x0_b : List UInt8) (S : St) (K : V → St → Prop) => wpT P (envP P) T (endT A.results [(.one .any)] K) (frT A [(V.agg [(V.int .i64 x0_a), (V.str x0_b)])]) S) (fun x0_a x0_b S K => wal_laid.p P N x0_a x0_b S K)
theorem wal_laid.run {P : Program} {N : Nat → Nat} (hF : wal_laid.Ok P N) {x0_a : Int} {x0_b : List UInt8} {S : St} {K : V → St → Prop} (h : wal_laid.p P N x0_a x0_b S K) : CallA P (N Fn.wal_laid) [(V.agg [(V.int .i64 x0_a), (V.str x0_b)])] S (retT [(.one .any)] K) := hF.run (fun q => q x0_a x0_b S K) h rfl

def wal_sealed.p (P : Program) (N : Nat → Nat) (x0 : V) (S : St) (K : V → St → Prop) : Prop :=
  CallA P (N Fn.codec_Sum) [x0] S (retT [(.one (.int .u32))] fun (x5 : Int) (S1 : St) => CallA P (N Fn.wal_put32) [x0, (V.int .u32 x5)] S1 (retT [(.one .any)] fun (x6 : V) (S2 : St) => K x6 S2))
abbrev wal_sealed.Ok (P : Program) (N : Nat → Nat) : Prop := Reads P (N Fn.wal_sealed) [(3, .no, [(.one (.int .u32))]), (0, .no, [(.one .any)])] [] [] (fun A T (x0 : V) (S : St) (K : V → St → Prop) => wpT P (envP P) T (endT A.results [(.one .any)] K) (frT A [x0]) S) (fun x0 S K => wal_sealed.p P N x0 S K)
theorem wal_sealed.run {P : Program} {N : Nat → Nat} (hF : wal_sealed.Ok P N) {x0 : V} {S : St} {K : V → St → Prop} (h : wal_sealed.p P N x0 S K) : CallA P (N Fn.wal_sealed) [x0] S (retT [(.one .any)] K) := hF.run (fun q => q x0 S K) h rfl

def wal_put64.p (P : Program) (N : Nat → Nat) (x0 : V) (x1 : Int) (S : St) (K : V → St → Prop) : Prop :=
  setI (IntKind.u32.wrap x1) fun x7 => CallA P (N Fn.wal_put32) [x0, (V.int .u32 x7)] S (retT [(.one .any)] fun (x8 : V) (S1 : St) => 0 ≤ (32 : Int) ∧ setI (Int.fdiv x1 (2 ^ (min (Int.toNat (32 : Int)) (IntKind.bits .u64)))) fun x10 => setI (IntKind.u32.wrap x10) fun x11 => CallA P (N Fn.wal_put32) [x8, (V.int .u32 x11)] S1 (retT [(.one .any)] fun (x12 : V) (S2 : St) => K x12 S2))
abbrev wal_put64.Ok (P : Program) (N : Nat → Nat) : Prop := Reads P (N Fn.wal_put64) [(4, .no, [(.one .any)]), (3, .no, [(.one .any)])] [] [] (fun A T (x0 : V) (x1 : Int) (S : St) (K : V → St → Prop) => wpT P (envP P) T (endT A.results [(.one .any)] K) (frT A [x0, (V.int .u64 x1)]) S) (fun x0 x1 S K => wal_put64.p P N x0 x1 S K)
theorem wal_put64.run {P : Program} {N : Nat → Nat} (hF : wal_put64.Ok P N) {x0 : V} {x1 : Int} {S : St} {K : V → St → Prop} (h : wal_put64.p P N x0 x1 S K) : CallA P (N Fn.wal_put64) [x0, (V.int .u64 x1)] S (retT [(.one .any)] K) := hF.run (fun q => q x0 x1 S K) h rfl

def wal_put32.p (P : Program) (N : Nat → Nat) (x0 : V) (x1 : Int) (S : St) (K : V → St → Prop) : Prop :=
  setI (IntKind.u8.wrap x1) fun x7 => 0 ≤ (8 : Int) ∧ setI (Int.fdiv x1 (2 ^ (min (Int.toNat (8 : Int)) (IntKind.bits .u32)))) fun x9 => setI (IntKind.u8.wrap x9) fun x10 => 0 ≤ (16 : Int) ∧ setI (Int.fdiv x1 (2 ^ (min (Int.toNat (16 : Int)) (IntKind.bits .u32)))) fun x12 => setI (IntKind.u8.wrap x12) fun x13 => 0 ≤ (24 : Int) ∧ setI (Int.fdiv x1 (2 ^ (min (Int.toNat (24 : Int)) (IntKind.bits .u32)))) fun x15 => setI (IntKind.u8.wrap x15) fun x16 => newS S (.cells [(V.int .u8 x7), (V.int .u8 x10), (V.int .u8 x13), (V.int .u8 x16)] true) fun S1 => ifP (appV S1 1 1 x0 (V.slice S.next 0 4 4 1 true)) fun x18 S2 => K x18 S2
abbrev wal_put32.Ok (P : Program) (N : Nat → Nat) : Prop := Reads P (N Fn.wal_put32) [(13, (.dt (.agg [(.int .u8), (.int .u8), (.int .u8), (.int .u8)])), [])] [] [] (fun A T (x0 : V) (x1 : Int) (S : St) (K : V → St → Prop) => wpT P (envP P) T (endT A.results [(.one .any)] K) (frT A [x0, (V.int .u32 x1)]) S) (fun x0 x1 S K => wal_put32.p P N x0 x1 S K)
theorem wal_put32.run {P : Program} {N : Nat → Nat} (hF : wal_put32.Ok P N) {x0 : V} {x1 : Int} {S : St} {K : V → St → Prop} (h : wal_put32.p P N x0 x1 S K) : CallA P (N Fn.wal_put32) [x0, (V.int .u32 x1)] S (retT [(.one .any)] K) := hF.run (fun q => q x0 x1 S K) h rfl

end Go.Th.L
end

section
/- Functions of law17, read without frames (printed by tools/lib.py). -/
set_option linter.unusedVariables false
set_option maxRecDepth 100000
set_option maxHeartbeats 2000000
namespace Go.Th.L
open Go Go.Th

end Go.Th.L
end

section
/- Functions of ref17, read without frames (printed by tools/lib.py). -/
set_option linter.unusedVariables false
set_option maxRecDepth 100000
set_option maxHeartbeats 2000000
namespace Go.Th.L
open Go Go.Th

end Go.Th.L
end

section
/- Functions of law18, read without frames (printed by tools/lib.py). -/
set_option linter.unusedVariables false
set_option maxRecDepth 100000
set_option maxHeartbeats 2000000
namespace Go.Th.L
open Go Go.Th

end Go.Th.L
end

section
/- Functions of ref03, read without frames (printed by tools/lib.py). -/
set_option linter.unusedVariables false
set_option maxRecDepth 100000
set_option maxHeartbeats 2000000
namespace Go.Th.L
open Go Go.Th

end Go.Th.L
end

section
/- Functions of ref05, read without frames (printed by tools/lib.py). -/
set_option linter.unusedVariables false
set_option maxRecDepth 100000
set_option maxHeartbeats 2000000
namespace Go.Th.L
open Go Go.Th

end Go.Th.L
end

section
/- Functions of ref16, read without frames (printed by tools/lib.py). -/
set_option linter.unusedVariables false
set_option maxRecDepth 100000
set_option maxHeartbeats 2000000
namespace Go.Th.L
open Go Go.Th

end Go.Th.L
end
