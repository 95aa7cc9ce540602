/- What the row of one statement stands on: a store, abstract code, functions of the program and their laws (ThJ, ThK). -/
import Derived.Test.YtconjbbmdjaehaaGreatDoorThBD2
import Derived.Scope
import Derived.TacticsIn
import Derived.OrdersIn
import Derived.OwnWalkIn
import Derived.RangeFuncCalls
import Derived.RangeFuncSeq

section
/- The abstract code, its weakest precondition, and that this is the model's. -/
set_option linter.unusedSimpArgs false
set_option linter.unusedVariables false
namespace Go.Th
open Go.RowKit Go.Lib

inductive AC where
  | skip
  | region (l : List AI)
  | draw (t : OT)
  | seq (a b : AC)
  | cond (x : AX) (a b : AC)
  | block (id : Nat) (a : AC)
  | loop (a : AC)
  | exit (id : Nat)
  | ret

def AI.ofs (P : Program) (ops : Array Oper) : List Oper → Option (List AI)
  | [] => some []
  | o :: os => obind (AI.of P ops o) fun i => obind (AI.ofs P ops os) fun is => some (i :: is)

def AC.of (P : Program) : Code → Option AC
  | .skip => some .skip
  | .region _ ops dr =>
    if dr then (if P.follows .mixedOrders then obind (canon P ops ops.size (Array.replicate ops.size false)) fun l => some (.draw l) else none)
    else obind (AI.ofs P ops ops.toList) fun l => some (.region l)
  | .seq a b => obind (AC.of P a) fun a => obind (AC.of P b) fun b => some (.seq a b)
  | .cond x a b => obind (AX.of x) fun x => obind (AC.of P a) fun a => obind (AC.of P b) fun b => some (.cond x a b)
  | .block id a => obind (AC.of P a) fun a => some (.block id a)
  | .loop a => obind (AC.of P a) fun a => some (.loop a)
  | .exit id => some (.exit id)
  | .ret => some .ret
  | .scope a => AC.of P a
  | .label _ => some .skip
  | _ => none

inductive AE where
  | normal
  | exit (id : Nat)
  | ret
  | panic (v : V)

abbrev PostC := AE → List V → St → Prop

def runIs (ok : Env) (callH : FuncId → List V → St → Post → Prop) (Q : PostC) : List AI → List V → St → Prop
  | [], fr, S => Q .normal fr S
  | i :: r, fr, S =>
    match wantI i.guard fr with
    | some true =>
      match i.op.run ok fr S with
      | .val v S' => runIs ok callH Q r (put fr i.dst v) S'
      | .call f args => callH f args S fun res S' => match res with
        | .ret v => runIs ok callH Q r (put fr i.dst v) S'
        | .panic v => Q (.panic v) fr S'
      | .panic v => Q (.panic v) fr S
      | .any p => ∀ v S', p v S' → runIs ok callH Q r (put fr i.dst v) S'
      | .stuck => False
    | some false => runIs ok callH Q r (put fr i.dst .undef) S
    | none => False

def wpA (ok : Env) (callH : FuncId → List V → St → Post → Prop) (loopH : AC → PostC → List V → St → Prop) : AC → PostC → List V → St → Prop
  | .skip, Q, fr, S => Q .normal fr S
  | .region l, Q, fr, S => runIs ok callH Q l fr S
  | .draw l, Q, fr, S => runD ok callH (fun v S' => ∀ fr', Q (.panic v) fr' S') (Q .normal) l [] fr S
  | .seq a b, Q, fr, S => wpA ok callH loopH a (fun e fr S => match e with | .normal => wpA ok callH loopH b Q fr S | e => Q e fr S) fr S
  | .cond x a b, Q, fr, S => match x.ev fr with
    | .bool c => if c then wpA ok callH loopH a Q fr S else wpA ok callH loopH b Q fr S
    | _ => False
  | .block id a, Q, fr, S => wpA ok callH loopH a (fun e fr S => match e with | .exit j => if j = id then Q .normal fr S else Q (.exit j) fr S | e => Q e fr S) fr S
  | .loop a, Q, fr, S => loopH a Q fr S
  | .exit id, Q, fr, S => Q (.exit id) fr S
  | .ret, Q, fr, S => Q .ret fr S

def ResR (m : LM) : Res → Ending → Prop
  | .ret v, e => ∃ u, e = .returned u ∧ VR m v u
  | .panic v, e => ∃ u, e = .panicked [{ v := u, recovered := false }] ∧ VR m v u

def CallsX (P : Program) (f : FuncId) (args : Array Value) (w : World) (R : Ending → World → Prop) : Prop :=
  (f < P.funcs.size → Calls P f args w R) ∧ (P.funcs.size ≤ f → YieldAt Fence.wide 0 P (f - P.funcs.size) args w R)
theorem CallsX.mono {P : Program} {f : FuncId} {args : Array Value} {w : World} {R R' : Ending → World → Prop} (h : CallsX P f args w R) (hr : ∀ e w', R e w' → R' e w') : CallsX P f args w R' :=
  ⟨fun hf => (h.1 hf).mono hr, fun hf => let ⟨fn, tmps, assign, body, h1, h2⟩ := h.2 hf; ⟨fn, tmps, assign, body, h1, h2.mono hr⟩⟩
theorem CallsX.of {P : Program} {f : FuncId} {args : Array Value} {w : World} {R : Ending → World → Prop} (hf : f < P.funcs.size) (h : Calls P f args w R) : CallsX P f args w R := ⟨fun _ => h, fun h' => absurd hf (Nat.not_lt.2 h')⟩
def CallA (P : Program) (f : FuncId) (args : List V) (S : St) (Q : Post) : Prop :=
  ∀ (m : LM) (base : Nat) (w0 w : World) (args' : Array Value), Sim m S base w0 w → VRs m args args'.toList →
    CallsX P f args' w fun e w' => ∃ r S' m', Q r S' ∧ Ext m m' ∧ Sim m' S' base w0 w' ∧ ResR m' r e

theorem CallA.mono {P : Program} {f : FuncId} {args : List V} {S : St} {Q Q' : Post} (h : CallA P f args S Q) (hq : ∀ r S', Q r S' → Q' r S') : CallA P f args S Q' :=
  fun m base w0 w args' hS hv => (h m base w0 w args' hS hv).mono fun _ _ ⟨r, S', m', h1, h2⟩ => ⟨r, S', m', hq _ _ h1, h2⟩

def ExR (m : LM) : AE → Exit → Prop
  | .normal, .normal => True
  | .exit i, .exit j => i = j
  | .ret, .ret => True
  | .panic v, .panic ch => ∃ u, ch = [{ v := u, recovered := false }] ∧ VR m v u
  | _, _ => False

def Lift (ds : List Deferred) (m : LM) (base : Nat) (w0 : World) (Q : PostC) : Exit → Act → World → Prop := fun e a w' =>
  ∃ e' fr' S' m', Q e' fr' S' ∧ Ext m m' ∧ Sim m' S' base w0 w' ∧ VRs m' fr' a.tmps.toList ∧ a.defers = ds ∧ ExR m' e' e

def CodeA (P : Program) (c : Code) (Q : PostC) (fr : List V) (S : St) : Prop :=
  ∀ (ds : List Deferred) (m : LM) (base : Nat) (w0 w : World) (a : Act), Sim m S base w0 w → VRs m fr a.tmps.toList → a.defers = ds → c.wp P (Lift ds m base w0 Q) a w

def LoopA (P : Program) (ac : AC) (Q : PostC) (fr : List V) (S : St) : Prop :=
  ∀ (c : Code), AC.of P c = some ac → ∀ (ds : List Deferred) (m : LM) (base : Nat) (w0 w : World) (a : Act), Sim m S base w0 w → VRs m fr a.tmps.toList → a.defers = ds →
    ∀ (b : Frame) (k : List Item) (cs : List Frame), ∃ e a' w', Lift ds m base w0 Q e a' w' ∧ Arrives P (lone (b.at a (.code c :: .inLoop c :: k)) cs w) b k cs e a' w'

theorem LoopA.code {P : Program} {ac : AC} {Q : PostC} {fr : List V} {S : St} (h : LoopA P ac Q fr S) {c : Code} (hc : AC.of P c = some ac) : CodeA P (.loop c) Q fr S := by
  intro ds m base w0 w a hS hf hd b k cs
  obtain ⟨e, a', w', h1, h2⟩ := h c hc ds m base w0 w a hS hf hd b k cs
  exact ⟨e, a', w', h1, .of_steps (.one step_loop) h2⟩

theorem VRs.set {m : LM} : ∀ {fr : List V} {us : List Value} (d : Nat) {v : V} {u : Value}, VRs m fr us → VR m v u → VRs m (fr.set d v) (us.set d u)
  | [], us, d, v, u, h, _ => by simp only [VRs] at h; subst h; simp [VRs]
  | x :: fr, us, 0, v, u, h, hv => by
    simp only [VRs] at h
    obtain ⟨y, us', rfl, h0, h1⟩ := h
    simp only [List.set_cons_zero, VRs]
    exact ⟨u, us', rfl, hv, h1⟩
  | x :: fr, us, d + 1, v, u, h, hv => by
    simp only [VRs] at h
    obtain ⟨y, us', rfl, h0, h1⟩ := h
    simp only [List.set_cons_succ, VRs]
    exact ⟨y, _, rfl, h0, h1.set d hv⟩

theorem put_rel {m : LM} {fr : List V} {a : Act} {d : Option Nat} {v : V} {u : Value} (h : VRs m fr a.tmps.toList) (hv : VR m v u) : VRs m (put fr d v) (a.put d u).tmps.toList := by
  cases d with
  | none => exact h
  | some d => simpa [put, Act.put] using h.set d hv

theorem put_defers (a : Act) (d : Option Nat) (u : Value) : (a.put d u).defers = a.defers := by cases d <;> rfl

theorem Lift.mono {ds : List Deferred} {m m' : LM} {base : Nat} {w0 : World} {Q : PostC} (h : Ext m m') {e : Exit} {a : Act} {w : World} (hl : Lift ds m' base w0 Q e a w) : Lift ds m base w0 Q e a w := by
  obtain ⟨e', fr', S', m2, h1, h2, h3⟩ := hl
  exact ⟨e', fr', S', m2, h1, h.trans h2, h3⟩

theorem wanted_rel {m : LM} {ops : Array Oper} {o : Oper} {i : AI} {P : Program} (hi : AI.of P ops o = some i) {fr : List V} {a : Act} (hf : VRs m fr a.tmps.toList) {b : Bool} (hw : wantI i.guard fr = some b) : Region.wanted o (yielded ops a.tmps) = b := by
  unfold AI.of at hi
  cases hg : o.guard with
  | none =>
    rw [hg] at hi
    obtain ⟨ao, _, hi⟩ := obind_some hi
    cases hi
    simp only [wantI, Option.some.injEq] at hw
    subst hw
    simp [Region.wanted, hg]
  | some p =>
    obtain ⟨j, want⟩ := p
    rw [hg] at hi
    obtain ⟨t, ht, hi⟩ := obind_some hi
    obtain ⟨ao, _, hi⟩ := obind_some hi
    cases hi
    simp only [wantI] at hw
    split at hw
    · rename_i x hx
      cases hw
      have hr := hf.getD t
      rw [hx] at hr
      have hu := hr.bool_inv
      have htm : a.tmps[t]? = some (.bool x) := by
        have : a.tmps.toList.getD t Go.undef = .bool x := hu
        rw [List.getD] at this
        cases hq : a.tmps.toList[t]? with
        | none => rw [hq] at this; simp [Go.undef] at this
        | some q => rw [hq] at this; simp at this; rw [← this]; simpa using hq
      have hy : yielded ops a.tmps j = some x := by
        unfold yielded
        rw [ht]
        simp [htm]
      simp [Region.wanted, hg, hy]
    · rename_i hx
      cases hw
      have hr := hf.getD t
      rw [hx] at hr
      simp only [VR, VRs] at hr
      obtain ⟨cs, hu, hcs⟩ := hr
      have hcs' : cs = #[] := by cases cs; simp_all
      subst hcs'
      have hy : yielded ops a.tmps j = none := by
        unfold yielded
        rw [ht]
        have : a.tmps.toList.getD t Go.undef = .tuple #[] := hu
        rw [List.getD] at this
        cases hq : a.tmps.toList[t]? with
        | none =>
          have hq' : a.tmps[t]? = none := by simpa using hq
          simp [hq']
        | some q =>
          rw [hq] at this; simp at this; subst this
          have hq' : a.tmps[t]? = some (.tuple #[]) := by simpa using hq
          simp [hq']
      simp [Region.wanted, hg, hy]
    · cases hw

theorem AI.of_op {P : Program} {ops : Array Oper} {o : Oper} {i : AI} (h : AI.of P ops o = some i) : AO.of P o.op = some i.op ∧ i.dst = o.dst := by
  unfold AI.of at h
  split at h
  · obtain ⟨ao, h1, h⟩ := obind_some h; cases h; exact ⟨h1, rfl⟩
  · obtain ⟨t, _, h⟩ := obind_some h; obtain ⟨ao, h1, h⟩ := obind_some h; cases h; exact ⟨h1, rfl⟩

def FR (ro : Option Nat) : Fence := { Fence.wide with round := ro }
theorem callsIn_FR {ro : Option Nat} {n : Nat} {P : Program} {f : FuncId} {args : Array Value} {w : World} {R : Ending → World → Prop} : CallsIn (FR ro) n P f args w R ↔ Calls P f args w R :=
  ⟨fun h => callsIn_wide.1 (show CallsIn Fence.wide n P f args w R from h), fun h => show CallsIn Fence.wide n P f args w R from callsIn_wide.2 h⟩

def LiftD (ds : List Deferred) (m : LM) (base : Nat) (w0 : World) (Q : PostC) : Exit → Act → World → Prop := fun e a w' =>
  ∃ e' fr' S' m', Q e' fr' S' ∧ Ext m m' ∧ Sim m' S' base w0 w' ∧ VRs m' fr' a.tmps.toList ∧ a.defers = ds ∧ ExR m' e' e
theorem LiftD.mono {ds : List Deferred} {m m' : LM} {base : Nat} {w0 : World} {Q : PostC} (h : Ext m m') {e : Exit} {a : Act} {w : World} (hl : LiftD ds m' base w0 Q e a w) : LiftD ds m base w0 Q e a w := by
  obtain ⟨e', fr', S', m2, h1, h2, h3⟩ := hl
  exact ⟨e', fr', S', m2, h1, h.trans h2, h3⟩
def CodeR (P : Program) (ro : Option Nat) (ds : List Deferred) (c : Code) (Q : PostC) (fr : List V) (S : St) : Prop :=
  ∀ (m : LM) (base : Nat) (w0 w : World) (a : Act), Sim m S base w0 w → VRs m fr a.tmps.toList → a.defers = ds → c.wpIn (FR ro) 0 P (LiftD ds m base w0 Q) a w

def LoopR (P : Program) (ro : Option Nat) (ds : List Deferred) (ac : AC) (Q : PostC) (fr : List V) (S : St) : Prop := ∀ (c : Code), AC.of P c = some ac → CodeR P ro ds (.loop c) Q fr S

section
variable {b : Frame} {a : Act} {k : List Item} {cs : List Frame} {w : World} {P : Program} {F : Fence} {n : Nat} {Q : Exit → Act → World → Prop}
theorem stepR_scope {c : Code} : step P (lone (b.atR a (.code (.scope c) :: k)) cs w) = .next (lone (b.atR a (.code c :: .inScope c :: k)) cs w) :=
  step_lone_go (by simp [stepG, stepG.exec, Frame.atR])
theorem stepR_inScope {c : Code} : step P (lone (b.atR a (.inScope c :: k)) cs w) = .next (lone (b.atR a k) cs w) :=
  step_lone_go (by simp [stepG, stepG.exec, Frame.atR])
theorem wpIn_scope_straight {c : Code} (h : c.wpIn F n P (Exit.noGoto Q) a w) : (Code.scope c).wpIn F n P Q a w := by
  intro b k cs hro hb hr
  have h0 : (lone (b.atR a (.code (.scope c) :: k)) cs w).fenced P F := fenced_calm hb hr rfl
  obtain ⟨e, a₁, w₁, hq, harr⟩ := h b (.inScope c :: k) cs hro hb hr
  cases e with
  | normal => exact ⟨.normal, a₁, w₁, hq, .head h0 stepR_scope (StepsIn.trans harr (.one (fenced_calm hb hr rfl) stepR_inScope))⟩
  | exit id => exact ⟨.exit id, a₁, w₁, hq, .of_steps (.one h0 stepR_scope) ⟨fun k' hk => harr.1 k' (by simp [exitTo, hk]), fun hr' hk => harr.2 hr' (by simp [exitTo, hk])⟩⟩
  | goto l => exact hq.elim
  | ret => exact ⟨_, a₁, w₁, hq, .of_steps (.one h0 stepR_scope) harr⟩
  | panic ch => exact ⟨_, a₁, w₁, hq, .of_steps (.one h0 stepR_scope) harr⟩
  | outgrown => exact ⟨_, a₁, w₁, hq, .of_steps (.one h0 stepR_scope) harr⟩
end

section
variable {P : Program} {ok : Env} (hok : EnvOk P ok) {ro : Option Nat} {ds : List Deferred}
include hok

theorem step_okR {ops : Array Oper} {o : Oper} {i : AI} (hi : AI.of P ops o = some i) {Q : PostC} {K : Act → World → Prop} {m0 m : LM} {S : St} {base : Nat} {w0 w : World} {fr : List V} {a : Act} (hx : Ext m0 m)
    (hS : Sim m S base w0 w) (hf : VRs m fr a.tmps.toList) (hd : a.defers = ds)
    (hrun : match i.op.run ok fr S with
      | .val v S' => ∀ m' w' u, Ext m m' → Sim m' S' base w0 w' → VRs m' (Th.put fr i.dst v) (a.put o.dst u).tmps.toList → K (a.put o.dst u) w'
      | .call f args => CallA P f args S fun res S' => match res with
        | .ret v => ∀ m' w' u, Ext m m' → Sim m' S' base w0 w' → VRs m' (Th.put fr i.dst v) (a.put o.dst u).tmps.toList → K (a.put o.dst u) w'
        | .panic v => Q (.panic v) fr S'
      | .panic v => Q (.panic v) fr S
      | .any p => ∀ v S', p v S' → ∀ m' w' u, Ext m m' → Sim m' S' base w0 w' → VRs m' (Th.put fr i.dst v) (a.put o.dst u).tmps.toList → K (a.put o.dst u) w'
      | .stuck => False) : o.wpIn (FR ro) 0 P a w K (LiftD ds m0 base w0 Q) := by
  obtain ⟨hop, hdst⟩ := AI.of_op hi
  have hsound := AO.of_ok hok hop m S base w0 w fr a hS hf
  refine ⟨fun _ _ => trivial, ?_⟩
  rw [Oper.semAt_plain (FR ro) _ _ (by intro c e; rw [e] at hop; simp [AO.of] at hop)]
  split at hrun
  · rename_i v S' hr
    rw [hr] at hsound
    obtain ⟨u, w', m', ⟨h1, h2, h3, h4⟩ | ⟨h1, rfl, h2, h3, h4⟩⟩ := hsound
    · rw [h1]
      exact hrun m' w' u h2 h3 (by rw [hdst]; exact put_rel (hf.mono h2) h4)
    · rw [h1]
      exact hrun m' w' _ h2 h3 (by rw [hdst]; exact put_rel (hf.mono h2) h4)
  · rename_i f args hr
    rw [hr] at hsound
    obtain ⟨args', h2, h1⟩ := hsound
    rcases h1 with ⟨hlt, h1⟩ | ⟨hge, h1⟩
    · rw [h1, Oper.uponIn_enter]
      refine ⟨fun h => (by cases h), ?_⟩
      refine CallsIn.mono (F := FR ro) (callsIn_FR.2 ((hrun m base w0 w args' hS h2).1 hlt)) ?_
      rintro e w' ⟨r, S', m', hq, hx', hS', hR⟩
      cases r with
      | ret v =>
        obtain ⟨u, rfl, hv⟩ := hR
        exact hq m' w' u hx' hS' (by rw [hdst]; exact put_rel (hf.mono hx') hv)
      | panic v =>
        obtain ⟨u, rfl, hv⟩ := hR
        exact ⟨.panic v, fr, S', m', hq, hx.trans hx', hS', hf.mono hx', hd, u, rfl, hv⟩
    · obtain ⟨fn, tmps, assign, body, hy, hR⟩ := (hrun m base w0 w args' hS h2).2 hge
      rw [h1, hy, Oper.uponIn_round]
      refine ⟨fun h => (by cases h), ?_⟩
      have hR' : RoundIn (FR ro) (0 - 1) P (f - P.funcs.size) fn tmps assign body w _ := hR
      refine hR'.mono ?_
      rintro e w' ⟨r, S', m', hq, hx', hS', hR⟩
      cases r with
      | ret v =>
        obtain ⟨u, rfl, hv⟩ := hR
        exact hq m' w' u hx' hS' (by rw [hdst]; exact put_rel (hf.mono hx') hv)
      | panic v =>
        obtain ⟨u, rfl, hv⟩ := hR
        exact ⟨.panic v, fr, S', m', hq, hx.trans hx', hS', hf.mono hx', hd, u, rfl, hv⟩
  · rename_i v hr
    rw [hr] at hsound
    obtain ⟨u, h1, h2⟩ := hsound
    rw [h1]
    exact ⟨.panic v, fr, S, m, hrun, hx, hS, hf, hd, u, rfl, h2⟩
  · rename_i p hr
    rw [hr] at hsound
    obtain ⟨v, S', u, w', m', hp, h1, h2, h3, h4⟩ := hsound
    rw [h1]
    exact hrun v S' hp m' w' u h2 h3 (by rw [hdst]; exact put_rel (hf.mono h2) h4)
  · exact hrun.elim

theorem runIs_okR {ops : Array Oper} (Q : PostC) (m0 : LM) (base : Nat) (w0 : World) : ∀ (os : List Oper) (l : List AI), AI.ofs P ops os = some l → ∀ (m : LM) (S : St) (w : World) (fr : List V) (a : Act), Ext m0 m →
    Sim m S base w0 w → VRs m fr a.tmps.toList → a.defers = ds → runIs ok (CallA P) Q l fr S → wpListIn (FR ro) 0 P ops (LiftD ds m0 base w0 Q) os a w
  | [], l, h, m, S, w, fr, a, hx, hS, hf, hd, hr => by
    simp only [AI.ofs, Option.some.injEq] at h; subst h
    exact ⟨.normal, fr, S, m, hr, hx, hS, hf, hd, trivial⟩
  | o :: os, l, h, m, S, w, fr, a, hx, hS, hf, hd, hr => by
    simp only [AI.ofs] at h
    obtain ⟨i, hi, h⟩ := obind_some h
    obtain ⟨is, his, h⟩ := obind_some h
    cases h
    have ih := runIs_okR Q m0 base w0 os is his
    simp only [runIs] at hr
    unfold wpListIn
    split at hr
    · rename_i hw
      rw [wanted_rel hi hf hw, if_pos rfl]
      refine step_okR hok hi hx hS hf hd ?_
      split at hr
      · rename_i v S' hv
        try rw [hv]
        intro m' w' u h1 h2 h3
        exact ih m' S' w' _ _ (hx.trans h1) h2 h3 (by rw [put_defers]; exact hd) hr
      · rename_i f args hv
        try rw [hv]
        intro m1 b1 w01 w1 args' hs1 hv1
        refine (hr m1 b1 w01 w1 args' hs1 hv1).mono ?_
        rintro e w' ⟨r, S', m', hq, hrest⟩
        refine ⟨r, S', m', ?_, hrest⟩
        cases r with
        | ret v =>
          intro m2 w2 u h1 h2 h3
          exact ih m2 S' w2 _ _ (hx.trans h1) h2 h3 (by rw [put_defers]; exact hd) hq
        | panic v => exact hq
      · rename_i v hv; try rw [hv]
        exact hr
      · rename_i p hv; try rw [hv]
        intro v S' hp m' w' u h1 h2 h3
        exact ih m' S' w' _ _ (hx.trans h1) h2 h3 (by rw [put_defers]; exact hd) (hr v S' hp)
      · rename_i hv; try rw [hv]
        exact hr
    · rename_i hw
      rw [wanted_rel hi hf hw, if_neg (by simp)]
      refine ⟨fun _ _ => trivial, ?_⟩
      exact ih m S w _ _ hx hS (by rw [(AI.of_op hi).2]; exact put_rel hf (VR.undef m)) (by rw [put_defers]; exact hd) hr
    · exact hr.elim

theorem anyA_okR {ops : Array Oper} (Q : PostC) (m0 : LM) (base : Nat) (w0 : World) {C : Nat → St → St → Prop} : ∀ (n : Nat) (listed : Array Bool) (m : LM) (fr : List V) (S : St) (w : World) (a : Act), Ext m0 m →
    Sim m S base w0 w → VRs m fr a.tmps.toList → a.defers = ds → anyA P ok (CallA P) (fun v S' => ∀ fr', Q (.panic v) fr' S') ops (Q .normal) C n listed fr S → wpAnyIn (FR ro) 0 P .any ops (LiftD ds m0 base w0 Q) n listed a w
  | 0, listed, m, fr, S, w, a, hx, hS, hf, hd, h => ⟨h.1, .normal, fr, S, m, h.2, hx, hS, hf, hd, trivial⟩
  | n + 1, listed, m, fr, S, w, a, hx, hS, hf, hd, h => by
    refine ⟨fun h0 => ⟨.normal, fr, S, m, h.1 h0, hx, hS, hf, hd, trivial⟩, fun i hi => ?_⟩
    obtain ⟨o, ai, ho, hai, hst⟩ := h.2 i hi
    have ih := anyA_okR (ops := ops) Q m0 base w0 (C := C) n (listed.setIfInBounds i true)
    unfold wpOpIn
    simp only [ho]
    unfold stepD at hst
    split at hst
    · rename_i hw
      rw [wanted_rel hai hf hw, if_pos rfl]
      refine step_okR hok hai hx hS hf hd ?_
      split at hst
      · rename_i v S' hv
        rw [hv]
        intro m' w' u h1 h2 h3
        exact ih m' _ S' w' _ (hx.trans h1) h2 h3 (by rw [put_defers]; exact hd) hst.2
      · rename_i f args hv
        rw [hv]
        refine CallA.mono hst ?_
        intro r S' hr
        cases r with
        | ret v =>
          intro m' w' u h1 h2 h3
          exact ih m' _ S' w' _ (hx.trans h1) h2 h3 (by rw [put_defers]; exact hd) hr.2
        | panic v => exact hr _
      · rename_i v hv
        rw [hv]
        exact hst _
      · rename_i p hv
        rw [hv]
        intro v S' hp m' w' u h1 h2 h3
        exact ih m' _ S' w' _ (hx.trans h1) h2 h3 (by rw [put_defers]; exact hd) (hst v S' hp).2
      · exact hst.elim
    · rename_i hw
      rw [wanted_rel hai hf hw, if_neg (by simp)]
      refine ⟨fun _ _ => trivial, ?_⟩
      exact ih m _ S w _ hx hS (by rw [(AI.of_op hai).2]; exact put_rel hf (VR.undef m)) (by rw [put_defers]; exact hd) hst.2
    · exact hst.elim

theorem wpA_okR : ∀ (c : Code) (ac : AC), AC.of P c = some ac → ∀ (Q : PostC) (fr : List V) (S : St), wpA ok (CallA P) (LoopR P ro ds) ac Q fr S → CodeR P ro ds c Q fr S
  | .skip, ac, h, Q, fr, S, hw => by
    simp only [AC.of, Option.some.injEq] at h; subst h
    intro m base w0 w a hS hf hd
    exact wpIn_skip ⟨.normal, fr, S, m, hw, Ext.refl m, hS, hf, hd, trivial⟩
  | .region id ops draw, ac, h, Q, fr, S, hw => by
    simp only [AC.of] at h
    split at h
    · rename_i hdr
      subst hdr
      split at h
      · rename_i hm
        obtain ⟨l, hl, h⟩ := obind_some h
        cases h
        intro m base w0 w a hS hf hd
        refine wpIn_region_any hm (anyA_okR hok (C := CR ops []) Q m base w0 ops.size _ m fr S _ a (Ext.refl m) hS.draw hf hd ?_)
        exact canon_ok (fun f args S Q Q' hq h => h.mono hq) _ _ _ hl (closed_none _ _) [] fr S hw
      · cases h
    · rename_i hdr
      obtain ⟨l, hl, h⟩ := obind_some h
      cases h
      have : draw = false := by simpa using hdr
      subst this
      intro m base w0 w a hS hf hd
      exact wpIn_region_list (runIs_okR hok Q m base w0 _ _ hl m S w fr a (Ext.refl m) hS hf hd hw)
  | .seq x y, ac, h, Q, fr, S, hw => by
    simp only [AC.of] at h
    obtain ⟨ax, h1, h⟩ := obind_some h
    obtain ⟨ay, h2, h⟩ := obind_some h
    cases h
    intro m base w0 w a hS hf hd
    refine wpIn_seq (wpIn_mono (wpA_okR x ax h1 _ fr S hw m base w0 w a hS hf hd) ?_)
    rintro e a' w' ⟨e', fr', S', m', hq, hx, hS', hf', hd', hR⟩
    cases e' with
    | normal =>
      cases e <;> simp only [ExR] at hR
      exact wpIn_mono (wpA_okR y ay h2 Q fr' S' hq m' base w0 w' a' hS' hf' hd') (fun e a w hl => LiftD.mono hx hl)
    | exit j =>
      cases e <;> simp only [ExR] at hR
      exact ⟨.exit j, fr', S', m', hq, hx, hS', hf', hd', hR⟩
    | ret =>
      cases e <;> simp only [ExR] at hR
      exact ⟨.ret, fr', S', m', hq, hx, hS', hf', hd', trivial⟩
    | panic v =>
      cases e <;> simp only [ExR] at hR
      exact ⟨.panic v, fr', S', m', hq, hx, hS', hf', hd', hR⟩
  | .cond x c d, ac, h, Q, fr, S, hw => by
    simp only [AC.of] at h
    obtain ⟨ax, h0, h⟩ := obind_some h
    obtain ⟨a1, h1, h⟩ := obind_some h
    obtain ⟨a2, h2, h⟩ := obind_some h
    cases h
    intro m base w0 w a hS hf hd
    simp only [wpA] at hw
    split at hw
    · rename_i b hb
      have hr := AX.of_rel h0 hf
      rw [hb] at hr
      refine wpIn_cond hr.bool_inv ?_
      cases b with
      | true => exact wpA_okR c a1 h1 Q fr S (by simpa using hw) m base w0 w a hS hf hd
      | false => exact wpA_okR d a2 h2 Q fr S (by simpa using hw) m base w0 w a hS hf hd
    · exact hw.elim
  | .block id c, ac, h, Q, fr, S, hw => by
    simp only [AC.of] at h
    obtain ⟨a1, h1, h⟩ := obind_some h
    cases h
    intro m base w0 w a hS hf hd
    refine wpIn_block (wpIn_mono (wpA_okR c a1 h1 _ fr S hw m base w0 w a hS hf hd) ?_)
    rintro e a' w' ⟨e', fr', S', m', hq, hx, hS', hf', hd', hR⟩
    cases e' with
    | normal =>
      cases e <;> simp only [ExR] at hR
      exact ⟨.normal, fr', S', m', hq, hx, hS', hf', hd', trivial⟩
    | exit j =>
      cases e <;> simp only [ExR] at hR
      subst hR
      simp only [Exit.inBlock]
      simp only at hq
      split
      · rename_i hj
        rw [if_pos hj] at hq
        exact ⟨.normal, fr', S', m', hq, hx, hS', hf', hd', trivial⟩
      · rename_i hj
        rw [if_neg hj] at hq
        exact ⟨.exit j, fr', S', m', hq, hx, hS', hf', hd', rfl⟩
    | ret =>
      cases e <;> simp only [ExR] at hR
      exact ⟨.ret, fr', S', m', hq, hx, hS', hf', hd', trivial⟩
    | panic v =>
      cases e <;> simp only [ExR] at hR
      exact ⟨.panic v, fr', S', m', hq, hx, hS', hf', hd', hR⟩
  | .loop c, ac, h, Q, fr, S, hw => by
    simp only [AC.of] at h
    obtain ⟨a1, h1, h⟩ := obind_some h
    cases h
    exact hw c h1
  | .exit id, ac, h, Q, fr, S, hw => by
    simp only [AC.of, Option.some.injEq] at h; subst h
    intro m base w0 w a hS hf hd
    exact wpIn_exit ⟨.exit id, fr, S, m, hw, Ext.refl m, hS, hf, hd, rfl⟩
  | .ret, ac, h, Q, fr, S, hw => by
    simp only [AC.of, Option.some.injEq] at h; subst h
    intro m base w0 w a hS hf hd
    exact wpIn_ret ⟨.ret, fr, S, m, hw, Ext.refl m, hS, hf, hd, trivial⟩
  | .rangeFunc .., ac, h, _, _, _, _ => by simp [AC.of] at h
  | .scope c, ac, h, Q, fr, S, hw => by
    simp only [AC.of] at h
    intro m base w0 w a hS hf hd
    refine wpIn_scope_straight (wpIn_mono (wpA_okR c ac h Q fr S hw m base w0 w a hS hf hd) ?_)
    intro e a' w' hl
    cases e with
    | goto l =>
      obtain ⟨e', _, _, _, _, _, _, _, _, hR⟩ := hl
      cases e' <;> exact hR.elim
    | _ => exact hl
  | .label l, ac, h, Q, fr, S, hw => by
    simp only [AC.of, Option.some.injEq] at h; subst h
    intro m base w0 w a hS hf hd
    exact wpIn_label ⟨.normal, fr, S, m, hw, Ext.refl m, hS, hf, hd, trivial⟩
  | .goto _, ac, h, _, _, _, _ => by simp [AC.of] at h
  | .refuse _, ac, h, _, _, _, _ => by simp [AC.of] at h
end

theorem LoopA.mono {P : Program} {ac : AC} {Q Q' : PostC} {fr : List V} {S : St} (h : LoopA P ac Q fr S) (hq : ∀ e fr S, Q e fr S → Q' e fr S) : LoopA P ac Q' fr S :=
  fun c hc ds m base w0 w a hS hf hd b k cs =>
    let ⟨e, a', w', ⟨e', fr', S', m', h1, h2⟩, h3⟩ := h c hc ds m base w0 w a hS hf hd b k cs
    ⟨e, a', w', ⟨e', fr', S', m', hq _ _ _ h1, h2⟩, h3⟩

theorem runIs_mono {ok : Env} {callH callH' : FuncId → List V → St → Post → Prop} (hc : ∀ f args S Q Q', (∀ r S', Q r S' → Q' r S') → callH f args S Q → callH' f args S Q') {Q Q' : PostC} (hq : ∀ e fr S, Q e fr S → Q' e fr S) :
    ∀ (l : List AI) (fr : List V) (S : St), runIs ok callH Q l fr S → runIs ok callH' Q' l fr S
  | [], fr, S, h => hq _ _ _ h
  | i :: r, fr, S, h => by
    simp only [runIs] at h ⊢
    split at h
    · split at h
      · exact runIs_mono hc hq r _ _ h
      · refine hc _ _ _ _ _ ?_ h
        intro res S' hres
        cases res with
        | ret v => exact runIs_mono hc hq r _ _ hres
        | panic v => exact hq _ _ _ hres
      · exact hq _ _ _ h
      · intro v S' hp; exact runIs_mono hc hq r _ _ (h v S' hp)
      · exact h.elim
    · exact runIs_mono hc hq r _ _ h
    · exact h.elim

theorem runD_mono {ok : Env} {callH callH' : FuncId → List V → St → Post → Prop} {KP KP' : V → St → Prop} (hk : ∀ v S, KP v S → KP' v S) (hc : ∀ f args S Q Q', (∀ r S', Q r S' → Q' r S') → callH f args S Q → callH' f args S Q') {Q Q' : List V → St → Prop} (hq : ∀ fr S, Q fr S → Q' fr S) :
    ∀ (t : OT) (R : RD) (fr : List V) (S : St), runD ok callH KP Q t R fr S → runD ok callH' KP' Q' t R fr S
  | .done, _, fr, S, h => hq _ _ h
  | .both t u, R, fr, S, h => ⟨runD_mono hk hc hq t R fr S h.1, runD_mono hk hc hq u R fr S h.2⟩
  | .step n ds i r, R, fr, S, h => by
    simp only [runD] at h ⊢
    split at h
    · split at h
      · split at h
        · rename_i hqt; rw [if_pos hqt]; exact runD_mono hk hc hq r _ _ _ h
        · rename_i hqt; rw [if_neg hqt]; exact ⟨h.1, runD_mono hk hc hq r _ _ _ h.2⟩
      · refine hc _ _ _ _ _ ?_ h
        intro res S' hres
        cases res with
        | ret v => exact ⟨hres.1, runD_mono hk hc hq r _ _ _ hres.2⟩
        | panic v => exact hk _ _ hres
      · exact hk _ _ h
      · intro v S' hp; exact ⟨(h v S' hp).1, runD_mono hk hc hq r _ _ _ (h v S' hp).2⟩
      · exact h
    · exact runD_mono hk hc hq r _ _ _ h
    · exact h

theorem wpA_mono {ok : Env} {callH callH' : FuncId → List V → St → Post → Prop} {loopH loopH' : AC → PostC → List V → St → Prop} (hc : ∀ f args S Q Q', (∀ r S', Q r S' → Q' r S') → callH f args S Q → callH' f args S Q')
    (hl : ∀ ac Q Q' fr S, (∀ e fr S, Q e fr S → Q' e fr S) → loopH ac Q fr S → loopH' ac Q' fr S) :
    ∀ (ac : AC) (Q Q' : PostC), (∀ e fr S, Q e fr S → Q' e fr S) → ∀ (fr : List V) (S : St), wpA ok callH loopH ac Q fr S → wpA ok callH' loopH' ac Q' fr S
  | .skip, Q, Q', hq, fr, S, h => hq _ _ _ h
  | .region l, Q, Q', hq, fr, S, h => runIs_mono hc hq l fr S h
  | .draw l, Q, Q', hq, fr, S, h => runD_mono (fun v S' hp fr' => hq _ _ _ (hp fr')) hc (hq .normal) l [] fr S h
  | .seq a b, Q, Q', hq, fr, S, h => by
    simp only [wpA] at h ⊢
    refine wpA_mono hc hl a _ _ ?_ fr S h
    intro e fr S he
    cases e with
    | normal => exact wpA_mono hc hl b _ _ hq fr S he
    | exit j => exact hq _ _ _ he
    | ret => exact hq _ _ _ he
    | panic v => exact hq _ _ _ he
  | .cond x a b, Q, Q', hq, fr, S, h => by
    simp only [wpA] at h ⊢
    split at h
    · split at h
      · rename_i ht; simp only [ht, if_true]; exact wpA_mono hc hl a _ _ hq fr S h
      · rename_i ht; simp only [ht, if_false]; exact wpA_mono hc hl b _ _ hq fr S h
    · exact h.elim
  | .block id a, Q, Q', hq, fr, S, h => by
    simp only [wpA] at h ⊢
    refine wpA_mono hc hl a _ _ ?_ fr S h
    intro e fr S he
    cases e with
    | normal => exact hq _ _ _ he
    | exit j =>
      simp only at he ⊢
      split at he
      · rename_i hj; rw [if_pos hj]; exact hq _ _ _ he
      · rename_i hj; rw [if_neg hj]; exact hq _ _ _ he
    | ret => exact hq _ _ _ he
    | panic v => exact hq _ _ _ he
  | .loop a, Q, Q', hq, fr, S, h => hl _ _ _ _ _ hq h
  | .exit id, Q, Q', hq, fr, S, h => hq _ _ _ h
  | .ret, Q, Q', hq, fr, S, h => hq _ _ _ h


theorem CodeR.code {P : Program} {c : Code} {Q : PostC} {fr : List V} {S : St} (h : ∀ ds, CodeR P none ds c Q fr S) : CodeA P c Q fr S := by
  intro ds m base w0 w a hS hf hd
  have h1 : c.wpIn Fence.wide 0 P (LiftD ds m base w0 Q) a w := h ds m base w0 w a hS hf hd
  exact wpIn_wide.1 h1
theorem CodeA.codeR {P : Program} {c : Code} {Q : PostC} {fr : List V} {S : St} (h : CodeA P c Q fr S) (ds : List Deferred) : CodeR P none ds c Q fr S := by
  intro m base w0 w a hS hf hd
  have h1 := h ds m base w0 w a hS hf hd
  exact (wpIn_wide (n := 0)).2 h1
theorem LoopA.loopR {P : Program} {ac : AC} {Q : PostC} {fr : List V} {S : St} (h : LoopA P ac Q fr S) (ds : List Deferred) : LoopR P none ds ac Q fr S := fun _ hc => (h.code hc).codeR ds

section
variable {P : Program} {ok : Env} (hok : EnvOk P ok)
include hok
theorem wpA_ok (c : Code) (ac : AC) (h : AC.of P c = some ac) (Q : PostC) (fr : List V) (S : St) (hw : wpA ok (CallA P) (LoopA P) ac Q fr S) : CodeA P c Q fr S := by
  refine CodeR.code fun ds => (wpA_okR hok c ac h Q fr S (wpA_mono (callH' := CallA P) (loopH' := LoopR P none ds) (callH := CallA P) (loopH := LoopA P) (fun f args S Q Q' hq h => CallA.mono h hq) ?_ ac Q Q (fun _ _ _ h => h) fr S hw))
  intro ac Q Q' fr S hq hl
  exact (hl.mono hq).loopR ds

theorem LoopA.round {ac : AC} {Q : PostC} {fr : List V} {S : St} (h : wpA ok (CallA P) (LoopA P) ac (fun e fr S => match e with | .normal => LoopA P ac Q fr S | e => Q e fr S) fr S) : LoopA P ac Q fr S := by
  intro c hc ds m base w0 w a hS hf hd b k cs
  have hbody := wpA_ok hok c ac hc _ fr S h ds m base w0 w a hS hf hd
  obtain ⟨e, a₁, w₁, ⟨e', fr', S', m', hq, hx, hS', hf', hd', hR⟩, harr⟩ := hbody b (.inLoop c :: k) cs
  cases e' with
  | normal =>
    cases e <;> simp only [ExR] at hR
    obtain ⟨e₂, a₂, w₂, hq₂, harr₂⟩ := hq c hc ds m' base w0 w₁ a₁ hS' hf' hd' b k cs
    exact ⟨e₂, a₂, w₂, Lift.mono hx hq₂, .of_steps (Steps.trans harr (.one step_inLoop)) harr₂⟩
  | exit j =>
    cases e <;> simp only [ExR] at hR
    subst hR
    exact ⟨.exit j, a₁, w₁, ⟨.exit j, fr', S', m', hq, hx, hS', hf', hd', rfl⟩, .pass (x := .inLoop c) rfl (fun _ _ => .inl (by simp)) harr⟩
  | ret =>
    cases e <;> simp only [ExR] at hR
    exact ⟨.ret, a₁, w₁, ⟨.ret, fr', S', m', hq, hx, hS', hf', hd', trivial⟩, .pass (x := .inLoop c) rfl (fun _ _ => .inl (by simp)) harr⟩
  | panic v =>
    cases e <;> simp only [ExR] at hR
    exact ⟨.panic _, a₁, w₁, ⟨.panic v, fr', S', m', hq, hx, hS', hf', hd', hR⟩, .pass (x := .inLoop c) rfl (fun _ _ => .inl (by simp)) harr⟩
end

inductive ARes where
  | tmp (t : Nat)
  | cell1 (t : Nat)
  | cellN (t n : Nat)

structure AF where
  nt : Nat
  results : List ARes
  body : AC

def ARes.of (P : Program) : ResultVar → Option ARes
  | .tmp t => some (.tmp t)
  | .cell a t => obind (P.underlying t) fun d => if isAggD d then obind (P.info? t) fun i => some (.cellN a i.size) else some (.cell1 a)

def ARes.ofs (P : Program) : List ResultVar → Option (List ARes)
  | [] => some []
  | r :: rs => obind (ARes.of P r) fun x => obind (ARes.ofs P rs) fun xs => some (x :: xs)

def AF.of (P : Program) (fn : Func) : Option AF :=
  match fn.body with
  | none => none
  | some c => obind (AC.of P c) fun ac => obind (ARes.ofs P fn.results.toList) fun rs => some ⟨fn.ntmps, rs, ac⟩

def afun (P : Program) (f : FuncId) : Option AF := obind (P.funcs[f]?) (AF.of P)

def ARes.get (fr : List V) (S : St) : ARes → Option V
  | .tmp t => some (fr.getD t .undef)
  | .cell1 t => match fr.getD t .undef with
    | .ptr i o => S.load1 i o
    | _ => none
  | .cellN t n => match fr.getD t .undef with
    | .ptr i o => (S.loads i o n).map .agg
    | _ => none

def ARes.gets (fr : List V) (S : St) : List ARes → Option (List V)
  | [] => some []
  | r :: rs => obind (r.get fr S) fun v => obind (ARes.gets fr S rs) fun vs => some (v :: vs)

def tupled : List V → V
  | [v] => v
  | vs => .tuple vs

def endQ (rs : List ARes) (Q : Post) : PostC := fun e fr S =>
  match e with
  | .normal | .ret => match ARes.gets fr S rs with
    | some vs => Q (.ret (tupled vs)) S
    | none => False
  | .panic v => Q (.panic v) S
  | .exit _ => False

def resOf (tmps : Array Value) : ResultVar → Sem Value
  | .tmp t => pure (tmps.getD t Go.undef)
  | .cell c t => do loadVar t (← asAddr (tmps.getD c Go.undef))

theorem results_eq (fn : Func) (tmps : Array Value) : results fn tmps = (do let vs ← fn.results.mapM (resOf tmps); pure (if h : vs.size = 1 then vs[0] else .tuple vs)) := rfl

theorem run_results {P : Program} {m : LM} {S : St} {base : Nat} {w0 w : World} (hS : Sim m S base w0 w) {fr : List V} {a : Array Value} (hf : VRs m fr a.toList) : ∀ (l : List ResultVar) (rs : List ARes) (vs : List V), ARes.ofs P l = some rs → ARes.gets fr S rs = some vs →
    ∃ us : List Value, (l.mapM (resOf a)).run P w = .ok us w ∧ VRs m vs us
  | [], rs, vs, h, hg => by
    simp only [ARes.ofs, Option.some.injEq] at h; subst h
    simp only [ARes.gets, Option.some.injEq] at hg; subst hg
    exact ⟨[], by simp, by simp [VRs]⟩
  | r :: l, rs, vs, h, hg => by
    simp only [ARes.ofs] at h
    obtain ⟨x, hx, h⟩ := obind_some h
    obtain ⟨xs, hxs, h⟩ := obind_some h
    cases h
    simp only [ARes.gets] at hg
    obtain ⟨v, hv, hg⟩ := obind_some hg
    obtain ⟨vs', hvs, hg⟩ := obind_some hg
    cases hg
    obtain ⟨us, h1, h2⟩ := run_results hS hf l xs vs' hxs hvs
    have hgd : ∀ t, VR m (fr.getD t .undef) (a.getD t Go.undef) := by
      intro t
      have := hf.getD t
      simpa [Array.getD_eq_getD_getElem?, List.getD] using this
    have one : ∃ u, (resOf a r).run P w = .ok u w ∧ VR m v u := by
      cases r with
      | tmp t =>
        simp only [ARes.of, Option.some.injEq] at hx; subst hx
        simp only [ARes.get, Option.some.injEq] at hv; subst hv
        exact ⟨_, rfl, hgd t⟩
      | cell c t =>
        simp only [ARes.of] at hx
        obtain ⟨d, hd, hx⟩ := obind_some hx
        have hcg := hgd c
        split at hx
        · rename_i ha
          obtain ⟨i, hi, hx⟩ := obind_some hx
          cases hx
          simp only [ARes.get] at hv
          split at hv
          · rename_i j o he
            rw [he] at hcg
            obtain ⟨L, hL, hu⟩ := hcg.ptr_inv
            cases hl : S.loads j o i.size with
            | none => rw [hl] at hv; cases hv
            | some cs =>
              rw [hl] at hv; cases hv
              obtain ⟨us', g1, g2, _⟩ := hS.loads (P := P) hl hL
              refine ⟨.agg us'.toArray, ?_, by simp only [VR]; exact ⟨_, rfl, g2⟩⟩
              simp [resOf, hu, asAddr, loadVar, run_isAgg hd, ha, sizeOf, typeInfo, hi, g1]
          · cases hv
        · rename_i ha
          cases hx
          simp only [ARes.get] at hv
          split at hv
          · rename_i j o he
            rw [he] at hcg
            obtain ⟨L, hL, hu⟩ := hcg.ptr_inv
            obtain ⟨u, g1, g2⟩ := hS.load1 hv hL
            refine ⟨u, ?_, g2⟩
            have ha' : isAggD d = false := by simpa using ha
            simp [resOf, hu, asAddr, loadVar, run_isAgg hd, ha', g1]
          · cases hv
    obtain ⟨u, g1, g2⟩ := one
    refine ⟨u :: us, ?_, by simp only [VRs]; exact ⟨u, us, rfl, g2, h2⟩⟩
    simp only [List.mapM_cons, Sem.run_bind, g1, Result.andThen_ok, h1, Sem.run_pure]

theorem CallA.of_body {P : Program} {ok : Env} (hok : EnvOk P ok) {f : FuncId} {F : AF} (hF : afun P f = some F) {args : List V} {S : St} {Q : Post}
    (h : wpA ok (CallA P) (LoopA P) F.body (endQ F.results Q) (args ++ List.replicate (F.nt - args.length) .undef) S) : CallA P f args S Q := by
  obtain ⟨fn, hfn, hF⟩ := obind_some hF
  unfold AF.of at hF
  cases hb : fn.body with
  | none => rw [hb] at hF; cases hF
  | some c =>
    rw [hb] at hF
    obtain ⟨ac, hac, hF⟩ := obind_some hF
    obtain ⟨rs, hrs, hF⟩ := obind_some hF
    cases hF
    intro m base w0 w args' hS hv
    have hl := hv.length
    rw [Array.length_toList] at hl
    refine CallsX.of (Array.getElem?_eq_some_iff.1 hfn).1 (calls_of_wp hfn hb ?_)
    have hfr : VRs m (args ++ List.replicate (fn.ntmps - args.length) .undef) (args' ++ Array.replicate (fn.ntmps - args'.size) Go.undef).toList := by
      rw [Array.toList_append, Array.toList_replicate, hl]
      exact hv.append (VRs.replicate (VR.undef m) _)
    refine wp_mono (wpA_ok hok c ac hac _ _ S h [] m base w0 w ⟨args' ++ Array.replicate (fn.ntmps - args'.size) Go.undef, []⟩ hS hfr rfl) ?_
    rintro e a w' ⟨e', fr', S', m', hq, hx, hS', hf', hd', hR⟩
    have fin : (match ARes.gets fr' S' rs with
        | some vs => Q (.ret (tupled vs)) S'
        | none => False) → ∃ v, (results fn a.tmps).run P w' = .ok v w' ∧ ∃ r S'' m'', Q r S'' ∧ Ext m m'' ∧ Sim m'' S'' base w0 w' ∧ ResR m'' r (.returned v) := by
      intro hq
      split at hq
      · rename_i vs hvs
        obtain ⟨us, h1, h2⟩ := run_results (P := P) hS' hf' fn.results.toList rs vs hrs hvs
        have hlen := h2.length
        have hrun : (results fn a.tmps).run P w' = .ok (if h : us.toArray.size = 1 then us.toArray[0] else .tuple us.toArray) w' := by
          rw [results_eq, Sem.run_bind, Array.mapM_eq_mapM_toList, Sem.run_map, h1]
          rfl
        refine ⟨_, hrun, .ret (tupled vs), S', m', hq, hx, hS', _, rfl, ?_⟩
        match vs, us, h2, hlen with
        | [], [], h2, _ => simp only [tupled, VR]; exact ⟨#[], by simp, by simp [VRs]⟩
        | [v], [u], h2, _ =>
          simp only [VRs] at h2
          obtain ⟨u', us', he, h3, _⟩ := h2
          cases he
          simpa [tupled] using h3
        | v :: v2 :: vs, u :: u2 :: us, h2, _ =>
          simp only [tupled, VR]
          exact ⟨(u :: u2 :: us).toArray, by simp, by simpa using h2⟩
      · exact hq.elim
    cases e' with
    | normal =>
      cases e <;> simp only [ExR] at hR
      obtain ⟨v, h1, h2⟩ := fin hq
      exact ⟨hd', v, h1, h2⟩
    | ret =>
      cases e <;> simp only [ExR] at hR
      obtain ⟨v, h1, h2⟩ := fin hq
      exact ⟨hd', v, h1, h2⟩
    | panic v =>
      cases e <;> simp only [ExR] at hR
      obtain ⟨u, rfl, hu⟩ := hR
      exact ⟨hd', .panic v, S', m', hq, hx, hS', u, rfl, hu⟩
    | exit j => exact hq.elim

end Go.Th
end

section
/- Reasoning over the store: the rules by which code is stepped through. -/
set_option linter.unusedSimpArgs false
set_option linter.unusedVariables false
namespace Go.Th
open Go.RowKit Go.Lib

structure Tag {α : Sort _} (k : α) : Type where

def ifSome {α : Type} (o : Option α) (k : α → Prop) (_t : Tag k) : Prop :=
  match o with
  | some a => k a
  | none => False

def ifV (v : V) (k : Bool → Prop) (_t : Tag k) : Prop :=
  match v with
  | .bool b => k b
  | _ => False

def ifG (v : V) (w : Bool) (x y : Prop) (_t : Tag x) (_u : Tag y) : Prop :=
  match v with
  | .bool b => match b == w with
    | true => x
    | false => y
  | .tuple [] => y
  | _ => False
def letV (v : V) (k : V → Prop) (_t : Tag k) : Prop := k v
def G (fr : List V) (i : Nat) : V := fr.getD i .undef

theorem G_set (fr : List V) (i j : Nat) (v : V) : G (fr.set i v) j = if i = j then (if i < fr.length then v else G fr j) else G fr j := by
  unfold G
  by_cases h : i = j
  · subst h
    rw [if_pos rfl]
    by_cases hl : i < fr.length
    · rw [if_pos hl]; simp [List.getD, List.getElem?_set_self hl]
    · rw [if_neg hl, List.set_eq_of_length_le (by omega)]
  · rw [if_neg h]; simp [List.getD, List.getElem?_set_ne h]
attribute [go_sem] Nat.reduceBEq List.getElem?_cons_zero List.getElem?_cons_succ
attribute [go_sem] List.length_set List.length_cons List.length_nil List.length_append List.length_replicate List.cons_append List.nil_append List.replicate_zero List.replicate_succ
  Nat.reduceAdd Nat.reduceSub Nat.reduceLT Nat.reduceLeDiff Nat.reduceEqDiff Nat.reduceMul Nat.zero_add List.map_cons List.map_nil if_true if_false reduceIte
@[go_sem] theorem ev_tmp (fr : List V) (i : Nat) : (AX.tmp i).ev fr = G fr i := (rfl)
section code
variable (ok : Env) (callH : FuncId → List V → St → Post → Prop) (loopH : AC → PostC → List V → St → Prop) (Q : PostC) (fr : List V) (S : St)
def thenQ (ok : Env) (callH : FuncId → List V → St → Post → Prop) (loopH : AC → PostC → List V → St → Prop) (b : AC) (Q : PostC) (_t : Tag b) (_u : Tag Q) : PostC := fun e fr S => match e with | .normal => wpA ok callH loopH b Q fr S | e => Q e fr S
end code

@[go_sem] theorem endQ_normal (rs : List ARes) (Q : Post) (fr : List V) (S : St) : endQ rs Q .normal fr S = ifSome (ARes.gets fr S rs) (fun vs => Q (.ret (tupled vs)) S) ⟨⟩ := by
  simp only [endQ, ifSome]; cases ARes.gets fr S rs <;> rfl
@[go_sem] theorem endQ_ret (rs : List ARes) (Q : Post) (fr : List V) (S : St) : endQ rs Q .ret fr S = ifSome (ARes.gets fr S rs) (fun vs => Q (.ret (tupled vs)) S) ⟨⟩ := by
  simp only [endQ, ifSome]; cases ARes.gets fr S rs <;> rfl
theorem gets_nil (fr : List V) (S : St) : ARes.gets fr S [] = some [] := rfl
theorem gets_tmp (fr : List V) (S : St) (t : Nat) (rs : List ARes) : ARes.gets fr S (.tmp t :: rs) = (ARes.gets fr S rs).map (G fr t :: ·) := by
  simp only [ARes.gets, ARes.get, obind, G]; cases ARes.gets fr S rs <;> rfl
def cell1V (S : St) (v : V) : Option V := match v with | .ptr i o => S.load1 i o | _ => none
def cellNV (S : St) (n : Nat) (v : V) : Option V := match v with | .ptr i o => (S.loads i o n).map .agg | _ => none
theorem gets_cell1 (fr : List V) (S : St) (t : Nat) (rs : List ARes) : ARes.gets fr S (.cell1 t :: rs) = (cell1V S (G fr t)).bind fun v => (ARes.gets fr S rs).map (v :: ·) := by
  have h : ARes.get fr S (.cell1 t) = cell1V S (G fr t) := rfl
  simp only [ARes.gets, h]
  cases cell1V S (G fr t) <;> cases ARes.gets fr S rs <;> rfl
theorem gets_cellN (fr : List V) (S : St) (t n : Nat) (rs : List ARes) : ARes.gets fr S (.cellN t n :: rs) = (cellNV S n (G fr t)).bind fun v => (ARes.gets fr S rs).map (v :: ·) := by
  have h : ARes.get fr S (.cellN t n) = cellNV S n (G fr t) := rfl
  simp only [ARes.gets, h]
  cases cellNV S n (G fr t) <;> cases ARes.gets fr S rs <;> rfl
attribute [go_sem] gets_nil gets_tmp gets_cell1 gets_cellN tupled Option.map_some Option.map_none Option.bind_some Option.bind_none

def resK (k : V → St → Prop) (p : V → St → Prop) (_t : Tag k) (_u : Tag p) : Post := fun r S => match r with | .ret v => k v S | .panic v => p v S
def pickV (c x y : V) : Option V := match c with | .bool b => some (if b then x else y) | _ => none
def loadV (S : St) (v : V) : Option V := match v with | .ptr i o => S.load1 i o | .glob g o => S.gl1 g o | _ => none
def loadNV (S : St) (n : Nat) (v : V) : Option V := match v with | .ptr i o => (S.loads i o n).map .agg | _ => none
def storeV (S : St) (n : Nat) (p y : V) : Option St := match p with | .ptr i o => if y.cells.length = n then S.stores i o y.cells else none | _ => none
def nilV (v : V) : Option V := match v with | .ptr i o => some (.ptr i o) | .func (.func f) a b => some (.func (.func f) a b) | .iface t v => some (.iface t v) | _ => none
def convIntV (k : IntKind) (v : V) : Option V := match v with | .int _ n => some (.int k (k.wrap n)) | _ => none
def convStrV (v : V) : Option V := match v with | .str s => some (.str s) | _ => none
def convBSV (S : St) (v : V) : Option V := match v with
  | .nilSlice => some (.str [])
  | .slice i o l _ 1 _ => match S.loads i o l with
    | some vs => (bytesOf vs).map .str
    | none => none
  | _ => none
def convSBV (S : St) (v : V) : Option (V × St) := match v with | .str s => some (.slice S.next 0 s.length s.length 1 false, S.new (.cells (bytesV s) false)) | _ => none
def convBBV (S : St) (v : V) : Option V := none
def mkSliceV (S : St) (k bytes : Nat) (zs : List V) (l c : V) : Option (V × St) := match l, c with
  | .int _ l, .int _ c => if 0 ≤ l ∧ l ≤ c ∧ (bytes : Int) * c ≤ 281474976710656 ∧ c ≤ 9223372036854775807 then some (.slice S.next 0 l.toNat c.toNat k true, S.new (.cells (reps c.toNat zs) true)) else none
  | _, _ => none
def fieldAddrV (off : Nat) (v : V) : Option V := match v with | .ptr i o => some (.ptr i (o + off)) | _ => none
def idxAddrV (k : Nat) (x ix : V) : Option V := match x, ix with
  | .slice i o l _ k' _, .int _ n => if k' = k ∧ 0 ≤ n ∧ n < l then some (.ptr i (o + n.toNat * k)) else none
  | _, _ => none
def idxAddrArrV (len k : Nat) (x ix : V) : Option V := match x, ix with
  | .ptr i o, .int _ n => if 0 ≤ n ∧ n < len then some (.ptr i (o + n.toNat * k)) else none
  | _, _ => none
def fieldV (n : Option Nat) (off : Nat) (v : V) : Option V := match v with | .agg cs => partV n cs off | _ => none
def idxStrV (x ix : V) : Option V := match x, ix with
  | .str s, .int _ n => if 0 ≤ n then (s[n.toNat]?).map fun b => .int .u8 b.toNat else none
  | _, _ => none
def idxArrV (len k : Nat) (pn : Option Nat) (x ix : V) : Option V := match x, ix with
  | .agg cs, .int _ n => if 0 ≤ n ∧ n < len then partV pn cs (n.toNat * k) else none
  | _, _ => none
def extractV (n : Nat) (v : V) : Option V := match v with | .tuple vs => vs[n]? | _ => none
def sliceStrV (x : V) (lo hi : Option V) : Option V := match x with
  | .str s => (bnds s.length s.length lo hi none).map fun p => .str ((s.take p.2.1).drop p.1)
  | _ => none
def sliceSlV (k : Nat) (x : V) (lo hi mx : Option V) : Option V := match x with
  | .slice i o l c k' t => if k' = k then (bnds l c lo hi mx).map fun p => .slice i (o + p.1 * k) (p.2.1 - p.1) (p.2.2 - p.1) k (t || mx.isSome) else none
  | .nilSlice => (bnds 0 0 lo hi mx).map fun _ => .nilSlice
  | _ => none
def sliceArrV (S : St) (n k : Nat) (x : V) (lo hi mx : Option V) : Option V := match x with
  | .ptr i o => match S.cells i with
    | some vs => if o + n * k ≤ vs.length then (bnds n n lo hi mx).map fun p => .slice i (o + p.1 * k) (p.2.1 - p.1) (p.2.2 - p.1) k true else none
    | none => none
  | _ => none
def lenV (S : St) (n : Nat) (v : V) : Option V := match n, v with
  | 1, .str s => some (.int .i64 s.length)
  | 2, .slice _ _ l _ _ _ => some (.int .i64 l)
  | 2, .nilSlice => some (.int .i64 0)
  | 3, .nilMap => some (.int .i64 0)
  | 3, .map i => match S.get i with
    | some (.map es _) => some (.int .i64 es.length)
    | _ => none
  | _, _ => none
def minMaxV (f : Int → Int → Int) (xs : List V) : Option V := match xs with
  | .int k a :: r => (foldMM f a r).map (.int k)
  | _ => none
def appV (S : St) (k bytes : Nat) (x y : V) : Option (V × St) := match rApp k bytes (.con x) (.con y) [] S with | .val v S' => some (v, S') | _ => none
def copyV (S : St) (k : Nat) (x y : V) : Option (V × St) := match rCopy k (.con x) (.con y) [] S with | .val v S' => some (v, S') | _ => none
def lookupV (S : St) (kk : Nat) (zero : V) (b : Bool) (x ix : V) : Option V := match rLookup kk zero b (.con x) (.con ix) [] S with | .val v _ => some v | _ => none
def mapUpdV (S : St) (kk : Nat) (x ky y : V) : Option St := match rMapUpd kk (.con x) (.con ky) (.con y) [] S with | .val _ S' => some S' | _ => none
def deleteV (S : St) (kk : Nat) (x ky : V) : Option St := match rDelete kk (.con x) (.con ky) [] S with | .val _ S' => some S' | _ => none
def clearV (S : St) (k : Nat) (zs : List V) (x : V) : Option St := match rClear k zs (.con x) [] S with | .val _ S' => some S' | _ => none
def lookupPV (S : St) (zero : V) (b : Bool) (x ix : V) : Option V := match rLookupP zero b (.con x) (.con ix) [] S with | .val v _ => some v | _ => none
def mapUpdPV (S : St) (x ky y : V) : Option St := match rMapUpdP (.con x) (.con ky) (.con y) [] S with | .val _ S' => some S' | _ => none
def anyK (o : Option (V → St → Prop)) (k : V → St → Prop) : Prop :=
  match o with
  | some p => ∀ v S', p v S' → k v S'
  | none => False
def calleeV (ok : Env) (x : V) (args : List V) : Option (FuncId × List V) := match x with
  | .func (.func f) fs cs => if ok.can f then some (f, fs ++ args ++ cs) else none
  | .func (.yield l) [] [] => match ok.nf with | some n => some (n + l, args) | none => none
  | _ => none

section ops
variable (ok : Env) (callH : FuncId → List V → St → Post → Prop) (Q : PostC) (d : Option Nat) (r : List AI) (fr : List V) (S : St)

@[go_sem ↓] theorem runIs_move (x) : runIs ok callH Q (⟨d, none, .move x⟩ :: r) fr S = letV (x.ev fr) (fun v => runIs ok callH Q r (put fr d v) S) ⟨⟩ := (rfl)
@[go_sem ↓] theorem runIs_pick (c x y) : runIs ok callH Q (⟨d, none, .pick c x y⟩ :: r) fr S = ifSome (pickV (c.ev fr) (x.ev fr) (y.ev fr)) (fun v => runIs ok callH Q r (put fr d v) S) ⟨⟩ := by
  simp only [runIs, wantI, AO.run, rPick, pickV]; cases c.ev fr <;> rfl
@[go_sem ↓] theorem runIs_alloc (zs) : runIs ok callH Q (⟨d, none, .alloc zs⟩ :: r) fr S = runIs ok callH Q r (put fr d (.ptr S.next 0)) (S.new (.cells zs true)) := (rfl)
@[go_sem ↓] theorem runIs_allocT (t zs) : runIs ok callH Q (⟨d, none, .allocT t zs⟩ :: r) fr S = runIs ok callH Q r (put fr d (.ptr S.next 0)) (S.new (.obj t zs.length zs)) := (rfl)
@[go_sem ↓] theorem runIs_box (x) : runIs ok callH Q (⟨d, none, .box x⟩ :: r) fr S = letV (x.ev fr) (fun v => runIs ok callH Q r (put fr d (.ptr S.next 0)) (S.new (.cells v.cells true))) ⟨⟩ := (rfl)
@[go_sem ↓] theorem runIs_build (zs ps) : runIs ok callH Q (⟨d, none, .build zs ps⟩ :: r) fr S = ifSome (fillV zs (ps.map fun p => (p.1, p.2.1, p.2.2.ev fr))) (fun cs => runIs ok callH Q r (put fr d (.agg cs)) S) ⟨⟩ := by
  simp only [runIs, wantI, AO.run, rBuild]; cases fillV zs (ps.map fun p => (p.1, p.2.1, p.2.2.ev fr)) <;> rfl
@[go_sem ↓] theorem runIs_buildSlice (k n zs ps) : runIs ok callH Q (⟨d, none, .buildSlice k n zs ps⟩ :: r) fr S = ifSome (fillV zs (ps.map fun p => (p.1, p.2.1, p.2.2.ev fr))) (fun cs => runIs ok callH Q r (put fr d (.slice S.next 0 n n k true)) (S.new (.cells cs true))) ⟨⟩ := by
  simp only [runIs, wantI, AO.run, rBuildSlice]; cases fillV zs (ps.map fun p => (p.1, p.2.1, p.2.2.ev fr)) <;> rfl
@[go_sem ↓] theorem runIs_load1 (x) : runIs ok callH Q (⟨d, none, .load1 x⟩ :: r) fr S = ifSome (loadV S (x.ev fr)) (fun v => runIs ok callH Q r (put fr d v) S) ⟨⟩ := by
  simp only [runIs, wantI, AO.run, rLoad1, loadV]; cases x.ev fr <;> try rfl
  · rename_i i o
    simp only; cases S.load1 i o <;> rfl
  · rename_i i o
    simp only; cases S.gl1 i o <;> rfl
@[go_sem ↓] theorem runIs_loadN (n x) : runIs ok callH Q (⟨d, none, .loadN n x⟩ :: r) fr S = ifSome (loadNV S n (x.ev fr)) (fun v => runIs ok callH Q r (put fr d v) S) ⟨⟩ := by
  simp only [runIs, wantI, AO.run, rLoadN, loadNV]; cases x.ev fr <;> try rfl
  rename_i i o
  simp only; cases S.loads i o n <;> rfl
@[go_sem ↓] theorem runIs_store (n x y) : runIs ok callH Q (⟨d, none, .store n x y⟩ :: r) fr S = ifSome (storeV S n (x.ev fr) (y.ev fr)) (fun S' => runIs ok callH Q r (put fr d .undef) S') ⟨⟩ := by
  simp only [runIs, wantI, AO.run, rStore, storeV]; cases x.ev fr <;> try rfl
  rename_i i o
  by_cases hc : (y.ev fr).cells.length = n
  · simp only [if_pos hc]; cases S.stores i o (y.ev fr).cells <;> rfl
  · simp only [if_neg hc]; rfl
@[go_sem ↓] theorem runIs_nilCheck (x) : runIs ok callH Q (⟨d, none, .nilCheck x⟩ :: r) fr S = ifSome (nilV (x.ev fr)) (fun v => runIs ok callH Q r (put fr d v) S) ⟨⟩ := by
  simp only [runIs, wantI, AO.run, rNilCheck, nilV]; cases x.ev fr <;> try rfl
  rename_i fn a b; cases fn <;> rfl
@[go_sem ↓] theorem runIs_bin (op x y) : runIs ok callH Q (⟨d, none, .bin op x y⟩ :: r) fr S = ifSome (binV op (x.ev fr) (y.ev fr)) (fun v => runIs ok callH Q r (put fr d v) S) ⟨⟩ := by
  simp only [runIs, wantI, AO.run, rBin]; cases binV op (x.ev fr) (y.ev fr) <;> rfl
@[go_sem ↓] theorem runIs_un (op x) : runIs ok callH Q (⟨d, none, .un op x⟩ :: r) fr S = ifSome (unV op (x.ev fr)) (fun v => runIs ok callH Q r (put fr d v) S) ⟨⟩ := by
  simp only [runIs, wantI, AO.run, rUn]; cases unV op (x.ev fr) <;> rfl
@[go_sem ↓] theorem runIs_convInt (k x) : runIs ok callH Q (⟨d, none, .convInt k x⟩ :: r) fr S = ifSome (convIntV k (x.ev fr)) (fun v => runIs ok callH Q r (put fr d v) S) ⟨⟩ := by
  simp only [runIs, wantI, AO.run, rConvInt, convIntV]; cases x.ev fr <;> rfl
@[go_sem ↓] theorem runIs_convStr (x) : runIs ok callH Q (⟨d, none, .convStr x⟩ :: r) fr S = ifSome (convStrV (x.ev fr)) (fun v => runIs ok callH Q r (put fr d v) S) ⟨⟩ := by
  simp only [runIs, wantI, AO.run, rConvStr, convStrV]; cases x.ev fr <;> rfl
theorem rConvBS_eq (x) : rConvBS x fr S = match convBSV S (x.ev fr) with | some v => .val v S | none => .stuck := by
  unfold rConvBS convBSV
  split
  · rename_i h; rw [h]
  · rename_i i o l c t h
    rw [h]
    simp only
    cases S.loads i o l with
    | none => rfl
    | some vs => simp only; cases bytesOf vs <;> rfl
  · rename_i h1 h2
    split
    · rename_i v hv
      split at hv
      · rename_i h; exact absurd h h1
      · rename_i h; exact absurd h (h2 _ _ _ _ _)
      · cases hv
    · rfl
@[go_sem ↓] theorem runIs_convBS (x) : runIs ok callH Q (⟨d, none, .convBS x⟩ :: r) fr S = ifSome (convBSV S (x.ev fr)) (fun v => runIs ok callH Q r (put fr d v) S) ⟨⟩ := by
  simp only [runIs, wantI, AO.run, rConvBS_eq]
  cases convBSV S (x.ev fr) <;> rfl
@[go_sem ↓] theorem runIs_convSB (x) : runIs ok callH Q (⟨d, none, .convSB x⟩ :: r) fr S = ifSome (convSBV S (x.ev fr)) (fun p => runIs ok callH Q r (put fr d p.1) p.2) ⟨⟩ := by
  simp only [runIs, wantI, AO.run, rConvSB, convSBV]; cases x.ev fr <;> rfl
@[go_sem ↓] theorem runIs_convBB (x) : runIs ok callH Q (⟨d, none, .convBB x⟩ :: r) fr S = ifSome (convBBV S (x.ev fr)) (fun v => runIs ok callH Q r (put fr d v) S) ⟨⟩ := by
  simp only [runIs, wantI, AO.run, rConvBB, convBBV]; rfl
@[go_sem ↓] theorem runIs_mkFunc (fn a b) : runIs ok callH Q (⟨d, none, .mkFunc fn a b⟩ :: r) fr S = letV (.func fn (a.map (·.ev fr)) (b.map (·.ev fr))) (fun v => runIs ok callH Q r (put fr d v) S) ⟨⟩ := (rfl)
@[go_sem ↓] theorem runIs_mkMap : runIs ok callH Q (⟨d, none, .mkMap⟩ :: r) fr S = runIs ok callH Q r (put fr d (.map S.next)) (S.new (.map [] true)) := (rfl)
@[go_sem ↓] theorem runIs_mkIface (t x) : runIs ok callH Q (⟨d, none, .mkIface t x⟩ :: r) fr S = letV (.iface t (x.ev fr)) (fun v => runIs ok callH Q r (put fr d v) S) ⟨⟩ := (rfl)
@[go_sem ↓] theorem runIs_mkSlice (k b zs l c) : runIs ok callH Q (⟨d, none, .mkSlice k b zs l c⟩ :: r) fr S = ifSome (mkSliceV S k b zs (l.ev fr) (c.ev fr)) (fun p => runIs ok callH Q r (put fr d p.1) p.2) ⟨⟩ := by
  simp only [runIs, wantI, AO.run, rMkSlice, mkSliceV]; cases l.ev fr <;> try rfl
  cases c.ev fr <;> try rfl
  rename_i _ l _ c
  by_cases hc : 0 ≤ l ∧ l ≤ c ∧ (b : Int) * c ≤ 281474976710656 ∧ c ≤ 9223372036854775807
  · simp only [if_pos hc]; rfl
  · simp only [if_neg hc]; rfl
@[go_sem ↓] theorem runIs_fieldAddr (off x) : runIs ok callH Q (⟨d, none, .fieldAddr off x⟩ :: r) fr S = ifSome (fieldAddrV off (x.ev fr)) (fun v => runIs ok callH Q r (put fr d v) S) ⟨⟩ := by
  simp only [runIs, wantI, AO.run, rFieldAddr, fieldAddrV]; cases x.ev fr <;> rfl
@[go_sem ↓] theorem runIs_idxAddr (k x i) : runIs ok callH Q (⟨d, none, .idxAddr k x i⟩ :: r) fr S = ifSome (idxAddrV k (x.ev fr) (i.ev fr)) (fun v => runIs ok callH Q r (put fr d v) S) ⟨⟩ := by
  simp only [runIs, wantI, AO.run, rIdxAddr, idxAddrV]; cases x.ev fr <;> try rfl
  cases i.ev fr <;> try rfl
  rename_i j o l c k' t _ n
  by_cases hc : k' = k ∧ 0 ≤ n ∧ n < (l : Int)
  · simp only [if_pos hc]; rfl
  · simp only [if_neg hc]; rfl
@[go_sem ↓] theorem runIs_idxAddrArr (n k x i) : runIs ok callH Q (⟨d, none, .idxAddrArr n k x i⟩ :: r) fr S = ifSome (idxAddrArrV n k (x.ev fr) (i.ev fr)) (fun v => runIs ok callH Q r (put fr d v) S) ⟨⟩ := by
  simp only [runIs, wantI, AO.run, rIdxAddrArr, idxAddrArrV]; cases x.ev fr <;> try rfl
  cases i.ev fr <;> try rfl
  rename_i j o _ m
  by_cases hc : 0 ≤ m ∧ m < (n : Int)
  · simp only [if_pos hc]; rfl
  · simp only [if_neg hc]; rfl
@[go_sem ↓] theorem runIs_field (n off x) : runIs ok callH Q (⟨d, none, .field n off x⟩ :: r) fr S = ifSome (fieldV n off (x.ev fr)) (fun v => runIs ok callH Q r (put fr d v) S) ⟨⟩ := by
  simp only [runIs, wantI, AO.run, rField, fieldV]; cases x.ev fr <;> try rfl
  rename_i cs
  simp only; cases partV n cs off <;> rfl
@[go_sem ↓] theorem runIs_idxStr (x i) : runIs ok callH Q (⟨d, none, .idxStr x i⟩ :: r) fr S = ifSome (idxStrV (x.ev fr) (i.ev fr)) (fun v => runIs ok callH Q r (put fr d v) S) ⟨⟩ := by
  simp only [runIs, wantI, AO.run, rIdxStr, idxStrV]; cases x.ev fr <;> try rfl
  cases i.ev fr <;> try rfl
  rename_i s k n
  by_cases hc : 0 ≤ n
  · simp only [if_pos hc]; cases s[n.toNat]? <;> rfl
  · simp only [if_neg hc]; rfl
@[go_sem ↓] theorem runIs_idxArr (n k pn x i) : runIs ok callH Q (⟨d, none, .idxArr n k pn x i⟩ :: r) fr S = ifSome (idxArrV n k pn (x.ev fr) (i.ev fr)) (fun v => runIs ok callH Q r (put fr d v) S) ⟨⟩ := by
  simp only [runIs, wantI, AO.run, rIdxArr, idxArrV]; cases x.ev fr <;> try rfl
  cases i.ev fr <;> try rfl
  rename_i cs kk m
  by_cases hc : 0 ≤ m ∧ m < (n : Int)
  · simp only [if_pos hc]; cases partV pn cs (m.toNat * k) <;> rfl
  · simp only [if_neg hc]; rfl
@[go_sem ↓] theorem runIs_extract (n x) : runIs ok callH Q (⟨d, none, .extract n x⟩ :: r) fr S = ifSome (extractV n (x.ev fr)) (fun v => runIs ok callH Q r (put fr d v) S) ⟨⟩ := by
  simp only [runIs, wantI, AO.run, rExtract, extractV]; cases x.ev fr <;> try rfl
  rename_i vs
  simp only; cases vs[n]? <;> rfl
@[go_sem ↓] theorem runIs_sliceStr (x lo hi) : runIs ok callH Q (⟨d, none, .sliceStr x lo hi⟩ :: r) fr S = ifSome (sliceStrV (x.ev fr) (lo.map (·.ev fr)) (hi.map (·.ev fr))) (fun v => runIs ok callH Q r (put fr d v) S) ⟨⟩ := by
  simp only [runIs, wantI, AO.run, rSliceStr, sliceStrV]; cases x.ev fr <;> try rfl
  rename_i s
  simp only; cases bnds s.length s.length (lo.map (·.ev fr)) (hi.map (·.ev fr)) none <;> rfl
@[go_sem ↓] theorem runIs_sliceSl (k x lo hi mx) : runIs ok callH Q (⟨d, none, .sliceSl k x lo hi mx⟩ :: r) fr S = ifSome (sliceSlV k (x.ev fr) (lo.map (·.ev fr)) (hi.map (·.ev fr)) (mx.map (·.ev fr))) (fun v => runIs ok callH Q r (put fr d v) S) ⟨⟩ := by
  simp only [runIs, wantI, AO.run, rSliceSl, sliceSlV]; cases x.ev fr <;> try rfl
  · simp only; cases bnds 0 0 (lo.map (·.ev fr)) (hi.map (·.ev fr)) (mx.map (·.ev fr)) <;> rfl
  · rename_i i o l c k' t
    by_cases hc : k' = k
    · simp only [if_pos hc]
      cases bnds l c (lo.map (·.ev fr)) (hi.map (·.ev fr)) (mx.map (·.ev fr))
      · rfl
      · simp only [Option.map_some, ifSome, Option.isSome_map]
    · simp only [if_neg hc]; rfl
@[go_sem ↓] theorem runIs_sliceArr (n k x lo hi mx) : runIs ok callH Q (⟨d, none, .sliceArr n k x lo hi mx⟩ :: r) fr S = ifSome (sliceArrV S n k (x.ev fr) (lo.map (·.ev fr)) (hi.map (·.ev fr)) (mx.map (·.ev fr))) (fun v => runIs ok callH Q r (put fr d v) S) ⟨⟩ := by
  simp only [runIs, wantI, AO.run, rSliceArr, sliceArrV]; cases x.ev fr <;> try rfl
  rename_i i o
  simp only
  cases S.cells i with
  | none => rfl
  | some vs =>
    by_cases hc : o + n * k ≤ vs.length
    · simp only [if_pos hc]; cases bnds n n (lo.map (·.ev fr)) (hi.map (·.ev fr)) (mx.map (·.ev fr)) <;> rfl
    · simp only [if_neg hc]; rfl
theorem rLenK_eq (n x) : rLenK n x fr S = match lenV S n (x.ev fr) with | some v => .val v S | none => .stuck := by
  unfold rLenK
  split
  · rename_i s h; rw [h]; rfl
  · rename_i i o l c k t h; rw [h]; rfl
  · rename_i h; rw [h]; rfl
  · rename_i h; rw [h]; rfl
  · rename_i i h
    rw [h]
    simp only [lenV]
    cases S.get i with
    | none => rfl
    | some b => cases b <;> rfl
  · rename_i h1 h2 h3 h4 h5
    split
    · rename_i v hv
      unfold lenV at hv
      split at hv
      · rename_i h; exact absurd h (h1 _ rfl)
      · rename_i h; exact absurd h (h2 _ _ _ _ _ _ rfl)
      · rename_i h; exact absurd h (h3 rfl)
      · rename_i h; exact absurd h (h4 rfl)
      · rename_i h; exact absurd h (h5 _ rfl)
      · cases hv
    · rfl
@[go_sem ↓] theorem runIs_len (n x) : runIs ok callH Q (⟨d, none, .len n x⟩ :: r) fr S = ifSome (lenV S n (x.ev fr)) (fun v => runIs ok callH Q r (put fr d v) S) ⟨⟩ := by
  simp only [runIs, wantI, AO.run, rLenK_eq]
  cases lenV S n (x.ev fr) <;> rfl
theorem rMinMax_eq (f xs) : rMinMax f xs fr S = match minMaxV f (xs.map (·.ev fr)) with | some v => .val v S | none => .stuck := by
  unfold rMinMax minMaxV
  generalize (xs.map (·.ev fr) : List V) = l
  split
  · rename_i k a l
    simp only
    cases foldMM f a l <;> rfl
  · rename_i h
    split
    · rename_i v hv
      split at hv
      · rename_i k a l; exact absurd rfl (h _ _ _)
      · cases hv
    · rfl
@[go_sem ↓] theorem runIs_min (xs) : runIs ok callH Q (⟨d, none, .min xs⟩ :: r) fr S = ifSome (minMaxV goMin (xs.map (·.ev fr))) (fun v => runIs ok callH Q r (put fr d v) S) ⟨⟩ := by
  simp only [runIs, wantI, AO.run, rMinMax_eq]
  cases minMaxV goMin (xs.map (·.ev fr)) <;> rfl
@[go_sem ↓] theorem runIs_max (xs) : runIs ok callH Q (⟨d, none, .max xs⟩ :: r) fr S = ifSome (minMaxV goMax (xs.map (·.ev fr))) (fun v => runIs ok callH Q r (put fr d v) S) ⟨⟩ := by
  simp only [runIs, wantI, AO.run, rMinMax_eq]
  cases minMaxV goMax (xs.map (·.ev fr)) <;> rfl


theorem rApp_ev (k b x y) : rApp k b x y fr S = rApp k b (.con (x.ev fr)) (.con (y.ev fr)) [] S := rfl
theorem rCopy_ev (k x y) : rCopy k x y fr S = rCopy k (.con (x.ev fr)) (.con (y.ev fr)) [] S := rfl
theorem rLookup_ev (kk z b x y) : rLookup kk z b x y fr S = rLookup kk z b (.con (x.ev fr)) (.con (y.ev fr)) [] S := rfl
theorem rMapUpd_ev (kk x y z) : rMapUpd kk x y z fr S = rMapUpd kk (.con (x.ev fr)) (.con (y.ev fr)) (.con (z.ev fr)) [] S := rfl
theorem rDelete_ev (kk x y) : rDelete kk x y fr S = rDelete kk (.con (x.ev fr)) (.con (y.ev fr)) [] S := rfl

theorem rApp_cases (k b x y) : (∃ v S', rApp k b x y fr S = .val v S') ∨ rApp k b x y fr S = .stuck := by
  unfold rApp
  repeat' split
  all_goals first | exact .inl ⟨_, _, rfl⟩ | exact .inr rfl
theorem rCopy_cases (k x y) : (∃ v S', rCopy k x y fr S = .val v S') ∨ rCopy k x y fr S = .stuck := by
  unfold rCopy
  repeat' split
  all_goals first | exact .inl ⟨_, _, rfl⟩ | exact .inr rfl
theorem rLookup_cases (kk z b x y) : (∃ v, rLookup kk z b x y fr S = .val v S) ∨ rLookup kk z b x y fr S = .stuck := by
  unfold rLookup
  repeat' split
  all_goals first | exact .inl ⟨_, rfl⟩ | exact .inr rfl
theorem rMapUpd_cases (kk x y z) : (∃ S', rMapUpd kk x y z fr S = .val .undef S') ∨ rMapUpd kk x y z fr S = .stuck := by
  unfold rMapUpd
  repeat' split
  all_goals first | exact .inl ⟨_, rfl⟩ | exact .inr rfl
theorem rDelete_cases (kk x y) : (∃ S', rDelete kk x y fr S = .val .undef S') ∨ rDelete kk x y fr S = .stuck := by
  unfold rDelete
  repeat' split
  all_goals first | exact .inl ⟨_, rfl⟩ | exact .inr rfl

@[go_sem ↓] theorem runIs_app (k b x y) : runIs ok callH Q (⟨d, none, .app k b x y⟩ :: r) fr S = ifSome (appV S k b (x.ev fr) (y.ev fr)) (fun p => runIs ok callH Q r (put fr d p.1) p.2) ⟨⟩ := by
  simp only [runIs, wantI, AO.run, appV, ← rApp_ev]
  rcases rApp_cases fr S k b x y with ⟨v, S', h⟩ | h <;> rw [h] <;> rfl
@[go_sem ↓] theorem runIs_copy (k x y) : runIs ok callH Q (⟨d, none, .copy k x y⟩ :: r) fr S = ifSome (copyV S k (x.ev fr) (y.ev fr)) (fun p => runIs ok callH Q r (put fr d p.1) p.2) ⟨⟩ := by
  simp only [runIs, wantI, AO.run, copyV, ← rCopy_ev]
  rcases rCopy_cases fr S k x y with ⟨v, S', h⟩ | h <;> rw [h] <;> rfl
@[go_sem ↓] theorem runIs_lookup (kk z b x y) : runIs ok callH Q (⟨d, none, .lookup kk z b x y⟩ :: r) fr S = ifSome (lookupV S kk z b (x.ev fr) (y.ev fr)) (fun v => runIs ok callH Q r (put fr d v) S) ⟨⟩ := by
  simp only [runIs, wantI, AO.run, lookupV, ← rLookup_ev]
  rcases rLookup_cases fr S kk z b x y with ⟨v, h⟩ | h <;> rw [h] <;> rfl
@[go_sem ↓] theorem runIs_mapUpd (kk x y z) : runIs ok callH Q (⟨d, none, .mapUpd kk x y z⟩ :: r) fr S = ifSome (mapUpdV S kk (x.ev fr) (y.ev fr) (z.ev fr)) (fun S' => runIs ok callH Q r (put fr d .undef) S') ⟨⟩ := by
  simp only [runIs, wantI, AO.run, mapUpdV, ← rMapUpd_ev]
  rcases rMapUpd_cases fr S kk x y z with ⟨S', h⟩ | h <;> rw [h] <;> rfl
@[go_sem ↓] theorem runIs_delete (kk x y) : runIs ok callH Q (⟨d, none, .delete kk x y⟩ :: r) fr S = ifSome (deleteV S kk (x.ev fr) (y.ev fr)) (fun S' => runIs ok callH Q r (put fr d .undef) S') ⟨⟩ := by
  simp only [runIs, wantI, AO.run, deleteV, ← rDelete_ev]
  rcases rDelete_cases fr S kk x y with ⟨S', h⟩ | h <;> rw [h] <;> rfl
theorem rClear_cases (k zs x) : (∃ S', rClear k zs x fr S = .val .undef S') ∨ rClear k zs x fr S = .stuck := by
  unfold rClear; (repeat' split) <;> first | exact .inl ⟨_, rfl⟩ | exact .inr rfl
theorem rLookupP_cases (z b x y) : (∃ v, rLookupP z b x y fr S = .val v S) ∨ rLookupP z b x y fr S = .stuck := by
  unfold rLookupP; (repeat' split) <;> first | exact .inl ⟨_, rfl⟩ | exact .inr rfl
theorem rMapUpdP_cases (x y z) : (∃ S', rMapUpdP x y z fr S = .val .undef S') ∨ rMapUpdP x y z fr S = .stuck := by
  unfold rMapUpdP; (repeat' split) <;> first | exact .inl ⟨_, rfl⟩ | exact .inr rfl
theorem runIs_panicV (x) : runIs ok callH Q (⟨d, none, .panicV x⟩ :: r) fr S = match x.ev fr with
    | .iface t v => Q (.panic (.iface t v)) fr S
    | _ => False := by
  simp only [runIs, wantI, AO.run, rPanicV]
  cases x.ev fr <;> rfl
@[go_sem ↓] theorem runIs_clearSl (k zs x) : runIs ok callH Q (⟨d, none, .clearSl k zs x⟩ :: r) fr S = ifSome (clearV S k zs (x.ev fr)) (fun S' => runIs ok callH Q r (put fr d .undef) S') ⟨⟩ := by
  simp only [runIs, wantI, AO.run, clearV]
  rw [show rClear k zs (.con (x.ev fr)) [] S = rClear k zs x fr S from rfl]
  rcases rClear_cases fr S k zs x with ⟨S', h⟩ | h <;> rw [h] <;> rfl
@[go_sem ↓] theorem runIs_lookupP (z b x y) : runIs ok callH Q (⟨d, none, .lookupP z b x y⟩ :: r) fr S = ifSome (lookupPV S z b (x.ev fr) (y.ev fr)) (fun v => runIs ok callH Q r (put fr d v) S) ⟨⟩ := by
  simp only [runIs, wantI, AO.run, lookupPV]
  rw [show rLookupP z b (.con (x.ev fr)) (.con (y.ev fr)) [] S = rLookupP z b x y fr S from rfl]
  rcases rLookupP_cases fr S z b x y with ⟨v, h⟩ | h <;> rw [h] <;> rfl
@[go_sem ↓] theorem runIs_mapUpdP (x y z) : runIs ok callH Q (⟨d, none, .mapUpdP x y z⟩ :: r) fr S = ifSome (mapUpdPV S (x.ev fr) (y.ev fr) (z.ev fr)) (fun S' => runIs ok callH Q r (put fr d .undef) S') ⟨⟩ := by
  simp only [runIs, wantI, AO.run, mapUpdPV]
  rw [show rMapUpdP (.con (x.ev fr)) (.con (y.ev fr)) (.con (z.ev fr)) [] S = rMapUpdP x y z fr S from rfl]
  rcases rMapUpdP_cases fr S x y z with ⟨S', h⟩ | h <;> rw [h] <;> rfl
theorem runIs_rangeM (x) : runIs ok callH Q (⟨d, none, .rangeM x⟩ :: r) fr S = anyK (rangeP S (x.ev fr)) (fun v S' => runIs ok callH Q r (put fr d v) S') := by
  simp only [runIs, wantI, AO.run, rRange]
  cases rangeP S (x.ev fr) <;> rfl
theorem runIs_nextM (x) : runIs ok callH Q (⟨d, none, .nextM x⟩ :: r) fr S = anyK (nextP S (x.ev fr)) (fun v S' => runIs ok callH Q r (put fr d v) S') := by
  simp only [runIs, wantI, AO.run, rNext]
  cases nextP S (x.ev fr) <;> rfl
@[go_sem ↓] theorem runIs_entryM (x) : runIs ok callH Q (⟨d, none, .entryM x⟩ :: r) fr S = ifSome (entryV S (x.ev fr)) (fun v => runIs ok callH Q r (put fr d v) S) ⟨⟩ := by
  simp only [runIs, wantI, AO.run, rEntry]
  cases entryV S (x.ev fr) <;> rfl
@[go_sem ↓] theorem runIs_callF (f xs) : runIs ok callH Q (⟨d, none, .callF f xs⟩ :: r) fr S = callH f (xs.map (·.ev fr)) S (resK (fun v S' => runIs ok callH Q r (put fr d v) S') (fun v S' => Q (.panic v) fr S') ⟨⟩ ⟨⟩) := by
  simp only [runIs, wantI, AO.run, rCallF]
  rfl
@[go_sem ↓] theorem runIs_callV (x xs) : runIs ok callH Q (⟨d, none, .callV x xs⟩ :: r) fr S = ifSome (calleeV ok (x.ev fr) (xs.map (·.ev fr))) (fun p => callH p.1 p.2 S (resK (fun v S' => runIs ok callH Q r (put fr d v) S') (fun v S' => Q (.panic v) fr S') ⟨⟩ ⟨⟩)) ⟨⟩ := by
  simp only [runIs, wantI, AO.run, rCallV, calleeV]
  cases x.ev fr <;> try rfl
  rename_i fn a b
  cases fn <;> try rfl
  · rename_i f
    by_cases hc : ok.can f = true
    · simp only [if_pos hc]; rfl
    · simp only [if_neg hc]; rfl
  · cases a <;> try rfl
    cases b <;> try rfl
    simp only
    cases ok.nf <;> rfl
@[go_sem ↓] theorem runIs_eq (neg kk pl x y) : runIs ok callH Q (⟨d, none, .eq neg kk pl x y⟩ :: r) fr S = ifSome (eqV kk pl (x.ev fr) (y.ev fr)) (fun b => runIs ok callH Q r (put fr d (.bool (b != neg))) S) ⟨⟩ := by
  simp only [runIs, wantI, AO.run, rEq]; cases eqV kk pl (x.ev fr) (y.ev fr) <;> rfl
@[go_sem ↓] theorem runIs_ext (k xs) : runIs ok callH Q (⟨d, none, .ext k xs⟩ :: r) fr S = ifSome (extV k (xs.map (·.ev fr))) (fun v => runIs ok callH Q r (put fr d v) S) ⟨⟩ := by
  simp only [runIs, wantI, AO.run, rExt]; cases extV k (xs.map (·.ev fr)) <;> rfl
@[go_sem ↓] theorem runIs_cap (x) : runIs ok callH Q (⟨d, none, .cap x⟩ :: r) fr S = ifSome (capV (x.ev fr)) (fun v => runIs ok callH Q r (put fr d v) S) ⟨⟩ := by
  simp only [runIs, wantI, AO.run, rCap]; cases capV (x.ev fr) <;> rfl
@[go_sem ↓] theorem runIs_assert (t c z x) : runIs ok callH Q (⟨d, none, .assert t c z x⟩ :: r) fr S = ifSome (assertV t c z (x.ev fr)) (fun v => runIs ok callH Q r (put fr d v) S) ⟨⟩ := by
  simp only [runIs, wantI, AO.run, rAssert]; cases assertV t c z (x.ev fr) <;> rfl
@[go_sem ↓] theorem runIs_invoke (nm x xs) : runIs ok callH Q (⟨d, none, .invoke nm x xs⟩ :: r) fr S = ifSome (invokeV ok S nm (x.ev fr) (xs.map (·.ev fr))) (fun p => callH p.1 p.2 S (resK (fun v S' => runIs ok callH Q r (put fr d v) S') (fun v S' => Q (.panic v) fr S') ⟨⟩ ⟨⟩)) ⟨⟩ := by
  simp only [runIs, wantI, AO.run, rInvoke]
  cases invokeV ok S nm (x.ev fr) (xs.map (·.ev fr)) <;> rfl
end ops

@[go_sem] theorem calleeV_func (ok : Env) (f : Nat) (a b args : List V) : calleeV ok (.func (.func f) a b) args = if ok.can f then some (f, a ++ args ++ b) else none := (rfl)
section bin
variable (k : IntKind) (a b : Int) (s t : List UInt8)
@[go_sem] theorem binV_add : binV .add (.int k a) (.int k b) = some (.int k (k.wrap (a + b))) := by simp [binV]
@[go_sem] theorem binV_sub : binV .sub (.int k a) (.int k b) = some (.int k (k.wrap (a - b))) := by simp [binV]
@[go_sem] theorem binV_mul : binV .mul (.int k a) (.int k b) = some (.int k (k.wrap (a * b))) := by simp [binV]
@[go_sem] theorem binV_quo : binV .quo (.int k a) (.int k b) = if b = 0 then none else some (.int k (k.wrap (a.tdiv b))) := by simp [binV]
@[go_sem] theorem binV_rem : binV .rem (.int k a) (.int k b) = if b = 0 then none else some (.int k (a.tmod b)) := by simp [binV]
@[go_sem] theorem binV_eql : binV .eql (.int k a) (.int k b) = some (.bool (decide (a = b))) := by simp [binV]
@[go_sem] theorem binV_neq : binV .neq (.int k a) (.int k b) = some (.bool (!decide (a = b))) := by simp [binV]
@[go_sem] theorem binV_lss : binV .lss (.int k a) (.int k b) = some (.bool (decide (a < b))) := by simp [binV]
@[go_sem] theorem binV_leq : binV .leq (.int k a) (.int k b) = some (.bool (decide (a ≤ b))) := by simp [binV]
@[go_sem] theorem binV_gtr : binV .gtr (.int k a) (.int k b) = some (.bool (decide (b < a))) := by simp [binV]
@[go_sem] theorem binV_geq : binV .geq (.int k a) (.int k b) = some (.bool (decide (b ≤ a))) := by simp [binV]
@[go_sem] theorem binV_and : binV .and (.int k a) (.int k b) = some (.int k (intBits .and k a b)) := by simp [binV]
@[go_sem] theorem binV_or : binV .or (.int k a) (.int k b) = some (.int k (intBits .or k a b)) := by simp [binV]
@[go_sem] theorem binV_xor : binV .xor (.int k a) (.int k b) = some (.int k (intBits .xor k a b)) := by simp [binV]
@[go_sem] theorem binV_andNot : binV .andNot (.int k a) (.int k b) = some (.int k (intBits .andNot k a b)) := by simp [binV]
@[go_sem] theorem binV_shl (k' : IntKind) : binV .shl (.int k a) (.int k' b) = if b < 0 then none else some (.int k (k.wrap (a * 2 ^ (min b.toNat k.bits)))) := by simp [binV]
@[go_sem] theorem binV_shr (k' : IntKind) : binV .shr (.int k a) (.int k' b) = if b < 0 then none else some (.int k (a.fdiv (2 ^ (min b.toNat k.bits)))) := by simp [binV]
@[go_sem] theorem binV_sadd : binV .add (.str s) (.str t) = if s.length + t.length < 2 ^ 62 then some (.str (s ++ t)) else none := (rfl)
@[go_sem] theorem binV_seql : binV .eql (.str s) (.str t) = some (.bool (decide (s = t))) := (rfl)
@[go_sem] theorem binV_sneq : binV .neq (.str s) (.str t) = some (.bool (!decide (s = t))) := (rfl)
@[go_sem] theorem unV_neg : unV .neg (.int k a) = some (.int k (k.wrap (0 - a))) := (rfl)
@[go_sem] theorem unV_xor : unV .xor (.int k a) = some (.int k (intBits .xor k (if k.signed then -1 else k.max) a)) := (rfl)
@[go_sem] theorem unV_not (b : Bool) : unV .not (.bool b) = some (.bool (!b)) := (rfl)
end bin
theorem beq_true_ (b : Bool) : (b == true) = b := by cases b <;> rfl
theorem beq_false_ (b : Bool) : (b == false) = !b := by cases b <;> rfl
attribute [go_sem] decide_true decide_false Bool.true_and Bool.false_and Bool.and_true Bool.and_false Bool.true_or Bool.false_or Bool.or_true Bool.or_false Bool.not_true Bool.not_false beq_self_eq_true beq_true_ beq_false_
  decide_eq_true_eq Bool.not_not ite_self Bool.true_eq_false Bool.false_eq_true

def roundQ (I : Nat → List V → St → Prop) (n : Nat) (Q : PostC) (_t : Tag I) (_u : Tag Q) : PostC := fun e fr S => match e with | .normal => ∃ k, k < n ∧ I k fr S | e => Q e fr S
section
variable (I : Nat → List V → St → Prop) (n : Nat) (Q : PostC) (t : Tag I) (u : Tag Q) (fr : List V) (S : St)
end

theorem LoopA.ind {P : Program} {ok : Env} (hok : EnvOk P ok) {ac : AC} {Q : PostC} (I : Nat → List V → St → Prop)
    (h : ∀ n fr S, I n fr S → wpA ok (CallA P) (LoopA P) ac (roundQ I n Q ⟨⟩ ⟨⟩) fr S) : ∀ (n : Nat) (fr : List V) (S : St), I n fr S → LoopA P ac Q fr S := by
  intro n
  induction n using Nat.strongRecOn with
  | _ n ih =>
    intro fr S hI
    refine LoopA.round hok ?_
    refine wpA_mono (fun f args S Q Q' hq h => h.mono hq) (fun ac Q Q' fr S hq h => h.mono hq) ac _ _ ?_ fr S (h n fr S hI)
    intro e fr' S' he
    cases e with
    | normal =>
      obtain ⟨k, hk, hI'⟩ := he
      exact ih k hk fr' S' hI'
    | exit j => exact he
    | ret => exact he
    | panic v => exact he

def eltV (k : Nat) (v : V) (m off : Nat) : V :=
  match v with
  | .slice i o _ _ _ _ => .ptr i (o + m * k + off)
  | _ => .nilPtr

def SlAt (S : St) (k : Nat) (v : V) (n : Nat) (cs : List V) : Prop :=
  n ≤ 4611686018427387904 ∧ cs.length = n * k ∧ ((v = .nilSlice ∧ n = 0) ∨ ∃ i o c t, v = .slice i o n c k t ∧ n ≤ c ∧ S.loads i o (n * k) = some cs)

section
variable {S : St} {k : Nat} {v : V} {n : Nat} {cs : List V} (h : SlAt S k v n cs)
include h

theorem SlAt.le : n ≤ 4611686018427387904 := h.1

theorem SlAt.len : lenV S 2 v = some (.int .i64 n) := by
  rcases h.2.2 with ⟨rfl, rfl⟩ | ⟨i, o, c, t, rfl, _⟩ <;> rfl

theorem SlAt.idx {kk : IntKind} {m : Nat} (hm : m < n) : idxAddrV k v (.int kk m) = some (eltV k v m 0) := by
  rcases h.2.2 with ⟨rfl, rfl⟩ | ⟨i, o, c, t, rfl, _⟩
  · omega
  · simp only [idxAddrV, eltV]
    rw [if_pos ⟨trivial, by omega, by omega⟩]
    simp

theorem SlAt.load {m off : Nat} (hm : m < n) (ho : off < k) : loadV S (eltV k v m off) = cs[m * k + off]? := by
  rcases h.2.2 with ⟨rfl, rfl⟩ | ⟨i, o, c, t, rfl, _, hld⟩
  · omega
  · have hlt : m * k + off < n * k := by
      have : (m + 1) * k ≤ n * k := Nat.mul_le_mul_right _ hm
      rw [Nat.succ_mul] at this; omega
    obtain ⟨vs, own, hg, hl, hcs⟩ := St.loads_pos hld (by omega)
    simp only [loadV, eltV, St.load1, hg]
    rw [hcs, List.getElem?_take, if_pos hlt, List.getElem?_drop]
    congr 1; omega
end

theorem AO.quiet_run {ok : Env} {o : AO} (hq : o.quiet = true) (fr : List V) (S : St) : (∃ v S', o.run ok fr S = .val v S') ∨ o.run ok fr S = .stuck := by
  cases o <;> simp only [AO.quiet, Bool.false_eq_true] at hq <;>
    simp only [AO.run, rMove, rPick, rBuild, rLoad1, rLoadN, rNilCheck, rBin, rUn, rConvInt, rConvStr, rConvBS, rMkFunc, rMkIface, rFieldAddr, rIdxAddr, rIdxAddrArr, rField, rIdxStr, rIdxArr, rExtract, rSliceStr, rSliceSl, rLenK, rMinMax, rLookup, rEq, rCap, rAssert, rExt] <;>
    (repeat' split) <;> first | exact .inl ⟨_, _, rfl⟩ | exact .inr rfl

attribute [go_sem] List.all_cons List.all_nil AO.quiet fillV V.cells over Nat.reduceEqDiff and_self and_true true_and

theorem wrap_nat {m : Nat} (h : m < 4611686018427387905) : IntKind.i64.wrap ((m : Int) + 1) = ((m + 1 : Nat) : Int) := by
  rw [IntKind.wrap_i64]; omega

end Go.Th
end
