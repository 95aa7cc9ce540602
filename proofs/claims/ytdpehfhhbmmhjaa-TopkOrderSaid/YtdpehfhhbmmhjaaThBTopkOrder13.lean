/- What the row of one statement stands on: a store, abstract code, functions of the program and their laws (ThJ). -/
import Derived.Test.YtdpehfhhbmmhjaaThBTopkOrder12
import Derived.Scope

section
/- The abstract code, its weakest precondition, and that this is the model's. -/
set_option linter.unusedSimpArgs false
set_option linter.unusedVariables false
namespace Go.Th
open Go.RowKit Go.Lib

inductive AC where
  | skip
  | region (l : List AI)
  | draw (t : OT)
  | seq (a b : AC)
  | cond (x : AX) (a b : AC)
  | block (id : Nat) (a : AC)
  | loop (a : AC)
  | exit (id : Nat)
  | ret

def AI.ofs (P : Program) (ops : Array Oper) : List Oper → Option (List AI)
  | [] => some []
  | o :: os => obind (AI.of P ops o) fun i => obind (AI.ofs P ops os) fun is => some (i :: is)

def AC.of (P : Program) : Code → Option AC
  | .skip => some .skip
  | .region _ ops dr =>
    if dr then (if P.follows .mixedOrders then obind (canon P ops ops.size (Array.replicate ops.size false)) fun l => some (.draw l) else none)
    else obind (AI.ofs P ops ops.toList) fun l => some (.region l)
  | .seq a b => obind (AC.of P a) fun a => obind (AC.of P b) fun b => some (.seq a b)
  | .cond x a b => obind (AX.of x) fun x => obind (AC.of P a) fun a => obind (AC.of P b) fun b => some (.cond x a b)
  | .block id a => obind (AC.of P a) fun a => some (.block id a)
  | .loop a => obind (AC.of P a) fun a => some (.loop a)
  | .exit id => some (.exit id)
  | .ret => some .ret
  | .scope a => AC.of P a
  | .label _ => some .skip
  | _ => none

inductive AE where
  | normal
  | exit (id : Nat)
  | ret
  | panic (v : V)

abbrev PostC := AE → List V → St → Prop

def runIs (ok : Env) (callH : FuncId → List V → St → Post → Prop) (Q : PostC) : List AI → List V → St → Prop
  | [], fr, S => Q .normal fr S
  | i :: r, fr, S =>
    match wantI i.guard fr with
    | some true =>
      match i.op.run ok fr S with
      | .val v S' => runIs ok callH Q r (put fr i.dst v) S'
      | .call f args => callH f args S fun res S' => match res with
        | .ret v => runIs ok callH Q r (put fr i.dst v) S'
        | .panic v => Q (.panic v) fr S'
      | .panic v => Q (.panic v) fr S
      | .stuck => False
    | some false => runIs ok callH Q r (put fr i.dst .undef) S
    | none => False

def wpA (ok : Env) (callH : FuncId → List V → St → Post → Prop) (loopH : AC → PostC → List V → St → Prop) : AC → PostC → List V → St → Prop
  | .skip, Q, fr, S => Q .normal fr S
  | .region l, Q, fr, S => runIs ok callH Q l fr S
  | .draw l, Q, fr, S => runD ok callH (Q .normal) l [] fr S
  | .seq a b, Q, fr, S => wpA ok callH loopH a (fun e fr S => match e with | .normal => wpA ok callH loopH b Q fr S | e => Q e fr S) fr S
  | .cond x a b, Q, fr, S => match x.ev fr with
    | .bool c => if c then wpA ok callH loopH a Q fr S else wpA ok callH loopH b Q fr S
    | _ => False
  | .block id a, Q, fr, S => wpA ok callH loopH a (fun e fr S => match e with | .exit j => if j = id then Q .normal fr S else Q (.exit j) fr S | e => Q e fr S) fr S
  | .loop a, Q, fr, S => loopH a Q fr S
  | .exit id, Q, fr, S => Q (.exit id) fr S
  | .ret, Q, fr, S => Q .ret fr S

/-! ## the meaning in the model -/
def ResR (m : LM) : Res → Ending → Prop
  | .ret v, e => ∃ u, e = .returned u ∧ VR m v u
  | .panic v, e => ∃ u, e = .panicked [{ v := u, recovered := false }] ∧ VR m v u

/-- What a call of a function does, as far as the store tells. -/
def CallA (P : Program) (f : FuncId) (args : List V) (S : St) (Q : Post) : Prop :=
  ∀ (m : LM) (base : Nat) (w0 w : World) (args' : Array Value), Sim m S base w0 w → VRs m args args'.toList →
    Calls P f args' w fun e w' => ∃ r S' m', Q r S' ∧ Ext m m' ∧ Sim m' S' base w0 w' ∧ ResR m' r e

theorem CallA.mono {P : Program} {f : FuncId} {args : List V} {S : St} {Q Q' : Post} (h : CallA P f args S Q) (hq : ∀ r S', Q r S' → Q' r S') : CallA P f args S Q' :=
  fun m base w0 w args' hS hv => (h m base w0 w args' hS hv).mono fun _ _ ⟨r, S', m', h1, h2⟩ => ⟨r, S', m', hq _ _ h1, h2⟩

def ExR (m : LM) : AE → Exit → Prop
  | .normal, .normal => True
  | .exit i, .exit j => i = j
  | .ret, .ret => True
  | .panic v, .panic ch => ∃ u, ch = [{ v := u, recovered := false }] ∧ VR m v u
  | _, _ => False

def Lift (m : LM) (base : Nat) (w0 : World) (Q : PostC) : Exit → Act → World → Prop := fun e a w' =>
  ∃ e' fr' S' m', Q e' fr' S' ∧ Ext m m' ∧ Sim m' S' base w0 w' ∧ VRs m' fr' a.tmps.toList ∧ a.defers = [] ∧ ExR m' e' e

def CodeA (P : Program) (c : Code) (Q : PostC) (fr : List V) (S : St) : Prop :=
  ∀ (m : LM) (base : Nat) (w0 w : World) (a : Act), Sim m S base w0 w → VRs m fr a.tmps.toList → a.defers = [] → c.wp P (Lift m base w0 Q) a w

/-- What a loop does from its head on. -/
def LoopA (P : Program) (ac : AC) (Q : PostC) (fr : List V) (S : St) : Prop :=
  ∀ (c : Code), AC.of P c = some ac → ∀ (m : LM) (base : Nat) (w0 w : World) (a : Act), Sim m S base w0 w → VRs m fr a.tmps.toList → a.defers = [] →
    ∀ (b : Frame) (k : List Item) (cs : List Frame), ∃ e a' w', Lift m base w0 Q e a' w' ∧ Arrives P (lone (b.at a (.code c :: .inLoop c :: k)) cs w) b k cs e a' w'

theorem LoopA.code {P : Program} {ac : AC} {Q : PostC} {fr : List V} {S : St} (h : LoopA P ac Q fr S) {c : Code} (hc : AC.of P c = some ac) : CodeA P (.loop c) Q fr S := by
  intro m base w0 w a hS hf hd b k cs
  obtain ⟨e, a', w', h1, h2⟩ := h c hc m base w0 w a hS hf hd b k cs
  exact ⟨e, a', w', h1, .of_steps (.one step_loop) h2⟩

theorem VRs.set {m : LM} : ∀ {fr : List V} {us : List Value} (d : Nat) {v : V} {u : Value}, VRs m fr us → VR m v u → VRs m (fr.set d v) (us.set d u)
  | [], us, d, v, u, h, _ => by simp only [VRs] at h; subst h; simp [VRs]
  | x :: fr, us, 0, v, u, h, hv => by
    simp only [VRs] at h
    obtain ⟨y, us', rfl, h0, h1⟩ := h
    simp only [List.set_cons_zero, VRs]
    exact ⟨u, us', rfl, hv, h1⟩
  | x :: fr, us, d + 1, v, u, h, hv => by
    simp only [VRs] at h
    obtain ⟨y, us', rfl, h0, h1⟩ := h
    simp only [List.set_cons_succ, VRs]
    exact ⟨y, _, rfl, h0, h1.set d hv⟩

theorem put_rel {m : LM} {fr : List V} {a : Act} {d : Option Nat} {v : V} {u : Value} (h : VRs m fr a.tmps.toList) (hv : VR m v u) : VRs m (put fr d v) (a.put d u).tmps.toList := by
  cases d with
  | none => exact h
  | some d => simpa [put, Act.put] using h.set d hv

theorem put_defers (a : Act) (d : Option Nat) (u : Value) : (a.put d u).defers = a.defers := by cases d <;> rfl

theorem Lift.mono {m m' : LM} {base : Nat} {w0 : World} {Q : PostC} (h : Ext m m') {e : Exit} {a : Act} {w : World} (hl : Lift m' base w0 Q e a w) : Lift m base w0 Q e a w := by
  obtain ⟨e', fr', S', m2, h1, h2, h3⟩ := hl
  exact ⟨e', fr', S', m2, h1, h.trans h2, h3⟩

theorem wanted_rel {m : LM} {ops : Array Oper} {o : Oper} {i : AI} {P : Program} (hi : AI.of P ops o = some i) {fr : List V} {a : Act} (hf : VRs m fr a.tmps.toList) {b : Bool} (hw : wantI i.guard fr = some b) : Region.wanted o (yielded ops a.tmps) = b := by
  unfold AI.of at hi
  cases hg : o.guard with
  | none =>
    rw [hg] at hi
    obtain ⟨ao, _, hi⟩ := obind_some hi
    cases hi
    simp only [wantI, Option.some.injEq] at hw
    subst hw
    simp [Region.wanted, hg]
  | some p =>
    obtain ⟨j, want⟩ := p
    rw [hg] at hi
    obtain ⟨t, ht, hi⟩ := obind_some hi
    obtain ⟨ao, _, hi⟩ := obind_some hi
    cases hi
    simp only [wantI] at hw
    split at hw
    · rename_i x hx
      cases hw
      have hr := hf.getD t
      rw [hx] at hr
      have hu := hr.bool_inv
      have htm : a.tmps[t]? = some (.bool x) := by
        have : a.tmps.toList.getD t Go.undef = .bool x := hu
        rw [List.getD] at this
        cases hq : a.tmps.toList[t]? with
        | none => rw [hq] at this; simp [Go.undef] at this
        | some q => rw [hq] at this; simp at this; rw [← this]; simpa using hq
      have hy : yielded ops a.tmps j = some x := by
        unfold yielded
        rw [ht]
        simp [htm]
      simp [Region.wanted, hg, hy]
    · rename_i hx
      cases hw
      have hr := hf.getD t
      rw [hx] at hr
      simp only [VR, VRs] at hr
      obtain ⟨cs, hu, hcs⟩ := hr
      have hcs' : cs = #[] := by cases cs; simp_all
      subst hcs'
      have hy : yielded ops a.tmps j = none := by
        unfold yielded
        rw [ht]
        have : a.tmps.toList.getD t Go.undef = .tuple #[] := hu
        rw [List.getD] at this
        cases hq : a.tmps.toList[t]? with
        | none =>
          have hq' : a.tmps[t]? = none := by simpa using hq
          simp [hq']
        | some q =>
          rw [hq] at this; simp at this; subst this
          have hq' : a.tmps[t]? = some (.tuple #[]) := by simpa using hq
          simp [hq']
      simp [Region.wanted, hg, hy]
    · cases hw

theorem AI.of_op {P : Program} {ops : Array Oper} {o : Oper} {i : AI} (h : AI.of P ops o = some i) : AO.of P o.op = some i.op ∧ i.dst = o.dst := by
  unfold AI.of at h
  split at h
  · obtain ⟨ao, h1, h⟩ := obind_some h; cases h; exact ⟨h1, rfl⟩
  · obtain ⟨t, _, h⟩ := obind_some h; obtain ⟨ao, h1, h⟩ := obind_some h; cases h; exact ⟨h1, rfl⟩

section
variable {P : Program} {ok : Env} (hok : EnvOk P ok)
include hok

/-- One operation. -/
theorem step_ok {ops : Array Oper} {o : Oper} {i : AI} (hi : AI.of P ops o = some i) {Q : PostC} {K : Act → World → Prop} {m0 m : LM} {S : St} {base : Nat} {w0 w : World} {fr : List V} {a : Act} (hx : Ext m0 m)
    (hS : Sim m S base w0 w) (hf : VRs m fr a.tmps.toList) (hd : a.defers = [])
    (hrun : match i.op.run ok fr S with
      | .val v S' => ∀ m' w' u, Ext m m' → Sim m' S' base w0 w' → VRs m' (Th.put fr i.dst v) (a.put o.dst u).tmps.toList → K (a.put o.dst u) w'
      | .call f args => CallA P f args S fun res S' => match res with
        | .ret v => ∀ m' w' u, Ext m m' → Sim m' S' base w0 w' → VRs m' (Th.put fr i.dst v) (a.put o.dst u).tmps.toList → K (a.put o.dst u) w'
        | .panic v => Q (.panic v) fr S'
      | .panic v => Q (.panic v) fr S
      | .stuck => False) : o.wp P a w K (Lift m0 base w0 Q) := by
  obtain ⟨hop, hdst⟩ := AI.of_op hi
  have hsound := AO.of_ok hok hop m S base w0 w fr a hS hf
  unfold Oper.wp
  split at hrun
  · rename_i v S' hr
    rw [hr] at hsound
    obtain ⟨u, w', m', ⟨h1, h2, h3, h4⟩ | ⟨h1, rfl, h2, h3, h4⟩⟩ := hsound
    · rw [h1]
      exact hrun m' w' u h2 h3 (by rw [hdst]; exact put_rel (hf.mono h2) h4)
    · rw [h1]
      exact hrun m' w' _ h2 h3 (by rw [hdst]; exact put_rel (hf.mono h2) h4)
  · rename_i f args hr
    rw [hr] at hsound
    obtain ⟨args', h1, h2⟩ := hsound
    rw [h1]
    refine (hrun m base w0 w args' hS h2).mono ?_
    rintro e w' ⟨r, S', m', hq, hx', hS', hR⟩
    cases r with
    | ret v =>
      obtain ⟨u, rfl, hv⟩ := hR
      exact hq m' w' u hx' hS' (by rw [hdst]; exact put_rel (hf.mono hx') hv)
    | panic v =>
      obtain ⟨u, rfl, hv⟩ := hR
      exact ⟨.panic v, fr, S', m', hq, hx.trans hx', hS', hf.mono hx', hd, u, rfl, hv⟩
  · rename_i v hr
    rw [hr] at hsound
    obtain ⟨u, h1, h2⟩ := hsound
    rw [h1]
    exact ⟨.panic v, fr, S, m, hrun, hx, hS, hf, hd, u, rfl, h2⟩
  · exact hrun.elim

theorem runIs_ok {ops : Array Oper} (Q : PostC) (m0 : LM) (base : Nat) (w0 : World) : ∀ (os : List Oper) (l : List AI), AI.ofs P ops os = some l → ∀ (m : LM) (S : St) (w : World) (fr : List V) (a : Act), Ext m0 m →
    Sim m S base w0 w → VRs m fr a.tmps.toList → a.defers = [] → runIs ok (CallA P) Q l fr S → wpList P ops (Lift m0 base w0 Q) os a w
  | [], l, h, m, S, w, fr, a, hx, hS, hf, hd, hr => by
    simp only [AI.ofs, Option.some.injEq] at h; subst h
    exact ⟨.normal, fr, S, m, hr, hx, hS, hf, hd, trivial⟩
  | o :: os, l, h, m, S, w, fr, a, hx, hS, hf, hd, hr => by
    simp only [AI.ofs] at h
    obtain ⟨i, hi, h⟩ := obind_some h
    obtain ⟨is, his, h⟩ := obind_some h
    cases h
    have ih := runIs_ok Q m0 base w0 os is his
    simp only [runIs] at hr
    unfold wpList
    split at hr
    · rename_i hw
      rw [wanted_rel hi hf hw, if_pos rfl]
      left
      refine step_ok hok hi hx hS hf hd ?_
      split at hr
      · rename_i v S' hv
        intro m' w' u h1 h2 h3
        exact ih m' S' w' _ _ (hx.trans h1) h2 h3 (by rw [put_defers]; exact hd) hr
      · rename_i f args hv
        intro m1 b1 w01 w1 args' hs1 hv1
        refine (hr m1 b1 w01 w1 args' hs1 hv1).mono ?_
        rintro e w' ⟨r, S', m', hq, hrest⟩
        refine ⟨r, S', m', ?_, hrest⟩
        cases r with
        | ret v =>
          intro m2 w2 u h1 h2 h3
          exact ih m2 S' w2 _ _ (hx.trans h1) h2 h3 (by rw [put_defers]; exact hd) hq
        | panic v => exact hq
      · exact hr
      · exact hr
    · rename_i hw
      rw [wanted_rel hi hf hw, if_neg (by simp)]
      exact ih m S w _ _ hx hS (by rw [(AI.of_op hi).2]; exact put_rel hf (VR.undef m)) (by rw [put_defers]; exact hd) hr
    · exact hr.elim

/-- Whatever order is picked. -/
theorem anyA_ok {ops : Array Oper} (Q : PostC) (m0 : LM) (base : Nat) (w0 : World) {C : Nat → St → St → Prop} : ∀ (n : Nat) (listed : Array Bool) (m : LM) (fr : List V) (S : St) (w : World) (a : Act), Ext m0 m →
    Sim m S base w0 w → VRs m fr a.tmps.toList → a.defers = [] → anyA P ok (CallA P) ops (Q .normal) C n listed fr S → wpAny P .any ops (Lift m0 base w0 Q) n listed a w
  | 0, listed, m, fr, S, w, a, hx, hS, hf, hd, h => ⟨h.1, .normal, fr, S, m, h.2, hx, hS, hf, hd, trivial⟩
  | n + 1, listed, m, fr, S, w, a, hx, hS, hf, hd, h => by
    refine ⟨fun h0 => ⟨.normal, fr, S, m, h.1 h0, hx, hS, hf, hd, trivial⟩, fun i hi => ?_⟩
    obtain ⟨o, ai, ho, hai, hst⟩ := h.2 i hi
    have ih := anyA_ok (ops := ops) Q m0 base w0 (C := C) n (listed.setIfInBounds i true)
    unfold wpOp
    simp only [ho]
    unfold stepD at hst
    split at hst
    · rename_i hw
      rw [wanted_rel hai hf hw, if_pos rfl]
      left
      refine step_ok hok hai hx hS hf hd ?_
      split at hst
      · rename_i v S' hv
        rw [hv]
        intro m' w' u h1 h2 h3
        exact ih m' _ S' w' _ (hx.trans h1) h2 h3 (by rw [put_defers]; exact hd) hst.2
      · rename_i f args hv
        rw [hv]
        refine CallA.mono hst ?_
        intro r S' hr
        cases r with
        | ret v =>
          intro m' w' u h1 h2 h3
          exact ih m' _ S' w' _ (hx.trans h1) h2 h3 (by rw [put_defers]; exact hd) hr.2
        | panic v => exact hr.elim
      · exact hst.elim
      · exact hst.elim
    · rename_i hw
      rw [wanted_rel hai hf hw, if_neg (by simp)]
      exact ih m _ S w _ hx hS (by rw [(AI.of_op hai).2]; exact put_rel hf (VR.undef m)) (by rw [put_defers]; exact hd) hst.2
    · exact hst.elim

/-- The weakest precondition over the store is one in the model. -/
theorem wpA_ok : ∀ (c : Code) (ac : AC), AC.of P c = some ac → ∀ (Q : PostC) (fr : List V) (S : St), wpA ok (CallA P) (LoopA P) ac Q fr S → CodeA P c Q fr S
  | .skip, ac, h, Q, fr, S, hw => by
    simp only [AC.of, Option.some.injEq] at h; subst h
    intro m base w0 w a hS hf hd
    exact wp_skip ⟨.normal, fr, S, m, hw, Ext.refl m, hS, hf, hd, trivial⟩
  | .region id ops draw, ac, h, Q, fr, S, hw => by
    simp only [AC.of] at h
    split at h
    · rename_i hdr
      subst hdr
      split at h
      · rename_i hm
        obtain ⟨l, hl, h⟩ := obind_some h
        cases h
        intro m base w0 w a hS hf hd
        refine wp_region_any hm (anyA_ok hok (C := CR ops []) Q m base w0 ops.size _ m fr S _ a (Ext.refl m) hS.draw hf hd ?_)
        exact canon_ok (fun f args S Q Q' hq h => h.mono hq) _ _ _ hl [] fr S hw
      · cases h
    · rename_i hdr
      obtain ⟨l, hl, h⟩ := obind_some h
      cases h
      have : draw = false := by simpa using hdr
      subst this
      intro m base w0 w a hS hf hd
      exact wp_region_list (runIs_ok hok Q m base w0 _ _ hl m S w fr a (Ext.refl m) hS hf hd hw)
  | .seq x y, ac, h, Q, fr, S, hw => by
    simp only [AC.of] at h
    obtain ⟨ax, h1, h⟩ := obind_some h
    obtain ⟨ay, h2, h⟩ := obind_some h
    cases h
    intro m base w0 w a hS hf hd
    refine wp_seq (wp_mono (wpA_ok x ax h1 _ fr S hw m base w0 w a hS hf hd) ?_)
    rintro e a' w' ⟨e', fr', S', m', hq, hx, hS', hf', hd', hR⟩
    cases e' with
    | normal =>
      cases e <;> simp only [ExR] at hR
      exact wp_mono (wpA_ok y ay h2 Q fr' S' hq m' base w0 w' a' hS' hf' hd') (fun e a w hl => Lift.mono hx hl)
    | exit j =>
      cases e <;> simp only [ExR] at hR
      exact ⟨.exit j, fr', S', m', hq, hx, hS', hf', hd', hR⟩
    | ret =>
      cases e <;> simp only [ExR] at hR
      exact ⟨.ret, fr', S', m', hq, hx, hS', hf', hd', trivial⟩
    | panic v =>
      cases e <;> simp only [ExR] at hR
      exact ⟨.panic v, fr', S', m', hq, hx, hS', hf', hd', hR⟩
  | .cond x c d, ac, h, Q, fr, S, hw => by
    simp only [AC.of] at h
    obtain ⟨ax, h0, h⟩ := obind_some h
    obtain ⟨a1, h1, h⟩ := obind_some h
    obtain ⟨a2, h2, h⟩ := obind_some h
    cases h
    intro m base w0 w a hS hf hd
    simp only [wpA] at hw
    split at hw
    · rename_i b hb
      have hr := AX.of_rel h0 hf
      rw [hb] at hr
      refine wp_cond hr.bool_inv ?_
      cases b with
      | true => exact wpA_ok c a1 h1 Q fr S (by simpa using hw) m base w0 w a hS hf hd
      | false => exact wpA_ok d a2 h2 Q fr S (by simpa using hw) m base w0 w a hS hf hd
    · exact hw.elim
  | .block id c, ac, h, Q, fr, S, hw => by
    simp only [AC.of] at h
    obtain ⟨a1, h1, h⟩ := obind_some h
    cases h
    intro m base w0 w a hS hf hd
    refine wp_block (wp_mono (wpA_ok c a1 h1 _ fr S hw m base w0 w a hS hf hd) ?_)
    rintro e a' w' ⟨e', fr', S', m', hq, hx, hS', hf', hd', hR⟩
    cases e' with
    | normal =>
      cases e <;> simp only [ExR] at hR
      exact ⟨.normal, fr', S', m', hq, hx, hS', hf', hd', trivial⟩
    | exit j =>
      cases e <;> simp only [ExR] at hR
      subst hR
      simp only [Exit.inBlock]
      simp only at hq
      split
      · rename_i hj
        rw [if_pos hj] at hq
        exact ⟨.normal, fr', S', m', hq, hx, hS', hf', hd', trivial⟩
      · rename_i hj
        rw [if_neg hj] at hq
        exact ⟨.exit j, fr', S', m', hq, hx, hS', hf', hd', rfl⟩
    | ret =>
      cases e <;> simp only [ExR] at hR
      exact ⟨.ret, fr', S', m', hq, hx, hS', hf', hd', trivial⟩
    | panic v =>
      cases e <;> simp only [ExR] at hR
      exact ⟨.panic v, fr', S', m', hq, hx, hS', hf', hd', hR⟩
  | .loop c, ac, h, Q, fr, S, hw => by
    simp only [AC.of] at h
    obtain ⟨a1, h1, h⟩ := obind_some h
    cases h
    exact hw.code h1
  | .exit id, ac, h, Q, fr, S, hw => by
    simp only [AC.of, Option.some.injEq] at h; subst h
    intro m base w0 w a hS hf hd
    exact wp_exit ⟨.exit id, fr, S, m, hw, Ext.refl m, hS, hf, hd, rfl⟩
  | .ret, ac, h, Q, fr, S, hw => by
    simp only [AC.of, Option.some.injEq] at h; subst h
    intro m base w0 w a hS hf hd
    exact wp_ret ⟨.ret, fr, S, m, hw, Ext.refl m, hS, hf, hd, trivial⟩
  | .rangeFunc .., ac, h, _, _, _, _ => by simp [AC.of] at h
  | .scope c, ac, h, Q, fr, S, hw => by
    simp only [AC.of] at h
    intro m base w0 w a hS hf hd
    refine wp_scope_straight (wp_mono (wpA_ok c ac h Q fr S hw m base w0 w a hS hf hd) ?_)
    intro e a' w' hl
    cases e with
    | goto l =>
      obtain ⟨e', _, _, _, _, _, _, _, _, hR⟩ := hl
      cases e' <;> exact hR.elim
    | _ => exact hl
  | .label l, ac, h, Q, fr, S, hw => by
    simp only [AC.of, Option.some.injEq] at h; subst h
    intro m base w0 w a hS hf hd
    exact wp_label ⟨.normal, fr, S, m, hw, Ext.refl m, hS, hf, hd, trivial⟩
  | .goto _, ac, h, _, _, _, _ => by simp [AC.of] at h
  | .refuse _, ac, h, _, _, _, _ => by simp [AC.of] at h

/-- A loop's next round. -/
theorem LoopA.round {ac : AC} {Q : PostC} {fr : List V} {S : St} (h : wpA ok (CallA P) (LoopA P) ac (fun e fr S => match e with | .normal => LoopA P ac Q fr S | e => Q e fr S) fr S) : LoopA P ac Q fr S := by
  intro c hc m base w0 w a hS hf hd b k cs
  have hbody := wpA_ok hok c ac hc _ fr S h m base w0 w a hS hf hd
  obtain ⟨e, a₁, w₁, ⟨e', fr', S', m', hq, hx, hS', hf', hd', hR⟩, harr⟩ := hbody b (.inLoop c :: k) cs
  cases e' with
  | normal =>
    cases e <;> simp only [ExR] at hR
    obtain ⟨e₂, a₂, w₂, hq₂, harr₂⟩ := hq c hc m' base w0 w₁ a₁ hS' hf' hd' b k cs
    exact ⟨e₂, a₂, w₂, Lift.mono hx hq₂, .of_steps (Steps.trans harr (.one step_inLoop)) harr₂⟩
  | exit j =>
    cases e <;> simp only [ExR] at hR
    subst hR
    exact ⟨.exit j, a₁, w₁, ⟨.exit j, fr', S', m', hq, hx, hS', hf', hd', rfl⟩, .pass (x := .inLoop c) rfl (fun _ _ => .inl (by simp)) harr⟩
  | ret =>
    cases e <;> simp only [ExR] at hR
    exact ⟨.ret, a₁, w₁, ⟨.ret, fr', S', m', hq, hx, hS', hf', hd', trivial⟩, .pass (x := .inLoop c) rfl (fun _ _ => .inl (by simp)) harr⟩
  | panic v =>
    cases e <;> simp only [ExR] at hR
    exact ⟨.panic _, a₁, w₁, ⟨.panic v, fr', S', m', hq, hx, hS', hf', hd', hR⟩, .pass (x := .inLoop c) rfl (fun _ _ => .inl (by simp)) harr⟩
end

/-! ## monotony -/
theorem LoopA.mono {P : Program} {ac : AC} {Q Q' : PostC} {fr : List V} {S : St} (h : LoopA P ac Q fr S) (hq : ∀ e fr S, Q e fr S → Q' e fr S) : LoopA P ac Q' fr S :=
  fun c hc m base w0 w a hS hf hd b k cs =>
    let ⟨e, a', w', ⟨e', fr', S', m', h1, h2⟩, h3⟩ := h c hc m base w0 w a hS hf hd b k cs
    ⟨e, a', w', ⟨e', fr', S', m', hq _ _ _ h1, h2⟩, h3⟩

theorem runIs_mono {ok : Env} {callH callH' : FuncId → List V → St → Post → Prop} (hc : ∀ f args S Q Q', (∀ r S', Q r S' → Q' r S') → callH f args S Q → callH' f args S Q') {Q Q' : PostC} (hq : ∀ e fr S, Q e fr S → Q' e fr S) :
    ∀ (l : List AI) (fr : List V) (S : St), runIs ok callH Q l fr S → runIs ok callH' Q' l fr S
  | [], fr, S, h => hq _ _ _ h
  | i :: r, fr, S, h => by
    simp only [runIs] at h ⊢
    split at h
    · split at h
      · exact runIs_mono hc hq r _ _ h
      · refine hc _ _ _ _ _ ?_ h
        intro res S' hres
        cases res with
        | ret v => exact runIs_mono hc hq r _ _ hres
        | panic v => exact hq _ _ _ hres
      · exact hq _ _ _ h
      · exact h.elim
    · exact runIs_mono hc hq r _ _ h
    · exact h.elim

theorem runD_mono {ok : Env} {callH callH' : FuncId → List V → St → Post → Prop} (hc : ∀ f args S Q Q', (∀ r S', Q r S' → Q' r S') → callH f args S Q → callH' f args S Q') {Q Q' : List V → St → Prop} (hq : ∀ fr S, Q fr S → Q' fr S) :
    ∀ (t : OT) (R : RD) (fr : List V) (S : St), runD ok callH Q t R fr S → runD ok callH' Q' t R fr S
  | .done, _, fr, S, h => hq _ _ h
  | .both t u, R, fr, S, h => ⟨runD_mono hc hq t R fr S h.1, runD_mono hc hq u R fr S h.2⟩
  | .step n ds i r, R, fr, S, h => by
    simp only [runD] at h ⊢
    split at h
    · split at h
      · split at h
        · rename_i hqt; rw [if_pos hqt]; exact runD_mono hc hq r _ _ _ h
        · rename_i hqt; rw [if_neg hqt]; exact ⟨h.1, runD_mono hc hq r _ _ _ h.2⟩
      · refine hc _ _ _ _ _ ?_ h
        intro res S' hres
        cases res with
        | ret v => exact ⟨hres.1, runD_mono hc hq r _ _ _ hres.2⟩
        | panic v => exact hres
      · exact h
      · exact h
    · exact runD_mono hc hq r _ _ _ h
    · exact h

theorem wpA_mono {ok : Env} {callH callH' : FuncId → List V → St → Post → Prop} {loopH loopH' : AC → PostC → List V → St → Prop} (hc : ∀ f args S Q Q', (∀ r S', Q r S' → Q' r S') → callH f args S Q → callH' f args S Q')
    (hl : ∀ ac Q Q' fr S, (∀ e fr S, Q e fr S → Q' e fr S) → loopH ac Q fr S → loopH' ac Q' fr S) :
    ∀ (ac : AC) (Q Q' : PostC), (∀ e fr S, Q e fr S → Q' e fr S) → ∀ (fr : List V) (S : St), wpA ok callH loopH ac Q fr S → wpA ok callH' loopH' ac Q' fr S
  | .skip, Q, Q', hq, fr, S, h => hq _ _ _ h
  | .region l, Q, Q', hq, fr, S, h => runIs_mono hc hq l fr S h
  | .draw l, Q, Q', hq, fr, S, h => runD_mono hc (hq .normal) l [] fr S h
  | .seq a b, Q, Q', hq, fr, S, h => by
    simp only [wpA] at h ⊢
    refine wpA_mono hc hl a _ _ ?_ fr S h
    intro e fr S he
    cases e with
    | normal => exact wpA_mono hc hl b _ _ hq fr S he
    | exit j => exact hq _ _ _ he
    | ret => exact hq _ _ _ he
    | panic v => exact hq _ _ _ he
  | .cond x a b, Q, Q', hq, fr, S, h => by
    simp only [wpA] at h ⊢
    split at h
    · split at h
      · rename_i ht; simp only [ht, if_true]; exact wpA_mono hc hl a _ _ hq fr S h
      · rename_i ht; simp only [ht, if_false]; exact wpA_mono hc hl b _ _ hq fr S h
    · exact h.elim
  | .block id a, Q, Q', hq, fr, S, h => by
    simp only [wpA] at h ⊢
    refine wpA_mono hc hl a _ _ ?_ fr S h
    intro e fr S he
    cases e with
    | normal => exact hq _ _ _ he
    | exit j =>
      simp only at he ⊢
      split at he
      · rename_i hj; rw [if_pos hj]; exact hq _ _ _ he
      · rename_i hj; rw [if_neg hj]; exact hq _ _ _ he
    | ret => exact hq _ _ _ he
    | panic v => exact hq _ _ _ he
  | .loop a, Q, Q', hq, fr, S, h => hl _ _ _ _ _ hq h
  | .exit id, Q, Q', hq, fr, S, h => hq _ _ _ h
  | .ret, Q, Q', hq, fr, S, h => hq _ _ _ h

/-! ## functions -/
inductive ARes where
  | tmp (t : Nat)
  | cell1 (t : Nat)
  | cellN (t n : Nat)

structure AF where
  nt : Nat
  results : List ARes
  body : AC

def ARes.of (P : Program) : ResultVar → Option ARes
  | .tmp t => some (.tmp t)
  | .cell a t => obind (P.underlying t) fun d => if isAggD d then obind (P.info? t) fun i => some (.cellN a i.size) else some (.cell1 a)

def ARes.ofs (P : Program) : List ResultVar → Option (List ARes)
  | [] => some []
  | r :: rs => obind (ARes.of P r) fun x => obind (ARes.ofs P rs) fun xs => some (x :: xs)

def AF.of (P : Program) (fn : Func) : Option AF :=
  match fn.body with
  | none => none
  | some c => obind (AC.of P c) fun ac => obind (ARes.ofs P fn.results.toList) fun rs => some ⟨fn.ntmps, rs, ac⟩

def afun (P : Program) (f : FuncId) : Option AF := obind (P.funcs[f]?) (AF.of P)

def ARes.get (fr : List V) (S : St) : ARes → Option V
  | .tmp t => some (fr.getD t .undef)
  | .cell1 t => match fr.getD t .undef with
    | .ptr i o => S.load1 i o
    | _ => none
  | .cellN t n => match fr.getD t .undef with
    | .ptr i o => (S.loads i o n).map .agg
    | _ => none

def ARes.gets (fr : List V) (S : St) : List ARes → Option (List V)
  | [] => some []
  | r :: rs => obind (r.get fr S) fun v => obind (ARes.gets fr S rs) fun vs => some (v :: vs)

def tupled : List V → V
  | [v] => v
  | vs => .tuple vs

/-- What stands at a body's end. -/
def endQ (rs : List ARes) (Q : Post) : PostC := fun e fr S =>
  match e with
  | .normal | .ret => match ARes.gets fr S rs with
    | some vs => Q (.ret (tupled vs)) S
    | none => False
  | .panic v => Q (.panic v) S
  | .exit _ => False

def resOf (tmps : Array Value) : ResultVar → Sem Value
  | .tmp t => pure (tmps.getD t Go.undef)
  | .cell c t => do loadVar t (← asAddr (tmps.getD c Go.undef))

theorem results_eq (fn : Func) (tmps : Array Value) : results fn tmps = (do let vs ← fn.results.mapM (resOf tmps); pure (if h : vs.size = 1 then vs[0] else .tuple vs)) := rfl

theorem run_results {P : Program} {m : LM} {S : St} {base : Nat} {w0 w : World} (hS : Sim m S base w0 w) {fr : List V} {a : Array Value} (hf : VRs m fr a.toList) : ∀ (l : List ResultVar) (rs : List ARes) (vs : List V), ARes.ofs P l = some rs → ARes.gets fr S rs = some vs →
    ∃ us : List Value, (l.mapM (resOf a)).run P w = .ok us w ∧ VRs m vs us
  | [], rs, vs, h, hg => by
    simp only [ARes.ofs, Option.some.injEq] at h; subst h
    simp only [ARes.gets, Option.some.injEq] at hg; subst hg
    exact ⟨[], by simp, by simp [VRs]⟩
  | r :: l, rs, vs, h, hg => by
    simp only [ARes.ofs] at h
    obtain ⟨x, hx, h⟩ := obind_some h
    obtain ⟨xs, hxs, h⟩ := obind_some h
    cases h
    simp only [ARes.gets] at hg
    obtain ⟨v, hv, hg⟩ := obind_some hg
    obtain ⟨vs', hvs, hg⟩ := obind_some hg
    cases hg
    obtain ⟨us, h1, h2⟩ := run_results hS hf l xs vs' hxs hvs
    have hgd : ∀ t, VR m (fr.getD t .undef) (a.getD t Go.undef) := by
      intro t
      have := hf.getD t
      simpa [Array.getD_eq_getD_getElem?, List.getD] using this
    have one : ∃ u, (resOf a r).run P w = .ok u w ∧ VR m v u := by
      cases r with
      | tmp t =>
        simp only [ARes.of, Option.some.injEq] at hx; subst hx
        simp only [ARes.get, Option.some.injEq] at hv; subst hv
        exact ⟨_, rfl, hgd t⟩
      | cell c t =>
        simp only [ARes.of] at hx
        obtain ⟨d, hd, hx⟩ := obind_some hx
        have hcg := hgd c
        split at hx
        · rename_i ha
          obtain ⟨i, hi, hx⟩ := obind_some hx
          cases hx
          simp only [ARes.get] at hv
          split at hv
          · rename_i j o he
            rw [he] at hcg
            obtain ⟨L, hL, hu⟩ := hcg.ptr_inv
            cases hl : S.loads j o i.size with
            | none => rw [hl] at hv; cases hv
            | some cs =>
              rw [hl] at hv; cases hv
              obtain ⟨us', g1, g2, _⟩ := hS.loads (P := P) hl hL
              refine ⟨.agg us'.toArray, ?_, by simp only [VR]; exact ⟨_, rfl, g2⟩⟩
              simp [resOf, hu, asAddr, loadVar, run_isAgg hd, ha, sizeOf, typeInfo, hi, g1]
          · cases hv
        · rename_i ha
          cases hx
          simp only [ARes.get] at hv
          split at hv
          · rename_i j o he
            rw [he] at hcg
            obtain ⟨L, hL, hu⟩ := hcg.ptr_inv
            obtain ⟨u, g1, g2⟩ := hS.load1 hv hL
            refine ⟨u, ?_, g2⟩
            have ha' : isAggD d = false := by simpa using ha
            simp [resOf, hu, asAddr, loadVar, run_isAgg hd, ha', g1]
          · cases hv
    obtain ⟨u, g1, g2⟩ := one
    refine ⟨u :: us, ?_, by simp only [VRs]; exact ⟨u, us, rfl, g2, h2⟩⟩
    simp only [List.mapM_cons, Sem.run_bind, g1, Result.andThen_ok, h1, Sem.run_pure]

theorem CallA.of_body {P : Program} {ok : Env} (hok : EnvOk P ok) {f : FuncId} {F : AF} (hF : afun P f = some F) {args : List V} {S : St} {Q : Post}
    (h : wpA ok (CallA P) (LoopA P) F.body (endQ F.results Q) (args ++ List.replicate (F.nt - args.length) .undef) S) : CallA P f args S Q := by
  obtain ⟨fn, hfn, hF⟩ := obind_some hF
  unfold AF.of at hF
  cases hb : fn.body with
  | none => rw [hb] at hF; cases hF
  | some c =>
    rw [hb] at hF
    obtain ⟨ac, hac, hF⟩ := obind_some hF
    obtain ⟨rs, hrs, hF⟩ := obind_some hF
    cases hF
    intro m base w0 w args' hS hv
    have hl := hv.length
    rw [Array.length_toList] at hl
    refine calls_of_wp hfn hb ?_
    have hfr : VRs m (args ++ List.replicate (fn.ntmps - args.length) .undef) (args' ++ Array.replicate (fn.ntmps - args'.size) Go.undef).toList := by
      rw [Array.toList_append, Array.toList_replicate, hl]
      exact hv.append (VRs.replicate (VR.undef m) _)
    refine wp_mono (wpA_ok hok c ac hac _ _ S h m base w0 w ⟨args' ++ Array.replicate (fn.ntmps - args'.size) Go.undef, []⟩ hS hfr rfl) ?_
    rintro e a w' ⟨e', fr', S', m', hq, hx, hS', hf', hd', hR⟩
    have fin : (match ARes.gets fr' S' rs with
        | some vs => Q (.ret (tupled vs)) S'
        | none => False) → ∃ v, (results fn a.tmps).run P w' = .ok v w' ∧ ∃ r S'' m'', Q r S'' ∧ Ext m m'' ∧ Sim m'' S'' base w0 w' ∧ ResR m'' r (.returned v) := by
      intro hq
      split at hq
      · rename_i vs hvs
        obtain ⟨us, h1, h2⟩ := run_results (P := P) hS' hf' fn.results.toList rs vs hrs hvs
        have hlen := h2.length
        have hrun : (results fn a.tmps).run P w' = .ok (if h : us.toArray.size = 1 then us.toArray[0] else .tuple us.toArray) w' := by
          rw [results_eq, Sem.run_bind, Array.mapM_eq_mapM_toList, Sem.run_map, h1]
          rfl
        refine ⟨_, hrun, .ret (tupled vs), S', m', hq, hx, hS', _, rfl, ?_⟩
        match vs, us, h2, hlen with
        | [], [], h2, _ => simp only [tupled, VR]; exact ⟨#[], by simp, by simp [VRs]⟩
        | [v], [u], h2, _ =>
          simp only [VRs] at h2
          obtain ⟨u', us', he, h3, _⟩ := h2
          cases he
          simpa [tupled] using h3
        | v :: v2 :: vs, u :: u2 :: us, h2, _ =>
          simp only [tupled, VR]
          exact ⟨(u :: u2 :: us).toArray, by simp, by simpa using h2⟩
      · exact hq.elim
    cases e' with
    | normal =>
      cases e <;> simp only [ExR] at hR
      obtain ⟨v, h1, h2⟩ := fin hq
      exact ⟨hd', v, h1, h2⟩
    | ret =>
      cases e <;> simp only [ExR] at hR
      obtain ⟨v, h1, h2⟩ := fin hq
      exact ⟨hd', v, h1, h2⟩
    | panic v =>
      cases e <;> simp only [ExR] at hR
      obtain ⟨u, rfl, hu⟩ := hR
      exact ⟨hd', .panic v, S', m', hq, hx, hS', u, rfl, hu⟩
    | exit j => exact hq.elim

/-- A call that only looks at what is there, and tells no place: the store stays. -/
def V.flat : V → Bool
  | .bool _ | .int _ _ | .str _ | .nilPtr | .nilSlice | .nilMap | .nilFunc | .nilIface => true
  | .tuple vs => vs.all fun v => match v with
    | .bool _ | .int _ _ | .str _ | .nilPtr | .nilSlice | .nilMap | .nilFunc | .nilIface => true
    | .agg cs => cs.all fun v => match v with
      | .bool _ | .int _ _ | .str _ | .nilPtr | .nilSlice | .nilMap | .nilFunc | .nilIface => true
      | _ => false
    | _ => false
  | .agg cs => cs.all fun v => match v with
    | .bool _ | .int _ _ | .str _ | .nilPtr | .nilSlice | .nilMap | .nilFunc | .nilIface => true
    | _ => false
  | _ => false

end Go.Th
end
