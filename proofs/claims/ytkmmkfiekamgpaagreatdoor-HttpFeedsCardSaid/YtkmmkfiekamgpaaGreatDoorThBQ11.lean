/- What the row of one statement stands on: a store, abstract code, functions of the program and their laws (ThQ3, ThQ11). -/
import Derived.Test.YtkmmkfiekamgpaaGreatDoorThBQ2

section
/- Code read without frames: rounds, joins, calls; that this is the code's own reading. -/
set_option linter.unusedVariables false
set_option linter.unusedSimpArgs false
namespace Go.Th
open Go.RowKit Go.Lib

/-! ## results -/
def group : List DT → List V → List V
  | [], _ => []
  | .one _ :: ds, vs => match vs with
    | v :: vs => v :: group ds vs
    | [] => []
  | .agg ts :: ds, vs => .agg (vs.take ts.length) :: group ds (vs.drop ts.length)

@[reducible] def Cur : List Ty → Type
  | [] => St → Prop
  | t :: ts => t.den → Cur ts

def Ret : (ts : List Ty) → (List V → V) → Cur ts → Res → St → Prop
  | [], mk, K, r, S => r = .ret (mk []) ∧ K S
  | t :: ts, mk, K, r, S => ∃ x : t.den, Ret ts (fun vs => mk (t.toV x :: vs)) (K x) r S

/-- What a call gives: results of these types. -/
def retT (ds : List DT) (K : Cur (flats ds)) : Post := Ret (flats ds) (fun vs => tupled (group ds vs)) K

def curK : (ts : List Ty) → (List V → V) → (V → St → Prop) → Cur ts
  | [], mk, k => fun S => k (mk []) S
  | t :: ts, mk, k => fun x => curK ts (fun vs => mk (t.toV x :: vs)) k

theorem Ret_ok : ∀ {ts : List Ty} {mk : List V → V} {k : V → St → Prop} {r : Res} {S : St}, Ret ts mk (curK ts mk k) r S → ∃ v, r = .ret v ∧ k v S
  | [], mk, k, r, S, h => ⟨_, h.1, h.2⟩
  | t :: ts, mk, k, r, S, h => by
    obtain ⟨x, h⟩ := h
    exact Ret_ok (ts := ts) h

def callT (P : Program) (f : FuncId) (args : List V) (ds : List DT) (S : St) (k : V → St → Prop) : Prop :=
  CallA P f args S (retT ds (curK (flats ds) (fun vs => tupled (group ds vs)) k))

/-- Who is called, and with what. -/
def calleeK (ok : Env) (v : V) (vs : List V) (k : FuncId → List V → Prop) : Prop := ifS (calleeV ok v vs) fun p => k p.1 p.2

theorem calleeK_ok {ok : Env} {v : V} {vs : List V} {k : FuncId → List V → Prop} (h : calleeK ok v vs k) : ∃ p, calleeV ok v vs = some p ∧ k p.1 p.2 := ifS_ok h

theorem callee_mk {P : Program} {f : FuncId} {fs cs vs : List V} (h : canEnter P f = true) : calleeV (envP P) (.func (.func f) fs cs) vs = some (f, fs ++ vs ++ cs) := by
  rw [calleeV_func]; exact if_pos h

/-! ## regions -/
structure TI where
  i : AI
  ann : Ann
  ds : List DT

def guardT (g : Option (Nat × Bool)) (F : SF) (a b : SF → Prop) : Prop :=
  match g with
  | none => a F
  | some (t, w) => match cellAt F t with
    | .tt => match w with
      | true => a F
      | false => b F
    | .ff => match w with
      | true => b F
      | false => a F
    | .val (.bool x) => match w with
      | true => ifC x (a (F.set t .tt)) (b (F.set t .ff))
      | false => ifC x (b (F.set t .tt)) (a (F.set t .ff))
    | .val (.tuple []) => b F
    | _ => False

def stepT (P : Program) (ok : Env) (t : TI) (F : SF) (S : St) (k : Cell → St → Prop) : Prop :=
  match t.i.op with
  | .callF f xs => needXs F xs fun vs => callT P f vs t.ds S fun v S' => k (.val v) S'
  | .callV x xs => needX F x fun v => needXs F xs fun vs => calleeK ok v vs fun f vs => callT P f vs t.ds S fun v S' => k (.val v) S'
  | .invoke nm x xs => needX F x fun v => needXs F xs fun vs => ifS (invokeV ok S nm v vs) fun p => callT P p.1 p.2 t.ds S fun v S' => k (.val v) S'
  | o => opT o t.ann F S k

def runT (P : Program) (ok : Env) : List TI → SF → St → (SF → St → Prop) → Prop
  | [], F, S, k => k F S
  | t :: r, F, S, k => guardT t.i.guard F (fun F => stepT P ok t F S fun c S' => runT P ok r (putT F t.i.dst c) S' k) (fun F => runT P ok r (putT F t.i.dst (.val .undef)) S k)

def gslots : Option (Nat × Bool) → List Nat
  | none => []
  | some (t, _) => [t]
def dslots : Option Nat → List Nat
  | none => []
  | some d => [d]
def modsI : List TI → List Nat
  | [] => []
  | t :: r => gslots t.i.guard ++ (dslots t.i.dst ++ modsI r)

theorem guardT_ok {g : Option (Nat × Bool)} {F : SF} {fr : List V} {a b : SF → Prop} (hF : Le F fr) (h : guardT g F a b) :
    (∃ F', Le F' fr ∧ Stay (gslots g) F F' ∧ wantI g fr = some true ∧ a F') ∨ ∃ F', Le F' fr ∧ Stay (gslots g) F F' ∧ wantI g fr = some false ∧ b F' := by
  unfold guardT at h
  split at h
  · exact .inl ⟨F, hF, Stay.refl _ _, rfl, h⟩
  · rename_i t w
    have ht := hF.at_ t
    split at h
    · rename_i hc
      rw [hc] at ht; simp only [Cell.Le, G] at ht
      cases w with
      | true => exact .inl ⟨F, hF, Stay.refl _ _, by simp only [wantI, ht]; rfl, h⟩
      | false => exact .inr ⟨F, hF, Stay.refl _ _, by simp only [wantI, ht]; rfl, h⟩
    · rename_i hc
      rw [hc] at ht; simp only [Cell.Le, G] at ht
      cases w with
      | true => exact .inr ⟨F, hF, Stay.refl _ _, by simp only [wantI, ht]; rfl, h⟩
      | false => exact .inl ⟨F, hF, Stay.refl _ _, by simp only [wantI, ht]; rfl, h⟩
    · rename_i x hc
      rw [hc] at ht; simp only [Cell.Le] at ht
      have ht' : fr.getD t .undef = .bool x := ht
      cases w with
      | true =>
        have hb := ifC_ok h
        cases x with
        | true => exact .inl ⟨_, hF.refine t (c := .tt) ht, Stay.set F _ (by simp [gslots]), by simp only [wantI, ht']; rfl, hb⟩
        | false => exact .inr ⟨_, hF.refine t (c := .ff) ht, Stay.set F _ (by simp [gslots]), by simp only [wantI, ht']; rfl, hb⟩
      | false =>
        have hb := ifC_ok h
        cases x with
        | true => exact .inr ⟨_, hF.refine t (c := .tt) ht, Stay.set F _ (by simp [gslots]), by simp only [wantI, ht']; rfl, hb⟩
        | false => exact .inl ⟨_, hF.refine t (c := .ff) ht, Stay.set F _ (by simp [gslots]), by simp only [wantI, ht']; rfl, hb⟩
    · rename_i hc
      rw [hc] at ht; simp only [Cell.Le, G] at ht
      exact .inr ⟨F, hF, Stay.refl _ _, by simp only [wantI, ht], h⟩
    · exact h.elim

theorem Stay.put {M : List Nat} (F : SF) (d : Option Nat) (v : Cell) (h : ∀ i ∈ dslots d, i ∈ M) : Stay M F (putT F d v) := by
  cases d with
  | none => exact Stay.refl _ _
  | some d => exact Stay.set F _ (h d (by simp [dslots]))

theorem stepT_ok {P : Program} {ok : Env} {Q : PostC} {t : TI} {r : List AI} {F : SF} {fr : List V} {S : St} {k : Cell → St → Prop} (hF : Le F fr) (h : stepT P ok t F S k)
    (hk : ∀ c v S', c.Le v → k c S' → runIs ok (CallA P) Q r (put fr t.i.dst v) S') : runIs ok (CallA P) Q (⟨t.i.dst, none, t.i.op⟩ :: r) fr S := by
  unfold stepT at h
  split at h
  · rename_i f xs ho
    have := needXs_ok hF h
    rw [ho, runIs_callF]
    refine CallA.mono this ?_
    intro res S' hr
    obtain ⟨v, rfl, hv⟩ := Ret_ok hr
    exact hk _ _ _ (Cell.le_val _) hv
  · rename_i x xs ho
    obtain ⟨p, h1, h2⟩ := calleeK_ok (needXs_ok hF (needX_ok hF h))
    rw [ho, runIs_callV, h1]
    refine CallA.mono h2 ?_
    intro res S' hr
    obtain ⟨v, rfl, hv⟩ := Ret_ok hr
    exact hk _ _ _ (Cell.le_val _) hv
  · rename_i nm x xs ho
    obtain ⟨p, h1, h2⟩ := ifS_ok (needXs_ok hF (needX_ok hF h))
    rw [ho, runIs_invoke, h1]
    refine CallA.mono h2 ?_
    intro res S' hr
    obtain ⟨v, rfl, hv⟩ := Ret_ok hr
    exact hk _ _ _ (Cell.le_val _) hv
  · exact opT_ok hF h hk

theorem runT_ok {P : Program} {ok : Env} {Q : PostC} : ∀ (l : List TI) {F : SF} {fr : List V} {S : St} {k : SF → St → Prop}, Le F fr → runT P ok l F S k →
    (∀ F' fr' S', Le F' fr' → Stay (modsI l) F F' → k F' S' → Q .normal fr' S') → runIs ok (CallA P) Q (l.map (·.i)) fr S
  | [], F, fr, S, k, hF, h, hk => hk F fr S hF (Stay.refl _ _) h
  | t :: r, F, fr, S, k, hF, h, hk => by
    simp only [runT] at h
    rw [List.map_cons]
    have hg : ∀ i ∈ gslots t.i.guard, i ∈ modsI (t :: r) := fun i hi => by simp only [modsI]; exact List.mem_append_left _ hi
    have hd : ∀ i ∈ dslots t.i.dst, i ∈ modsI (t :: r) := fun i hi => by simp only [modsI]; exact List.mem_append_right _ (List.mem_append_left _ hi)
    have hr : ∀ i ∈ modsI r, i ∈ modsI (t :: r) := fun i hi => by simp only [modsI]; exact List.mem_append_right _ (List.mem_append_right _ hi)
    rcases guardT_ok hF h with ⟨F1, hF1, hs1, hw, h1⟩ | ⟨F1, hF1, hs1, hw, h1⟩
    · have hstep : runIs ok (CallA P) Q (⟨t.i.dst, none, t.i.op⟩ :: r.map (·.i)) fr S := by
        refine stepT_ok hF1 h1 ?_
        intro c v S' hc hv
        refine runT_ok r (hF1.put t.i.dst hc) hv ?_
        intro F2 fr2 S2 hF2 hs2 hk2
        exact hk F2 fr2 S2 hF2 (((hs1.mono hg).trans (Stay.put F1 _ c hd)).trans (hs2.mono hr)) hk2
      have e : runIs ok (CallA P) Q (t.i :: r.map (·.i)) fr S = runIs ok (CallA P) Q (⟨t.i.dst, none, t.i.op⟩ :: r.map (·.i)) fr S := by
        simp only [runIs, hw]; rfl
      rw [e]; exact hstep
    · have e : runIs ok (CallA P) Q (t.i :: r.map (·.i)) fr S = runIs ok (CallA P) Q (r.map (·.i)) (put fr t.i.dst .undef) S := by
        simp only [runIs, hw]
      rw [e]
      refine runT_ok r (hF1.put t.i.dst (Cell.le_val .undef)) h1 ?_
      intro F2 fr2 S2 hF2 hs2 hk2
      exact hk F2 fr2 S2 hF2 (((hs1.mono hg).trans (Stay.put F1 _ _ hd)).trans (hs2.mono hr)) hk2

/-! ## regions that draw -/
def readsK (F : SF) (o : AO) (k : List Nat → Prop) : Prop :=
  match o with
  | .load1 x | .loadN _ x | .convBS x | .len _ x | .lookup _ _ _ x _ => needX F x fun v => k v.block
  | _ => k []

theorem readsK_ok {F : SF} {fr : List V} {o : AO} {k : List Nat → Prop} (hF : Le F fr) (h : readsK F o k) : k (o.reads fr) := by
  cases o <;> first | exact needX_ok hF h | exact h

/-- What was read stays. -/
def sameK (R : List Nat) (S S' : St) (k : Prop) : Prop :=
  match R with
  | [] => k
  | R => Same R S S' ∧ k

theorem sameK_ok {R : List Nat} {S S' : St} {k : Prop} (h : sameK R S S' k) : Same R S S' ∧ k := by
  cases R with
  | nil => exact ⟨fun i hi => by simp at hi, h⟩
  | cons i R => exact h

inductive TT where
  | done
  | step (n : Nat) (ds : List Nat) (t : TI) (r : TT)
  | both (a b : TT)

def TT.erase : TT → OT
  | .done => .done
  | .step n ds t r => .step n ds t.i r.erase
  | .both a b => .both a.erase b.erase
def modsT : TT → List Nat
  | .done => []
  | .step _ _ t r => gslots t.i.guard ++ (dslots t.i.dst ++ modsT r)
  | .both a b => modsT a ++ modsT b

def drawT (P : Program) (ok : Env) : TT → RD → SF → St → (SF → St → Prop) → Prop
  | .done, _, F, S, k => k F S
  | .both a b, R, F, S, k => drawT P ok a R F S k ∧ drawT P ok b R F S k
  | .step n ds t r, R, F, S, k => guardT t.i.guard F
      (fun F => match t.i.op.quiet with
        | true => readsK F t.i.op fun R' => stepT P ok t F S fun c S' => drawT P ok r ((n, R') :: R) (putT F t.i.dst c) S' k
        | false => stepT P ok t F S fun c S' => sameK (outD ds R) S S' (drawT P ok r R (putT F t.i.dst c) S' k))
      (fun F => drawT P ok r R (putT F t.i.dst (.val .undef)) S k)

theorem runD_one {ok : Env} {callH : FuncId → List V → St → Post → Prop} {Q : List V → St → Prop} {n : Nat} {ds : List Nat} {i : AI} {r : OT} {R : RD} {fr : List V} {S : St} (hw : wantI i.guard fr = some true) (hq : i.op.quiet = false)
    (h : runIs ok callH (fun e fr' S' => e = .normal ∧ Same (outD ds R) S S' ∧ runD ok callH Q r R fr' S') [⟨i.dst, none, i.op⟩] fr S) : runD ok callH Q (.step n ds i r) R fr S := by
  simp only [runD, hw]
  simp only [runIs, wantI] at h
  cases hr : i.op.run ok fr S with
  | val v S' => rw [hr] at h; simp only [hq, Bool.false_eq_true, if_false]; exact h.2
  | call f args =>
    rw [hr] at h
    simp only at h ⊢
    refine cast (congrArg (callH f args S) (funext fun res => funext fun S' => ?_)) h
    cases res <;> simp
  | panic v => rw [hr] at h; cases h.1
  | stuck => rw [hr] at h; exact h

theorem runD_quiet_one {ok : Env} {callH : FuncId → List V → St → Post → Prop} {Q : List V → St → Prop} {n : Nat} {ds : List Nat} {i : AI} {r : OT} {R : RD} {fr : List V} {S : St} (hw : wantI i.guard fr = some true) (hq : i.op.quiet = true)
    (h : runIs ok callH (fun e fr' S' => e = .normal ∧ runD ok callH Q r ((n, i.op.reads fr) :: R) fr' S') [⟨i.dst, none, i.op⟩] fr S) : runD ok callH Q (.step n ds i r) R fr S := by
  simp only [runD, hw]
  simp only [runIs, wantI] at h
  rcases AO.quiet_run (ok := ok) hq fr S with ⟨v, S', hr⟩ | hr
  · rw [hr] at h ⊢; simp only [hq, if_true]; exact h.2
  · rw [hr] at h; exact h.elim

theorem drawT_ok {P : Program} {ok : Env} {Q : List V → St → Prop} : ∀ (l : TT) {R : RD} {F : SF} {fr : List V} {S : St} {k : SF → St → Prop}, Le F fr → drawT P ok l R F S k →
    (∀ F' fr' S', Le F' fr' → Stay (modsT l) F F' → k F' S' → Q fr' S') → runD ok (CallA P) Q l.erase R fr S
  | .done, R, F, fr, S, k, hF, h, hk => hk F fr S hF (Stay.refl _ _) h
  | .both a b, R, F, fr, S, k, hF, h, hk =>
    ⟨drawT_ok a hF h.1 fun F' fr' S' h1 h2 h3 => hk F' fr' S' h1 (h2.mono fun i hi => by simp only [modsT]; exact List.mem_append_left _ hi) h3,
     drawT_ok b hF h.2 fun F' fr' S' h1 h2 h3 => hk F' fr' S' h1 (h2.mono fun i hi => by simp only [modsT]; exact List.mem_append_right _ hi) h3⟩
  | .step n ds t r, R, F, fr, S, k, hF, h, hk => by
    simp only [drawT] at h
    simp only [TT.erase]
    have hg : ∀ i ∈ gslots t.i.guard, i ∈ modsT (.step n ds t r) := fun i hi => by simp only [modsT]; exact List.mem_append_left _ hi
    have hd : ∀ i ∈ dslots t.i.dst, i ∈ modsT (.step n ds t r) := fun i hi => by simp only [modsT]; exact List.mem_append_right _ (List.mem_append_left _ hi)
    have hr : ∀ i ∈ modsT r, i ∈ modsT (.step n ds t r) := fun i hi => by simp only [modsT]; exact List.mem_append_right _ (List.mem_append_right _ hi)
    rcases guardT_ok hF h with ⟨F1, hF1, hs1, hw, h1⟩ | ⟨F1, hF1, hs1, hw, h1⟩
    · cases hq : t.i.op.quiet with
      | true =>
        rw [hq] at h1
        refine runD_quiet_one hw hq ?_
        refine stepT_ok (r := []) hF1 (readsK_ok hF1 h1) ?_
        intro c v S' hc hv
        refine ⟨rfl, drawT_ok r (hF1.put t.i.dst hc) hv ?_⟩
        intro F2 fr2 S2 hF2 hs2 hk2
        exact hk F2 fr2 S2 hF2 (((hs1.mono hg).trans (Stay.put F1 _ c hd)).trans (hs2.mono hr)) hk2
      | false =>
        rw [hq] at h1
        refine runD_one hw hq ?_
        refine stepT_ok (r := []) hF1 h1 ?_
        intro c v S' hc hv
        obtain ⟨hsm, hv⟩ := sameK_ok hv
        refine ⟨rfl, hsm, drawT_ok r (hF1.put t.i.dst hc) hv ?_⟩
        intro F2 fr2 S2 hF2 hs2 hk2
        exact hk F2 fr2 S2 hF2 (((hs1.mono hg).trans (Stay.put F1 _ c hd)).trans (hs2.mono hr)) hk2
    · have e : runD ok (CallA P) Q (.step n ds t.i r.erase) R fr S = runD ok (CallA P) Q r.erase R (put fr t.i.dst .undef) S := by
        simp only [runD, hw]
      rw [e]
      refine drawT_ok r (hF1.put t.i.dst (Cell.le_val .undef)) h1 ?_
      intro F2 fr2 S2 hF2 hs2 hk2
      exact hk F2 fr2 S2 hF2 (((hs1.mono hg).trans (Stay.put F1 _ _ hd)).trans (hs2.mono hr)) hk2

/-! ## code -/
inductive TC where
  | skip
  | region (l : List TI)
  | draw (t : TT)
  | seq (a b : TC)
  | join (live : List (Nat × DT)) (a b : TC)
  | cond (x : AX) (a b : TC)
  | block (id : Nat) (a : TC)
  | loop (live : List (Nat × DT)) (a : TC)
  | exit (id : Nat)
  | ret

def erI : List TI → List AI
  | [] => []
  | t :: r => t.i :: erI r
theorem erI_eq : ∀ (l : List TI), erI l = l.map (·.i)
  | [] => rfl
  | t :: r => by simp only [erI, List.map_cons, erI_eq r]

def TC.erase : TC → AC
  | .skip => .skip
  | .region l => .region (erI l)
  | .draw t => .draw t.erase
  | .seq a b => .seq a.erase b.erase
  | .join _ a b => .seq a.erase b.erase
  | .cond x a b => .cond x a.erase b.erase
  | .block id a => .block id a.erase
  | .loop _ a => .loop a.erase
  | .exit id => .exit id
  | .ret => .ret

def xslots : AX → List Nat
  | .tmp i => [i]
  | _ => []
def TC.mods : TC → List Nat
  | .skip => []
  | .region l => modsI l
  | .draw t => modsT t
  | .seq a b => a.mods ++ b.mods
  | .join _ a b => a.mods ++ b.mods
  | .cond x a b => xslots x ++ (a.mods ++ b.mods)
  | .block _ a => a.mods
  | .loop _ a => a.mods
  | .exit _ => []
  | .ret => []

def tysOf : List (Nat × DT) → List Ty
  | [] => []
  | p :: l => p.2.tys ++ tysOf l

def unTy : (t : Ty) → V → (t.den → Prop) → Prop
  | .any, v, k => k v
  | .bool, v, k => match v with
    | .bool b => k b
    | _ => False
  | .int kk, v, k => match v with
    | .int k' n => match decEq k' kk with
      | .isTrue _ => k n
      | .isFalse _ => False
    | _ => False
  | .str, v, k => match v with
    | .str s => k s
    | _ => False

theorem unTy_ok : ∀ {t : Ty} {v : V} {k : t.den → Prop}, unTy t v k → ∃ x, v = t.toV x ∧ k x
  | .any, v, k, h => ⟨v, rfl, h⟩
  | .bool, v, k, h => by
    simp only [unTy] at h
    split at h
    · exact ⟨_, rfl, h⟩
    · exact h.elim
  | .int kk, v, k, h => by
    simp only [unTy] at h
    split at h
    · split at h
      · rename_i he _; subst he; exact ⟨_, rfl, h⟩
      · exact h.elim
    · exact h.elim
  | .str, v, k, h => by
    simp only [unTy] at h
    split at h
    · exact ⟨_, rfl, h⟩
    · exact h.elim

def unVs : (ts : List Ty) → List V → (Dens ts → Prop) → Prop
  | [], vs, k => match vs with
    | [] => k ()
    | _ :: _ => False
  | t :: ts, vs, k => match vs with
    | [] => False
    | v :: vs => unTy t v fun x => unVs ts vs fun y => k (x, y)

theorem unVs_ok : ∀ {ts : List Ty} {vs : List V} {k : Dens ts → Prop}, unVs ts vs k → ∃ x, vs = toVs ts x ∧ k x
  | [], vs, k, h => by
    cases vs with
    | nil => exact ⟨(), rfl, h⟩
    | cons v vs => exact h.elim
  | t :: ts, vs, k, h => by
    cases vs with
    | nil => exact h.elim
    | cons v vs =>
      obtain ⟨x, hx, h⟩ := unTy_ok h
      obtain ⟨y, hy, h⟩ := unVs_ok h
      exact ⟨(x, y), by simp only [toVs, ← hx, ← hy], h⟩

/-- The cells of slots that live on. -/
def getLive (F : SF) : List (Nat × DT) → (List V → Prop) → Prop
  | [], k => k []
  | (i, d) :: l, k => need (cellAt F i) fun v => match d with
    | .one _ => getLive F l fun vs => k (v :: vs)
    | .agg ts => match v with
      | .agg cs => ifD (Nat.decEq cs.length ts.length) (getLive F l fun vs => k (cs ++ vs))
      | _ => False

def setLive : List (Nat × DT) → List V → SF → SF
  | [], _, F => F
  | (i, .one _) :: l, vs, F => match vs with
    | v :: vs => setLive l vs (F.set i (.val v))
    | [] => F
  | (i, .agg ts) :: l, vs, F => setLive l (vs.drop ts.length) (F.set i (.val (.agg (vs.take ts.length))))

theorem getLive_ok {F : SF} {fr : List V} (hF : Le F fr) : ∀ {l : List (Nat × DT)} {k : List V → Prop}, getLive F l k → ∃ vs, k vs ∧ ∀ F0, Le F0 fr → Le (setLive l vs F0) fr
  | [], k, h => ⟨[], h, fun F0 h0 => h0⟩
  | (i, .one t) :: l, k, h => by
    have hv := need_ok (hF.at_ i) h
    obtain ⟨vs, h1, h2⟩ := getLive_ok hF hv
    refine ⟨_, h1, fun F0 h0 => ?_⟩
    simp only [setLive]
    exact h2 _ (h0.refine i rfl)
  | (i, .agg ts) :: l, k, h => by
    have hv := need_ok (hF.at_ i) h
    simp only at hv
    split at hv
    · rename_i cs hg
      obtain ⟨hl, hv⟩ := ifD_ok hv
      obtain ⟨vs, h1, h2⟩ := getLive_ok hF hv
      refine ⟨_, h1, fun F0 h0 => ?_⟩
      simp only [setLive]
      rw [List.drop_left' hl, List.take_left' hl]
      exact h2 _ (h0.refine i hg)
    · exact hv.elim

def unLive (l : List (Nat × DT)) (F : SF) (k : Dens (tysOf l) → Prop) : Prop := getLive F l fun vs => unVs (tysOf l) vs k

/-- What is known, without these slots. -/
def clearT : List Nat → SF → SF
  | [], F => F
  | i :: l, F => clearT l (F.set i .none)

theorem clearT_le {F F' : SF} {fr : List V} {M : List Nat} (hF : Le F' fr) (hs : F'.length = F.length ∧ ∀ i, i ∉ M → cellAt F' i = cellAt F i) : Le (clearT M F) fr := by
  have key : ∀ (M : List Nat) (F : SF), F'.length = F.length → (∀ i, i ∉ M → cellAt F' i = cellAt F i ∨ cellAt F i = .none) → Le (clearT M F) fr := by
    intro M
    induction M with
    | nil =>
      intro F hl h
      refine ⟨by simp only [clearT]; rw [← hl]; exact hF.len, fun i => ?_⟩
      simp only [clearT]
      rcases h i (by simp) with h | h
      · rw [← h]; exact hF.at_ i
      · rw [h]; trivial
    | cons j M ih =>
      intro F hl h
      simp only [clearT]
      refine ih _ (by simpa using hl) fun i hi => ?_
      rw [cellAt_set]
      by_cases e : j = i
      · subst e
        by_cases hjl : j < F.length
        · rw [if_pos ⟨rfl, hjl⟩]; exact .inr rfl
        · right
          rw [if_neg (fun h' => hjl h'.2)]
          have : ∀ (F : SF) (j : Nat), ¬ j < F.length → cellAt F j = .none := by
            intro F
            induction F with
            | nil => intro j _; rfl
            | cons c F ih => intro j hj; cases j with
              | zero => simp at hj
              | succ j => exact ih j (by simpa using hj)
          exact this F j hjl
      · rw [if_neg (fun h' => e h'.1)]
        exact h i (by simp only [List.mem_cons, not_or]; exact ⟨fun h' => e h'.symm, hi⟩)
  exact key M F hs.1 fun i hi => .inl (hs.2 i hi)

abbrev PostT := AE → SF → St → Prop

def condT (x : AX) (F : SF) (a b : SF → Prop) : Prop :=
  match x with
  | .tmp i => match cellAt F i with
    | .tt => a F
    | .ff => b F
    | .val (.bool c) => ifC c (a (F.set i .tt)) (b (F.set i .ff))
    | _ => False
  | .con (.bool c) => match c with
    | true => a F
    | false => b F
  | _ => False

def afterT (k : SF → St → Prop) (Q : PostT) : PostT := fun e F S =>
  match e with
  | .normal => k F S
  | e => Q e F S

def blockT (id : Nat) (Q : PostT) : PostT := fun e F S =>
  match e with
  | .exit j => match Nat.decEq j id with
    | .isTrue _ => Q .normal F S
    | .isFalse _ => Q (.exit j) F S
  | e => Q e F S

def wpT (P : Program) (ok : Env) : TC → PostT → SF → St → Prop
  | .skip, Q, F, S => Q .normal F S
  | .region l, Q, F, S => runT P ok l F S (Q .normal)
  | .draw l, Q, F, S => drawT P ok l [] F S (Q .normal)
  | .seq a b, Q, F, S => wpT P ok a (afterT (fun F S => wpT P ok b Q F S) Q) F S
  | .join live a b, Q, F, S => joinN (tysOf live) (fun k => wpT P ok a (afterT (fun F' S' => unLive live F' fun x => k x S') Q) F S) (fun x S' => wpT P ok b Q (setLive live (toVs (tysOf live) x) (clearT a.mods F)) S')
  | .cond x a b, Q, F, S => condT x F (fun F => wpT P ok a Q F S) (fun F => wpT P ok b Q F S)
  | .block id a, Q, F, S => wpT P ok a (blockT id Q) F S
  | .loop live a, Q, F, S => unLive live F fun x0 => loopN (tysOf live) (fun cont x S' => wpT P ok a (afterT (fun F' S'' => unLive live F' fun x' => cont x' S'') Q) (setLive live (toVs (tysOf live) x) (clearT a.mods F)) S') x0 S
  | .exit id, Q, F, S => Q (.exit id) F S
  | .ret, Q, F, S => Q .ret F S

/-- What the frame's post says of what is known. -/
def Down (M : List Nat) (F : SF) (Q : PostT) : PostC := fun e fr' S' => ∃ F', Le F' fr' ∧ Stay M F F' ∧ Q e F' S'

theorem unLive_ok {l : List (Nat × DT)} {F : SF} {fr : List V} (hF : Le F fr) {k : Dens (tysOf l) → Prop} (h : unLive l F k) : ∃ x, k x ∧ ∀ F0, Le F0 fr → Le (setLive l (toVs (tysOf l) x) F0) fr := by
  obtain ⟨vs, h1, h2⟩ := getLive_ok hF h
  obtain ⟨x, rfl, h3⟩ := unVs_ok h1
  exact ⟨x, h3, h2⟩

theorem setLive_stay : ∀ (l : List (Nat × DT)) (vs : List V) (F : SF), (setLive l vs F).length = F.length
  | [], _, F => rfl
  | (i, .one _) :: l, vs, F => by
    cases vs with
    | nil => rfl
    | cons v vs => simp only [setLive]; rw [setLive_stay]; simp
  | (i, .agg ts) :: l, vs, F => by simp only [setLive]; rw [setLive_stay]; simp

theorem clearT_len : ∀ (M : List Nat) (F : SF), (clearT M F).length = F.length
  | [], _ => rfl
  | i :: M, F => by simp only [clearT]; rw [clearT_len]; simp

def slotsL : List (Nat × DT) → List Nat
  | [] => []
  | p :: l => p.1 :: slotsL l

theorem setLive_at : ∀ (l : List (Nat × DT)) (vs : List V) (F : SF) (i : Nat), i ∉ slotsL l → cellAt (setLive l vs F) i = cellAt F i
  | [], _, F, i, _ => rfl
  | (j, .one _) :: l, vs, F, i, h => by
    simp only [slotsL, List.mem_cons, not_or] at h
    cases vs with
    | nil => rfl
    | cons v vs =>
      simp only [setLive]
      rw [setLive_at l vs _ i h.2, cellAt_set, if_neg (fun e => h.1 e.1.symm)]
  | (j, .agg ts) :: l, vs, F, i, h => by
    simp only [slotsL, List.mem_cons, not_or] at h
    simp only [setLive]
    rw [setLive_at l _ _ i h.2, cellAt_set, if_neg (fun e => h.1 e.1.symm)]

theorem clearT_at : ∀ (M : List Nat) (F : SF) (i : Nat), i ∉ M → cellAt (clearT M F) i = cellAt F i
  | [], F, i, _ => rfl
  | j :: M, F, i, h => by
    simp only [List.mem_cons, not_or] at h
    simp only [clearT]
    rw [clearT_at M _ i h.2, cellAt_set, if_neg (fun e => h.1 e.1.symm)]

/-- The slots that live on are among those that may be written. -/
def liveIn (l : List (Nat × DT)) (M : List Nat) : Bool := (slotsL l).all fun i => M.contains i
def TC.okL : TC → Bool
  | .seq a b => a.okL && b.okL
  | .join l a b => liveIn l a.mods && (a.okL && b.okL)
  | .cond _ a b => a.okL && b.okL
  | .block _ a => a.okL
  | .loop l a => liveIn l a.mods && a.okL
  | _ => true

theorem headStay {l : List (Nat × DT)} {M : List Nat} (hl : liveIn l M = true) (vs : List V) (F : SF) : Stay M F (setLive l vs (clearT M F)) := by
  refine ⟨by rw [setLive_stay, clearT_len], fun i hi => ?_⟩
  have hn : i ∉ slotsL l := fun hm => by
    simp only [liveIn, List.all_eq_true] at hl
    have := hl i hm
    simp only [List.contains_iff_mem] at this
    exact hi this
  rw [setLive_at l vs _ i hn, clearT_at M F i hi]

theorem wpT_ok {P : Program} {ok : Env} (hok : EnvOk P ok) : ∀ (tc : TC), tc.okL = true → ∀ (Q : PostT) (F : SF) (fr : List V) (S : St), Le F fr → wpT P ok tc Q F S →
    wpA ok (CallA P) (LoopA P) tc.erase (Down tc.mods F Q) fr S := by
  have mono : ∀ (ac : AC) (Q Q' : PostC), (∀ e fr S, Q e fr S → Q' e fr S) → ∀ (fr : List V) (S : St), wpA ok (CallA P) (LoopA P) ac Q fr S → wpA ok (CallA P) (LoopA P) ac Q' fr S :=
    wpA_mono (fun f args S Q Q' hq h => h.mono hq) (fun ac Q Q' fr S hq h => h.mono hq)
  intro tc
  induction tc with
  | skip => intro _ Q F fr S hF h; exact ⟨F, hF, Stay.refl _ _, h⟩
  | region l =>
    intro _ Q F fr S hF h
    simp only [TC.erase, wpA, erI_eq]
    exact runT_ok l hF h fun F' fr' S' h1 h2 h3 => ⟨F', h1, h2, h3⟩
  | draw l =>
    intro _ Q F fr S hF h
    simp only [TC.erase, wpA]
    exact drawT_ok l hF h fun F' fr' S' h1 h2 h3 => ⟨F', h1, h2, h3⟩
  | seq a b iha ihb =>
    intro hk Q F fr S hF h
    simp only [TC.okL, Bool.and_eq_true] at hk
    simp only [TC.erase, wpA]
    refine mono _ _ _ ?_ _ _ (iha hk.1 _ F fr S hF h)
    rintro e fr' S' ⟨F', h1, h2, h3⟩
    have s1 : Stay (TC.seq a b).mods F F' := h2.mono fun i hi => by simp only [TC.mods]; exact List.mem_append_left _ hi
    cases e with
    | normal =>
      refine mono _ _ _ ?_ _ _ (ihb hk.2 _ F' fr' S' h1 h3)
      rintro e fr2 S2 ⟨F2, g1, g2, g3⟩
      exact ⟨F2, g1, s1.trans (g2.mono fun i hi => by simp only [TC.mods]; exact List.mem_append_right _ hi), g3⟩
    | exit j => exact ⟨F', h1, s1, h3⟩
    | ret => exact ⟨F', h1, s1, h3⟩
    | panic v => exact ⟨F', h1, s1, h3⟩
  | join l a b iha ihb =>
    intro hk Q F fr S hF h
    simp only [TC.okL, Bool.and_eq_true] at hk
    simp only [TC.erase, wpA]
    obtain ⟨M, hM, hr⟩ := joinN_ok _ _ _ h
    refine mono _ _ _ ?_ _ _ (iha hk.2.1 _ F fr S hF hM)
    rintro e fr' S' ⟨F', h1, h2, h3⟩
    have s1 : Stay (TC.join l a b).mods F F' := h2.mono fun i hi => by simp only [TC.mods]; exact List.mem_append_left _ hi
    cases e with
    | normal =>
      obtain ⟨x, hx, hl⟩ := unLive_ok h1 h3
      have hF2 := hl _ (clearT_le h1 h2)
      have s2 : Stay (TC.join l a b).mods F (setLive l (toVs (tysOf l) x) (clearT a.mods F)) := (headStay hk.1 _ F).mono fun i hi => by simp only [TC.mods]; exact List.mem_append_left _ hi
      refine mono _ _ _ ?_ _ _ (ihb hk.2.2 _ _ fr' S' hF2 (hr x S' hx))
      rintro e fr2 S2 ⟨F2, g1, g2, g3⟩
      exact ⟨F2, g1, s2.trans (g2.mono fun i hi => by simp only [TC.mods]; exact List.mem_append_right _ hi), g3⟩
    | exit j => exact ⟨F', h1, s1, h3⟩
    | ret => exact ⟨F', h1, s1, h3⟩
    | panic v => exact ⟨F', h1, s1, h3⟩
  | cond x a b iha ihb =>
    intro hk Q F fr S hF h
    simp only [TC.okL, Bool.and_eq_true] at hk
    have ma : ∀ i ∈ a.mods, i ∈ (TC.cond x a b).mods := fun i hi => by simp only [TC.mods]; exact List.mem_append_right _ (List.mem_append_left _ hi)
    have mb : ∀ i ∈ b.mods, i ∈ (TC.cond x a b).mods := fun i hi => by simp only [TC.mods]; exact List.mem_append_right _ (List.mem_append_right _ hi)
    have up : ∀ {M : List Nat} {F1 : SF} (hs : Stay (TC.cond x a b).mods F F1) (hm : ∀ i ∈ M, i ∈ (TC.cond x a b).mods) e fr' S', Down M F1 Q e fr' S' → Down (TC.cond x a b).mods F Q e fr' S' := by
      rintro M F1 hs hm e fr' S' ⟨F2, g1, g2, g3⟩
      exact ⟨F2, g1, hs.trans (g2.mono hm), g3⟩
    have goA : ∀ F1, Le F1 fr → Stay (TC.cond x a b).mods F F1 → x.ev fr = .bool true → wpT P ok a Q F1 S → wpA ok (CallA P) (LoopA P) (TC.cond x a b).erase (Down (TC.cond x a b).mods F Q) fr S := by
      intro F1 hF1 hs hx hw
      simp only [TC.erase, wpA, hx, if_true]
      exact mono _ _ _ (up hs ma) _ _ (iha hk.1 _ _ fr S hF1 hw)
    have goB : ∀ F1, Le F1 fr → Stay (TC.cond x a b).mods F F1 → x.ev fr = .bool false → wpT P ok b Q F1 S → wpA ok (CallA P) (LoopA P) (TC.cond x a b).erase (Down (TC.cond x a b).mods F Q) fr S := by
      intro F1 hF1 hs hx hw
      simp only [TC.erase, wpA, hx, Bool.false_eq_true, if_false]
      exact mono _ _ _ (up hs mb) _ _ (ihb hk.2 _ _ fr S hF1 hw)
    simp only [wpT, condT] at h
    split at h
    · rename_i i
      have hi := hF.at_ i
      have mi : i ∈ (TC.cond (.tmp i) a b).mods := by simp [TC.mods, xslots]
      split at h
      · rename_i hc; rw [hc] at hi
        exact goA F hF (Stay.refl _ _) hi h
      · rename_i hc; rw [hc] at hi
        exact goB F hF (Stay.refl _ _) hi h
      · rename_i c hc; rw [hc] at hi; simp only [Cell.Le] at hi
        have hb := ifC_ok h
        cases c with
        | true => exact goA _ (hF.refine i (c := .tt) hi) (Stay.set F _ mi) hi hb
        | false => exact goB _ (hF.refine i (c := .ff) hi) (Stay.set F _ mi) hi hb
      · exact h.elim
    · rename_i c
      cases c with
      | true => exact goA F hF (Stay.refl _ _) rfl h
      | false => exact goB F hF (Stay.refl _ _) rfl h
    · exact h.elim
  | block id a iha =>
    intro hk Q F fr S hF h
    simp only [TC.okL] at hk
    simp only [TC.erase, wpA]
    refine mono _ _ _ ?_ _ _ (iha hk _ F fr S hF h)
    rintro e fr' S' ⟨F', h1, h2, h3⟩
    cases e with
    | normal => exact ⟨F', h1, h2, h3⟩
    | exit j =>
      simp only [blockT] at h3
      simp only
      split at h3
      · rename_i hj _; rw [if_pos hj]; exact ⟨F', h1, h2, h3⟩
      · rename_i hj _; rw [if_neg hj]; exact ⟨F', h1, h2, h3⟩
    | ret => exact ⟨F', h1, h2, h3⟩
    | panic v => exact ⟨F', h1, h2, h3⟩
  | loop l a iha =>
    intro hk Q F fr S hF h
    simp only [TC.okL, Bool.and_eq_true] at hk
    simp only [TC.erase, wpA]
    obtain ⟨x0, h0, hl0⟩ := unLive_ok hF h
    obtain ⟨J, ⟨n, hn⟩, hJ⟩ := loopN_ok _ _ _ _ h0
    have hs0 : Le (setLive l (toVs (tysOf l) x0) (clearT a.mods F)) fr := hl0 _ (clearT_le hF ⟨rfl, fun _ _ => rfl⟩)
    refine LoopA.ind hok (fun n fr' S' => ∃ x, J n x S' ∧ Le (setLive l (toVs (tysOf l) x) (clearT a.mods F)) fr') ?_ n fr S ⟨x0, hn, hs0⟩
    rintro n fr' S' ⟨x, hx, hF'⟩
    have hbody := hJ n x S' hx
    refine mono _ _ _ ?_ _ _ (iha hk.2 _ _ fr' S' hF' hbody)
    rintro e fr2 S2 ⟨F2, h1, h2, h3⟩
    have hst : Stay a.mods F F2 := (headStay hk.1 _ F).trans h2
    cases e with
    | normal =>
      obtain ⟨x', ⟨k, hkn, hx'⟩, hl'⟩ := unLive_ok h1 h3
      exact ⟨k, hkn, x', hx', hl' _ (clearT_le h1 hst)⟩
    | exit j => exact ⟨F2, h1, hst, h3⟩
    | ret => exact ⟨F2, h1, hst, h3⟩
    | panic v => exact ⟨F2, h1, hst, h3⟩
  | exit id => intro _ Q F fr S hF h; exact ⟨F, hF, Stay.refl _ _, h⟩
  | ret => intro _ Q F fr S hF h; exact ⟨F, hF, Stay.refl _ _, h⟩

/-! ## functions -/
def unC : (ts : List Ty) → List V → Cur ts → St → Prop
  | [], vs, K, S => match vs with
    | [] => K S
    | _ :: _ => False
  | t :: ts, vs, K, S => match vs with
    | [] => False
    | v :: vs => unTy t v fun x => unC ts vs (K x) S

theorem unC_ok : ∀ {ts : List Ty} {vs : List V} {K : Cur ts} {S : St} {mk : List V → V}, unC ts vs K S → Ret ts mk K (.ret (mk vs)) S
  | [], vs, K, S, mk, h => by
    cases vs with
    | nil => exact ⟨rfl, h⟩
    | cons v vs => exact h.elim
  | t :: ts, vs, K, S, mk, h => by
    cases vs with
    | nil => exact h.elim
    | cons v vs =>
      have h' : unTy t v (fun x => unC ts vs (K x) S) := h
      obtain ⟨x, rfl, h2⟩ := unTy_ok h'
      exact ⟨x, unC_ok (mk := fun vs => mk (t.toV x :: vs)) h2⟩

/-- The results' cells. -/
def resT (F : SF) (S : St) : List ARes → List DT → (List V → Prop) → Prop
  | [], [], k => k []
  | .tmp t :: rs, .one _ :: ds, k => need (cellAt F t) fun v => resT F S rs ds fun vs => k (v :: vs)
  | .tmp t :: rs, .agg ts :: ds, k => need (cellAt F t) fun v => match v with
    | .agg cs => ifD (Nat.decEq cs.length ts.length) (resT F S rs ds fun vs => k (cs ++ vs))
    | _ => False
  | .cell1 t :: rs, .one ty :: ds, k => need (cellAt F t) fun p => exTy ty fun v => cell1V S p = some v ∧ resT F S rs ds fun vs => k (v :: vs)
  | .cellN t n :: rs, .agg ts :: ds, k => need (cellAt F t) fun p => exTys ts fun cs => cellNV S n p = some (.agg cs) ∧ ifD (Nat.decEq cs.length ts.length) (resT F S rs ds fun vs => k (cs ++ vs))
  | _, _, _ => False

theorem resT_ok {F : SF} {fr : List V} {S : St} (hF : Le F fr) : ∀ {rs : List ARes} {ds : List DT} {k : List V → Prop}, resT F S rs ds k → ∃ us vs, ARes.gets fr S rs = some us ∧ us = group ds vs ∧ k vs
  | [], [], k, h => ⟨[], [], rfl, rfl, h⟩
  | .tmp t :: rs, .one ty :: ds, k, h => by
    have h1 := need_ok (hF.at_ t) h
    obtain ⟨us, vs, h2, h3, h4⟩ := resT_ok hF h1
    exact ⟨_, _, by rw [gets_tmp, h2]; rfl, by simp only [group, ← h3], h4⟩
  | .tmp t :: rs, .agg ts :: ds, k, h => by
    have h1 := need_ok (hF.at_ t) h
    split at h1
    · rename_i cs hg
      obtain ⟨hl, h1⟩ := ifD_ok h1
      obtain ⟨us, vs, h2, h3, h4⟩ := resT_ok hF h1
      refine ⟨_, _, by rw [gets_tmp, h2]; rfl, ?_, h4⟩
      simp only [group]
      rw [List.take_left' hl, List.drop_left' hl, ← h3, hg]
    · exact h1.elim
  | .cell1 t :: rs, .one ty :: ds, k, h => by
    obtain ⟨v, h1, h5⟩ := exTy_ok (need_ok (hF.at_ t) h)
    obtain ⟨us, vs, h2, h3, h4⟩ := resT_ok hF h5
    exact ⟨_, _, by rw [gets_cell1, h1, h2]; rfl, by simp only [group, ← h3], h4⟩
  | .cellN t n :: rs, .agg ts :: ds, k, h => by
    obtain ⟨cs, h1, h5⟩ := exTys_ok (need_ok (hF.at_ t) h)
    obtain ⟨hl, h5⟩ := ifD_ok h5
    obtain ⟨us, vs, h2, h3, h4⟩ := resT_ok hF h5
    refine ⟨_, _, by rw [gets_cellN, h1, h2]; rfl, ?_, h4⟩
    simp only [group]
    rw [List.take_left' hl, List.drop_left' hl, ← h3]
  | [], _ :: _, k, h => h.elim
  | .tmp _ :: _, [], k, h => h.elim
  | .cell1 _ :: _, [], k, h => h.elim
  | .cellN _ _ :: _, [], k, h => h.elim
  | .cell1 _ :: _, .agg _ :: _, k, h => h.elim
  | .cellN _ _ :: _, .one _ :: _, k, h => h.elim

def endT (rs : List ARes) (ds : List DT) (K : Cur (flats ds)) : PostT := fun e F S =>
  match e with
  | .normal => resT F S rs ds fun vs => unC (flats ds) vs K S
  | .ret => resT F S rs ds fun vs => unC (flats ds) vs K S
  | _ => False

def startT : List V → List Cell
  | [] => []
  | v :: vs => .val v :: startT vs

theorem startT_le {args : List V} {n : Nat} : Le (startT args ++ List.replicate n .none) (args ++ List.replicate n .undef) := by
  induction args with
  | nil =>
    refine ⟨by simp [startT], fun i => ?_⟩
    have : ∀ (n i : Nat), cellAt (List.replicate n Cell.none) i = .none := by
      intro n
      induction n with
      | zero => intro i; rfl
      | succ n ih => intro i; cases i with
        | zero => rfl
        | succ i => exact ih i
    simp only [startT, List.nil_append, this]
    trivial
  | cons v vs ih =>
    refine ⟨by simpa [startT] using ih.len, fun i => ?_⟩
    cases i with
    | zero => rfl
    | succ i => exact ih.at_ i

/-- A function, read without frames. -/
theorem CallA.of_T {P : Program} {ok : Env} (hok : EnvOk P ok) {f : FuncId} {A : AF} (hA : afun P f = some A) {tc : TC} (ht : tc.erase = A.body) (hl : tc.okL = true) {args : List V} {S : St}
    {ds : List DT} {K : Cur (flats ds)} (h : wpT P ok tc (endT A.results ds K) (startT args ++ List.replicate (A.nt - args.length) .none) S) : CallA P f args S (retT ds K) := by
  refine CallA.of_body hok hA ?_
  rw [← ht]
  refine wpA_mono (fun f args S Q Q' hq h => h.mono hq) (fun ac Q Q' fr S hq h => h.mono hq) _ _ _ ?_ _ _ (wpT_ok hok tc hl _ _ _ S startT_le h)
  rintro e fr' S' ⟨F', h1, h2, h3⟩
  cases e with
  | normal =>
    obtain ⟨us, vs, g1, g2, g3⟩ := resT_ok h1 h3
    rw [endQ_normal, g1, g2]
    exact unC_ok (mk := fun vs => tupled (group ds vs)) g3
  | ret =>
    obtain ⟨us, vs, g1, g2, g3⟩ := resT_ok h1 h3
    rw [endQ_ret, g1, g2]
    exact unC_ok (mk := fun vs => tupled (group ds vs)) g3
  | exit j => exact h3.elim
  | panic v => exact h3.elim

theorem CallA.of_TP {P : Program} {f : FuncId} {A : AF} (hA : afun P f = some A) {tc : TC} (ht : tc.erase = A.body) (hl : tc.okL = true) {args : List V} {S : St}
    {ds : List DT} {K : Cur (flats ds)} (h : wpT P (envP P) tc (endT A.results ds K) (startT args ++ List.replicate (A.nt - args.length) .none) S) : CallA P f args S (retT ds K) :=
  CallA.of_T (envP_ok P) hA ht hl h

end Go.Th
end

section
/- Types and live slots laid over a function's abstract code, out of a short list; what a printed reading of a function says of the program. -/
set_option linter.unusedVariables false
namespace Go.Th
open Go

abbrev ItL := List (Nat × Ann × List DT)
abbrev JtL := List (Nat × List (Nat × DT))
abbrev LtL := List (List (Nat × DT))

def annI : List AI → ItL → List TI × ItL
  | [], s => ([], s)
  | i :: r, s =>
    match s with
    | [] => let q := annI r []; (⟨i, .no, []⟩ :: q.1, q.2)
    | (0, a, ds) :: s => let q := annI r s; (⟨i, a, ds⟩ :: q.1, q.2)
    | (n + 1, a, ds) :: s => let q := annI r ((n, a, ds) :: s); (⟨i, .no, []⟩ :: q.1, q.2)
def annO : OT → ItL → TT × ItL
  | .done, s => (.done, s)
  | .step n ds i r, s =>
    match s with
    | [] => let q := annO r []; (.step n ds ⟨i, .no, []⟩ q.1, q.2)
    | (0, a, d) :: s => let q := annO r s; (.step n ds ⟨i, a, d⟩ q.1, q.2)
    | (k + 1, a, d) :: s => let q := annO r ((k, a, d) :: s); (.step n ds ⟨i, .no, []⟩ q.1, q.2)
  | .both a b, s => let q := annO a s; let w := annO b q.2; (.both q.1 w.1, w.2)
def annC : AC → ItL → JtL → LtL → TC × ItL × JtL × LtL
  | .skip, s, j, l => (.skip, s, j, l)
  | .region r, s, j, l => let q := annI r s; (.region q.1, q.2, j, l)
  | .draw t, s, j, l => let q := annO t s; (.draw q.1, q.2, j, l)
  | .seq a b, s, j, l =>
    match j with
    | [] => let q := annC a s [] l; let w := annC b q.2.1 q.2.2.1 q.2.2.2; (.seq q.1 w.1, w.2)
    | (0, lv) :: j => let q := annC a s j l; let w := annC b q.2.1 q.2.2.1 q.2.2.2; (.join lv q.1 w.1, w.2)
    | (n + 1, lv) :: j => let q := annC a s ((n, lv) :: j) l; let w := annC b q.2.1 q.2.2.1 q.2.2.2; (.seq q.1 w.1, w.2)
  | .cond x a b, s, j, l => let q := annC a s j l; let w := annC b q.2.1 q.2.2.1 q.2.2.2; (.cond x q.1 w.1, w.2)
  | .block i a, s, j, l => let q := annC a s j l; (.block i q.1, q.2)
  | .loop a, s, j, l => let q := annC a s j l.tail; (.loop (l.headD []) q.1, q.2)
  | .exit i, s, j, l => (.exit i, s, j, l)
  | .ret, s, j, l => (.ret, s, j, l)

theorem annI_er : ∀ (l : List AI) (s : ItL), erI (annI l s).1 = l
  | [], _ => rfl
  | i :: r, s => by
    unfold annI
    split <;> simp only [erI, annI_er r]
theorem annO_er : ∀ (t : OT) (s : ItL), (annO t s).1.erase = t
  | .done, _ => rfl
  | .step n ds i r, s => by
    unfold annO
    split <;> simp only [TT.erase, annO_er r]
  | .both a b, s => by simp only [annO, TT.erase, annO_er a, annO_er b]
theorem annC_er : ∀ (c : AC) (s : ItL) (j : JtL) (l : LtL), (annC c s j l).1.erase = c
  | .skip, _, _, _ | .exit _, _, _, _ | .ret, _, _, _ => rfl
  | .region r, s, _, _ => by simp only [annC, TC.erase, annI_er]
  | .draw t, s, _, _ => by simp only [annC, TC.erase, annO_er]
  | .seq a b, s, j, l => by
    unfold annC
    split <;> simp only [TC.erase, annC_er a, annC_er b]
  | .cond x a b, s, j, l => by simp only [annC, TC.erase, annC_er a, annC_er b]
  | .block i a, s, j, l => by simp only [annC, TC.erase, annC_er a]
  | .loop a, s, j, l => by simp only [annC, TC.erase, annC_er a]

def tcOf (A : AF) (s : ItL) (j : JtL) (l : LtL) : TC := (annC A.body s j l).1
def afn (P : Program) (f : FuncId) : AF := (afun P f).getD ⟨0, [], .skip⟩
/-- Where a call begins. -/
def frT (A : AF) (args : List V) : SF := startT args ++ List.replicate (A.nt - args.length) .none

theorem afn_ok {P : Program} {f : FuncId} (h : (afun P f).isSome = true) : afun P f = some (afn P f) := by
  unfold afn
  cases ha : afun P f with
  | none => rw [ha] at h; cases h
  | some A => rfl

/-- The function is there, its slots are in order, and it reads so. -/
def Reads (P : Program) (f : FuncId) (s : ItL) (j : JtL) (l : LtL) {α : Type} (W : AF → TC → α) (p : α) : Prop :=
  ((afun P f).isSome, (tcOf (afn P f) s j l).okL, W (afn P f) (tcOf (afn P f) s j l)) = (true, true, p)

theorem Reads.of {P : Program} {f : FuncId} {s : ItL} {j : JtL} {l : LtL} {α : Type} {W : AF → TC → α} {p : α} (h : ((afun P f).isSome, (tcOf (afn P f) s j l).okL, W (afn P f) (tcOf (afn P f) s j l)) = (true, true, p)) : Reads P f s j l W p := h

theorem Reads.run {P : Program} {f : FuncId} {s : ItL} {j : JtL} {l : LtL} {α : Type} {W : AF → TC → α} {p : α} (h : Reads P f s j l W p) {args : List V} {S : St} {ds : List DT} {K : Cur (flats ds)} (ap : α → Prop)
    (hp : ap p) (he : ap (W (afn P f) (tcOf (afn P f) s j l)) = wpT P (envP P) (tcOf (afn P f) s j l) (endT (afn P f).results ds K) (frT (afn P f) args) S) : CallA P f args S (retT ds K) := by
  unfold Reads at h
  rw [Prod.mk.injEq, Prod.mk.injEq] at h
  refine CallA.of_TP (afn_ok h.1) (annC_er _ _ _ _) h.2.1 ?_
  rw [← h.2.2] at hp
  exact Eq.mp he hp

end Go.Th
end
