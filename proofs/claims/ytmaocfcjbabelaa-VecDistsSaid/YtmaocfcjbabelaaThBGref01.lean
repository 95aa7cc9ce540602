/- What the row of one statement stands on: a store, abstract code, functions of the program and their laws (ThQ3, ThQ11, ThFn, ThGcmp, ThGkeep, ThGlaw03, ThGmath, ThGref01). -/
import Derived.Test.YtmaocfcjbabelaaThBQ2

section
/- Code read without frames: rounds, joins, calls; that this is the code's own reading. -/
set_option linter.unusedVariables false
set_option linter.unusedSimpArgs false
namespace Go.Th
open Go.RowKit Go.Lib

/-! ## results -/
def group : List DT → List V → List V
  | [], _ => []
  | .one _ :: ds, vs => match vs with
    | v :: vs => v :: group ds vs
    | [] => []
  | .agg ts :: ds, vs => .agg (vs.take ts.length) :: group ds (vs.drop ts.length)

@[reducible] def Cur : List Ty → Type
  | [] => St → Prop
  | t :: ts => t.den → Cur ts

def Ret : (ts : List Ty) → (List V → V) → Cur ts → Res → St → Prop
  | [], mk, K, r, S => r = .ret (mk []) ∧ K S
  | t :: ts, mk, K, r, S => ∃ x : t.den, Ret ts (fun vs => mk (t.toV x :: vs)) (K x) r S

/-- What a call gives: results of these types. -/
def retT (ds : List DT) (K : Cur (flats ds)) : Post := Ret (flats ds) (fun vs => tupled (group ds vs)) K

def curK : (ts : List Ty) → (List V → V) → (V → St → Prop) → Cur ts
  | [], mk, k => fun S => k (mk []) S
  | t :: ts, mk, k => fun x => curK ts (fun vs => mk (t.toV x :: vs)) k

theorem Ret_ok : ∀ {ts : List Ty} {mk : List V → V} {k : V → St → Prop} {r : Res} {S : St}, Ret ts mk (curK ts mk k) r S → ∃ v, r = .ret v ∧ k v S
  | [], mk, k, r, S, h => ⟨_, h.1, h.2⟩
  | t :: ts, mk, k, r, S, h => by
    obtain ⟨x, h⟩ := h
    exact Ret_ok (ts := ts) h

def callT (P : Program) (f : FuncId) (args : List V) (ds : List DT) (S : St) (k : V → St → Prop) : Prop :=
  CallA P f args S (retT ds (curK (flats ds) (fun vs => tupled (group ds vs)) k))

/-- Who is called, and with what. -/
def calleeK (ok : Env) (v : V) (vs : List V) (k : FuncId → List V → Prop) : Prop := ifS (calleeV ok v vs) fun p => k p.1 p.2

theorem calleeK_ok {ok : Env} {v : V} {vs : List V} {k : FuncId → List V → Prop} (h : calleeK ok v vs k) : ∃ p, calleeV ok v vs = some p ∧ k p.1 p.2 := ifS_ok h

theorem callee_mk {P : Program} {f : FuncId} {fs cs vs : List V} (h : canEnter P f = true) : calleeV (envP P) (.func (.func f) fs cs) vs = some (f, fs ++ vs ++ cs) := by
  rw [calleeV_func]; exact if_pos h

/-! ## regions -/
structure TI where
  i : AI
  ann : Ann
  ds : List DT

def guardT (g : Option (Nat × Bool)) (F : SF) (a b : SF → Prop) : Prop :=
  match g with
  | none => a F
  | some (t, w) => match cellAt F t with
    | .tt => match w with
      | true => a F
      | false => b F
    | .ff => match w with
      | true => b F
      | false => a F
    | .val (.bool x) => match w with
      | true => ifC x (a (F.set t .tt)) (b (F.set t .ff))
      | false => ifC x (b (F.set t .tt)) (a (F.set t .ff))
    | .val (.tuple []) => b F
    | _ => False

def stepT (P : Program) (ok : Env) (t : TI) (F : SF) (S : St) (k : Cell → St → Prop) : Prop :=
  match t.i.op with
  | .callF f xs => needXs F xs fun vs => callT P f vs t.ds S fun v S' => k (.val v) S'
  | .callV x xs => needX F x fun v => needXs F xs fun vs => calleeK ok v vs fun f vs => callT P f vs t.ds S fun v S' => k (.val v) S'
  | .invoke nm x xs => needX F x fun v => needXs F xs fun vs => ifS (invokeV ok S nm v vs) fun p => callT P p.1 p.2 t.ds S fun v S' => k (.val v) S'
  | o => opT o t.ann F S k

def runT (P : Program) (ok : Env) : List TI → SF → St → (SF → St → Prop) → Prop
  | [], F, S, k => k F S
  | t :: r, F, S, k => guardT t.i.guard F (fun F => stepT P ok t F S fun c S' => runT P ok r (putT F t.i.dst c) S' k) (fun F => runT P ok r (putT F t.i.dst (.val .undef)) S k)

def gslots : Option (Nat × Bool) → List Nat
  | none => []
  | some (t, _) => [t]
def dslots : Option Nat → List Nat
  | none => []
  | some d => [d]
def modsI : List TI → List Nat
  | [] => []
  | t :: r => gslots t.i.guard ++ (dslots t.i.dst ++ modsI r)

theorem guardT_ok {g : Option (Nat × Bool)} {F : SF} {fr : List V} {a b : SF → Prop} (hF : Le F fr) (h : guardT g F a b) :
    (∃ F', Le F' fr ∧ Stay (gslots g) F F' ∧ wantI g fr = some true ∧ a F') ∨ ∃ F', Le F' fr ∧ Stay (gslots g) F F' ∧ wantI g fr = some false ∧ b F' := by
  unfold guardT at h
  split at h
  · exact .inl ⟨F, hF, Stay.refl _ _, rfl, h⟩
  · rename_i t w
    have ht := hF.at_ t
    split at h
    · rename_i hc
      rw [hc] at ht; simp only [Cell.Le, G] at ht
      cases w with
      | true => exact .inl ⟨F, hF, Stay.refl _ _, by simp only [wantI, ht]; rfl, h⟩
      | false => exact .inr ⟨F, hF, Stay.refl _ _, by simp only [wantI, ht]; rfl, h⟩
    · rename_i hc
      rw [hc] at ht; simp only [Cell.Le, G] at ht
      cases w with
      | true => exact .inr ⟨F, hF, Stay.refl _ _, by simp only [wantI, ht]; rfl, h⟩
      | false => exact .inl ⟨F, hF, Stay.refl _ _, by simp only [wantI, ht]; rfl, h⟩
    · rename_i x hc
      rw [hc] at ht; simp only [Cell.Le] at ht
      have ht' : fr.getD t .undef = .bool x := ht
      cases w with
      | true =>
        have hb := ifC_ok h
        cases x with
        | true => exact .inl ⟨_, hF.refine t (c := .tt) ht, Stay.set F _ (by simp [gslots]), by simp only [wantI, ht']; rfl, hb⟩
        | false => exact .inr ⟨_, hF.refine t (c := .ff) ht, Stay.set F _ (by simp [gslots]), by simp only [wantI, ht']; rfl, hb⟩
      | false =>
        have hb := ifC_ok h
        cases x with
        | true => exact .inr ⟨_, hF.refine t (c := .tt) ht, Stay.set F _ (by simp [gslots]), by simp only [wantI, ht']; rfl, hb⟩
        | false => exact .inl ⟨_, hF.refine t (c := .ff) ht, Stay.set F _ (by simp [gslots]), by simp only [wantI, ht']; rfl, hb⟩
    · rename_i hc
      rw [hc] at ht; simp only [Cell.Le, G] at ht
      exact .inr ⟨F, hF, Stay.refl _ _, by simp only [wantI, ht], h⟩
    · exact h.elim

theorem Stay.put {M : List Nat} (F : SF) (d : Option Nat) (v : Cell) (h : ∀ i ∈ dslots d, i ∈ M) : Stay M F (putT F d v) := by
  cases d with
  | none => exact Stay.refl _ _
  | some d => exact Stay.set F _ (h d (by simp [dslots]))

theorem stepT_ok {P : Program} {ok : Env} {Q : PostC} {t : TI} {r : List AI} {F : SF} {fr : List V} {S : St} {k : Cell → St → Prop} (hF : Le F fr) (h : stepT P ok t F S k)
    (hk : ∀ c v S', c.Le v → k c S' → runIs ok (CallA P) Q r (put fr t.i.dst v) S') : runIs ok (CallA P) Q (⟨t.i.dst, none, t.i.op⟩ :: r) fr S := by
  unfold stepT at h
  split at h
  · rename_i f xs ho
    have := needXs_ok hF h
    rw [ho, runIs_callF]
    refine CallA.mono this ?_
    intro res S' hr
    obtain ⟨v, rfl, hv⟩ := Ret_ok hr
    exact hk _ _ _ (Cell.le_val _) hv
  · rename_i x xs ho
    obtain ⟨p, h1, h2⟩ := calleeK_ok (needXs_ok hF (needX_ok hF h))
    rw [ho, runIs_callV, h1]
    refine CallA.mono h2 ?_
    intro res S' hr
    obtain ⟨v, rfl, hv⟩ := Ret_ok hr
    exact hk _ _ _ (Cell.le_val _) hv
  · rename_i nm x xs ho
    obtain ⟨p, h1, h2⟩ := ifS_ok (needXs_ok hF (needX_ok hF h))
    rw [ho, runIs_invoke, h1]
    refine CallA.mono h2 ?_
    intro res S' hr
    obtain ⟨v, rfl, hv⟩ := Ret_ok hr
    exact hk _ _ _ (Cell.le_val _) hv
  · exact opT_ok hF h hk

theorem runT_ok {P : Program} {ok : Env} {Q : PostC} : ∀ (l : List TI) {F : SF} {fr : List V} {S : St} {k : SF → St → Prop}, Le F fr → runT P ok l F S k →
    (∀ F' fr' S', Le F' fr' → Stay (modsI l) F F' → k F' S' → Q .normal fr' S') → runIs ok (CallA P) Q (l.map (·.i)) fr S
  | [], F, fr, S, k, hF, h, hk => hk F fr S hF (Stay.refl _ _) h
  | t :: r, F, fr, S, k, hF, h, hk => by
    simp only [runT] at h
    rw [List.map_cons]
    have hg : ∀ i ∈ gslots t.i.guard, i ∈ modsI (t :: r) := fun i hi => by simp only [modsI]; exact List.mem_append_left _ hi
    have hd : ∀ i ∈ dslots t.i.dst, i ∈ modsI (t :: r) := fun i hi => by simp only [modsI]; exact List.mem_append_right _ (List.mem_append_left _ hi)
    have hr : ∀ i ∈ modsI r, i ∈ modsI (t :: r) := fun i hi => by simp only [modsI]; exact List.mem_append_right _ (List.mem_append_right _ hi)
    rcases guardT_ok hF h with ⟨F1, hF1, hs1, hw, h1⟩ | ⟨F1, hF1, hs1, hw, h1⟩
    · have hstep : runIs ok (CallA P) Q (⟨t.i.dst, none, t.i.op⟩ :: r.map (·.i)) fr S := by
        refine stepT_ok hF1 h1 ?_
        intro c v S' hc hv
        refine runT_ok r (hF1.put t.i.dst hc) hv ?_
        intro F2 fr2 S2 hF2 hs2 hk2
        exact hk F2 fr2 S2 hF2 (((hs1.mono hg).trans (Stay.put F1 _ c hd)).trans (hs2.mono hr)) hk2
      have e : runIs ok (CallA P) Q (t.i :: r.map (·.i)) fr S = runIs ok (CallA P) Q (⟨t.i.dst, none, t.i.op⟩ :: r.map (·.i)) fr S := by
        simp only [runIs, hw]; rfl
      rw [e]; exact hstep
    · have e : runIs ok (CallA P) Q (t.i :: r.map (·.i)) fr S = runIs ok (CallA P) Q (r.map (·.i)) (put fr t.i.dst .undef) S := by
        simp only [runIs, hw]
      rw [e]
      refine runT_ok r (hF1.put t.i.dst (Cell.le_val .undef)) h1 ?_
      intro F2 fr2 S2 hF2 hs2 hk2
      exact hk F2 fr2 S2 hF2 (((hs1.mono hg).trans (Stay.put F1 _ _ hd)).trans (hs2.mono hr)) hk2

/-! ## regions that draw -/
def readsK (F : SF) (o : AO) (k : List Nat → Prop) : Prop :=
  match o with
  | .load1 x | .loadN _ x | .convBS x | .len _ x | .lookup _ _ _ x _ => needX F x fun v => k v.block
  | _ => k []

theorem readsK_ok {F : SF} {fr : List V} {o : AO} {k : List Nat → Prop} (hF : Le F fr) (h : readsK F o k) : k (o.reads fr) := by
  cases o <;> first | exact needX_ok hF h | exact h

/-- What was read stays. -/
def sameK (R : List Nat) (S S' : St) (k : Prop) : Prop :=
  match R with
  | [] => k
  | R => Same R S S' ∧ k

theorem sameK_ok {R : List Nat} {S S' : St} {k : Prop} (h : sameK R S S' k) : Same R S S' ∧ k := by
  cases R with
  | nil => exact ⟨fun i hi => by simp at hi, h⟩
  | cons i R => exact h

inductive TT where
  | done
  | step (n : Nat) (ds : List Nat) (t : TI) (r : TT)
  | both (a b : TT)

def TT.erase : TT → OT
  | .done => .done
  | .step n ds t r => .step n ds t.i r.erase
  | .both a b => .both a.erase b.erase
def modsT : TT → List Nat
  | .done => []
  | .step _ _ t r => gslots t.i.guard ++ (dslots t.i.dst ++ modsT r)
  | .both a b => modsT a ++ modsT b

def drawT (P : Program) (ok : Env) : TT → RD → SF → St → (SF → St → Prop) → Prop
  | .done, _, F, S, k => k F S
  | .both a b, R, F, S, k => drawT P ok a R F S k ∧ drawT P ok b R F S k
  | .step n ds t r, R, F, S, k => guardT t.i.guard F
      (fun F => match t.i.op.quiet with
        | true => readsK F t.i.op fun R' => stepT P ok t F S fun c S' => drawT P ok r ((n, R') :: R) (putT F t.i.dst c) S' k
        | false => stepT P ok t F S fun c S' => sameK (outD ds R) S S' (drawT P ok r R (putT F t.i.dst c) S' k))
      (fun F => drawT P ok r R (putT F t.i.dst (.val .undef)) S k)

theorem runD_one {ok : Env} {callH : FuncId → List V → St → Post → Prop} {Q : List V → St → Prop} {n : Nat} {ds : List Nat} {i : AI} {r : OT} {R : RD} {fr : List V} {S : St} (hw : wantI i.guard fr = some true) (hq : i.op.quiet = false)
    (h : runIs ok callH (fun e fr' S' => e = .normal ∧ Same (outD ds R) S S' ∧ runD ok callH Q r R fr' S') [⟨i.dst, none, i.op⟩] fr S) : runD ok callH Q (.step n ds i r) R fr S := by
  simp only [runD, hw]
  simp only [runIs, wantI] at h
  cases hr : i.op.run ok fr S with
  | val v S' => rw [hr] at h; simp only [hq, Bool.false_eq_true, if_false]; exact h.2
  | call f args =>
    rw [hr] at h
    simp only at h ⊢
    refine cast (congrArg (callH f args S) (funext fun res => funext fun S' => ?_)) h
    cases res <;> simp
  | panic v => rw [hr] at h; cases h.1
  | stuck => rw [hr] at h; exact h

theorem runD_quiet_one {ok : Env} {callH : FuncId → List V → St → Post → Prop} {Q : List V → St → Prop} {n : Nat} {ds : List Nat} {i : AI} {r : OT} {R : RD} {fr : List V} {S : St} (hw : wantI i.guard fr = some true) (hq : i.op.quiet = true)
    (h : runIs ok callH (fun e fr' S' => e = .normal ∧ runD ok callH Q r ((n, i.op.reads fr) :: R) fr' S') [⟨i.dst, none, i.op⟩] fr S) : runD ok callH Q (.step n ds i r) R fr S := by
  simp only [runD, hw]
  simp only [runIs, wantI] at h
  rcases AO.quiet_run (ok := ok) hq fr S with ⟨v, S', hr⟩ | hr
  · rw [hr] at h ⊢; simp only [hq, if_true]; exact h.2
  · rw [hr] at h; exact h.elim

theorem drawT_ok {P : Program} {ok : Env} {Q : List V → St → Prop} : ∀ (l : TT) {R : RD} {F : SF} {fr : List V} {S : St} {k : SF → St → Prop}, Le F fr → drawT P ok l R F S k →
    (∀ F' fr' S', Le F' fr' → Stay (modsT l) F F' → k F' S' → Q fr' S') → runD ok (CallA P) Q l.erase R fr S
  | .done, R, F, fr, S, k, hF, h, hk => hk F fr S hF (Stay.refl _ _) h
  | .both a b, R, F, fr, S, k, hF, h, hk =>
    ⟨drawT_ok a hF h.1 fun F' fr' S' h1 h2 h3 => hk F' fr' S' h1 (h2.mono fun i hi => by simp only [modsT]; exact List.mem_append_left _ hi) h3,
     drawT_ok b hF h.2 fun F' fr' S' h1 h2 h3 => hk F' fr' S' h1 (h2.mono fun i hi => by simp only [modsT]; exact List.mem_append_right _ hi) h3⟩
  | .step n ds t r, R, F, fr, S, k, hF, h, hk => by
    simp only [drawT] at h
    simp only [TT.erase]
    have hg : ∀ i ∈ gslots t.i.guard, i ∈ modsT (.step n ds t r) := fun i hi => by simp only [modsT]; exact List.mem_append_left _ hi
    have hd : ∀ i ∈ dslots t.i.dst, i ∈ modsT (.step n ds t r) := fun i hi => by simp only [modsT]; exact List.mem_append_right _ (List.mem_append_left _ hi)
    have hr : ∀ i ∈ modsT r, i ∈ modsT (.step n ds t r) := fun i hi => by simp only [modsT]; exact List.mem_append_right _ (List.mem_append_right _ hi)
    rcases guardT_ok hF h with ⟨F1, hF1, hs1, hw, h1⟩ | ⟨F1, hF1, hs1, hw, h1⟩
    · cases hq : t.i.op.quiet with
      | true =>
        rw [hq] at h1
        refine runD_quiet_one hw hq ?_
        refine stepT_ok (r := []) hF1 (readsK_ok hF1 h1) ?_
        intro c v S' hc hv
        refine ⟨rfl, drawT_ok r (hF1.put t.i.dst hc) hv ?_⟩
        intro F2 fr2 S2 hF2 hs2 hk2
        exact hk F2 fr2 S2 hF2 (((hs1.mono hg).trans (Stay.put F1 _ c hd)).trans (hs2.mono hr)) hk2
      | false =>
        rw [hq] at h1
        refine runD_one hw hq ?_
        refine stepT_ok (r := []) hF1 h1 ?_
        intro c v S' hc hv
        obtain ⟨hsm, hv⟩ := sameK_ok hv
        refine ⟨rfl, hsm, drawT_ok r (hF1.put t.i.dst hc) hv ?_⟩
        intro F2 fr2 S2 hF2 hs2 hk2
        exact hk F2 fr2 S2 hF2 (((hs1.mono hg).trans (Stay.put F1 _ c hd)).trans (hs2.mono hr)) hk2
    · have e : runD ok (CallA P) Q (.step n ds t.i r.erase) R fr S = runD ok (CallA P) Q r.erase R (put fr t.i.dst .undef) S := by
        simp only [runD, hw]
      rw [e]
      refine drawT_ok r (hF1.put t.i.dst (Cell.le_val .undef)) h1 ?_
      intro F2 fr2 S2 hF2 hs2 hk2
      exact hk F2 fr2 S2 hF2 (((hs1.mono hg).trans (Stay.put F1 _ _ hd)).trans (hs2.mono hr)) hk2

/-! ## code -/
inductive TC where
  | skip
  | region (l : List TI)
  | draw (t : TT)
  | seq (a b : TC)
  | join (live : List (Nat × DT)) (a b : TC)
  | cond (x : AX) (a b : TC)
  | block (id : Nat) (a : TC)
  | loop (live : List (Nat × DT)) (a : TC)
  | exit (id : Nat)
  | ret

def erI : List TI → List AI
  | [] => []
  | t :: r => t.i :: erI r
theorem erI_eq : ∀ (l : List TI), erI l = l.map (·.i)
  | [] => rfl
  | t :: r => by simp only [erI, List.map_cons, erI_eq r]

def TC.erase : TC → AC
  | .skip => .skip
  | .region l => .region (erI l)
  | .draw t => .draw t.erase
  | .seq a b => .seq a.erase b.erase
  | .join _ a b => .seq a.erase b.erase
  | .cond x a b => .cond x a.erase b.erase
  | .block id a => .block id a.erase
  | .loop _ a => .loop a.erase
  | .exit id => .exit id
  | .ret => .ret

def xslots : AX → List Nat
  | .tmp i => [i]
  | _ => []
def TC.mods : TC → List Nat
  | .skip => []
  | .region l => modsI l
  | .draw t => modsT t
  | .seq a b => a.mods ++ b.mods
  | .join _ a b => a.mods ++ b.mods
  | .cond x a b => xslots x ++ (a.mods ++ b.mods)
  | .block _ a => a.mods
  | .loop _ a => a.mods
  | .exit _ => []
  | .ret => []

def tysOf : List (Nat × DT) → List Ty
  | [] => []
  | p :: l => p.2.tys ++ tysOf l

def unTy : (t : Ty) → V → (t.den → Prop) → Prop
  | .any, v, k => k v
  | .bool, v, k => match v with
    | .bool b => k b
    | _ => False
  | .int kk, v, k => match v with
    | .int k' n => match decEq k' kk with
      | .isTrue _ => k n
      | .isFalse _ => False
    | _ => False
  | .str, v, k => match v with
    | .str s => k s
    | _ => False

theorem unTy_ok : ∀ {t : Ty} {v : V} {k : t.den → Prop}, unTy t v k → ∃ x, v = t.toV x ∧ k x
  | .any, v, k, h => ⟨v, rfl, h⟩
  | .bool, v, k, h => by
    simp only [unTy] at h
    split at h
    · exact ⟨_, rfl, h⟩
    · exact h.elim
  | .int kk, v, k, h => by
    simp only [unTy] at h
    split at h
    · split at h
      · rename_i he _; subst he; exact ⟨_, rfl, h⟩
      · exact h.elim
    · exact h.elim
  | .str, v, k, h => by
    simp only [unTy] at h
    split at h
    · exact ⟨_, rfl, h⟩
    · exact h.elim

def unVs : (ts : List Ty) → List V → (Dens ts → Prop) → Prop
  | [], vs, k => match vs with
    | [] => k ()
    | _ :: _ => False
  | t :: ts, vs, k => match vs with
    | [] => False
    | v :: vs => unTy t v fun x => unVs ts vs fun y => k (x, y)

theorem unVs_ok : ∀ {ts : List Ty} {vs : List V} {k : Dens ts → Prop}, unVs ts vs k → ∃ x, vs = toVs ts x ∧ k x
  | [], vs, k, h => by
    cases vs with
    | nil => exact ⟨(), rfl, h⟩
    | cons v vs => exact h.elim
  | t :: ts, vs, k, h => by
    cases vs with
    | nil => exact h.elim
    | cons v vs =>
      obtain ⟨x, hx, h⟩ := unTy_ok h
      obtain ⟨y, hy, h⟩ := unVs_ok h
      exact ⟨(x, y), by simp only [toVs, ← hx, ← hy], h⟩

/-- The cells of slots that live on. -/
def getLive (F : SF) : List (Nat × DT) → (List V → Prop) → Prop
  | [], k => k []
  | (i, d) :: l, k => need (cellAt F i) fun v => match d with
    | .one _ => getLive F l fun vs => k (v :: vs)
    | .agg ts => match v with
      | .agg cs => ifD (Nat.decEq cs.length ts.length) (getLive F l fun vs => k (cs ++ vs))
      | _ => False

def setLive : List (Nat × DT) → List V → SF → SF
  | [], _, F => F
  | (i, .one _) :: l, vs, F => match vs with
    | v :: vs => setLive l vs (F.set i (.val v))
    | [] => F
  | (i, .agg ts) :: l, vs, F => setLive l (vs.drop ts.length) (F.set i (.val (.agg (vs.take ts.length))))

theorem getLive_ok {F : SF} {fr : List V} (hF : Le F fr) : ∀ {l : List (Nat × DT)} {k : List V → Prop}, getLive F l k → ∃ vs, k vs ∧ ∀ F0, Le F0 fr → Le (setLive l vs F0) fr
  | [], k, h => ⟨[], h, fun F0 h0 => h0⟩
  | (i, .one t) :: l, k, h => by
    have hv := need_ok (hF.at_ i) h
    obtain ⟨vs, h1, h2⟩ := getLive_ok hF hv
    refine ⟨_, h1, fun F0 h0 => ?_⟩
    simp only [setLive]
    exact h2 _ (h0.refine i rfl)
  | (i, .agg ts) :: l, k, h => by
    have hv := need_ok (hF.at_ i) h
    simp only at hv
    split at hv
    · rename_i cs hg
      obtain ⟨hl, hv⟩ := ifD_ok hv
      obtain ⟨vs, h1, h2⟩ := getLive_ok hF hv
      refine ⟨_, h1, fun F0 h0 => ?_⟩
      simp only [setLive]
      rw [List.drop_left' hl, List.take_left' hl]
      exact h2 _ (h0.refine i hg)
    · exact hv.elim

def unLive (l : List (Nat × DT)) (F : SF) (k : Dens (tysOf l) → Prop) : Prop := getLive F l fun vs => unVs (tysOf l) vs k

/-- What is known, without these slots. -/
def clearT : List Nat → SF → SF
  | [], F => F
  | i :: l, F => clearT l (F.set i .none)

theorem clearT_le {F F' : SF} {fr : List V} {M : List Nat} (hF : Le F' fr) (hs : F'.length = F.length ∧ ∀ i, i ∉ M → cellAt F' i = cellAt F i) : Le (clearT M F) fr := by
  have key : ∀ (M : List Nat) (F : SF), F'.length = F.length → (∀ i, i ∉ M → cellAt F' i = cellAt F i ∨ cellAt F i = .none) → Le (clearT M F) fr := by
    intro M
    induction M with
    | nil =>
      intro F hl h
      refine ⟨by simp only [clearT]; rw [← hl]; exact hF.len, fun i => ?_⟩
      simp only [clearT]
      rcases h i (by simp) with h | h
      · rw [← h]; exact hF.at_ i
      · rw [h]; trivial
    | cons j M ih =>
      intro F hl h
      simp only [clearT]
      refine ih _ (by simpa using hl) fun i hi => ?_
      rw [cellAt_set]
      by_cases e : j = i
      · subst e
        by_cases hjl : j < F.length
        · rw [if_pos ⟨rfl, hjl⟩]; exact .inr rfl
        · right
          rw [if_neg (fun h' => hjl h'.2)]
          have : ∀ (F : SF) (j : Nat), ¬ j < F.length → cellAt F j = .none := by
            intro F
            induction F with
            | nil => intro j _; rfl
            | cons c F ih => intro j hj; cases j with
              | zero => simp at hj
              | succ j => exact ih j (by simpa using hj)
          exact this F j hjl
      · rw [if_neg (fun h' => e h'.1)]
        exact h i (by simp only [List.mem_cons, not_or]; exact ⟨fun h' => e h'.symm, hi⟩)
  exact key M F hs.1 fun i hi => .inl (hs.2 i hi)

abbrev PostT := AE → SF → St → Prop

def condT (x : AX) (F : SF) (a b : SF → Prop) : Prop :=
  match x with
  | .tmp i => match cellAt F i with
    | .tt => a F
    | .ff => b F
    | .val (.bool c) => ifC c (a (F.set i .tt)) (b (F.set i .ff))
    | _ => False
  | .con (.bool c) => match c with
    | true => a F
    | false => b F
  | _ => False

def afterT (k : SF → St → Prop) (Q : PostT) : PostT := fun e F S =>
  match e with
  | .normal => k F S
  | e => Q e F S

def blockT (id : Nat) (Q : PostT) : PostT := fun e F S =>
  match e with
  | .exit j => match Nat.decEq j id with
    | .isTrue _ => Q .normal F S
    | .isFalse _ => Q (.exit j) F S
  | e => Q e F S

def wpT (P : Program) (ok : Env) : TC → PostT → SF → St → Prop
  | .skip, Q, F, S => Q .normal F S
  | .region l, Q, F, S => runT P ok l F S (Q .normal)
  | .draw l, Q, F, S => drawT P ok l [] F S (Q .normal)
  | .seq a b, Q, F, S => wpT P ok a (afterT (fun F S => wpT P ok b Q F S) Q) F S
  | .join live a b, Q, F, S => joinN (tysOf live) (fun k => wpT P ok a (afterT (fun F' S' => unLive live F' fun x => k x S') Q) F S) (fun x S' => wpT P ok b Q (setLive live (toVs (tysOf live) x) (clearT a.mods F)) S')
  | .cond x a b, Q, F, S => condT x F (fun F => wpT P ok a Q F S) (fun F => wpT P ok b Q F S)
  | .block id a, Q, F, S => wpT P ok a (blockT id Q) F S
  | .loop live a, Q, F, S => unLive live F fun x0 => loopN (tysOf live) (fun cont x S' => wpT P ok a (afterT (fun F' S'' => unLive live F' fun x' => cont x' S'') Q) (setLive live (toVs (tysOf live) x) (clearT a.mods F)) S') x0 S
  | .exit id, Q, F, S => Q (.exit id) F S
  | .ret, Q, F, S => Q .ret F S

/-- What the frame's post says of what is known. -/
def Down (M : List Nat) (F : SF) (Q : PostT) : PostC := fun e fr' S' => ∃ F', Le F' fr' ∧ Stay M F F' ∧ Q e F' S'

theorem unLive_ok {l : List (Nat × DT)} {F : SF} {fr : List V} (hF : Le F fr) {k : Dens (tysOf l) → Prop} (h : unLive l F k) : ∃ x, k x ∧ ∀ F0, Le F0 fr → Le (setLive l (toVs (tysOf l) x) F0) fr := by
  obtain ⟨vs, h1, h2⟩ := getLive_ok hF h
  obtain ⟨x, rfl, h3⟩ := unVs_ok h1
  exact ⟨x, h3, h2⟩

theorem setLive_stay : ∀ (l : List (Nat × DT)) (vs : List V) (F : SF), (setLive l vs F).length = F.length
  | [], _, F => rfl
  | (i, .one _) :: l, vs, F => by
    cases vs with
    | nil => rfl
    | cons v vs => simp only [setLive]; rw [setLive_stay]; simp
  | (i, .agg ts) :: l, vs, F => by simp only [setLive]; rw [setLive_stay]; simp

theorem clearT_len : ∀ (M : List Nat) (F : SF), (clearT M F).length = F.length
  | [], _ => rfl
  | i :: M, F => by simp only [clearT]; rw [clearT_len]; simp

def slotsL : List (Nat × DT) → List Nat
  | [] => []
  | p :: l => p.1 :: slotsL l

theorem setLive_at : ∀ (l : List (Nat × DT)) (vs : List V) (F : SF) (i : Nat), i ∉ slotsL l → cellAt (setLive l vs F) i = cellAt F i
  | [], _, F, i, _ => rfl
  | (j, .one _) :: l, vs, F, i, h => by
    simp only [slotsL, List.mem_cons, not_or] at h
    cases vs with
    | nil => rfl
    | cons v vs =>
      simp only [setLive]
      rw [setLive_at l vs _ i h.2, cellAt_set, if_neg (fun e => h.1 e.1.symm)]
  | (j, .agg ts) :: l, vs, F, i, h => by
    simp only [slotsL, List.mem_cons, not_or] at h
    simp only [setLive]
    rw [setLive_at l _ _ i h.2, cellAt_set, if_neg (fun e => h.1 e.1.symm)]

theorem clearT_at : ∀ (M : List Nat) (F : SF) (i : Nat), i ∉ M → cellAt (clearT M F) i = cellAt F i
  | [], F, i, _ => rfl
  | j :: M, F, i, h => by
    simp only [List.mem_cons, not_or] at h
    simp only [clearT]
    rw [clearT_at M _ i h.2, cellAt_set, if_neg (fun e => h.1 e.1.symm)]

/-- The slots that live on are among those that may be written. -/
def liveIn (l : List (Nat × DT)) (M : List Nat) : Bool := (slotsL l).all fun i => M.contains i
def TC.okL : TC → Bool
  | .seq a b => a.okL && b.okL
  | .join l a b => liveIn l a.mods && (a.okL && b.okL)
  | .cond _ a b => a.okL && b.okL
  | .block _ a => a.okL
  | .loop l a => liveIn l a.mods && a.okL
  | _ => true

theorem headStay {l : List (Nat × DT)} {M : List Nat} (hl : liveIn l M = true) (vs : List V) (F : SF) : Stay M F (setLive l vs (clearT M F)) := by
  refine ⟨by rw [setLive_stay, clearT_len], fun i hi => ?_⟩
  have hn : i ∉ slotsL l := fun hm => by
    simp only [liveIn, List.all_eq_true] at hl
    have := hl i hm
    simp only [List.contains_iff_mem] at this
    exact hi this
  rw [setLive_at l vs _ i hn, clearT_at M F i hi]

theorem wpT_ok {P : Program} {ok : Env} (hok : EnvOk P ok) : ∀ (tc : TC), tc.okL = true → ∀ (Q : PostT) (F : SF) (fr : List V) (S : St), Le F fr → wpT P ok tc Q F S →
    wpA ok (CallA P) (LoopA P) tc.erase (Down tc.mods F Q) fr S := by
  have mono : ∀ (ac : AC) (Q Q' : PostC), (∀ e fr S, Q e fr S → Q' e fr S) → ∀ (fr : List V) (S : St), wpA ok (CallA P) (LoopA P) ac Q fr S → wpA ok (CallA P) (LoopA P) ac Q' fr S :=
    wpA_mono (fun f args S Q Q' hq h => h.mono hq) (fun ac Q Q' fr S hq h => h.mono hq)
  intro tc
  induction tc with
  | skip => intro _ Q F fr S hF h; exact ⟨F, hF, Stay.refl _ _, h⟩
  | region l =>
    intro _ Q F fr S hF h
    simp only [TC.erase, wpA, erI_eq]
    exact runT_ok l hF h fun F' fr' S' h1 h2 h3 => ⟨F', h1, h2, h3⟩
  | draw l =>
    intro _ Q F fr S hF h
    simp only [TC.erase, wpA]
    exact drawT_ok l hF h fun F' fr' S' h1 h2 h3 => ⟨F', h1, h2, h3⟩
  | seq a b iha ihb =>
    intro hk Q F fr S hF h
    simp only [TC.okL, Bool.and_eq_true] at hk
    simp only [TC.erase, wpA]
    refine mono _ _ _ ?_ _ _ (iha hk.1 _ F fr S hF h)
    rintro e fr' S' ⟨F', h1, h2, h3⟩
    have s1 : Stay (TC.seq a b).mods F F' := h2.mono fun i hi => by simp only [TC.mods]; exact List.mem_append_left _ hi
    cases e with
    | normal =>
      refine mono _ _ _ ?_ _ _ (ihb hk.2 _ F' fr' S' h1 h3)
      rintro e fr2 S2 ⟨F2, g1, g2, g3⟩
      exact ⟨F2, g1, s1.trans (g2.mono fun i hi => by simp only [TC.mods]; exact List.mem_append_right _ hi), g3⟩
    | exit j => exact ⟨F', h1, s1, h3⟩
    | ret => exact ⟨F', h1, s1, h3⟩
    | panic v => exact ⟨F', h1, s1, h3⟩
  | join l a b iha ihb =>
    intro hk Q F fr S hF h
    simp only [TC.okL, Bool.and_eq_true] at hk
    simp only [TC.erase, wpA]
    obtain ⟨M, hM, hr⟩ := joinN_ok _ _ _ h
    refine mono _ _ _ ?_ _ _ (iha hk.2.1 _ F fr S hF hM)
    rintro e fr' S' ⟨F', h1, h2, h3⟩
    have s1 : Stay (TC.join l a b).mods F F' := h2.mono fun i hi => by simp only [TC.mods]; exact List.mem_append_left _ hi
    cases e with
    | normal =>
      obtain ⟨x, hx, hl⟩ := unLive_ok h1 h3
      have hF2 := hl _ (clearT_le h1 h2)
      have s2 : Stay (TC.join l a b).mods F (setLive l (toVs (tysOf l) x) (clearT a.mods F)) := (headStay hk.1 _ F).mono fun i hi => by simp only [TC.mods]; exact List.mem_append_left _ hi
      refine mono _ _ _ ?_ _ _ (ihb hk.2.2 _ _ fr' S' hF2 (hr x S' hx))
      rintro e fr2 S2 ⟨F2, g1, g2, g3⟩
      exact ⟨F2, g1, s2.trans (g2.mono fun i hi => by simp only [TC.mods]; exact List.mem_append_right _ hi), g3⟩
    | exit j => exact ⟨F', h1, s1, h3⟩
    | ret => exact ⟨F', h1, s1, h3⟩
    | panic v => exact ⟨F', h1, s1, h3⟩
  | cond x a b iha ihb =>
    intro hk Q F fr S hF h
    simp only [TC.okL, Bool.and_eq_true] at hk
    have ma : ∀ i ∈ a.mods, i ∈ (TC.cond x a b).mods := fun i hi => by simp only [TC.mods]; exact List.mem_append_right _ (List.mem_append_left _ hi)
    have mb : ∀ i ∈ b.mods, i ∈ (TC.cond x a b).mods := fun i hi => by simp only [TC.mods]; exact List.mem_append_right _ (List.mem_append_right _ hi)
    have up : ∀ {M : List Nat} {F1 : SF} (hs : Stay (TC.cond x a b).mods F F1) (hm : ∀ i ∈ M, i ∈ (TC.cond x a b).mods) e fr' S', Down M F1 Q e fr' S' → Down (TC.cond x a b).mods F Q e fr' S' := by
      rintro M F1 hs hm e fr' S' ⟨F2, g1, g2, g3⟩
      exact ⟨F2, g1, hs.trans (g2.mono hm), g3⟩
    have goA : ∀ F1, Le F1 fr → Stay (TC.cond x a b).mods F F1 → x.ev fr = .bool true → wpT P ok a Q F1 S → wpA ok (CallA P) (LoopA P) (TC.cond x a b).erase (Down (TC.cond x a b).mods F Q) fr S := by
      intro F1 hF1 hs hx hw
      simp only [TC.erase, wpA, hx, if_true]
      exact mono _ _ _ (up hs ma) _ _ (iha hk.1 _ _ fr S hF1 hw)
    have goB : ∀ F1, Le F1 fr → Stay (TC.cond x a b).mods F F1 → x.ev fr = .bool false → wpT P ok b Q F1 S → wpA ok (CallA P) (LoopA P) (TC.cond x a b).erase (Down (TC.cond x a b).mods F Q) fr S := by
      intro F1 hF1 hs hx hw
      simp only [TC.erase, wpA, hx, Bool.false_eq_true, if_false]
      exact mono _ _ _ (up hs mb) _ _ (ihb hk.2 _ _ fr S hF1 hw)
    simp only [wpT, condT] at h
    split at h
    · rename_i i
      have hi := hF.at_ i
      have mi : i ∈ (TC.cond (.tmp i) a b).mods := by simp [TC.mods, xslots]
      split at h
      · rename_i hc; rw [hc] at hi
        exact goA F hF (Stay.refl _ _) hi h
      · rename_i hc; rw [hc] at hi
        exact goB F hF (Stay.refl _ _) hi h
      · rename_i c hc; rw [hc] at hi; simp only [Cell.Le] at hi
        have hb := ifC_ok h
        cases c with
        | true => exact goA _ (hF.refine i (c := .tt) hi) (Stay.set F _ mi) hi hb
        | false => exact goB _ (hF.refine i (c := .ff) hi) (Stay.set F _ mi) hi hb
      · exact h.elim
    · rename_i c
      cases c with
      | true => exact goA F hF (Stay.refl _ _) rfl h
      | false => exact goB F hF (Stay.refl _ _) rfl h
    · exact h.elim
  | block id a iha =>
    intro hk Q F fr S hF h
    simp only [TC.okL] at hk
    simp only [TC.erase, wpA]
    refine mono _ _ _ ?_ _ _ (iha hk _ F fr S hF h)
    rintro e fr' S' ⟨F', h1, h2, h3⟩
    cases e with
    | normal => exact ⟨F', h1, h2, h3⟩
    | exit j =>
      simp only [blockT] at h3
      simp only
      split at h3
      · rename_i hj _; rw [if_pos hj]; exact ⟨F', h1, h2, h3⟩
      · rename_i hj _; rw [if_neg hj]; exact ⟨F', h1, h2, h3⟩
    | ret => exact ⟨F', h1, h2, h3⟩
    | panic v => exact ⟨F', h1, h2, h3⟩
  | loop l a iha =>
    intro hk Q F fr S hF h
    simp only [TC.okL, Bool.and_eq_true] at hk
    simp only [TC.erase, wpA]
    obtain ⟨x0, h0, hl0⟩ := unLive_ok hF h
    obtain ⟨J, ⟨n, hn⟩, hJ⟩ := loopN_ok _ _ _ _ h0
    have hs0 : Le (setLive l (toVs (tysOf l) x0) (clearT a.mods F)) fr := hl0 _ (clearT_le hF ⟨rfl, fun _ _ => rfl⟩)
    refine LoopA.ind hok (fun n fr' S' => ∃ x, J n x S' ∧ Le (setLive l (toVs (tysOf l) x) (clearT a.mods F)) fr') ?_ n fr S ⟨x0, hn, hs0⟩
    rintro n fr' S' ⟨x, hx, hF'⟩
    have hbody := hJ n x S' hx
    refine mono _ _ _ ?_ _ _ (iha hk.2 _ _ fr' S' hF' hbody)
    rintro e fr2 S2 ⟨F2, h1, h2, h3⟩
    have hst : Stay a.mods F F2 := (headStay hk.1 _ F).trans h2
    cases e with
    | normal =>
      obtain ⟨x', ⟨k, hkn, hx'⟩, hl'⟩ := unLive_ok h1 h3
      exact ⟨k, hkn, x', hx', hl' _ (clearT_le h1 hst)⟩
    | exit j => exact ⟨F2, h1, hst, h3⟩
    | ret => exact ⟨F2, h1, hst, h3⟩
    | panic v => exact ⟨F2, h1, hst, h3⟩
  | exit id => intro _ Q F fr S hF h; exact ⟨F, hF, Stay.refl _ _, h⟩
  | ret => intro _ Q F fr S hF h; exact ⟨F, hF, Stay.refl _ _, h⟩

/-! ## functions -/
def unC : (ts : List Ty) → List V → Cur ts → St → Prop
  | [], vs, K, S => match vs with
    | [] => K S
    | _ :: _ => False
  | t :: ts, vs, K, S => match vs with
    | [] => False
    | v :: vs => unTy t v fun x => unC ts vs (K x) S

theorem unC_ok : ∀ {ts : List Ty} {vs : List V} {K : Cur ts} {S : St} {mk : List V → V}, unC ts vs K S → Ret ts mk K (.ret (mk vs)) S
  | [], vs, K, S, mk, h => by
    cases vs with
    | nil => exact ⟨rfl, h⟩
    | cons v vs => exact h.elim
  | t :: ts, vs, K, S, mk, h => by
    cases vs with
    | nil => exact h.elim
    | cons v vs =>
      have h' : unTy t v (fun x => unC ts vs (K x) S) := h
      obtain ⟨x, rfl, h2⟩ := unTy_ok h'
      exact ⟨x, unC_ok (mk := fun vs => mk (t.toV x :: vs)) h2⟩

/-- The results' cells. -/
def resT (F : SF) (S : St) : List ARes → List DT → (List V → Prop) → Prop
  | [], [], k => k []
  | .tmp t :: rs, .one _ :: ds, k => need (cellAt F t) fun v => resT F S rs ds fun vs => k (v :: vs)
  | .tmp t :: rs, .agg ts :: ds, k => need (cellAt F t) fun v => match v with
    | .agg cs => ifD (Nat.decEq cs.length ts.length) (resT F S rs ds fun vs => k (cs ++ vs))
    | _ => False
  | .cell1 t :: rs, .one ty :: ds, k => need (cellAt F t) fun p => exTy ty fun v => cell1V S p = some v ∧ resT F S rs ds fun vs => k (v :: vs)
  | .cellN t n :: rs, .agg ts :: ds, k => need (cellAt F t) fun p => exTys ts fun cs => cellNV S n p = some (.agg cs) ∧ ifD (Nat.decEq cs.length ts.length) (resT F S rs ds fun vs => k (cs ++ vs))
  | _, _, _ => False

theorem resT_ok {F : SF} {fr : List V} {S : St} (hF : Le F fr) : ∀ {rs : List ARes} {ds : List DT} {k : List V → Prop}, resT F S rs ds k → ∃ us vs, ARes.gets fr S rs = some us ∧ us = group ds vs ∧ k vs
  | [], [], k, h => ⟨[], [], rfl, rfl, h⟩
  | .tmp t :: rs, .one ty :: ds, k, h => by
    have h1 := need_ok (hF.at_ t) h
    obtain ⟨us, vs, h2, h3, h4⟩ := resT_ok hF h1
    exact ⟨_, _, by rw [gets_tmp, h2]; rfl, by simp only [group, ← h3], h4⟩
  | .tmp t :: rs, .agg ts :: ds, k, h => by
    have h1 := need_ok (hF.at_ t) h
    split at h1
    · rename_i cs hg
      obtain ⟨hl, h1⟩ := ifD_ok h1
      obtain ⟨us, vs, h2, h3, h4⟩ := resT_ok hF h1
      refine ⟨_, _, by rw [gets_tmp, h2]; rfl, ?_, h4⟩
      simp only [group]
      rw [List.take_left' hl, List.drop_left' hl, ← h3, hg]
    · exact h1.elim
  | .cell1 t :: rs, .one ty :: ds, k, h => by
    obtain ⟨v, h1, h5⟩ := exTy_ok (need_ok (hF.at_ t) h)
    obtain ⟨us, vs, h2, h3, h4⟩ := resT_ok hF h5
    exact ⟨_, _, by rw [gets_cell1, h1, h2]; rfl, by simp only [group, ← h3], h4⟩
  | .cellN t n :: rs, .agg ts :: ds, k, h => by
    obtain ⟨cs, h1, h5⟩ := exTys_ok (need_ok (hF.at_ t) h)
    obtain ⟨hl, h5⟩ := ifD_ok h5
    obtain ⟨us, vs, h2, h3, h4⟩ := resT_ok hF h5
    refine ⟨_, _, by rw [gets_cellN, h1, h2]; rfl, ?_, h4⟩
    simp only [group]
    rw [List.take_left' hl, List.drop_left' hl, ← h3]
  | [], _ :: _, k, h => h.elim
  | .tmp _ :: _, [], k, h => h.elim
  | .cell1 _ :: _, [], k, h => h.elim
  | .cellN _ _ :: _, [], k, h => h.elim
  | .cell1 _ :: _, .agg _ :: _, k, h => h.elim
  | .cellN _ _ :: _, .one _ :: _, k, h => h.elim

def endT (rs : List ARes) (ds : List DT) (K : Cur (flats ds)) : PostT := fun e F S =>
  match e with
  | .normal => resT F S rs ds fun vs => unC (flats ds) vs K S
  | .ret => resT F S rs ds fun vs => unC (flats ds) vs K S
  | _ => False

def startT : List V → List Cell
  | [] => []
  | v :: vs => .val v :: startT vs

theorem startT_le {args : List V} {n : Nat} : Le (startT args ++ List.replicate n .none) (args ++ List.replicate n .undef) := by
  induction args with
  | nil =>
    refine ⟨by simp [startT], fun i => ?_⟩
    have : ∀ (n i : Nat), cellAt (List.replicate n Cell.none) i = .none := by
      intro n
      induction n with
      | zero => intro i; rfl
      | succ n ih => intro i; cases i with
        | zero => rfl
        | succ i => exact ih i
    simp only [startT, List.nil_append, this]
    trivial
  | cons v vs ih =>
    refine ⟨by simpa [startT] using ih.len, fun i => ?_⟩
    cases i with
    | zero => rfl
    | succ i => exact ih.at_ i

/-- A function, read without frames. -/
theorem CallA.of_T {P : Program} {ok : Env} (hok : EnvOk P ok) {f : FuncId} {A : AF} (hA : afun P f = some A) {tc : TC} (ht : tc.erase = A.body) (hl : tc.okL = true) {args : List V} {S : St}
    {ds : List DT} {K : Cur (flats ds)} (h : wpT P ok tc (endT A.results ds K) (startT args ++ List.replicate (A.nt - args.length) .none) S) : CallA P f args S (retT ds K) := by
  refine CallA.of_body hok hA ?_
  rw [← ht]
  refine wpA_mono (fun f args S Q Q' hq h => h.mono hq) (fun ac Q Q' fr S hq h => h.mono hq) _ _ _ ?_ _ _ (wpT_ok hok tc hl _ _ _ S startT_le h)
  rintro e fr' S' ⟨F', h1, h2, h3⟩
  cases e with
  | normal =>
    obtain ⟨us, vs, g1, g2, g3⟩ := resT_ok h1 h3
    rw [endQ_normal, g1, g2]
    exact unC_ok (mk := fun vs => tupled (group ds vs)) g3
  | ret =>
    obtain ⟨us, vs, g1, g2, g3⟩ := resT_ok h1 h3
    rw [endQ_ret, g1, g2]
    exact unC_ok (mk := fun vs => tupled (group ds vs)) g3
  | exit j => exact h3.elim
  | panic v => exact h3.elim

theorem CallA.of_TP {P : Program} {f : FuncId} {A : AF} (hA : afun P f = some A) {tc : TC} (ht : tc.erase = A.body) (hl : tc.okL = true) {args : List V} {S : St}
    {ds : List DT} {K : Cur (flats ds)} (h : wpT P (envP P) tc (endT A.results ds K) (startT args ++ List.replicate (A.nt - args.length) .none) S) : CallA P f args S (retT ds K) :=
  CallA.of_T (envP_ok P) hA ht hl h

end Go.Th
end

section
/- Types and live slots laid over a function's abstract code, out of a short list; what a printed reading of a function says of the program. -/
set_option linter.unusedVariables false
namespace Go.Th
open Go

abbrev ItL := List (Nat × Ann × List DT)
abbrev JtL := List (Nat × List (Nat × DT))
abbrev LtL := List (List (Nat × DT))

def annI : List AI → ItL → List TI × ItL
  | [], s => ([], s)
  | i :: r, s =>
    match s with
    | [] => let q := annI r []; (⟨i, .no, []⟩ :: q.1, q.2)
    | (0, a, ds) :: s => let q := annI r s; (⟨i, a, ds⟩ :: q.1, q.2)
    | (n + 1, a, ds) :: s => let q := annI r ((n, a, ds) :: s); (⟨i, .no, []⟩ :: q.1, q.2)
def annO : OT → ItL → TT × ItL
  | .done, s => (.done, s)
  | .step n ds i r, s =>
    match s with
    | [] => let q := annO r []; (.step n ds ⟨i, .no, []⟩ q.1, q.2)
    | (0, a, d) :: s => let q := annO r s; (.step n ds ⟨i, a, d⟩ q.1, q.2)
    | (k + 1, a, d) :: s => let q := annO r ((k, a, d) :: s); (.step n ds ⟨i, .no, []⟩ q.1, q.2)
  | .both a b, s => let q := annO a s; let w := annO b q.2; (.both q.1 w.1, w.2)
def annC : AC → ItL → JtL → LtL → TC × ItL × JtL × LtL
  | .skip, s, j, l => (.skip, s, j, l)
  | .region r, s, j, l => let q := annI r s; (.region q.1, q.2, j, l)
  | .draw t, s, j, l => let q := annO t s; (.draw q.1, q.2, j, l)
  | .seq a b, s, j, l =>
    match j with
    | [] => let q := annC a s [] l; let w := annC b q.2.1 q.2.2.1 q.2.2.2; (.seq q.1 w.1, w.2)
    | (0, lv) :: j => let q := annC a s j l; let w := annC b q.2.1 q.2.2.1 q.2.2.2; (.join lv q.1 w.1, w.2)
    | (n + 1, lv) :: j => let q := annC a s ((n, lv) :: j) l; let w := annC b q.2.1 q.2.2.1 q.2.2.2; (.seq q.1 w.1, w.2)
  | .cond x a b, s, j, l => let q := annC a s j l; let w := annC b q.2.1 q.2.2.1 q.2.2.2; (.cond x q.1 w.1, w.2)
  | .block i a, s, j, l => let q := annC a s j l; (.block i q.1, q.2)
  | .loop a, s, j, l => let q := annC a s j l.tail; (.loop (l.headD []) q.1, q.2)
  | .exit i, s, j, l => (.exit i, s, j, l)
  | .ret, s, j, l => (.ret, s, j, l)

theorem annI_er : ∀ (l : List AI) (s : ItL), erI (annI l s).1 = l
  | [], _ => rfl
  | i :: r, s => by
    unfold annI
    split <;> simp only [erI, annI_er r]
theorem annO_er : ∀ (t : OT) (s : ItL), (annO t s).1.erase = t
  | .done, _ => rfl
  | .step n ds i r, s => by
    unfold annO
    split <;> simp only [TT.erase, annO_er r]
  | .both a b, s => by simp only [annO, TT.erase, annO_er a, annO_er b]
theorem annC_er : ∀ (c : AC) (s : ItL) (j : JtL) (l : LtL), (annC c s j l).1.erase = c
  | .skip, _, _, _ | .exit _, _, _, _ | .ret, _, _, _ => rfl
  | .region r, s, _, _ => by simp only [annC, TC.erase, annI_er]
  | .draw t, s, _, _ => by simp only [annC, TC.erase, annO_er]
  | .seq a b, s, j, l => by
    unfold annC
    split <;> simp only [TC.erase, annC_er a, annC_er b]
  | .cond x a b, s, j, l => by simp only [annC, TC.erase, annC_er a, annC_er b]
  | .block i a, s, j, l => by simp only [annC, TC.erase, annC_er a]
  | .loop a, s, j, l => by simp only [annC, TC.erase, annC_er a]

def tcOf (A : AF) (s : ItL) (j : JtL) (l : LtL) : TC := (annC A.body s j l).1
def afn (P : Program) (f : FuncId) : AF := (afun P f).getD ⟨0, [], .skip⟩
/-- Where a call begins. -/
def frT (A : AF) (args : List V) : SF := startT args ++ List.replicate (A.nt - args.length) .none

theorem afn_ok {P : Program} {f : FuncId} (h : (afun P f).isSome = true) : afun P f = some (afn P f) := by
  unfold afn
  cases ha : afun P f with
  | none => rw [ha] at h; cases h
  | some A => rfl

/-- The function is there, its slots are in order, and it reads so. -/
def Reads (P : Program) (f : FuncId) (s : ItL) (j : JtL) (l : LtL) {α : Type} (W : AF → TC → α) (p : α) : Prop :=
  ((afun P f).isSome, (tcOf (afn P f) s j l).okL, W (afn P f) (tcOf (afn P f) s j l)) = (true, true, p)

theorem Reads.of {P : Program} {f : FuncId} {s : ItL} {j : JtL} {l : LtL} {α : Type} {W : AF → TC → α} {p : α} (h : ((afun P f).isSome, (tcOf (afn P f) s j l).okL, W (afn P f) (tcOf (afn P f) s j l)) = (true, true, p)) : Reads P f s j l W p := h

theorem Reads.run {P : Program} {f : FuncId} {s : ItL} {j : JtL} {l : LtL} {α : Type} {W : AF → TC → α} {p : α} (h : Reads P f s j l W p) {args : List V} {S : St} {ds : List DT} {K : Cur (flats ds)} (ap : α → Prop)
    (hp : ap p) (he : ap (W (afn P f) (tcOf (afn P f) s j l)) = wpT P (envP P) (tcOf (afn P f) s j l) (endT (afn P f).results ds K) (frT (afn P f) args) S) : CallA P f args S (retT ds K) := by
  unfold Reads at h
  rw [Prod.mk.injEq, Prod.mk.injEq] at h
  refine CallA.of_TP (afn_ok h.1) (annC_er _ _ _ _) h.2.1 ?_
  rw [← h.2.2] at hp
  exact Eq.mp he hp

end Go.Th
end

section
/- Keys of the functions' names (printed by tools/lib.py). -/
namespace Go.Th.L
abbrev Fn.law16_CodecRecords : Nat := 1
abbrev Fn.codec_Encode : Nat := 2
abbrev Fn.ref16_Encode : Nat := 3
abbrev Fn.keep_LendBytes : Nat := 4
abbrev Fn.codec_Decode : Nat := 5
abbrev Fn.codec_Sum : Nat := 6
abbrev Fn.keep_BackBytes : Nat := 7
abbrev Fn.ref16_Decode : Nat := 8
abbrev Fn.law16_awake : Nat := 9
abbrev Fn.keep_Bytes : Nat := 10
abbrev Fn.ref16_Sum : Nat := 11
abbrev Fn.law16_CodecTexts : Nat := 12
abbrev Fn.law16_big : Nat := 13
abbrev Fn.keep_Lend : Nat := 14
abbrev Fn.codec_PutChange : Nat := 15
abbrev Fn.keep_Back : Nat := 16
abbrev Fn.ref16_PutChange : Nat := 17
abbrev Fn.keep_LendRows : Nat := 18
abbrev Fn.codec_PutRows : Nat := 19
abbrev Fn.keep_BackRows : Nat := 20
abbrev Fn.ref16_PutRows : Nat := 21
abbrev Fn.law16_CodecSpoilt : Nat := 22
abbrev Fn.law16_CodecReads : Nat := 23
abbrev Fn.codec_GetChange : Nat := 24
abbrev Fn.ref16_GetChange : Nat := 25
abbrev Fn.codec_GetRows : Nat := 26
abbrev Fn.ref16_GetRows : Nat := 27
abbrev Fn.keep_Ints : Nat := 28
abbrev Fn.keep_Rows : Nat := 29
abbrev Fn.law16_CodecRound : Nat := 30
abbrev Fn.codec_lay : Nat := 31
abbrev Fn.codec_check : Nat := 32
abbrev Fn.ref16_number : Nat := 33
abbrev Fn.codec_reading_number : Nat := 34
abbrev Fn.codec_reading_cut : Nat := 35
abbrev Fn.ref16_get : Nat := 36
abbrev Fn.keep_Vectors : Nat := 37
abbrev Fn.codec_may : Nat := 38
abbrev Fn.ref03_Id : Nat := 39
abbrev Fn.ref03_Check : Nat := 40
abbrev Fn.ref16_coord : Nat := 41
abbrev Fn.flat_Check : Nat := 42
abbrev Fn.codec_rising : Nat := 43
abbrev Fn.ref05_Check : Nat := 44
abbrev Fn.codec_reading_coords : Nat := 45
abbrev Fn.ref16_coords : Nat := 46
abbrev Fn.vec_Check : Nat := 47
abbrev Fn.ref03_Rows : Nat := 48
abbrev Fn.codec_reading_coords_1 : Nat := 49
abbrev Fn.vec_dim : Nat := 50
abbrev Fn.law02_TopkLess : Nat := 51
abbrev Fn.topk_Less : Nat := 52
abbrev Fn.ref02_Less : Nat := 53
abbrev Fn.law02_awake : Nat := 54
abbrev Fn.law02_TopkMerges : Nat := 55
abbrev Fn.law02_total : Nat := 56
abbrev Fn.law02_hit : Nat := 57
abbrev Fn.topk_Merge : Nat := 58
abbrev Fn.ref02_Same : Nat := 59
abbrev Fn.law02_spoil : Nat := 60
abbrev Fn.ref02_First : Nat := 61
abbrev Fn.law02_TopkOrder : Nat := 62
abbrev Fn.topk_New : Nat := 63
abbrev Fn.topk_Heap_Offer : Nat := 64
abbrev Fn.topk_Heap_List : Nat := 65
abbrev Fn.law02_TopkOffers : Nat := 66
abbrev Fn.ref02_With : Nat := 67
abbrev Fn.topk_Heap_Worst : Nat := 68
abbrev Fn.topk_Heap_Len : Nat := 69
abbrev Fn.topk_Heap_Full : Nat := 70
abbrev Fn.law02_TopkNil : Nat := 71
abbrev Fn.topk_compare : Nat := 72
abbrev Fn.topk_together_api_Hit : Nat := 73
abbrev Fn.ref02_Sorted : Nat := 74
abbrev Fn.container_heap_Push : Nat := 75
abbrev Fn.container_heap_Fix : Nat := 76
abbrev Fn.ty_ptopk_hits : Nat := 77
abbrev Fn.ty_api_Hit : Nat := 78
abbrev Fn.slices_Clone_Lapi_Hit : Nat := 79
abbrev Fn.slices_SortFunc_Lapi_Hit : Nat := 80
abbrev Fn.wide_Cmp : Nat := 81
abbrev Fn.cmp_Compare_int : Nat := 82
abbrev Fn.cmp_Or_int : Nat := 83
abbrev Fn.container_heap_up : Nat := 84
abbrev Fn.container_heap_down : Nat := 85
abbrev Fn.math_bits_Len : Nat := 86
abbrev Fn.slices_pdqsortCmpFunc_api_Hit : Nat := 87
abbrev Fn.cmp_isNaN_int : Nat := 88
abbrev Fn.slices_insertionSortCmpFunc_api_Hit : Nat := 89
abbrev Fn.slices_heapSortCmpFunc_api_Hit : Nat := 90
abbrev Fn.slices_breakPatternsCmpFunc_api_Hit : Nat := 91
abbrev Fn.slices_choosePivotCmpFunc_api_Hit : Nat := 92
abbrev Fn.slices_reverseRangeCmpFunc_api_Hit : Nat := 93
abbrev Fn.slices_partialInsertionSortCmpFunc_api_Hit : Nat := 94
abbrev Fn.slices_partitionEqualCmpFunc_api_Hit : Nat := 95
abbrev Fn.slices_partitionCmpFunc_api_Hit : Nat := 96
abbrev Fn.math_bits_Len32 : Nat := 97
abbrev Fn.math_bits_Len64 : Nat := 98
abbrev Fn.slices_siftDownCmpFunc_api_Hit : Nat := 99
abbrev Fn.slices_nextPowerOfTwo : Nat := 100
abbrev Fn.slices_xorshift_Next : Nat := 101
abbrev Fn.slices_medianAdjacentCmpFunc_api_Hit : Nat := 102
abbrev Fn.slices_medianCmpFunc_api_Hit : Nat := 103
abbrev Fn.slices_order2CmpFunc_api_Hit : Nat := 104
abbrev Fn.topk_hits_Len : Nat := 105
abbrev Fn.topk_hits_Less : Nat := 106
abbrev Fn.topk_hits_Swap : Nat := 107
abbrev Fn.topk_hits_Push : Nat := 108
abbrev Fn.law03_VecDists : Nat := 109
abbrev Fn.vec_Dist : Nat := 110
abbrev Fn.ref03_Dist : Nat := 111
abbrev Fn.law03_awake : Nat := 112
abbrev Fn.law03_VecBounds : Nat := 113
abbrev Fn.law03_big : Nat := 114
abbrev Fn.vec_Inside : Nat := 115
abbrev Fn.vec_Bound : Nat := 116
abbrev Fn.ref01_Less : Nat := 117
abbrev Fn.law03_VecMoves : Nat := 118
abbrev Fn.law03_VecScale : Nat := 119
abbrev Fn.ref01_Add : Nat := 120
abbrev Fn.law03_VecTriangle : Nat := 121
abbrev Fn.ref03_Root : Nat := 122
abbrev Fn.law03_VecShapes : Nat := 123
abbrev Fn.vec_Box : Nat := 124
abbrev Fn.vec_Ball : Nat := 125
abbrev Fn.ref03_Box : Nat := 126
abbrev Fn.ref03_Ball : Nat := 127
abbrev Fn.ref03_Same : Nat := 128
abbrev Fn.law03_VecHolds : Nat := 129
abbrev Fn.vec_far : Nat := 130
abbrev Fn.ref03_Far : Nat := 131
abbrev Fn.law03_box : Nat := 132
abbrev Fn.law03_ball : Nat := 133
abbrev Fn.law03_lo : Nat := 134
abbrev Fn.vec_CheckRegion : Nat := 135
abbrev Fn.vec_both : Nat := 136
abbrev Fn.vec_Inside_1 : Nat := 137
abbrev Fn.vec_plus : Nat := 138
abbrev Fn.wide_Sqrt : Nat := 139
abbrev Fn.wide_Mul : Nat := 140
abbrev Fn.ref03_Inside : Nat := 141
abbrev Fn.ref03_CheckRegion : Nat := 142
abbrev Fn.ref03_In : Nat := 143
abbrev Fn.ref03_Bound : Nat := 144
abbrev Fn.ref03_Near : Nat := 145
abbrev Fn.ref03_form : Nat := 146
abbrev Fn.ref03_ids : Nat := 147
abbrev Fn.ref01_Of : Nat := 148
abbrev Fn.ref01_Cmp : Nat := 149
abbrev Fn.ref01_Mul : Nat := 150
abbrev Fn.vec_ids : Nat := 151
abbrev Fn.slices_Clone_Lint : Nat := 152
abbrev Fn.ref03_Ids : Nat := 153
abbrev Fn.ref03_Ints : Nat := 154
abbrev Fn.ref03_Square : Nat := 155
abbrev Fn.ref03_Sum : Nat := 156
abbrev Fn.wide_Add : Nat := 157
abbrev Fn.math_bits_Mul64 : Nat := 158
abbrev Fn.ref01_Num_Plus : Nat := 159
abbrev Fn.ref01_Num_plus : Nat := 160
abbrev Fn.ref01_Num_Wide : Nat := 161
abbrev Fn.ref01_Num_Times : Nat := 162
abbrev Fn.slices_Sort_Lint : Nat := 163
abbrev Fn.ref03_With : Nat := 164
abbrev Fn.slices_pdqsortOrdered_int : Nat := 165
abbrev Fn.slices_insertionSortOrdered_int : Nat := 166
abbrev Fn.slices_heapSortOrdered_int : Nat := 167
abbrev Fn.slices_breakPatternsOrdered_int : Nat := 168
abbrev Fn.slices_choosePivotOrdered_int : Nat := 169
abbrev Fn.slices_reverseRangeOrdered_int : Nat := 170
abbrev Fn.slices_partialInsertionSortOrdered_int : Nat := 171
abbrev Fn.cmp_Less_int : Nat := 172
abbrev Fn.slices_partitionEqualOrdered_int : Nat := 173
abbrev Fn.slices_partitionOrdered_int : Nat := 174
abbrev Fn.slices_siftDownOrdered_int : Nat := 175
abbrev Fn.slices_medianAdjacentOrdered_int : Nat := 176
abbrev Fn.slices_medianOrdered_int : Nat := 177
abbrev Fn.slices_order2Ordered_int : Nat := 178
abbrev Fn.law03_VecRegions : Nat := 179
end Go.Th.L
end

section
/- Functions of cmp, read without frames (printed by tools/lib.py). -/
set_option linter.unusedVariables false
set_option maxRecDepth 100000
set_option maxHeartbeats 2000000
namespace Go.Th.L
open Go Go.Th

def cmp_Or_int.p (P : Program) (N : Nat → Nat) (x0 : V) (S : St) (K : Int → St → Prop) : Prop :=
  ∃ x7 : Int, lenV S 2 x0 = some (V.int .i64 x7) ∧ Loop1 (fun (k1 : Int → St → Prop) (x8 : Int) (S1 : St) => ifC (decide (x8 < x7)) (ifS (idxAddrV 1 x0 (V.int .i64 x8)) fun x10 => ∃ x11 : Int, loadV S1 x10 = some (V.int .i64 x11) ∧ ifC (!decide (x11 = (0 : Int))) (K x11 S1) (setI (IntKind.i64.wrap (x8 + (1 : Int))) fun x16 => k1 x16 S1)) (K 0 S1)) 0 S
abbrev cmp_Or_int.Ok (P : Program) (N : Nat → Nat) : Prop := Reads P (N Fn.cmp_Or_int) [(3, (.dt (.one (.int .i64))), []), (3, (.dt (.one (.int .i64))), [])] [] [[(8, (.one (.int .i64)))]] (fun A T (x0 : V) (S : St) (K : Int → St → Prop) => wpT P (envP P) T (endT A.results [(.one (.int .i64))] K) (frT A [x0]) S) (fun x0 S K => cmp_Or_int.p P N x0 S K)
theorem cmp_Or_int.run {P : Program} {N : Nat → Nat} (hF : cmp_Or_int.Ok P N) {x0 : V} {S : St} {K : Int → St → Prop} (h : cmp_Or_int.p P N x0 S K) : CallA P (N Fn.cmp_Or_int) [x0] S (retT [(.one (.int .i64))] K) := hF.run (fun q => q x0 S K) h rfl

def cmp_Compare_int.p (P : Program) (N : Nat → Nat) (x0 : Int) (x1 : Int) (S : St) (K : Int → St → Prop) : Prop :=
  CallA P (N Fn.cmp_isNaN_int) [(V.int .i64 x0)] S (retT [(.one .bool)] fun (x8 : Bool) (S1 : St) => CallA P (N Fn.cmp_isNaN_int) [(V.int .i64 x1)] S1 (retT [(.one .bool)] fun (x10 : Bool) (S2 : St) => ifC x8 (ifC x10 (K 0 S2) (K (-1) S2)) (ifC x10 (K 1 S2) (ifC (decide (x0 < x1)) (K (-1) S2) (ifC (decide (x1 < x0)) (K 1 S2) (K 0 S2))))))
abbrev cmp_Compare_int.Ok (P : Program) (N : Nat → Nat) : Prop := Reads P (N Fn.cmp_Compare_int) [(2, .no, [(.one .bool)]), (2, .no, [(.one .bool)])] [] [] (fun A T (x0 : Int) (x1 : Int) (S : St) (K : Int → St → Prop) => wpT P (envP P) T (endT A.results [(.one (.int .i64))] K) (frT A [(V.int .i64 x0), (V.int .i64 x1)]) S) (fun x0 x1 S K => cmp_Compare_int.p P N x0 x1 S K)
theorem cmp_Compare_int.run {P : Program} {N : Nat → Nat} (hF : cmp_Compare_int.Ok P N) {x0 : Int} {x1 : Int} {S : St} {K : Int → St → Prop} (h : cmp_Compare_int.p P N x0 x1 S K) : CallA P (N Fn.cmp_Compare_int) [(V.int .i64 x0), (V.int .i64 x1)] S (retT [(.one (.int .i64))] K) := hF.run (fun q => q x0 x1 S K) h rfl

def cmp_isNaN_int.p (P : Program) (N : Nat → Nat) (x0 : Int) (S : St) (K : Bool → St → Prop) : Prop :=
  K (!decide (x0 = x0)) S
abbrev cmp_isNaN_int.Ok (P : Program) (N : Nat → Nat) : Prop := Reads P (N Fn.cmp_isNaN_int) [] [] [] (fun A T (x0 : Int) (S : St) (K : Bool → St → Prop) => wpT P (envP P) T (endT A.results [(.one .bool)] K) (frT A [(V.int .i64 x0)]) S) (fun x0 S K => cmp_isNaN_int.p P N x0 S K)
theorem cmp_isNaN_int.run {P : Program} {N : Nat → Nat} (hF : cmp_isNaN_int.Ok P N) {x0 : Int} {S : St} {K : Bool → St → Prop} (h : cmp_isNaN_int.p P N x0 S K) : CallA P (N Fn.cmp_isNaN_int) [(V.int .i64 x0)] S (retT [(.one .bool)] K) := hF.run (fun q => q x0 S K) h rfl

def cmp_Less_int.p (P : Program) (N : Nat → Nat) (x0 : Int) (x1 : Int) (S : St) (K : Bool → St → Prop) : Prop :=
  CallA P (N Fn.cmp_isNaN_int) [(V.int .i64 x0)] S (retT [(.one .bool)] fun (x6 : Bool) (S1 : St) => ifC x6 (CallA P (N Fn.cmp_isNaN_int) [(V.int .i64 x1)] S1 (retT [(.one .bool)] fun (x9 : Bool) (S2 : St) => ifC (!x9) (K true S2) (K (decide (x0 < x1)) S2))) (K (decide (x0 < x1)) S1))
abbrev cmp_Less_int.Ok (P : Program) (N : Nat → Nat) : Prop := Reads P (N Fn.cmp_Less_int) [(2, .no, [(.one .bool)]), (2, .no, [(.one .bool)])] [] [] (fun A T (x0 : Int) (x1 : Int) (S : St) (K : Bool → St → Prop) => wpT P (envP P) T (endT A.results [(.one .bool)] K) (frT A [(V.int .i64 x0), (V.int .i64 x1)]) S) (fun x0 x1 S K => cmp_Less_int.p P N x0 x1 S K)
theorem cmp_Less_int.run {P : Program} {N : Nat → Nat} (hF : cmp_Less_int.Ok P N) {x0 : Int} {x1 : Int} {S : St} {K : Bool → St → Prop} (h : cmp_Less_int.p P N x0 x1 S K) : CallA P (N Fn.cmp_Less_int) [(V.int .i64 x0), (V.int .i64 x1)] S (retT [(.one .bool)] K) := hF.run (fun q => q x0 x1 S K) h rfl

end Go.Th.L
end

section
/- Functions of keep, read without frames (printed by tools/lib.py). -/
set_option linter.unusedVariables false
set_option maxRecDepth 100000
set_option maxHeartbeats 2000000
namespace Go.Th.L
open Go Go.Th

def keep_LendBytes.p (P : Program) (N : Nat → Nat) (x0 : V) (S : St) (K : V → St → Prop) : Prop :=
  ∃ x5 : Int, lenV S 2 x0 = some (V.int .i64 x5) ∧ setI (IntKind.i64.wrap (x5 + (2 : Int))) fun x6 => ifP (mkSliceV S 1 1 [(V.int .u8 0)] (V.int .i64 x6) (V.int .i64 x6)) fun x7 S1 => ifP (copyV S1 1 x7 x0) fun x10 S2 => ∃ x13 : Int, lenV S2 2 x0 = some (V.int .i64 x13) ∧ ifS (idxAddrV 1 x7 (V.int .i64 x13)) fun x14 => ifS (storeV S2 1 x14 (V.int .u8 165)) fun S3 => ∃ x17 : Int, lenV S3 2 x0 = some (V.int .i64 x17) ∧ setI (IntKind.i64.wrap (x17 + (1 : Int))) fun x18 => ifS (idxAddrV 1 x7 (V.int .i64 x18)) fun x19 => ifS (storeV S3 1 x19 (V.int .u8 90)) fun S4 => ∃ x22 : Int, lenV S4 2 x0 = some (V.int .i64 x22) ∧ ifS (sliceSlV 1 x7 none (some (V.int .i64 x22)) none) fun x23 => K x23 S4
abbrev keep_LendBytes.Ok (P : Program) (N : Nat → Nat) : Prop := Reads P (N Fn.keep_LendBytes) [(2, (.dt (.one (.int .i64))), []), (8, (.dt (.one (.int .i64))), []), (4, (.dt (.one (.int .i64))), []), (5, (.dt (.one (.int .i64))), [])] [] [] (fun A T (x0 : V) (S : St) (K : V → St → Prop) => wpT P (envP P) T (endT A.results [(.one .any)] K) (frT A [x0]) S) (fun x0 S K => keep_LendBytes.p P N x0 S K)
theorem keep_LendBytes.run {P : Program} {N : Nat → Nat} (hF : keep_LendBytes.Ok P N) {x0 : V} {S : St} {K : V → St → Prop} (h : keep_LendBytes.p P N x0 S K) : CallA P (N Fn.keep_LendBytes) [x0] S (retT [(.one .any)] K) := hF.run (fun q => q x0 S K) h rfl

def keep_BackBytes.p (P : Program) (N : Nat → Nat) (x0 : V) (x1 : V) (S : St) (K : Bool → St → Prop) : Prop :=
  ∃ x11 : Int, lenV S 2 x1 = some (V.int .i64 x11) ∧ setI (IntKind.i64.wrap (x11 + (2 : Int))) fun x12 => ifS (sliceSlV 1 x0 none (some (V.int .i64 x12)) none) fun x13 => Join1 (fun (k1 : Bool → St → Prop) => ∃ x16 : Int, lenV S 2 x1 = some (V.int .i64 x16) ∧ ifS (idxAddrV 1 x13 (V.int .i64 x16)) fun x17 => ∃ x18 : Int, loadV S x17 = some (V.int .u8 x18) ∧ ifC (decide (x18 = (165 : Int))) (∃ x23 : Int, lenV S 2 x1 = some (V.int .i64 x23) ∧ setI (IntKind.i64.wrap (x23 + (1 : Int))) fun x24 => ifS (idxAddrV 1 x13 (V.int .i64 x24)) fun x25 => ∃ x26 : Int, loadV S x25 = some (V.int .u8 x26) ∧ k1 (decide (x26 = (90 : Int))) S) (k1 false S)) (fun (x6 : Bool) (S1 : St) => Loop2 (fun (k2 : Bool → Int → St → Prop) (x6_1 : Bool) (x7 : Int) (S2 : St) => ∃ x31 : Int, lenV S2 2 x1 = some (V.int .i64 x31) ∧ ifC (decide (x7 < x31)) (ifC x6_1 (ifS (idxAddrV 1 x0 (V.int .i64 x7)) fun x39 => ∃ x40 : Int, loadV S2 x39 = some (V.int .u8 x40) ∧ ifS (idxAddrV 1 x1 (V.int .i64 x7)) fun x43 => ∃ x44 : Int, loadV S2 x43 = some (V.int .u8 x44) ∧ setI (IntKind.i64.wrap (x7 + (1 : Int))) fun x34 => k2 (decide (x40 = x44)) x34 S2) (setI (IntKind.i64.wrap (x7 + (1 : Int))) fun x34_1 => k2 false x34_1 S2)) (Loop1 (fun (k3 : Int → St → Prop) (x8 : Int) (S3 : St) => ∃ x49 : Int, lenV S3 2 x13 = some (V.int .i64 x49) ∧ ifC (decide (x8 < x49)) (ifS (idxAddrV 1 x13 (V.int .i64 x8)) fun x57 => ∃ x58 : Int, loadV S3 x57 = some (V.int .u8 x58) ∧ setI (IntKind.u8.wrap (x58 + (77 : Int))) fun x59 => ifS (idxAddrV 1 x13 (V.int .i64 x8)) fun x60 => ifS (storeV S3 1 x60 (V.int .u8 x59)) fun S4 => setI (IntKind.i64.wrap (x8 + (1 : Int))) fun x52 => k3 x52 S4) (K x6_1 S3)) 0 S2)) x6 0 S1)
abbrev keep_BackBytes.Ok (P : Program) (N : Nat → Nat) : Prop := Reads P (N Fn.keep_BackBytes) [(3, (.dt (.one (.int .i64))), []), (5, (.dt (.one (.int .i64))), []), (1, (.dt (.one (.int .u8))), []), (4, (.dt (.one (.int .i64))), []), (2, (.dt (.one (.int .u8))), []), (6, (.dt (.one (.int .i64))), []), (6, (.dt (.one (.int .u8))), []), (3, (.dt (.one (.int .u8))), []), (9, (.dt (.one (.int .i64))), []), (6, (.dt (.one (.int .u8))), [])] [(2, [(6, (.one .bool))])] [[(6, (.one .bool)), (7, (.one (.int .i64)))], [(8, (.one (.int .i64)))]] (fun A T (x0 : V) (x1 : V) (S : St) (K : Bool → St → Prop) => wpT P (envP P) T (endT A.results [(.one .bool)] K) (frT A [x0, x1]) S) (fun x0 x1 S K => keep_BackBytes.p P N x0 x1 S K)
theorem keep_BackBytes.run {P : Program} {N : Nat → Nat} (hF : keep_BackBytes.Ok P N) {x0 : V} {x1 : V} {S : St} {K : Bool → St → Prop} (h : keep_BackBytes.p P N x0 x1 S K) : CallA P (N Fn.keep_BackBytes) [x0, x1] S (retT [(.one .bool)] K) := hF.run (fun q => q x0 x1 S K) h rfl

def keep_Bytes.p (P : Program) (N : Nat → Nat) (x0 : V) (x1 : V) (S : St) (K : Bool → St → Prop) : Prop :=
  ∃ x7 : Int, lenV S 2 x0 = some (V.int .i64 x7) ∧ ∃ x9 : Int, lenV S 2 x1 = some (V.int .i64 x9) ∧ ifC (!decide (x7 = x9)) (K false S) (Loop1 (fun (k1 : Int → St → Prop) (x5 : Int) (S1 : St) => ∃ x13 : Int, lenV S1 2 x0 = some (V.int .i64 x13) ∧ ifC (decide (x5 < x13)) (ifS (idxAddrV 1 x0 (V.int .i64 x5)) fun x19 => ∃ x20 : Int, loadV S1 x19 = some (V.int .u8 x20) ∧ ifS (idxAddrV 1 x1 (V.int .i64 x5)) fun x23 => ∃ x24 : Int, loadV S1 x23 = some (V.int .u8 x24) ∧ ifC (!decide (x20 = x24)) (K false S1) (setI (IntKind.i64.wrap (x5 + (1 : Int))) fun x16 => k1 x16 S1)) (K true S1)) 0 S)
abbrev keep_Bytes.Ok (P : Program) (N : Nat → Nat) : Prop := Reads P (N Fn.keep_Bytes) [(2, (.dt (.one (.int .i64))), []), (1, (.dt (.one (.int .i64))), []), (5, (.dt (.one (.int .i64))), []), (4, (.dt (.one (.int .u8))), []), (3, (.dt (.one (.int .u8))), [])] [] [[(5, (.one (.int .i64)))]] (fun A T (x0 : V) (x1 : V) (S : St) (K : Bool → St → Prop) => wpT P (envP P) T (endT A.results [(.one .bool)] K) (frT A [x0, x1]) S) (fun x0 x1 S K => keep_Bytes.p P N x0 x1 S K)
theorem keep_Bytes.run {P : Program} {N : Nat → Nat} (hF : keep_Bytes.Ok P N) {x0 : V} {x1 : V} {S : St} {K : Bool → St → Prop} (h : keep_Bytes.p P N x0 x1 S K) : CallA P (N Fn.keep_Bytes) [x0, x1] S (retT [(.one .bool)] K) := hF.run (fun q => q x0 x1 S K) h rfl

def keep_Lend.p (P : Program) (N : Nat → Nat) (x0 : V) (S : St) (K : V → St → Prop) : Prop :=
  ∃ x5 : Int, lenV S 2 x0 = some (V.int .i64 x5) ∧ setI (IntKind.i64.wrap (x5 + (1 : Int))) fun x6 => ifP (mkSliceV S 1 8 [(V.int .i64 0)] (V.int .i64 x6) (V.int .i64 x6)) fun x7 S1 => ifP (copyV S1 1 x7 x0) fun x10 S2 => ∃ x13 : Int, lenV S2 2 x0 = some (V.int .i64 x13) ∧ ifS (idxAddrV 1 x7 (V.int .i64 x13)) fun x14 => ifS (storeV S2 1 x14 (V.int .i64 (-77))) fun S3 => ∃ x17 : Int, lenV S3 2 x0 = some (V.int .i64 x17) ∧ ifS (sliceSlV 1 x7 none (some (V.int .i64 x17)) none) fun x18 => K x18 S3
abbrev keep_Lend.Ok (P : Program) (N : Nat → Nat) : Prop := Reads P (N Fn.keep_Lend) [(2, (.dt (.one (.int .i64))), []), (8, (.dt (.one (.int .i64))), []), (4, (.dt (.one (.int .i64))), [])] [] [] (fun A T (x0 : V) (S : St) (K : V → St → Prop) => wpT P (envP P) T (endT A.results [(.one .any)] K) (frT A [x0]) S) (fun x0 S K => keep_Lend.p P N x0 S K)
theorem keep_Lend.run {P : Program} {N : Nat → Nat} (hF : keep_Lend.Ok P N) {x0 : V} {S : St} {K : V → St → Prop} (h : keep_Lend.p P N x0 S K) : CallA P (N Fn.keep_Lend) [x0] S (retT [(.one .any)] K) := hF.run (fun q => q x0 S K) h rfl

def keep_Back.p (P : Program) (N : Nat → Nat) (x0 : V) (x1 : V) (S : St) (K : Bool → St → Prop) : Prop :=
  Join1 (fun (k1 : Bool → St → Prop) => CallA P (N Fn.keep_Ints) [x0, x1] S (retT [(.one .bool)] fun (x9 : Bool) (S2 : St) => ifC x9 (∃ x13 : Int, lenV S2 2 x1 = some (V.int .i64 x13) ∧ setI (IntKind.i64.wrap (x13 + (1 : Int))) fun x14 => ifS (sliceSlV 1 x0 none (some (V.int .i64 x14)) none) fun x15 => ∃ x17 : Int, lenV S2 2 x1 = some (V.int .i64 x17) ∧ ifS (idxAddrV 1 x15 (V.int .i64 x17)) fun x18 => ∃ x19 : Int, loadV S2 x18 = some (V.int .i64 x19) ∧ k1 (decide (x19 = (-77 : Int))) S2) (k1 false S2))) (fun (x5 : Bool) (S1 : St) => ∃ x24 : Int, lenV S1 2 x1 = some (V.int .i64 x24) ∧ setI (IntKind.i64.wrap (x24 + (1 : Int))) fun x25 => ifS (sliceSlV 1 x0 none (some (V.int .i64 x25)) none) fun x26 => Loop1 (fun (k2 : Int → St → Prop) (x6 : Int) (S3 : St) => ∃ x29 : Int, lenV S3 2 x26 = some (V.int .i64 x29) ∧ ifC (decide (x6 < x29)) (ifS (idxAddrV 1 x26 (V.int .i64 x6)) fun x37 => ∃ x38 : Int, loadV S3 x37 = some (V.int .i64 x38) ∧ setI (intBits .xor .i64 x38 (85 : Int)) fun x39 => ifS (idxAddrV 1 x26 (V.int .i64 x6)) fun x40 => ifS (storeV S3 1 x40 (V.int .i64 x39)) fun S4 => setI (IntKind.i64.wrap (x6 + (1 : Int))) fun x32 => k2 x32 S4) (K x5 S3)) 0 S1)
abbrev keep_Back.Ok (P : Program) (N : Nat → Nat) : Prop := Reads P (N Fn.keep_Back) [(3, .no, [(.one .bool)]), (3, (.dt (.one (.int .i64))), []), (3, (.dt (.one (.int .i64))), []), (1, (.dt (.one (.int .i64))), []), (5, (.dt (.one (.int .i64))), []), (6, (.dt (.one (.int .i64))), []), (6, (.dt (.one (.int .i64))), [])] [(1, [(5, (.one .bool))])] [[(6, (.one (.int .i64)))]] (fun A T (x0 : V) (x1 : V) (S : St) (K : Bool → St → Prop) => wpT P (envP P) T (endT A.results [(.one .bool)] K) (frT A [x0, x1]) S) (fun x0 x1 S K => keep_Back.p P N x0 x1 S K)
theorem keep_Back.run {P : Program} {N : Nat → Nat} (hF : keep_Back.Ok P N) {x0 : V} {x1 : V} {S : St} {K : Bool → St → Prop} (h : keep_Back.p P N x0 x1 S K) : CallA P (N Fn.keep_Back) [x0, x1] S (retT [(.one .bool)] K) := hF.run (fun q => q x0 x1 S K) h rfl

def keep_LendRows.p (P : Program) (N : Nat → Nat) (x0 : V) (S : St) (K : V → St → Prop) : Prop :=
  ∃ x6 : Int, lenV S 2 x0 = some (V.int .i64 x6) ∧ setI (IntKind.i64.wrap (x6 + (1 : Int))) fun x7 => ifP (mkSliceV S 2 32 [(V.int .i64 0), V.nilSlice] (V.int .i64 x7) (V.int .i64 x7)) fun x8 S1 => Loop1 (fun (k1 : Int → St → Prop) (x4 : Int) (S2 : St) => ∃ x11 : Int, lenV S2 2 x0 = some (V.int .i64 x11) ∧ ifC (decide (x4 < x11)) (ifS (idxAddrV 2 x0 (V.int .i64 x4)) fun x19 => ifS (fieldAddrV 0 x19) fun x20 => ∃ x21 : Int, loadV S2 x20 = some (V.int .i64 x21) ∧ ifS (idxAddrV 2 x0 (V.int .i64 x4)) fun x24 => ifS (fieldAddrV 1 x24) fun x25 => ifS (loadV S2 x25) fun x26 => CallA P (N Fn.keep_Lend) [x26] S2 (retT [(.one .any)] fun (x27 : V) (S3 : St) => sameK (V.block x20 ++ []) S2 S3 (V.cells x27 = [x27] ∧ ifS (idxAddrV 2 x8 (V.int .i64 x4)) fun x29 => ifS (storeV S3 2 x29 (V.agg [(V.int .i64 x21), x27])) fun S4 => setI (IntKind.i64.wrap (x4 + (1 : Int))) fun x14 => k1 x14 S4))) (∃ x32 : Int, lenV S2 2 x0 = some (V.int .i64 x32) ∧ ifS (idxAddrV 2 x8 (V.int .i64 x32)) fun x34 => ifS (storeV S2 2 x34 (V.agg [(V.int .i64 (-77)), V.nilSlice])) fun S5 => ∃ x37 : Int, lenV S5 2 x0 = some (V.int .i64 x37) ∧ ifS (sliceSlV 2 x8 none (some (V.int .i64 x37)) none) fun x38 => K x38 S5)) 0 S1
abbrev keep_LendRows.Ok (P : Program) (N : Nat → Nat) : Prop := Reads P (N Fn.keep_LendRows) [(2, (.dt (.one (.int .i64))), []), (6, (.dt (.one (.int .i64))), []), (7, (.dt (.one (.int .i64))), []), (5, .no, [(.one .any)]), (0, (.dt (.agg [(.int .i64), .any])), []), (7, (.dt (.one (.int .i64))), []), (0, (.dt (.agg [(.int .i64), .any])), []), (4, (.dt (.one (.int .i64))), [])] [] [[(4, (.one (.int .i64)))]] (fun A T (x0 : V) (S : St) (K : V → St → Prop) => wpT P (envP P) T (endT A.results [(.one .any)] K) (frT A [x0]) S) (fun x0 S K => keep_LendRows.p P N x0 S K)
theorem keep_LendRows.run {P : Program} {N : Nat → Nat} (hF : keep_LendRows.Ok P N) {x0 : V} {S : St} {K : V → St → Prop} (h : keep_LendRows.p P N x0 S K) : CallA P (N Fn.keep_LendRows) [x0] S (retT [(.one .any)] K) := hF.run (fun q => q x0 S K) h rfl

def keep_BackRows.p (P : Program) (N : Nat → Nat) (x0 : V) (x1 : V) (S : St) (K : Bool → St → Prop) : Prop :=
  ∃ x9 : Int, lenV S 2 x1 = some (V.int .i64 x9) ∧ setI (IntKind.i64.wrap (x9 + (1 : Int))) fun x10 => ifS (sliceSlV 2 x0 none (some (V.int .i64 x10)) none) fun x11 => ∃ x14 : Int, lenV S 2 x1 = some (V.int .i64 x14) ∧ ifS (idxAddrV 2 x11 (V.int .i64 x14)) fun x15 => ifS (fieldAddrV 0 x15) fun x16 => ∃ x17 : Int, loadV S x16 = some (V.int .i64 x17) ∧ Loop2 (fun (k1 : Bool → Int → St → Prop) (x5 : Bool) (x6 : Int) (S1 : St) => ∃ x21 : Int, lenV S1 2 x1 = some (V.int .i64 x21) ∧ ifC (decide (x6 < x21)) (Join1 (fun (k2 : Bool → St → Prop) => ifC x5 (ifS (idxAddrV 2 x11 (V.int .i64 x6)) fun x29 => ifS (fieldAddrV 0 x29) fun x30 => ∃ x31 : Int, loadV S1 x30 = some (V.int .i64 x31) ∧ ifS (idxAddrV 2 x1 (V.int .i64 x6)) fun x34 => ifS (fieldAddrV 0 x34) fun x35 => ∃ x36 : Int, loadV S1 x35 = some (V.int .i64 x36) ∧ ifC (decide (x31 = x36)) (ifS (idxAddrV 2 x11 (V.int .i64 x6)) fun x42 => ifS (fieldAddrV 1 x42) fun x43 => ifS (loadV S1 x43) fun x44 => ifS (idxAddrV 2 x1 (V.int .i64 x6)) fun x47 => ifS (fieldAddrV 1 x47) fun x48 => ifS (loadV S1 x48) fun x49 => CallA P (N Fn.keep_Back) [x44, x49] S1 (retT [(.one .bool)] fun (x50 : Bool) (S3 : St) => sameK (V.block x35 ++ (V.block x30 ++ [])) S1 S3 (k2 x50 S3))) (k2 false S1)) (k2 false S1)) (fun (x5_1 : Bool) (S2 : St) => ifS (idxAddrV 2 x11 (V.int .i64 x6)) fun x55 => ifS (storeV S2 2 x55 (V.agg [(V.int .i64 5), V.nilSlice])) fun S4 => setI (IntKind.i64.wrap (x6 + (1 : Int))) fun x24 => k1 x5_1 x24 S4)) (K x5 S1)) (decide (x17 = (-77 : Int))) 0 S
abbrev keep_BackRows.Ok (P : Program) (N : Nat → Nat) : Prop := Reads P (N Fn.keep_BackRows) [(3, (.dt (.one (.int .i64))), []), (5, (.dt (.one (.int .i64))), []), (2, (.dt (.one (.int .i64))), []), (5, (.dt (.one (.int .i64))), []), (7, (.dt (.one (.int .i64))), []), (4, (.dt (.one (.int .i64))), []), (13, .no, [(.one .bool)]), (4, (.dt (.agg [(.int .i64), .any])), [])] [(8, [(5, (.one .bool))])] [[(5, (.one .bool)), (6, (.one (.int .i64)))]] (fun A T (x0 : V) (x1 : V) (S : St) (K : Bool → St → Prop) => wpT P (envP P) T (endT A.results [(.one .bool)] K) (frT A [x0, x1]) S) (fun x0 x1 S K => keep_BackRows.p P N x0 x1 S K)
theorem keep_BackRows.run {P : Program} {N : Nat → Nat} (hF : keep_BackRows.Ok P N) {x0 : V} {x1 : V} {S : St} {K : Bool → St → Prop} (h : keep_BackRows.p P N x0 x1 S K) : CallA P (N Fn.keep_BackRows) [x0, x1] S (retT [(.one .bool)] K) := hF.run (fun q => q x0 x1 S K) h rfl

def keep_Ints.p (P : Program) (N : Nat → Nat) (x0 : V) (x1 : V) (S : St) (K : Bool → St → Prop) : Prop :=
  ∃ x7 : Int, lenV S 2 x0 = some (V.int .i64 x7) ∧ ∃ x9 : Int, lenV S 2 x1 = some (V.int .i64 x9) ∧ ifC (!decide (x7 = x9)) (K false S) (Loop1 (fun (k1 : Int → St → Prop) (x5 : Int) (S1 : St) => ∃ x13 : Int, lenV S1 2 x0 = some (V.int .i64 x13) ∧ ifC (decide (x5 < x13)) (ifS (idxAddrV 1 x0 (V.int .i64 x5)) fun x19 => ∃ x20 : Int, loadV S1 x19 = some (V.int .i64 x20) ∧ ifS (idxAddrV 1 x1 (V.int .i64 x5)) fun x23 => ∃ x24 : Int, loadV S1 x23 = some (V.int .i64 x24) ∧ ifC (!decide (x20 = x24)) (K false S1) (setI (IntKind.i64.wrap (x5 + (1 : Int))) fun x16 => k1 x16 S1)) (K true S1)) 0 S)
abbrev keep_Ints.Ok (P : Program) (N : Nat → Nat) : Prop := Reads P (N Fn.keep_Ints) [(2, (.dt (.one (.int .i64))), []), (1, (.dt (.one (.int .i64))), []), (5, (.dt (.one (.int .i64))), []), (4, (.dt (.one (.int .i64))), []), (3, (.dt (.one (.int .i64))), [])] [] [[(5, (.one (.int .i64)))]] (fun A T (x0 : V) (x1 : V) (S : St) (K : Bool → St → Prop) => wpT P (envP P) T (endT A.results [(.one .bool)] K) (frT A [x0, x1]) S) (fun x0 x1 S K => keep_Ints.p P N x0 x1 S K)
theorem keep_Ints.run {P : Program} {N : Nat → Nat} (hF : keep_Ints.Ok P N) {x0 : V} {x1 : V} {S : St} {K : Bool → St → Prop} (h : keep_Ints.p P N x0 x1 S K) : CallA P (N Fn.keep_Ints) [x0, x1] S (retT [(.one .bool)] K) := hF.run (fun q => q x0 x1 S K) h rfl

def keep_Rows.p (P : Program) (N : Nat → Nat) (x0 : V) (x1 : V) (S : St) (K : Bool → St → Prop) : Prop :=
  ∃ x7 : Int, lenV S 2 x0 = some (V.int .i64 x7) ∧ ∃ x9 : Int, lenV S 2 x1 = some (V.int .i64 x9) ∧ ifC (!decide (x7 = x9)) (K false S) (Loop1 (fun (k1 : Int → St → Prop) (x5 : Int) (S1 : St) => ∃ x13 : Int, lenV S1 2 x0 = some (V.int .i64 x13) ∧ ifC (decide (x5 < x13)) (ifS (idxAddrV 2 x0 (V.int .i64 x5)) fun x19 => ifS (fieldAddrV 0 x19) fun x20 => ∃ x21 : Int, loadV S1 x20 = some (V.int .i64 x21) ∧ ifS (idxAddrV 2 x1 (V.int .i64 x5)) fun x24 => ifS (fieldAddrV 0 x24) fun x25 => ∃ x26 : Int, loadV S1 x25 = some (V.int .i64 x26) ∧ ifC (!decide (x21 = x26)) (K false S1) (ifS (idxAddrV 2 x0 (V.int .i64 x5)) fun x31 => ifS (fieldAddrV 1 x31) fun x32 => ifS (loadV S1 x32) fun x33 => ifS (idxAddrV 2 x1 (V.int .i64 x5)) fun x36 => ifS (fieldAddrV 1 x36) fun x37 => ifS (loadV S1 x37) fun x38 => CallA P (N Fn.keep_Ints) [x33, x38] S1 (retT [(.one .bool)] fun (x39 : Bool) (S2 : St) => sameK (V.block x25 ++ (V.block x20 ++ [])) S1 S2 (ifC (!x39) (K false S2) (setI (IntKind.i64.wrap (x5 + (1 : Int))) fun x16 => k1 x16 S2))))) (K true S1)) 0 S)
abbrev keep_Rows.Ok (P : Program) (N : Nat → Nat) : Prop := Reads P (N Fn.keep_Rows) [(2, (.dt (.one (.int .i64))), []), (1, (.dt (.one (.int .i64))), []), (5, (.dt (.one (.int .i64))), []), (5, (.dt (.one (.int .i64))), []), (4, (.dt (.one (.int .i64))), []), (12, .no, [(.one .bool)])] [] [[(5, (.one (.int .i64)))]] (fun A T (x0 : V) (x1 : V) (S : St) (K : Bool → St → Prop) => wpT P (envP P) T (endT A.results [(.one .bool)] K) (frT A [x0, x1]) S) (fun x0 x1 S K => keep_Rows.p P N x0 x1 S K)
theorem keep_Rows.run {P : Program} {N : Nat → Nat} (hF : keep_Rows.Ok P N) {x0 : V} {x1 : V} {S : St} {K : Bool → St → Prop} (h : keep_Rows.p P N x0 x1 S K) : CallA P (N Fn.keep_Rows) [x0, x1] S (retT [(.one .bool)] K) := hF.run (fun q => q x0 x1 S K) h rfl

def keep_Vectors.p (P : Program) (N : Nat → Nat) (x0 : V) (x1 : Int) (S : St) (K : Int → St → Prop) : Prop :=
  ∃ x8 : Int, lenV S 2 x0 = some (V.int .i64 x8) ∧ Loop2 (fun (k1 : Int → Int → St → Prop) (x5 : Int) (x6 : Int) (S1 : St) => Join0 (fun (k2 : St → Prop) => ∃ x11 : Int, lenV S1 2 x0 = some (V.int .i64 x11) ∧ ifC (decide (x6 < x11)) (ifC (decide (x5 ≤ x1)) (k2  S1) (K x5 S1)) (K x5 S1)) (fun (S2 : St) => ifS (idxAddrV 2 x0 (V.int .i64 x6)) fun x23 => ifS (fieldAddrV 1 x23) fun x24 => ifS (loadV S2 x24) fun x25 => ∃ x26 : Int, lenV S2 2 x25 = some (V.int .i64 x26) ∧ setI (IntKind.i64.wrap (x5 + x26)) fun x27 => setI (IntKind.i64.wrap (x6 + (1 : Int))) fun x19 => k1 x27 x19 S2)) x8 0 S
abbrev keep_Vectors.Ok (P : Program) (N : Nat → Nat) : Prop := Reads P (N Fn.keep_Vectors) [(2, (.dt (.one (.int .i64))), []), (4, (.dt (.one (.int .i64))), []), (12, (.dt (.one (.int .i64))), [])] [(4, [])] [[(5, (.one (.int .i64))), (6, (.one (.int .i64)))]] (fun A T (x0 : V) (x1 : Int) (S : St) (K : Int → St → Prop) => wpT P (envP P) T (endT A.results [(.one (.int .i64))] K) (frT A [x0, (V.int .i64 x1)]) S) (fun x0 x1 S K => keep_Vectors.p P N x0 x1 S K)
theorem keep_Vectors.run {P : Program} {N : Nat → Nat} (hF : keep_Vectors.Ok P N) {x0 : V} {x1 : Int} {S : St} {K : Int → St → Prop} (h : keep_Vectors.p P N x0 x1 S K) : CallA P (N Fn.keep_Vectors) [x0, (V.int .i64 x1)] S (retT [(.one (.int .i64))] K) := hF.run (fun q => q x0 x1 S K) h rfl

end Go.Th.L
end

section
/- Functions of law03, read without frames (printed by tools/lib.py). -/
set_option linter.unusedVariables false
set_option maxRecDepth 100000
set_option maxHeartbeats 2000000
namespace Go.Th.L
open Go Go.Th

def law03_VecDists.p (P : Program) (N : Nat → Nat) (x0 : V) (x1 : V) (x2 : Int) (S : St) (K : Bool → St → Prop) : Prop :=
  Join0 (fun (k1 : St → Prop) => ∃ x17 : Int, lenV S 2 x0 = some (V.int .i64 x17) ∧ ifC (decide ((65536 : Int) < x17)) (K true S) (∃ x21 : Int, lenV S 2 x1 = some (V.int .i64 x21) ∧ ifC (decide ((65536 : Int) < x21)) (K true S) (k1  S))) (fun (S1 : St) => CallA P (N Fn.keep_Lend) [x0] S1 (retT [(.one .any)] fun (x25 : V) (S2 : St) => CallA P (N Fn.keep_Lend) [x1] S2 (retT [(.one .any)] fun (x27 : V) (S3 : St) => CallA P (N Fn.vec_Dist) [x25, x27] S3 (retT [(.agg [(.int .u64), (.int .u64)]), (.one (.int .i64))] fun (x31a_a : Int) (x31a_b : Int) (x31b : Int) (S4 : St) => newS S4 (.cells [(V.int .u64 0), (V.int .u64 0)] true) fun S5 => ifS (storeV S5 2 (V.ptr S4.next 0) (V.agg [(V.int .u64 x31a_a), (V.int .u64 x31a_b)])) fun S6 => CallA P (N Fn.vec_Check) [x25, (V.int .i64 x2)] S6 (retT [(.one (.int .i64))] fun (x36 : Int) (S7 : St) => CallA P (N Fn.keep_Back) [x25, x0] S7 (retT [(.one .bool)] fun (x39 : Bool) (S8 : St) => CallA P (N Fn.keep_Back) [x27, x1] S8 (retT [(.one .bool)] fun (x42 : Bool) (S9 : St) => CallA P (N Fn.ref03_Dist) [x0, x1] S9 (retT [(.agg [(.int .u64), (.int .u64)]), (.one (.int .i64))] fun (x46a_a : Int) (x46a_b : Int) (x46b : Int) (S10 : St) => newS S10 (.cells [(V.int .u64 0), (V.int .u64 0)] true) fun S11 => ifS (storeV S11 2 (V.ptr S10.next 0) (V.agg [(V.int .u64 x46a_a), (V.int .u64 x46a_b)])) fun S12 => CallA P (N Fn.law03_awake) [] S12 (retT [(.one .bool)] fun (x49 : Bool) (S13 : St) => ifC x49 (ifC x39 (ifC x42 (∃ x57_a x57_b : Int, loadNV S13 2 (V.ptr S4.next 0) = some (V.agg [(V.int .u64 x57_a), (V.int .u64 x57_b)]) ∧ ∃ x58_a x58_b : Int, loadNV S13 2 (V.ptr S10.next 0) = some (V.agg [(V.int .u64 x58_a), (V.int .u64 x58_b)]) ∧ ∃ x59 : Bool, eqV 6 [1, 1] (V.agg [(V.int .u64 x57_a), (V.int .u64 x57_b)]) (V.agg [(V.int .u64 x58_a), (V.int .u64 x58_b)]) = some x59 ∧ ifC x59 (ifC (decide (x31b = x46b)) (CallA P (N Fn.ref03_Check) [x0, (V.int .i64 x2)] S13 (retT [(.one (.int .i64))] fun (x70 : Int) (S14 : St) => K (decide (x36 = x70)) S14)) (K false S13)) (K false S13)) (K false S13)) (K false S13)) (K false S13))))))))))
abbrev law03_VecDists.Ok (P : Program) (N : Nat → Nat) : Prop := Reads P (N Fn.law03_VecDists) [(2, (.dt (.one (.int .i64))), []), (3, (.dt (.one (.int .i64))), []), (4, .no, [(.one .any)]), (2, .no, [(.one .any)]), (3, .no, [(.agg [(.int .u64), (.int .u64)]), (.one (.int .i64))]), (8, .no, [(.one (.int .i64))]), (3, .no, [(.one .bool)]), (3, .no, [(.one .bool)]), (3, .no, [(.agg [(.int .u64), (.int .u64)]), (.one (.int .i64))]), (6, .no, [(.one .bool)]), (7, (.dt (.agg [(.int .u64), (.int .u64)])), []), (0, (.dt (.agg [(.int .u64), (.int .u64)])), []), (11, .no, [(.one (.int .i64))])] [(1, [])] [] (fun A T (x0 : V) (x1 : V) (x2 : Int) (S : St) (K : Bool → St → Prop) => wpT P (envP P) T (endT A.results [(.one .bool)] K) (frT A [x0, x1, (V.int .i64 x2)]) S) (fun x0 x1 x2 S K => law03_VecDists.p P N x0 x1 x2 S K)
theorem law03_VecDists.run {P : Program} {N : Nat → Nat} (hF : law03_VecDists.Ok P N) {x0 : V} {x1 : V} {x2 : Int} {S : St} {K : Bool → St → Prop} (h : law03_VecDists.p P N x0 x1 x2 S K) : CallA P (N Fn.law03_VecDists) [x0, x1, (V.int .i64 x2)] S (retT [(.one .bool)] K) := hF.run (fun q => q x0 x1 x2 S K) h rfl

def law03_VecRegions.p (P : Program) (N : Nat → Nat) (x0_a : Int) (x0_b : V) (x0_c : V) (x0_d : Int) (x0_e : Int) (x0_f : V) (x1 : V) (x2 : Int) (S : St) (K : Bool → St → Prop) : Prop :=
  newS S (.cells [(V.int .i64 x0_a), x0_b, x0_c, (V.int .u64 x0_d), (V.int .u64 x0_e), x0_f] true) fun S1 => Join0 (fun (k1 : St → Prop) => ∃ x18_a : Int, ∃ x18_b x18_c : V, ∃ x18_d x18_e : Int, ∃ x18_f : V, loadNV S1 6 (V.ptr S.next 0) = some (V.agg [(V.int .i64 x18_a), x18_b, x18_c, (V.int .u64 x18_d), (V.int .u64 x18_e), x18_f]) ∧ CallA P (N Fn.law03_big) [(V.agg [(V.int .i64 x18_a), x18_b, x18_c, (V.int .u64 x18_d), (V.int .u64 x18_e), x18_f])] S1 (retT [(.one .bool)] fun (x19 : Bool) (S3 : St) => ifC x19 (K true S3) (∃ x22 : Int, lenV S3 2 x1 = some (V.int .i64 x22) ∧ ifC (decide ((65536 : Int) < x22)) (K true S3) (k1  S3)))) (fun (S2 : St) => Join1 (fun (k2 : V → St → Prop) => ∃ x26 : Int, loadV S2 (V.ptr S.next 0) = some (V.int .i64 x26) ∧ ifS (loadV S2 (V.ptr S.next 1)) fun x28 => ifS (loadV S2 (V.ptr S.next 2)) fun x31 => ∃ x34_a x34_b : Int, loadNV S2 2 (V.ptr S.next 3) = some (V.agg [(V.int .u64 x34_a), (V.int .u64 x34_b)]) ∧ ifS (loadV S2 (V.ptr S.next 5)) fun x36 => (CallA P (N Fn.keep_Lend) [x28] S2 (retT [(.one .any)] fun (x29 : V) (S5 : St) => Same (S.next :: (S.next :: (S.next :: (S.next :: [])))) S2 S5 ∧ (CallA P (N Fn.keep_Lend) [x31] S5 (retT [(.one .any)] fun (x32 : V) (S6 : St) => Same (S.next :: (S.next :: (S.next :: (S.next :: [])))) S5 S6 ∧ (CallA P (N Fn.keep_Lend) [x36] S6 (retT [(.one .any)] fun (x37 : V) (S7 : St) => Same (S.next :: (S.next :: (S.next :: (S.next :: [])))) S6 S7 ∧ V.cells x29 = [x29] ∧ V.cells x32 = [x32] ∧ V.cells x37 = [x37] ∧ newS S7 (.cells [(V.int .i64 0), V.nilSlice, V.nilSlice, (V.int .u64 0), (V.int .u64 0), V.nilSlice] true) fun S8 => Same (S.next :: (S.next :: (S.next :: (S.next :: (S.next :: []))))) S7 S8 ∧ ifS (storeV S8 6 (V.ptr S7.next 0) (V.agg [(V.int .i64 x26), x29, x32, (V.int .u64 x34_a), (V.int .u64 x34_b), x37])) fun S9 => k2 (V.ptr S7.next 0) S9)) ∧ (newS S6 (.cells [(V.int .i64 0), V.nilSlice, V.nilSlice, (V.int .u64 0), (V.int .u64 0), V.nilSlice] true) fun S10 => Same (S.next :: (S.next :: (S.next :: (S.next :: (S.next :: []))))) S6 S10 ∧ CallA P (N Fn.keep_Lend) [x36] S10 (retT [(.one .any)] fun (x37_1 : V) (S11 : St) => Same (S.next :: (S.next :: (S.next :: (S.next :: [])))) S10 S11 ∧ V.cells x29 = [x29] ∧ V.cells x32 = [x32] ∧ V.cells x37_1 = [x37_1] ∧ ifS (storeV S11 6 (V.ptr S6.next 0) (V.agg [(V.int .i64 x26), x29, x32, (V.int .u64 x34_a), (V.int .u64 x34_b), x37_1])) fun S12 => k2 (V.ptr S6.next 0) S12)))) ∧ (newS S5 (.cells [(V.int .i64 0), V.nilSlice, V.nilSlice, (V.int .u64 0), (V.int .u64 0), V.nilSlice] true) fun S13 => Same (S.next :: (S.next :: (S.next :: (S.next :: (S.next :: []))))) S5 S13 ∧ CallA P (N Fn.keep_Lend) [x31] S13 (retT [(.one .any)] fun (x32_1 : V) (S14 : St) => Same (S.next :: (S.next :: (S.next :: (S.next :: [])))) S13 S14 ∧ CallA P (N Fn.keep_Lend) [x36] S14 (retT [(.one .any)] fun (x37_2 : V) (S15 : St) => Same (S.next :: (S.next :: (S.next :: (S.next :: [])))) S14 S15 ∧ V.cells x29 = [x29] ∧ V.cells x32_1 = [x32_1] ∧ V.cells x37_2 = [x37_2] ∧ ifS (storeV S15 6 (V.ptr S5.next 0) (V.agg [(V.int .i64 x26), x29, x32_1, (V.int .u64 x34_a), (V.int .u64 x34_b), x37_2])) fun S16 => k2 (V.ptr S5.next 0) S16))))) ∧ (newS S2 (.cells [(V.int .i64 0), V.nilSlice, V.nilSlice, (V.int .u64 0), (V.int .u64 0), V.nilSlice] true) fun S17 => Same (S.next :: (S.next :: (S.next :: (S.next :: (S.next :: []))))) S2 S17 ∧ CallA P (N Fn.keep_Lend) [x28] S17 (retT [(.one .any)] fun (x29_1 : V) (S18 : St) => Same (S.next :: (S.next :: (S.next :: (S.next :: [])))) S17 S18 ∧ CallA P (N Fn.keep_Lend) [x31] S18 (retT [(.one .any)] fun (x32_2 : V) (S19 : St) => Same (S.next :: (S.next :: (S.next :: (S.next :: [])))) S18 S19 ∧ CallA P (N Fn.keep_Lend) [x36] S19 (retT [(.one .any)] fun (x37_3 : V) (S20 : St) => Same (S.next :: (S.next :: (S.next :: (S.next :: [])))) S19 S20 ∧ V.cells x29_1 = [x29_1] ∧ V.cells x32_2 = [x32_2] ∧ V.cells x37_3 = [x37_3] ∧ ifS (storeV S20 6 (V.ptr S2.next 0) (V.agg [(V.int .i64 x26), x29_1, x32_2, (V.int .u64 x34_a), (V.int .u64 x34_b), x37_3])) fun S21 => k2 (V.ptr S2.next 0) S21))))) (fun (x7 : V) (S4 : St) => ∃ x39_a : Int, ∃ x39_b x39_c : V, ∃ x39_d x39_e : Int, ∃ x39_f : V, loadNV S4 6 x7 = some (V.agg [(V.int .i64 x39_a), x39_b, x39_c, (V.int .u64 x39_d), (V.int .u64 x39_e), x39_f]) ∧ CallA P (N Fn.vec_CheckRegion) [(V.agg [(V.int .i64 x39_a), x39_b, x39_c, (V.int .u64 x39_d), (V.int .u64 x39_e), x39_f]), (V.int .i64 x2)] S4 (retT [(.one (.int .i64))] fun (x41 : Int) (S22 : St) => ∃ x43_a : Int, ∃ x43_b x43_c : V, ∃ x43_d x43_e : Int, ∃ x43_f : V, loadNV S22 6 x7 = some (V.agg [(V.int .i64 x43_a), x43_b, x43_c, (V.int .u64 x43_d), (V.int .u64 x43_e), x43_f]) ∧ CallA P (N Fn.vec_Inside) [(V.agg [(V.int .i64 x43_a), x43_b, x43_c, (V.int .u64 x43_d), (V.int .u64 x43_e), x43_f]), x1] S22 (retT [(.one .bool), (.one (.int .i64))] fun (x45a : Bool) (x45b : Int) (S23 : St) => ∃ x49_a : Int, ∃ x49_b x49_c : V, ∃ x49_d x49_e : Int, ∃ x49_f : V, loadNV S23 6 x7 = some (V.agg [(V.int .i64 x49_a), x49_b, x49_c, (V.int .u64 x49_d), (V.int .u64 x49_e), x49_f]) ∧ CallA P (N Fn.vec_Bound) [(V.agg [(V.int .i64 x49_a), x49_b, x49_c, (V.int .u64 x49_d), (V.int .u64 x49_e), x49_f]), x1] S23 (retT [(.agg [(.int .u64), (.int .u64)]), (.one (.int .i64))] fun (x51a_a : Int) (x51a_b : Int) (x51b : Int) (S24 : St) => newS S24 (.cells [(V.int .u64 0), (V.int .u64 0)] true) fun S25 => ifS (storeV S25 2 (V.ptr S24.next 0) (V.agg [(V.int .u64 x51a_a), (V.int .u64 x51a_b)])) fun S26 => Join1 (fun (k3 : Bool → St → Prop) => ifS (fieldAddrV 1 x7) fun x54 => ifS (loadV S26 x54) fun x55 => ifS (loadV S26 (V.ptr S.next 1)) fun x57 => CallA P (N Fn.keep_Back) [x55, x57] S26 (retT [(.one .bool)] fun (x58 : Bool) (S28 : St) => ifC x58 (ifS (fieldAddrV 2 x7) fun x60 => ifS (loadV S28 x60) fun x61 => ifS (loadV S28 (V.ptr S.next 2)) fun x63 => CallA P (N Fn.keep_Back) [x61, x63] S28 (retT [(.one .bool)] fun (x64 : Bool) (S29 : St) => ifC x64 (ifS (fieldAddrV 5 x7) fun x67 => ifS (loadV S29 x67) fun x68 => ifS (loadV S29 (V.ptr S.next 5)) fun x70 => CallA P (N Fn.keep_Back) [x68, x70] S29 (retT [(.one .bool)] fun (x71 : Bool) (S30 : St) => k3 x71 S30)) (k3 false S29))) (k3 false S28))) (fun (x13 : Bool) (S27 : St) => ∃ x74_a : Int, ∃ x74_b x74_c : V, ∃ x74_d x74_e : Int, ∃ x74_f : V, loadNV S27 6 (V.ptr S.next 0) = some (V.agg [(V.int .i64 x74_a), x74_b, x74_c, (V.int .u64 x74_d), (V.int .u64 x74_e), x74_f]) ∧ CallA P (N Fn.ref03_Inside) [(V.agg [(V.int .i64 x74_a), x74_b, x74_c, (V.int .u64 x74_d), (V.int .u64 x74_e), x74_f]), x1] S27 (retT [(.one .bool), (.one (.int .i64))] fun (x76a : Bool) (x76b : Int) (S31 : St) => ∃ x80_a : Int, ∃ x80_b x80_c : V, ∃ x80_d x80_e : Int, ∃ x80_f : V, loadNV S31 6 (V.ptr S.next 0) = some (V.agg [(V.int .i64 x80_a), x80_b, x80_c, (V.int .u64 x80_d), (V.int .u64 x80_e), x80_f]) ∧ CallA P (N Fn.ref03_Bound) [(V.agg [(V.int .i64 x80_a), x80_b, x80_c, (V.int .u64 x80_d), (V.int .u64 x80_e), x80_f]), x1] S31 (retT [(.agg [(.int .u64), (.int .u64)]), (.one (.int .i64))] fun (x82a_a : Int) (x82a_b : Int) (x82b : Int) (S32 : St) => newS S32 (.cells [(V.int .u64 0), (V.int .u64 0)] true) fun S33 => ifS (storeV S33 2 (V.ptr S32.next 0) (V.agg [(V.int .u64 x82a_a), (V.int .u64 x82a_b)])) fun S34 => CallA P (N Fn.law03_awake) [] S34 (retT [(.one .bool)] fun (x85 : Bool) (S35 : St) => ifC x85 (ifC x13 (∃ x91_a : Int, ∃ x91_b x91_c : V, ∃ x91_d x91_e : Int, ∃ x91_f : V, loadNV S35 6 (V.ptr S.next 0) = some (V.agg [(V.int .i64 x91_a), x91_b, x91_c, (V.int .u64 x91_d), (V.int .u64 x91_e), x91_f]) ∧ CallA P (N Fn.ref03_CheckRegion) [(V.agg [(V.int .i64 x91_a), x91_b, x91_c, (V.int .u64 x91_d), (V.int .u64 x91_e), x91_f]), (V.int .i64 x2)] S35 (retT [(.one (.int .i64))] fun (x93 : Int) (S36 : St) => ifC (decide (x41 = x93)) (ifC (x45a == x76a) (ifC (decide (x45b = x76b)) (∃ x107_a x107_b : Int, loadNV S36 2 (V.ptr S24.next 0) = some (V.agg [(V.int .u64 x107_a), (V.int .u64 x107_b)]) ∧ ∃ x108_a x108_b : Int, loadNV S36 2 (V.ptr S32.next 0) = some (V.agg [(V.int .u64 x108_a), (V.int .u64 x108_b)]) ∧ ∃ x109 : Bool, eqV 6 [1, 1] (V.agg [(V.int .u64 x107_a), (V.int .u64 x107_b)]) (V.agg [(V.int .u64 x108_a), (V.int .u64 x108_b)]) = some x109 ∧ ifC x109 (K (decide (x51b = x82b)) S36) (K false S36)) (K false S36)) (K false S36)) (K false S36))) (K false S35)) (K false S35))))))))))
abbrev law03_VecRegions.Ok (P : Program) (N : Nat → Nat) : Prop := Reads P (N Fn.law03_VecRegions) [(2, (.dt (.agg [(.int .i64), .any, .any, (.int .u64), (.int .u64), .any])), []), (0, .no, [(.one .bool)]), (2, (.dt (.one (.int .i64))), []), (4, (.dt (.one (.int .i64))), []), (5, (.dt (.agg [(.int .u64), (.int .u64)])), []), (2, .no, [(.one .any)]), (0, .no, [(.one .any)]), (0, .no, [(.one .any)]), (0, (.dt (.agg [(.int .i64), .any, .any, (.int .u64), (.int .u64), .any])), []), (3, .no, [(.one .any)]), (0, (.dt (.agg [(.int .i64), .any, .any, (.int .u64), (.int .u64), .any])), []), (2, .no, [(.one .any)]), (0, .no, [(.one .any)]), (0, (.dt (.agg [(.int .i64), .any, .any, (.int .u64), (.int .u64), .any])), []), (2, .no, [(.one .any)]), (0, .no, [(.one .any)]), (0, .no, [(.one .any)]), (0, (.dt (.agg [(.int .i64), .any, .any, (.int .u64), (.int .u64), .any])), []), (1, (.dt (.agg [(.int .i64), .any, .any, (.int .u64), (.int .u64), .any])), []), (1, .no, [(.one (.int .i64))]), (1, (.dt (.agg [(.int .i64), .any, .any, (.int .u64), (.int .u64), .any])), []), (1, .no, [(.one .bool), (.one (.int .i64))]), (5, (.dt (.agg [(.int .i64), .any, .any, (.int .u64), (.int .u64), .any])), []), (1, .no, [(.agg [(.int .u64), (.int .u64)]), (.one (.int .i64))]), (10, .no, [(.one .bool)]), (5, .no, [(.one .bool)]), (6, .no, [(.one .bool)]), (2, (.dt (.agg [(.int .i64), .any, .any, (.int .u64), (.int .u64), .any])), []), (1, .no, [(.one .bool), (.one (.int .i64))]), (5, (.dt (.agg [(.int .i64), .any, .any, (.int .u64), (.int .u64), .any])), []), (1, .no, [(.agg [(.int .u64), (.int .u64)]), (.one (.int .i64))]), (6, .no, [(.one .bool)]), (5, (.dt (.agg [(.int .i64), .any, .any, (.int .u64), (.int .u64), .any])), []), (1, .no, [(.one (.int .i64))]), (13, (.dt (.agg [(.int .u64), (.int .u64)])), []), (0, (.dt (.agg [(.int .u64), (.int .u64)])), [])] [(1, []), (2, [(7, (.one .any))]), (3, [(13, (.one .bool))])] [] (fun A T (x0_a : Int) (x0_b : V) (x0_c : V) (x0_d : Int) (x0_e : Int) (x0_f : V) (x1 : V) (x2 : Int) (S : St) (K : Bool → St → Prop) => wpT P (envP P) T (endT A.results [(.one .bool)] K) (frT A [(V.agg [(V.int .i64 x0_a), x0_b, x0_c, (V.int .u64 x0_d), (V.int .u64 x0_e), x0_f]), x1, (V.int .i64 x2)]) S) (fun x0_a x0_b x0_c x0_d x0_e x0_f x1 x2 S K => law03_VecRegions.p P N x0_a x0_b x0_c x0_d x0_e x0_f x1 x2 S K)
theorem law03_VecRegions.run {P : Program} {N : Nat → Nat} (hF : law03_VecRegions.Ok P N) {x0_a : Int} {x0_b : V} {x0_c : V} {x0_d : Int} {x0_e : Int} {x0_f : V} {x1 : V} {x2 : Int} {S : St} {K : Bool → St → Prop} (h : law03_VecRegions.p P N x0_a x0_b x0_c x0_d x0_e x0_f x1 x2 S K) : CallA P (N Fn.law03_VecRegions) [(V.agg [(V.int .i64 x0_a), x0_b, x0_c, (V.int .u64 x0_d), (V.int .u64 x0_e), x0_f]), x1, (V.int .i64 x2)] S (retT [(.one .bool)] K) := hF.run (fun q => q x0_a x0_b x0_c x0_d x0_e x0_f x1 x2 S K) h rfl

def law03_VecBounds.p (P : Program) (N : Nat → Nat) (x0_a : Int) (x0_b : V) (x0_c : V) (x0_d : Int) (x0_e : Int) (x0_f : V) (x1 : V) (x2 : V) (S : St) (K : Bool → St → Prop) : Prop :=
  newS S (.cells [(V.int .i64 x0_a), x0_b, x0_c, (V.int .u64 x0_d), (V.int .u64 x0_e), x0_f] true) fun S1 => Join0 (fun (k1 : St → Prop) => ∃ x13_a : Int, ∃ x13_b x13_c : V, ∃ x13_d x13_e : Int, ∃ x13_f : V, loadNV S1 6 (V.ptr S.next 0) = some (V.agg [(V.int .i64 x13_a), x13_b, x13_c, (V.int .u64 x13_d), (V.int .u64 x13_e), x13_f]) ∧ CallA P (N Fn.law03_big) [(V.agg [(V.int .i64 x13_a), x13_b, x13_c, (V.int .u64 x13_d), (V.int .u64 x13_e), x13_f])] S1 (retT [(.one .bool)] fun (x14 : Bool) (S3 : St) => ifC x14 (K true S3) (∃ x17 : Int, lenV S3 2 x1 = some (V.int .i64 x17) ∧ ifC (decide ((65536 : Int) < x17)) (K true S3) (∃ x22 : Int, lenV S3 2 x2 = some (V.int .i64 x22) ∧ ifC (decide ((65536 : Int) < x22)) (K true S3) (k1  S3))))) (fun (S2 : St) => ∃ x26_a : Int, ∃ x26_b x26_c : V, ∃ x26_d x26_e : Int, ∃ x26_f : V, loadNV S2 6 (V.ptr S.next 0) = some (V.agg [(V.int .i64 x26_a), x26_b, x26_c, (V.int .u64 x26_d), (V.int .u64 x26_e), x26_f]) ∧ CallA P (N Fn.vec_Inside) [(V.agg [(V.int .i64 x26_a), x26_b, x26_c, (V.int .u64 x26_d), (V.int .u64 x26_e), x26_f]), x1] S2 (retT [(.one .bool), (.one (.int .i64))] fun (x28a : Bool) (x28b : Int) (S4 : St) => ∃ x32_a : Int, ∃ x32_b x32_c : V, ∃ x32_d x32_e : Int, ∃ x32_f : V, loadNV S4 6 (V.ptr S.next 0) = some (V.agg [(V.int .i64 x32_a), x32_b, x32_c, (V.int .u64 x32_d), (V.int .u64 x32_e), x32_f]) ∧ CallA P (N Fn.vec_Bound) [(V.agg [(V.int .i64 x32_a), x32_b, x32_c, (V.int .u64 x32_d), (V.int .u64 x32_e), x32_f]), x2] S4 (retT [(.agg [(.int .u64), (.int .u64)]), (.one (.int .i64))] fun (x34a_a : Int) (x34a_b : Int) (x34b : Int) (S5 : St) => newS S5 (.cells [(V.int .u64 0), (V.int .u64 0)] true) fun S6 => ifS (storeV S6 2 (V.ptr S5.next 0) (V.agg [(V.int .u64 x34a_a), (V.int .u64 x34a_b)])) fun S7 => CallA P (N Fn.vec_Dist) [x1, x2] S7 (retT [(.agg [(.int .u64), (.int .u64)]), (.one (.int .i64))] fun (x40a_a : Int) (x40a_b : Int) (x40b : Int) (S8 : St) => newS S8 (.cells [(V.int .u64 0), (V.int .u64 0)] true) fun S9 => ifS (storeV S9 2 (V.ptr S8.next 0) (V.agg [(V.int .u64 x40a_a), (V.int .u64 x40a_b)])) fun S10 => Join1 (fun (k2 : Bool → St → Prop) => ifC (!decide (x28b = (0 : Int))) (k2 true S10) (ifC (!decide (x34b = (0 : Int))) (k2 true S10) (ifC (!decide (x40b = (0 : Int))) (k2 true S10) (k2 (!x28a) S10)))) (fun (x56 : Bool) (S11 : St) => ifC x56 (CallA P (N Fn.law03_awake) [] S11 (retT [(.one .bool)] fun (x57 : Bool) (S12 : St) => K x57 S12)) (CallA P (N Fn.law03_awake) [] S11 (retT [(.one .bool)] fun (x58 : Bool) (S13 : St) => ifC x58 (∃ x60_a x60_b : Int, loadNV S13 2 (V.ptr S8.next 0) = some (V.agg [(V.int .u64 x60_a), (V.int .u64 x60_b)]) ∧ ∃ x61_a x61_b : Int, loadNV S13 2 (V.ptr S5.next 0) = some (V.agg [(V.int .u64 x61_a), (V.int .u64 x61_b)]) ∧ CallA P (N Fn.ref01_Less) [(V.agg [(V.int .u64 x60_a), (V.int .u64 x60_b)]), (V.agg [(V.int .u64 x61_a), (V.int .u64 x61_b)])] S13 (retT [(.one .bool)] fun (x62 : Bool) (S14 : St) => K (!x62) S14)) (K false S13))))))))
abbrev law03_VecBounds.Ok (P : Program) (N : Nat → Nat) : Prop := Reads P (N Fn.law03_VecBounds) [(2, (.dt (.agg [(.int .i64), .any, .any, (.int .u64), (.int .u64), .any])), []), (0, .no, [(.one .bool)]), (2, (.dt (.one (.int .i64))), []), (4, (.dt (.one (.int .i64))), []), (3, (.dt (.agg [(.int .i64), .any, .any, (.int .u64), (.int .u64), .any])), []), (1, .no, [(.one .bool), (.one (.int .i64))]), (5, (.dt (.agg [(.int .i64), .any, .any, (.int .u64), (.int .u64), .any])), []), (1, .no, [(.agg [(.int .u64), (.int .u64)]), (.one (.int .i64))]), (8, .no, [(.agg [(.int .u64), (.int .u64)]), (.one (.int .i64))]), (20, .no, [(.one .bool)]), (1, .no, [(.one .bool)]), (1, (.dt (.agg [(.int .u64), (.int .u64)])), []), (0, (.dt (.agg [(.int .u64), (.int .u64)])), []), (0, .no, [(.one .bool)])] [(1, []), (6, [(56, (.one .bool))])] [] (fun A T (x0_a : Int) (x0_b : V) (x0_c : V) (x0_d : Int) (x0_e : Int) (x0_f : V) (x1 : V) (x2 : V) (S : St) (K : Bool → St → Prop) => wpT P (envP P) T (endT A.results [(.one .bool)] K) (frT A [(V.agg [(V.int .i64 x0_a), x0_b, x0_c, (V.int .u64 x0_d), (V.int .u64 x0_e), x0_f]), x1, x2]) S) (fun x0_a x0_b x0_c x0_d x0_e x0_f x1 x2 S K => law03_VecBounds.p P N x0_a x0_b x0_c x0_d x0_e x0_f x1 x2 S K)
theorem law03_VecBounds.run {P : Program} {N : Nat → Nat} (hF : law03_VecBounds.Ok P N) {x0_a : Int} {x0_b : V} {x0_c : V} {x0_d : Int} {x0_e : Int} {x0_f : V} {x1 : V} {x2 : V} {S : St} {K : Bool → St → Prop} (h : law03_VecBounds.p P N x0_a x0_b x0_c x0_d x0_e x0_f x1 x2 S K) : CallA P (N Fn.law03_VecBounds) [(V.agg [(V.int .i64 x0_a), x0_b, x0_c, (V.int .u64 x0_d), (V.int .u64 x0_e), x0_f]), x1, x2] S (retT [(.one .bool)] K) := hF.run (fun q => q x0_a x0_b x0_c x0_d x0_e x0_f x1 x2 S K) h rfl

def law03_VecMoves.p (P : Program) (N : Nat → Nat) (x0 : V) (x1 : V) (x2 : V) (S : St) (K : Bool → St → Prop) : Prop :=
  Join0 (fun (k1 : St → Prop) => ∃ x18 : Int, lenV S 2 x0 = some (V.int .i64 x18) ∧ ifC (decide ((65536 : Int) < x18)) (K true S) (∃ x22 : Int, lenV S 2 x1 = some (V.int .i64 x22) ∧ ifC (decide ((65536 : Int) < x22)) (K true S) (∃ x27 : Int, lenV S 2 x2 = some (V.int .i64 x27) ∧ ifC (decide ((65536 : Int) < x27)) (K true S) (k1  S)))) (fun (S1 : St) => CallA P (N Fn.vec_Dist) [x0, x1] S1 (retT [(.agg [(.int .u64), (.int .u64)]), (.one (.int .i64))] fun (x33a_a : Int) (x33a_b : Int) (x33b : Int) (S2 : St) => newS S2 (.cells [(V.int .u64 0), (V.int .u64 0)] true) fun S3 => ifS (storeV S3 2 (V.ptr S2.next 0) (V.agg [(V.int .u64 x33a_a), (V.int .u64 x33a_b)])) fun S4 => CallA P (N Fn.vec_Dist) [x1, x0] S4 (retT [(.agg [(.int .u64), (.int .u64)]), (.one (.int .i64))] fun (x39a_a : Int) (x39a_b : Int) (x39b : Int) (S5 : St) => newS S5 (.cells [(V.int .u64 0), (V.int .u64 0)] true) fun S6 => ifS (storeV S6 2 (V.ptr S5.next 0) (V.agg [(V.int .u64 x39a_a), (V.int .u64 x39a_b)])) fun S7 => Join1 (fun (k2 : Bool → St → Prop) => ifC (!decide (x33b = (0 : Int))) (k2 true S7) (k2 (!decide (x39b = (0 : Int))) S7)) (fun (x47 : Bool) (S8 : St) => ifC x47 (CallA P (N Fn.law03_awake) [] S8 (retT [(.one .bool)] fun (x48 : Bool) (S9 : St) => ifC x48 (K ((decide (x33b = (0 : Int))) == (decide (x39b = (0 : Int)))) S9) (K false S9))) (Join0 (fun (k3 : St → Prop) => ∃ x56_a x56_b : Int, loadNV S8 2 (V.ptr S2.next 0) = some (V.agg [(V.int .u64 x56_a), (V.int .u64 x56_b)]) ∧ ∃ x57_a x57_b : Int, loadNV S8 2 (V.ptr S5.next 0) = some (V.agg [(V.int .u64 x57_a), (V.int .u64 x57_b)]) ∧ ∃ x58 : Bool, eqV 6 [1, 1] (V.agg [(V.int .u64 x56_a), (V.int .u64 x56_b)]) (V.agg [(V.int .u64 x57_a), (V.int .u64 x57_b)]) = some x58 ∧ ifC (!x58) (K false S8) (∃ x60_a x60_b : Int, loadNV S8 2 (V.ptr S2.next 0) = some (V.agg [(V.int .u64 x60_a), (V.int .u64 x60_b)]) ∧ ∃ x62 : Bool, eqV 6 [1, 1] (V.agg [(V.int .u64 x60_a), (V.int .u64 x60_b)]) (V.agg [(V.int .u64 0), (V.int .u64 0)]) = some x62 ∧ CallA P (N Fn.keep_Ints) [x0, x1] S8 (retT [(.one .bool)] fun (x65 : Bool) (S11 : St) => Same (S2.next :: (S5.next :: (S2.next :: []))) S8 S11 ∧ ifC (!(x62 == x65)) (K false S11) (k3  S11)))) (fun (S10 : St) => Loop3 (fun (k4 : V → V → Int → St → Prop) (x11 : V) (x12 : V) (x13 : Int) (S12 : St) => ∃ x70 : Int, lenV S12 2 x0 = some (V.int .i64 x70) ∧ ifC (decide (x13 < x70)) (Join1 (fun (k5 : Int → St → Prop) => Join1 (fun (k6 : Bool → St → Prop) => ∃ x76 : Int, lenV S12 2 x2 = some (V.int .i64 x76) ∧ ifC (decide (x13 < x76)) (ifS (idxAddrV 1 x2 (V.int .i64 x13)) fun x81 => ∃ x82 : Int, loadV S12 x81 = some (V.int .i64 x82) ∧ ifC (decide ((-4294967294 : Int) < x82)) (ifS (idxAddrV 1 x2 (V.int .i64 x13)) fun x88 => ∃ x89 : Int, loadV S12 x88 = some (V.int .i64 x89) ∧ k6 (decide (x89 < (4294967294 : Int))) S12) (k6 false S12)) (k6 false S12)) (fun (x91 : Bool) (S14 : St) => ifC x91 (ifS (idxAddrV 1 x2 (V.int .i64 x13)) fun x94 => ∃ x95 : Int, loadV S14 x94 = some (V.int .i64 x95) ∧ k5 x95 S14) (k5 0 S14))) (fun (x14 : Int) (S13 : St) => ifS (idxAddrV 1 x0 (V.int .i64 x13)) fun x99 => ∃ x100 : Int, loadV S13 x99 = some (V.int .i64 x100) ∧ setI (IntKind.i64.wrap (x100 + x14)) fun x102 => newS S13 (.cells [(V.int .i64 x102)] true) fun S15 => ifP (appV S15 1 8 x11 (V.slice S13.next 0 1 1 1 true)) fun x104 S16 => ifS (idxAddrV 1 x1 (V.int .i64 x13)) fun x108 => ∃ x109 : Int, loadV S16 x108 = some (V.int .i64 x109) ∧ setI (IntKind.i64.wrap (x109 + x14)) fun x111 => newS S16 (.cells [(V.int .i64 x111)] true) fun S17 => ifP (appV S17 1 8 x12 (V.slice S16.next 0 1 1 1 true)) fun x113 S18 => setI (IntKind.i64.wrap (x13 + (1 : Int))) fun x73 => k4 x104 x113 x73 S18)) (CallA P (N Fn.vec_Dist) [x11, x12] S12 (retT [(.agg [(.int .u64), (.int .u64)]), (.one (.int .i64))] fun (x117a_a : Int) (x117a_b : Int) (x117b : Int) (S19 : St) => newS S19 (.cells [(V.int .u64 0), (V.int .u64 0)] true) fun S20 => ifS (storeV S20 2 (V.ptr S19.next 0) (V.agg [(V.int .u64 x117a_a), (V.int .u64 x117a_b)])) fun S21 => CallA P (N Fn.law03_awake) [] S21 (retT [(.one .bool)] fun (x120 : Bool) (S22 : St) => ifC x120 (ifC (decide (x117b = (31 : Int))) (K true S22) (ifC (decide (x117b = (0 : Int))) (∃ x128_a x128_b : Int, loadNV S22 2 (V.ptr S19.next 0) = some (V.agg [(V.int .u64 x128_a), (V.int .u64 x128_b)]) ∧ ∃ x129_a x129_b : Int, loadNV S22 2 (V.ptr S2.next 0) = some (V.agg [(V.int .u64 x129_a), (V.int .u64 x129_b)]) ∧ ∃ x130 : Bool, eqV 6 [1, 1] (V.agg [(V.int .u64 x128_a), (V.int .u64 x128_b)]) (V.agg [(V.int .u64 x129_a), (V.int .u64 x129_b)]) = some x130 ∧ K x130 S22) (K false S22))) (K false S22))))) V.nilSlice V.nilSlice 0 S10))))))
abbrev law03_VecMoves.Ok (P : Program) (N : Nat → Nat) : Prop := Reads P (N Fn.law03_VecMoves) [(2, (.dt (.one (.int .i64))), []), (3, (.dt (.one (.int .i64))), []), (4, (.dt (.one (.int .i64))), []), (5, .no, [(.agg [(.int .u64), (.int .u64)]), (.one (.int .i64))]), (8, .no, [(.agg [(.int .u64), (.int .u64)]), (.one (.int .i64))]), (12, .no, [(.one .bool)]), (8, (.dt (.agg [(.int .u64), (.int .u64)])), []), (0, (.dt (.agg [(.int .u64), (.int .u64)])), []), (2, (.dt (.agg [(.int .u64), (.int .u64)])), []), (0, (.dt (.agg [(.int .u64), (.int .u64)])), []), (3, .no, [(.one .bool)]), (8, (.dt (.one (.int .i64))), []), (4, (.dt (.one (.int .i64))), []), (5, (.dt (.one (.int .i64))), []), (6, (.dt (.one (.int .i64))), []), (5, (.dt (.one (.int .i64))), []), (5, (.dt (.one (.int .i64))), []), (2, (.dt (.agg [(.int .i64)])), []), (6, (.dt (.one (.int .i64))), []), (2, (.dt (.agg [(.int .i64)])), []), (7, .no, [(.agg [(.int .u64), (.int .u64)]), (.one (.int .i64))]), (6, .no, [(.one .bool)]), (7, (.dt (.agg [(.int .u64), (.int .u64)])), []), (0, (.dt (.agg [(.int .u64), (.int .u64)])), [])] [(1, []), (5, [(47, (.one .bool))]), (1, []), (10, [(14, (.one (.int .i64)))]), (0, [(91, (.one .bool))])] [[(11, (.one .any)), (12, (.one .any)), (13, (.one (.int .i64)))]] (fun A T (x0 : V) (x1 : V) (x2 : V) (S : St) (K : Bool → St → Prop) => wpT P (envP P) T (endT A.results [(.one .bool)] K) (frT A [x0, x1, x2]) S) (fun x0 x1 x2 S K => law03_VecMoves.p P N x0 x1 x2 S K)
theorem law03_VecMoves.run {P : Program} {N : Nat → Nat} (hF : law03_VecMoves.Ok P N) {x0 : V} {x1 : V} {x2 : V} {S : St} {K : Bool → St → Prop} (h : law03_VecMoves.p P N x0 x1 x2 S K) : CallA P (N Fn.law03_VecMoves) [x0, x1, x2] S (retT [(.one .bool)] K) := hF.run (fun q => q x0 x1 x2 S K) h rfl

def law03_VecScale.p (P : Program) (N : Nat → Nat) (x0 : V) (x1 : V) (S : St) (K : Bool → St → Prop) : Prop :=
  Join0 (fun (k1 : St → Prop) => ∃ x17 : Int, lenV S 2 x0 = some (V.int .i64 x17) ∧ ifC (decide ((65536 : Int) < x17)) (K true S) (∃ x21 : Int, lenV S 2 x1 = some (V.int .i64 x21) ∧ ifC (decide ((65536 : Int) < x21)) (K true S) (k1  S))) (fun (S1 : St) => CallA P (N Fn.vec_Dist) [x0, x1] S1 (retT [(.agg [(.int .u64), (.int .u64)]), (.one (.int .i64))] fun (x27a_a : Int) (x27a_b : Int) (x27b : Int) (S2 : St) => newS S2 (.cells [(V.int .u64 0), (V.int .u64 0)] true) fun S3 => ifS (storeV S3 2 (V.ptr S2.next 0) (V.agg [(V.int .u64 x27a_a), (V.int .u64 x27a_b)])) fun S4 => ifC (!decide (x27b = (0 : Int))) (CallA P (N Fn.law03_awake) [] S4 (retT [(.one .bool)] fun (x32 : Bool) (S5 : St) => K x32 S5)) (Loop3 (fun (k2 : V → V → Int → St → Prop) (x7 : V) (x8 : V) (x9 : Int) (S6 : St) => ∃ x35 : Int, lenV S6 2 x0 = some (V.int .i64 x35) ∧ ifC (decide (x9 < x35)) (ifS (idxAddrV 1 x0 (V.int .i64 x9)) fun x42 => ∃ x43 : Int, loadV S6 x42 = some (V.int .i64 x43) ∧ setI (IntKind.i64.wrap ((2 : Int) * x43)) fun x44 => newS S6 (.cells [(V.int .i64 x44)] true) fun S7 => ifP (appV S7 1 8 x7 (V.slice S6.next 0 1 1 1 true)) fun x46 S8 => ifS (idxAddrV 1 x1 (V.int .i64 x9)) fun x50 => ∃ x51 : Int, loadV S8 x50 = some (V.int .i64 x51) ∧ setI (IntKind.i64.wrap ((2 : Int) * x51)) fun x52 => newS S8 (.cells [(V.int .i64 x52)] true) fun S9 => ifP (appV S9 1 8 x8 (V.slice S8.next 0 1 1 1 true)) fun x54 S10 => setI (IntKind.i64.wrap (x9 + (1 : Int))) fun x38 => k2 x46 x54 x38 S10) (CallA P (N Fn.vec_Dist) [x7, x8] S6 (retT [(.agg [(.int .u64), (.int .u64)]), (.one (.int .i64))] fun (x58a_a : Int) (x58a_b : Int) (x58b : Int) (S11 : St) => newS S11 (.cells [(V.int .u64 0), (V.int .u64 0)] true) fun S12 => ifS (storeV S12 2 (V.ptr S11.next 0) (V.agg [(V.int .u64 x58a_a), (V.int .u64 x58a_b)])) fun S13 => ∃ x62_a x62_b : Int, loadNV S13 2 (V.ptr S2.next 0) = some (V.agg [(V.int .u64 x62_a), (V.int .u64 x62_b)]) ∧ ∃ x63_a x63_b : Int, loadNV S13 2 (V.ptr S2.next 0) = some (V.agg [(V.int .u64 x63_a), (V.int .u64 x63_b)]) ∧ CallA P (N Fn.ref01_Add) [(V.agg [(V.int .u64 x62_a), (V.int .u64 x62_b)]), (V.agg [(V.int .u64 x63_a), (V.int .u64 x63_b)])] S13 (retT [(.agg [(.int .u64), (.int .u64)]), (.one (.int .i64))] fun (x64a_a : Int) (x64a_b : Int) (x64b : Int) (S14 : St) => newS S14 (.cells [(V.int .u64 0), (V.int .u64 0)] true) fun S15 => ifS (storeV S15 2 (V.ptr S14.next 0) (V.agg [(V.int .u64 x64a_a), (V.int .u64 x64a_b)])) fun S16 => ∃ x68_a x68_b : Int, loadNV S16 2 (V.ptr S14.next 0) = some (V.agg [(V.int .u64 x68_a), (V.int .u64 x68_b)]) ∧ ∃ x69_a x69_b : Int, loadNV S16 2 (V.ptr S14.next 0) = some (V.agg [(V.int .u64 x69_a), (V.int .u64 x69_b)]) ∧ CallA P (N Fn.ref01_Add) [(V.agg [(V.int .u64 x68_a), (V.int .u64 x68_b)]), (V.agg [(V.int .u64 x69_a), (V.int .u64 x69_b)])] S16 (retT [(.agg [(.int .u64), (.int .u64)]), (.one (.int .i64))] fun (x70a_a : Int) (x70a_b : Int) (x70b : Int) (S17 : St) => newS S17 (.cells [(V.int .u64 0), (V.int .u64 0)] true) fun S18 => ifS (storeV S18 2 (V.ptr S17.next 0) (V.agg [(V.int .u64 x70a_a), (V.int .u64 x70a_b)])) fun S19 => CallA P (N Fn.law03_awake) [] S19 (retT [(.one .bool)] fun (x73 : Bool) (S20 : St) => ifC x73 (ifC (decide (x58b = (31 : Int))) (K true S20) (ifC (decide (x58b = (0 : Int))) (ifC (decide (x64b = (0 : Int))) (ifC (decide (x70b = (0 : Int))) (∃ x89_a x89_b : Int, loadNV S20 2 (V.ptr S11.next 0) = some (V.agg [(V.int .u64 x89_a), (V.int .u64 x89_b)]) ∧ ∃ x90_a x90_b : Int, loadNV S20 2 (V.ptr S17.next 0) = some (V.agg [(V.int .u64 x90_a), (V.int .u64 x90_b)]) ∧ ∃ x91 : Bool, eqV 6 [1, 1] (V.agg [(V.int .u64 x89_a), (V.int .u64 x89_b)]) (V.agg [(V.int .u64 x90_a), (V.int .u64 x90_b)]) = some x91 ∧ K x91 S20) (K false S20)) (K false S20)) (K false S20))) (K false S20))))))) V.nilSlice V.nilSlice 0 S4)))
abbrev law03_VecScale.Ok (P : Program) (N : Nat → Nat) : Prop := Reads P (N Fn.law03_VecScale) [(2, (.dt (.one (.int .i64))), []), (3, (.dt (.one (.int .i64))), []), (5, .no, [(.agg [(.int .u64), (.int .u64)]), (.one (.int .i64))]), (8, .no, [(.one .bool)]), (6, (.dt (.one (.int .i64))), []), (5, (.dt (.one (.int .i64))), []), (1, (.dt (.agg [(.int .i64)])), []), (6, (.dt (.one (.int .i64))), []), (1, (.dt (.agg [(.int .i64)])), []), (7, .no, [(.agg [(.int .u64), (.int .u64)]), (.one (.int .i64))]), (6, (.dt (.agg [(.int .u64), (.int .u64)])), []), (0, (.dt (.agg [(.int .u64), (.int .u64)])), []), (0, .no, [(.agg [(.int .u64), (.int .u64)]), (.one (.int .i64))]), (6, (.dt (.agg [(.int .u64), (.int .u64)])), []), (0, (.dt (.agg [(.int .u64), (.int .u64)])), []), (0, .no, [(.agg [(.int .u64), (.int .u64)]), (.one (.int .i64))]), (6, .no, [(.one .bool)]), (15, (.dt (.agg [(.int .u64), (.int .u64)])), []), (0, (.dt (.agg [(.int .u64), (.int .u64)])), [])] [(1, [])] [[(7, (.one .any)), (8, (.one .any)), (9, (.one (.int .i64)))]] (fun A T (x0 : V) (x1 : V) (S : St) (K : Bool → St → Prop) => wpT P (envP P) T (endT A.results [(.one .bool)] K) (frT A [x0, x1]) S) (fun x0 x1 S K => law03_VecScale.p P N x0 x1 S K)
theorem law03_VecScale.run {P : Program} {N : Nat → Nat} (hF : law03_VecScale.Ok P N) {x0 : V} {x1 : V} {S : St} {K : Bool → St → Prop} (h : law03_VecScale.p P N x0 x1 S K) : CallA P (N Fn.law03_VecScale) [x0, x1] S (retT [(.one .bool)] K) := hF.run (fun q => q x0 x1 S K) h rfl

def law03_VecTriangle.p (P : Program) (N : Nat → Nat) (x0 : V) (x1 : V) (x2 : V) (S : St) (K : Bool → St → Prop) : Prop :=
  Join0 (fun (k1 : St → Prop) => ∃ x14 : Int, lenV S 2 x0 = some (V.int .i64 x14) ∧ ifC (decide ((65536 : Int) < x14)) (K true S) (∃ x18 : Int, lenV S 2 x1 = some (V.int .i64 x18) ∧ ifC (decide ((65536 : Int) < x18)) (K true S) (∃ x23 : Int, lenV S 2 x2 = some (V.int .i64 x23) ∧ ifC (decide ((65536 : Int) < x23)) (K true S) (k1  S)))) (fun (S1 : St) => CallA P (N Fn.vec_Dist) [x0, x1] S1 (retT [(.agg [(.int .u64), (.int .u64)]), (.one (.int .i64))] fun (x29a_a : Int) (x29a_b : Int) (x29b : Int) (S2 : St) => newS S2 (.cells [(V.int .u64 0), (V.int .u64 0)] true) fun S3 => ifS (storeV S3 2 (V.ptr S2.next 0) (V.agg [(V.int .u64 x29a_a), (V.int .u64 x29a_b)])) fun S4 => CallA P (N Fn.vec_Dist) [x1, x2] S4 (retT [(.agg [(.int .u64), (.int .u64)]), (.one (.int .i64))] fun (x35a_a : Int) (x35a_b : Int) (x35b : Int) (S5 : St) => newS S5 (.cells [(V.int .u64 0), (V.int .u64 0)] true) fun S6 => ifS (storeV S6 2 (V.ptr S5.next 0) (V.agg [(V.int .u64 x35a_a), (V.int .u64 x35a_b)])) fun S7 => CallA P (N Fn.vec_Dist) [x0, x2] S7 (retT [(.agg [(.int .u64), (.int .u64)]), (.one (.int .i64))] fun (x41a_a : Int) (x41a_b : Int) (x41b : Int) (S8 : St) => newS S8 (.cells [(V.int .u64 0), (V.int .u64 0)] true) fun S9 => ifS (storeV S9 2 (V.ptr S8.next 0) (V.agg [(V.int .u64 x41a_a), (V.int .u64 x41a_b)])) fun S10 => Join1 (fun (k2 : Bool → St → Prop) => ifC (!decide (x29b = (0 : Int))) (k2 true S10) (ifC (!decide (x35b = (0 : Int))) (k2 true S10) (k2 (!decide (x41b = (0 : Int))) S10))) (fun (x53 : Bool) (S11 : St) => ifC x53 (CallA P (N Fn.law03_awake) [] S11 (retT [(.one .bool)] fun (x54 : Bool) (S12 : St) => K x54 S12)) (CallA P (N Fn.law03_awake) [] S11 (retT [(.one .bool)] fun (x55 : Bool) (S13 : St) => ifC x55 (∃ x57_a x57_b : Int, loadNV S13 2 (V.ptr S8.next 0) = some (V.agg [(V.int .u64 x57_a), (V.int .u64 x57_b)]) ∧ ∃ x59_a x59_b : Int, loadNV S13 2 (V.ptr S2.next 0) = some (V.agg [(V.int .u64 x59_a), (V.int .u64 x59_b)]) ∧ ∃ x61_a x61_b : Int, loadNV S13 2 (V.ptr S5.next 0) = some (V.agg [(V.int .u64 x61_a), (V.int .u64 x61_b)]) ∧ CallA P (N Fn.ref03_Root) [(V.agg [(V.int .u64 x57_a), (V.int .u64 x57_b)])] S13 (retT [(.one (.int .u64))] fun (x58 : Int) (S14 : St) => Same (S5.next :: (S2.next :: [])) S13 S14 ∧ CallA P (N Fn.ref03_Root) [(V.agg [(V.int .u64 x59_a), (V.int .u64 x59_b)])] S14 (retT [(.one (.int .u64))] fun (x60 : Int) (S15 : St) => Same (S5.next :: (S8.next :: [])) S14 S15 ∧ CallA P (N Fn.ref03_Root) [(V.agg [(V.int .u64 x61_a), (V.int .u64 x61_b)])] S15 (retT [(.one (.int .u64))] fun (x62 : Int) (S16 : St) => Same (S2.next :: (S8.next :: [])) S15 S16 ∧ setI (IntKind.u64.wrap (x60 + x62)) fun x63 => setI (IntKind.u64.wrap (x63 + (1 : Int))) fun x64 => K (decide (x58 ≤ x64)) S16)))) (K false S13))))))))
abbrev law03_VecTriangle.Ok (P : Program) (N : Nat → Nat) : Prop := Reads P (N Fn.law03_VecTriangle) [(2, (.dt (.one (.int .i64))), []), (3, (.dt (.one (.int .i64))), []), (4, (.dt (.one (.int .i64))), []), (5, .no, [(.agg [(.int .u64), (.int .u64)]), (.one (.int .i64))]), (8, .no, [(.agg [(.int .u64), (.int .u64)]), (.one (.int .i64))]), (8, .no, [(.agg [(.int .u64), (.int .u64)]), (.one (.int .i64))]), (16, .no, [(.one .bool)]), (1, .no, [(.one .bool)]), (1, (.dt (.agg [(.int .u64), (.int .u64)])), []), (0, (.dt (.agg [(.int .u64), (.int .u64)])), []), (0, (.dt (.agg [(.int .u64), (.int .u64)])), []), (0, .no, [(.one (.int .u64))]), (0, .no, [(.one (.int .u64))]), (0, .no, [(.one (.int .u64))])] [(1, []), (6, [(53, (.one .bool))])] [] (fun A T (x0 : V) (x1 : V) (x2 : V) (S : St) (K : Bool → St → Prop) => wpT P (envP P) T (endT A.results [(.one .bool)] K) (frT A [x0, x1, x2]) S) (fun x0 x1 x2 S K => law03_VecTriangle.p P N x0 x1 x2 S K)
theorem law03_VecTriangle.run {P : Program} {N : Nat → Nat} (hF : law03_VecTriangle.Ok P N) {x0 : V} {x1 : V} {x2 : V} {S : St} {K : Bool → St → Prop} (h : law03_VecTriangle.p P N x0 x1 x2 S K) : CallA P (N Fn.law03_VecTriangle) [x0, x1, x2] S (retT [(.one .bool)] K) := hF.run (fun q => q x0 x1 x2 S K) h rfl

def law03_VecShapes.p (P : Program) (N : Nat → Nat) (x0 : V) (x1 : Int) (x2 : V) (S : St) (K : Bool → St → Prop) : Prop :=
  Join0 (fun (k1 : St → Prop) => CallA P (N Fn.keep_Vectors) [x0, (V.int .i64 65536)] S (retT [(.one (.int .i64))] fun (x18 : Int) (S2 : St) => ifC (decide ((65536 : Int) < x18)) (K true S2) (∃ x22 : Int, lenV S2 2 x0 = some (V.int .i64 x22) ∧ ifC (decide ((2000 : Int) < x22)) (K true S2) (∃ x27 : Int, lenV S2 2 x2 = some (V.int .i64 x27) ∧ ifC (decide ((65536 : Int) < x27)) (K true S2) (k1  S2))))) (fun (S1 : St) => CallA P (N Fn.keep_LendRows) [x0] S1 (retT [(.one .any)] fun (x31 : V) (S3 : St) => CallA P (N Fn.vec_Box) [x31, (V.int .i64 x1)] S3 (retT [(.agg [(.int .i64), .any, .any, (.int .u64), (.int .u64), .any]), (.one (.int .i64))] fun (x35a_a : Int) (x35a_b : V) (x35a_c : V) (x35a_d : Int) (x35a_e : Int) (x35a_f : V) (x35b : Int) (S4 : St) => newS S4 (.cells [(V.int .i64 0), V.nilSlice, V.nilSlice, (V.int .u64 0), (V.int .u64 0), V.nilSlice] true) fun S5 => ifS (storeV S5 6 (V.ptr S4.next 0) (V.agg [(V.int .i64 x35a_a), x35a_b, x35a_c, (V.int .u64 x35a_d), (V.int .u64 x35a_e), x35a_f])) fun S6 => CallA P (N Fn.vec_Ball) [x2, x31] S6 (retT [(.agg [(.int .i64), .any, .any, (.int .u64), (.int .u64), .any]), (.one (.int .i64))] fun (x41a_a : Int) (x41a_b : V) (x41a_c : V) (x41a_d : Int) (x41a_e : Int) (x41a_f : V) (x41b : Int) (S7 : St) => newS S7 (.cells [(V.int .i64 0), V.nilSlice, V.nilSlice, (V.int .u64 0), (V.int .u64 0), V.nilSlice] true) fun S8 => ifS (storeV S8 6 (V.ptr S7.next 0) (V.agg [(V.int .i64 x41a_a), x41a_b, x41a_c, (V.int .u64 x41a_d), (V.int .u64 x41a_e), x41a_f])) fun S9 => CallA P (N Fn.keep_BackRows) [x31, x0] S9 (retT [(.one .bool)] fun (x46 : Bool) (S10 : St) => CallA P (N Fn.ref03_Box) [x0, (V.int .i64 x1)] S10 (retT [(.agg [(.int .i64), .any, .any, (.int .u64), (.int .u64), .any]), (.one (.int .i64))] fun (x50a_a : Int) (x50a_b : V) (x50a_c : V) (x50a_d : Int) (x50a_e : Int) (x50a_f : V) (x50b : Int) (S11 : St) => newS S11 (.cells [(V.int .i64 0), V.nilSlice, V.nilSlice, (V.int .u64 0), (V.int .u64 0), V.nilSlice] true) fun S12 => ifS (storeV S12 6 (V.ptr S11.next 0) (V.agg [(V.int .i64 x50a_a), x50a_b, x50a_c, (V.int .u64 x50a_d), (V.int .u64 x50a_e), x50a_f])) fun S13 => CallA P (N Fn.ref03_Ball) [x2, x0] S13 (retT [(.agg [(.int .i64), .any, .any, (.int .u64), (.int .u64), .any]), (.one (.int .i64))] fun (x56a_a : Int) (x56a_b : V) (x56a_c : V) (x56a_d : Int) (x56a_e : Int) (x56a_f : V) (x56b : Int) (S14 : St) => newS S14 (.cells [(V.int .i64 0), V.nilSlice, V.nilSlice, (V.int .u64 0), (V.int .u64 0), V.nilSlice] true) fun S15 => ifS (storeV S15 6 (V.ptr S14.next 0) (V.agg [(V.int .i64 x56a_a), x56a_b, x56a_c, (V.int .u64 x56a_d), (V.int .u64 x56a_e), x56a_f])) fun S16 => CallA P (N Fn.law03_awake) [] S16 (retT [(.one .bool)] fun (x59 : Bool) (S17 : St) => ifC x59 (ifC x46 (∃ x64_a : Int, ∃ x64_b x64_c : V, ∃ x64_d x64_e : Int, ∃ x64_f : V, loadNV S17 6 (V.ptr S4.next 0) = some (V.agg [(V.int .i64 x64_a), x64_b, x64_c, (V.int .u64 x64_d), (V.int .u64 x64_e), x64_f]) ∧ ∃ x65_a : Int, ∃ x65_b x65_c : V, ∃ x65_d x65_e : Int, ∃ x65_f : V, loadNV S17 6 (V.ptr S11.next 0) = some (V.agg [(V.int .i64 x65_a), x65_b, x65_c, (V.int .u64 x65_d), (V.int .u64 x65_e), x65_f]) ∧ CallA P (N Fn.ref03_Same) [(V.agg [(V.int .i64 x64_a), x64_b, x64_c, (V.int .u64 x64_d), (V.int .u64 x64_e), x64_f]), (V.agg [(V.int .i64 x65_a), x65_b, x65_c, (V.int .u64 x65_d), (V.int .u64 x65_e), x65_f])] S17 (retT [(.one .bool)] fun (x66 : Bool) (S18 : St) => ifC x66 (ifC (decide (x35b = x50b)) (∃ x74_a : Int, ∃ x74_b x74_c : V, ∃ x74_d x74_e : Int, ∃ x74_f : V, loadNV S18 6 (V.ptr S7.next 0) = some (V.agg [(V.int .i64 x74_a), x74_b, x74_c, (V.int .u64 x74_d), (V.int .u64 x74_e), x74_f]) ∧ ∃ x75_a : Int, ∃ x75_b x75_c : V, ∃ x75_d x75_e : Int, ∃ x75_f : V, loadNV S18 6 (V.ptr S14.next 0) = some (V.agg [(V.int .i64 x75_a), x75_b, x75_c, (V.int .u64 x75_d), (V.int .u64 x75_e), x75_f]) ∧ CallA P (N Fn.ref03_Same) [(V.agg [(V.int .i64 x74_a), x74_b, x74_c, (V.int .u64 x74_d), (V.int .u64 x74_e), x74_f]), (V.agg [(V.int .i64 x75_a), x75_b, x75_c, (V.int .u64 x75_d), (V.int .u64 x75_e), x75_f])] S18 (retT [(.one .bool)] fun (x76 : Bool) (S19 : St) => ifC x76 (K (decide (x41b = x56b)) S19) (K false S19))) (K false S18)) (K false S18))) (K false S17)) (K false S17)))))))))
abbrev law03_VecShapes.Ok (P : Program) (N : Nat → Nat) : Prop := Reads P (N Fn.law03_VecShapes) [(2, .no, [(.one (.int .i64))]), (3, (.dt (.one (.int .i64))), []), (4, (.dt (.one (.int .i64))), []), (4, .no, [(.one .any)]), (3, .no, [(.agg [(.int .i64), .any, .any, (.int .u64), (.int .u64), .any]), (.one (.int .i64))]), (8, .no, [(.agg [(.int .i64), .any, .any, (.int .u64), (.int .u64), .any]), (.one (.int .i64))]), (8, .no, [(.one .bool)]), (3, .no, [(.agg [(.int .i64), .any, .any, (.int .u64), (.int .u64), .any]), (.one (.int .i64))]), (8, .no, [(.agg [(.int .i64), .any, .any, (.int .u64), (.int .u64), .any]), (.one (.int .i64))]), (6, .no, [(.one .bool)]), (4, (.dt (.agg [(.int .i64), .any, .any, (.int .u64), (.int .u64), .any])), []), (0, (.dt (.agg [(.int .i64), .any, .any, (.int .u64), (.int .u64), .any])), []), (0, .no, [(.one .bool)]), (7, (.dt (.agg [(.int .i64), .any, .any, (.int .u64), (.int .u64), .any])), []), (0, (.dt (.agg [(.int .i64), .any, .any, (.int .u64), (.int .u64), .any])), []), (0, .no, [(.one .bool)])] [(1, [])] [] (fun A T (x0 : V) (x1 : Int) (x2 : V) (S : St) (K : Bool → St → Prop) => wpT P (envP P) T (endT A.results [(.one .bool)] K) (frT A [x0, (V.int .i64 x1), x2]) S) (fun x0 x1 x2 S K => law03_VecShapes.p P N x0 x1 x2 S K)
theorem law03_VecShapes.run {P : Program} {N : Nat → Nat} (hF : law03_VecShapes.Ok P N) {x0 : V} {x1 : Int} {x2 : V} {S : St} {K : Bool → St → Prop} (h : law03_VecShapes.p P N x0 x1 x2 S K) : CallA P (N Fn.law03_VecShapes) [x0, (V.int .i64 x1), x2] S (retT [(.one .bool)] K) := hF.run (fun q => q x0 x1 x2 S K) h rfl

def law03_VecHolds.p (P : Program) (N : Nat → Nat) (x0 : V) (x1 : V) (x2 : Int) (S : St) (K : Bool → St → Prop) : Prop :=
  Join0 (fun (k1 : St → Prop) => CallA P (N Fn.keep_Vectors) [x0, (V.int .i64 65536)] S (retT [(.one (.int .i64))] fun (x21 : Int) (S2 : St) => ifC (decide ((65536 : Int) < x21)) (K true S2) (∃ x25 : Int, lenV S2 2 x0 = some (V.int .i64 x25) ∧ ifC (decide ((2000 : Int) < x25)) (K true S2) (∃ x30 : Int, lenV S2 2 x1 = some (V.int .i64 x30) ∧ ifC (decide ((65536 : Int) < x30)) (K true S2) (k1  S2))))) (fun (S1 : St) => ∃ x34 : Int, lenV S1 2 x1 = some (V.int .i64 x34) ∧ CallA P (N Fn.vec_Box) [x0, (V.int .i64 x34)] S1 (retT [(.agg [(.int .i64), .any, .any, (.int .u64), (.int .u64), .any]), (.one (.int .i64))] fun (x38a_a : Int) (x38a_b : V) (x38a_c : V) (x38a_d : Int) (x38a_e : Int) (x38a_f : V) (x38b : Int) (S3 : St) => newS S3 (.cells [(V.int .i64 0), V.nilSlice, V.nilSlice, (V.int .u64 0), (V.int .u64 0), V.nilSlice] true) fun S4 => ifS (storeV S4 6 (V.ptr S3.next 0) (V.agg [(V.int .i64 x38a_a), x38a_b, x38a_c, (V.int .u64 x38a_d), (V.int .u64 x38a_e), x38a_f])) fun S5 => CallA P (N Fn.vec_Ball) [x1, x0] S5 (retT [(.agg [(.int .i64), .any, .any, (.int .u64), (.int .u64), .any]), (.one (.int .i64))] fun (x44a_a : Int) (x44a_b : V) (x44a_c : V) (x44a_d : Int) (x44a_e : Int) (x44a_f : V) (x44b : Int) (S6 : St) => newS S6 (.cells [(V.int .i64 0), V.nilSlice, V.nilSlice, (V.int .u64 0), (V.int .u64 0), V.nilSlice] true) fun S7 => ifS (storeV S7 6 (V.ptr S6.next 0) (V.agg [(V.int .i64 x44a_a), x44a_b, x44a_c, (V.int .u64 x44a_d), (V.int .u64 x44a_e), x44a_f])) fun S8 => Join1 (fun (k2 : Bool → St → Prop) => ifC (!decide (x38b = (0 : Int))) (k2 true S8) (k2 (!decide (x44b = (0 : Int))) S8)) (fun (x52 : Bool) (S9 : St) => ifC x52 (CallA P (N Fn.law03_awake) [] S9 (retT [(.one .bool)] fun (x53 : Bool) (S10 : St) => ifC x53 (ifC (!decide (x38b = (0 : Int))) (K true S10) (K (!decide (x44b = (0 : Int))) S10)) (K false S10))) (Loop1 (fun (k3 : Int → St → Prop) (x12 : Int) (S11 : St) => ∃ x64 : Int, lenV S11 2 x0 = some (V.int .i64 x64) ∧ ifC (decide (x12 < x64)) (∃ x69_a : Int, ∃ x69_b x69_c : V, ∃ x69_d x69_e : Int, ∃ x69_f : V, loadNV S11 6 (V.ptr S3.next 0) = some (V.agg [(V.int .i64 x69_a), x69_b, x69_c, (V.int .u64 x69_d), (V.int .u64 x69_e), x69_f]) ∧ ifS (idxAddrV 2 x0 (V.int .i64 x12)) fun x72 => ifS (fieldAddrV 1 x72) fun x73 => ifS (loadV S11 x73) fun x74 => CallA P (N Fn.vec_Inside) [(V.agg [(V.int .i64 x69_a), x69_b, x69_c, (V.int .u64 x69_d), (V.int .u64 x69_e), x69_f]), x74] S11 (retT [(.one .bool), (.one (.int .i64))] fun (x75a : Bool) (x75b : Int) (S12 : St) => ∃ x79_a : Int, ∃ x79_b x79_c : V, ∃ x79_d x79_e : Int, ∃ x79_f : V, loadNV S12 6 (V.ptr S6.next 0) = some (V.agg [(V.int .i64 x79_a), x79_b, x79_c, (V.int .u64 x79_d), (V.int .u64 x79_e), x79_f]) ∧ ifS (idxAddrV 2 x0 (V.int .i64 x12)) fun x82 => ifS (fieldAddrV 1 x82) fun x83 => ifS (loadV S12 x83) fun x84 => CallA P (N Fn.vec_Inside) [(V.agg [(V.int .i64 x79_a), x79_b, x79_c, (V.int .u64 x79_d), (V.int .u64 x79_e), x79_f]), x84] S12 (retT [(.one .bool), (.one (.int .i64))] fun (x85a : Bool) (x85b : Int) (S13 : St) => ifC (!decide (x75b = (0 : Int))) (K false S13) (ifC (!decide (x85b = (0 : Int))) (K false S13) (ifC (!x75a) (K false S13) (ifC (!x85a) (K false S13) (setI (IntKind.i64.wrap (x12 + (1 : Int))) fun x67 => k3 x67 S13))))))) (Join0 (fun (k4 : St → Prop) => ifS (loadV S11 (V.ptr S3.next 1)) fun x103 => ∃ x104 : Int, lenV S11 2 x103 = some (V.int .i64 x104) ∧ ifC (!decide (x104 = x34)) (K false S11) (ifS (loadV S11 (V.ptr S3.next 2)) fun x109 => ∃ x110 : Int, lenV S11 2 x109 = some (V.int .i64 x110) ∧ ifC (!decide (x110 = x34)) (K false S11) (k4  S11))) (fun (S14 : St) => Join1 (fun (k5 : Bool → St → Prop) => ifC (decide (x2 < (0 : Int))) (k5 true S14) (ifC (decide (x34 ≤ x2)) (k5 true S14) (ifS (loadV S14 (V.ptr S3.next 1)) fun x123 => ifS (idxAddrV 1 x123 (V.int .i64 x2)) fun x125 => ∃ x126 : Int, loadV S14 x125 = some (V.int .i64 x126) ∧ ifS (loadV S14 (V.ptr S3.next 2)) fun x128 => ifS (idxAddrV 1 x128 (V.int .i64 x2)) fun x130 => ∃ x131 : Int, loadV S14 x130 = some (V.int .i64 x131) ∧ k5 (decide (x131 ≤ x126)) S14))) (fun (x133 : Bool) (S15 : St) => ifC x133 (CallA P (N Fn.law03_awake) [] S15 (retT [(.one .bool)] fun (x134 : Bool) (S16 : St) => K x134 S16)) (ifS (loadV S15 (V.ptr S3.next 1)) fun x136 => ifS (idxAddrV 1 x136 (V.int .i64 x2)) fun x138 => ∃ x139 : Int, loadV S15 x138 = some (V.int .i64 x139) ∧ setI (IntKind.i64.wrap (x139 + (1 : Int))) fun x140 => ifS (idxAddrV 1 x136 (V.int .i64 x2)) fun x141 => ifS (storeV S15 1 x141 (V.int .i64 x140)) fun S17 => Loop1 (fun (k6 : Int → St → Prop) (x17 : Int) (S18 : St) => ∃ x144 : Int, lenV S18 2 x0 = some (V.int .i64 x144) ∧ ifC (decide (x17 < x144)) (∃ x149_a : Int, ∃ x149_b x149_c : V, ∃ x149_d x149_e : Int, ∃ x149_f : V, loadNV S18 6 (V.ptr S3.next 0) = some (V.agg [(V.int .i64 x149_a), x149_b, x149_c, (V.int .u64 x149_d), (V.int .u64 x149_e), x149_f]) ∧ ifS (idxAddrV 2 x0 (V.int .i64 x17)) fun x152 => ifS (fieldAddrV 1 x152) fun x153 => ifS (loadV S18 x153) fun x154 => CallA P (N Fn.vec_Inside) [(V.agg [(V.int .i64 x149_a), x149_b, x149_c, (V.int .u64 x149_d), (V.int .u64 x149_e), x149_f]), x154] S18 (retT [(.one .bool), (.one (.int .i64))] fun (x155a : Bool) (x155b : Int) (S19 : St) => Join1 (fun (k7 : Bool → St → Prop) => ifC (decide (x155b = (0 : Int))) (k7 (!x155a) S19) (k7 false S19)) (fun (x163 : Bool) (S20 : St) => ifC x163 (CallA P (N Fn.law03_awake) [] S20 (retT [(.one .bool)] fun (x164 : Bool) (S21 : St) => K x164 S21)) (setI (IntKind.i64.wrap (x17 + (1 : Int))) fun x147 => k6 x147 S20)))) (K false S18)) 0 S17))))) 0 S9)))))
abbrev law03_VecHolds.Ok (P : Program) (N : Nat → Nat) : Prop := Reads P (N Fn.law03_VecHolds) [(2, .no, [(.one (.int .i64))]), (3, (.dt (.one (.int .i64))), []), (4, (.dt (.one (.int .i64))), []), (4, (.dt (.one (.int .i64))), []), (3, .no, [(.agg [(.int .i64), .any, .any, (.int .u64), (.int .u64), .any]), (.one (.int .i64))]), (8, .no, [(.agg [(.int .i64), .any, .any, (.int .u64), (.int .u64), .any]), (.one (.int .i64))]), (12, .no, [(.one .bool)]), (12, (.dt (.one (.int .i64))), []), (1, (.dt (.agg [(.int .i64), .any, .any, (.int .u64), (.int .u64), .any])), []), (5, .no, [(.one .bool), (.one (.int .i64))]), (5, (.dt (.agg [(.int .i64), .any, .any, (.int .u64), (.int .u64), .any])), []), (5, .no, [(.one .bool), (.one (.int .i64))]), (25, (.dt (.one (.int .i64))), []), (5, (.dt (.one (.int .i64))), []), (16, (.dt (.one (.int .i64))), []), (4, (.dt (.one (.int .i64))), []), (2, .no, [(.one .bool)]), (5, (.dt (.one (.int .i64))), []), (6, (.dt (.one (.int .i64))), []), (1, (.dt (.agg [(.int .i64), .any, .any, (.int .u64), (.int .u64), .any])), []), (5, .no, [(.one .bool), (.one (.int .i64))]), (11, .no, [(.one .bool)])] [(1, []), (6, [(52, (.one .bool))]), (10, []), (3, [(133, (.one .bool))]), (8, [(163, (.one .bool))])] [[(12, (.one (.int .i64)))], [(17, (.one (.int .i64)))]] (fun A T (x0 : V) (x1 : V) (x2 : Int) (S : St) (K : Bool → St → Prop) => wpT P (envP P) T (endT A.results [(.one .bool)] K) (frT A [x0, x1, (V.int .i64 x2)]) S) (fun x0 x1 x2 S K => law03_VecHolds.p P N x0 x1 x2 S K)
theorem law03_VecHolds.run {P : Program} {N : Nat → Nat} (hF : law03_VecHolds.Ok P N) {x0 : V} {x1 : V} {x2 : Int} {S : St} {K : Bool → St → Prop} (h : law03_VecHolds.p P N x0 x1 x2 S K) : CallA P (N Fn.law03_VecHolds) [x0, x1, (V.int .i64 x2)] S (retT [(.one .bool)] K) := hF.run (fun q => q x0 x1 x2 S K) h rfl

def law03_awake.p (P : Program) (N : Nat → Nat) (S : St) (K : Bool → St → Prop) : Prop :=
  newS S (.cells [(V.int .i64 (-2147483647))] true) fun S1 => newS S1 (.cells [(V.int .i64 2147483647)] true) fun S2 => CallA P (N Fn.vec_Dist) [(V.slice S.next 0 1 1 1 true), (V.slice S1.next 0 1 1 1 true)] S2 (retT [(.agg [(.int .u64), (.int .u64)]), (.one (.int .i64))] fun (x15a_a : Int) (x15a_b : Int) (x15b : Int) (S3 : St) => newS S3 (.cells [(V.int .u64 0), (V.int .u64 0)] true) fun S4 => ifS (storeV S4 2 (V.ptr S3.next 0) (V.agg [(V.int .u64 x15a_a), (V.int .u64 x15a_b)])) fun S5 => newS S5 (.cells [(V.int .i64 0), (V.int .i64 0)] true) fun S6 => newS S6 (.cells [(V.int .i64 4), (V.int .i64 4)] true) fun S7 => CallA P (N Fn.law03_box) [(V.slice S5.next 0 2 2 1 true), (V.slice S6.next 0 2 2 1 true)] S7 (retT [(.agg [(.int .i64), .any, .any, (.int .u64), (.int .u64), .any])] fun (x21_a : Int) (x21_b : V) (x21_c : V) (x21_d : Int) (x21_e : Int) (x21_f : V) (S8 : St) => newS S8 (.cells [(V.int .i64 4), (V.int .i64 0)] true) fun S9 => CallA P (N Fn.vec_Inside) [(V.agg [(V.int .i64 x21_a), x21_b, x21_c, (V.int .u64 x21_d), (V.int .u64 x21_e), x21_f]), (V.slice S8.next 0 2 2 1 true)] S9 (retT [(.one .bool), (.one (.int .i64))] fun (x23a : Bool) (x23b : Int) (S10 : St) => newS S10 (.cells [(V.int .i64 0), (V.int .i64 0)] true) fun S11 => newS S11 (.cells [(V.int .i64 4), (V.int .i64 4)] true) fun S12 => CallA P (N Fn.law03_box) [(V.slice S10.next 0 2 2 1 true), (V.slice S11.next 0 2 2 1 true)] S12 (retT [(.agg [(.int .i64), .any, .any, (.int .u64), (.int .u64), .any])] fun (x29_a : Int) (x29_b : V) (x29_c : V) (x29_d : Int) (x29_e : Int) (x29_f : V) (S13 : St) => newS S13 (.cells [(V.int .i64 7), (V.int .i64 8)] true) fun S14 => CallA P (N Fn.vec_Bound) [(V.agg [(V.int .i64 x29_a), x29_b, x29_c, (V.int .u64 x29_d), (V.int .u64 x29_e), x29_f]), (V.slice S13.next 0 2 2 1 true)] S14 (retT [(.agg [(.int .u64), (.int .u64)]), (.one (.int .i64))] fun (x31a_a : Int) (x31a_b : Int) (x31b : Int) (S15 : St) => newS S15 (.cells [(V.int .u64 0), (V.int .u64 0)] true) fun S16 => ifS (storeV S16 2 (V.ptr S15.next 0) (V.agg [(V.int .u64 x31a_a), (V.int .u64 x31a_b)])) fun S17 => newS S17 (.cells [(V.int .i64 0), (V.int .i64 0)] true) fun S18 => CallA P (N Fn.law03_ball) [(V.slice S17.next 0 2 2 1 true), (V.int .u64 5)] S18 (retT [(.agg [(.int .i64), .any, .any, (.int .u64), (.int .u64), .any])] fun (x36_a : Int) (x36_b : V) (x36_c : V) (x36_d : Int) (x36_e : Int) (x36_f : V) (S19 : St) => newS S19 (.cells [(V.int .i64 6), (V.int .i64 8)] true) fun S20 => CallA P (N Fn.vec_Bound) [(V.agg [(V.int .i64 x36_a), x36_b, x36_c, (V.int .u64 x36_d), (V.int .u64 x36_e), x36_f]), (V.slice S19.next 0 2 2 1 true)] S20 (retT [(.agg [(.int .u64), (.int .u64)]), (.one (.int .i64))] fun (x38a_a : Int) (x38a_b : Int) (x38b : Int) (S21 : St) => newS S21 (.cells [(V.int .u64 0), (V.int .u64 0)] true) fun S22 => ifS (storeV S22 2 (V.ptr S21.next 0) (V.agg [(V.int .u64 x38a_a), (V.int .u64 x38a_b)])) fun S23 => newS S23 (.cells [(V.int .i64 1), (V.int .i64 5)] true) fun S24 => V.cells (V.slice S23.next 0 2 2 1 true) = [(V.slice S23.next 0 2 2 1 true)] ∧ newS S24 (.cells [(V.int .i64 3), (V.int .i64 2)] true) fun S25 => V.cells (V.slice S24.next 0 2 2 1 true) = [(V.slice S24.next 0 2 2 1 true)] ∧ newS S25 (.cells [(V.int .i64 9), (V.slice S23.next 0 2 2 1 true), (V.int .i64 4), (V.slice S24.next 0 2 2 1 true)] true) fun S26 => CallA P (N Fn.vec_Box) [(V.slice S25.next 0 2 2 2 true), (V.int .i64 2)] S26 (retT [(.agg [(.int .i64), .any, .any, (.int .u64), (.int .u64), .any]), (.one (.int .i64))] fun (x47a_a : Int) (x47a_b : V) (x47a_c : V) (x47a_d : Int) (x47a_e : Int) (x47a_f : V) (x47b : Int) (S27 : St) => newS S27 (.cells [(V.int .i64 0), V.nilSlice, V.nilSlice, (V.int .u64 0), (V.int .u64 0), V.nilSlice] true) fun S28 => ifS (storeV S28 6 (V.ptr S27.next 0) (V.agg [(V.int .i64 x47a_a), x47a_b, x47a_c, (V.int .u64 x47a_d), (V.int .u64 x47a_e), x47a_f])) fun S29 => Join1 (fun (k1 : Bool → St → Prop) => ifC (decide (x15b = (0 : Int))) (ifC (decide (x23b = (0 : Int))) (ifC (decide (x31b = (0 : Int))) (ifC (decide (x38b = (0 : Int))) (ifC (decide (x47b = (0 : Int))) (∃ x69_a x69_b : Int, loadNV S29 2 (V.ptr S3.next 0) = some (V.agg [(V.int .u64 x69_a), (V.int .u64 x69_b)]) ∧ CallA P (N Fn.law03_lo) [(V.int .u64 18446744056529682436)] S29 (retT [(.agg [(.int .u64), (.int .u64)])] fun (x70_a : Int) (x70_b : Int) (S31 : St) => Same (S3.next :: []) S29 S31 ∧ ∃ x71 : Bool, eqV 6 [1, 1] (V.agg [(V.int .u64 x69_a), (V.int .u64 x69_b)]) (V.agg [(V.int .u64 x70_a), (V.int .u64 x70_b)]) = some x71 ∧ ifC x71 (k1 x23a S31) (k1 false S31))) (k1 false S29)) (k1 false S29)) (k1 false S29)) (k1 false S29)) (k1 false S29)) (fun (x11 : Bool) (S30 : St) => ifC x11 (∃ x78_a x78_b : Int, loadNV S30 2 (V.ptr S15.next 0) = some (V.agg [(V.int .u64 x78_a), (V.int .u64 x78_b)]) ∧ CallA P (N Fn.law03_lo) [(V.int .u64 25)] S30 (retT [(.agg [(.int .u64), (.int .u64)])] fun (x79_a : Int) (x79_b : Int) (S32 : St) => Same (S15.next :: []) S30 S32 ∧ ∃ x80 : Bool, eqV 6 [1, 1] (V.agg [(V.int .u64 x78_a), (V.int .u64 x78_b)]) (V.agg [(V.int .u64 x79_a), (V.int .u64 x79_b)]) = some x80 ∧ ifC x80 (∃ x83_a x83_b : Int, loadNV S32 2 (V.ptr S21.next 0) = some (V.agg [(V.int .u64 x83_a), (V.int .u64 x83_b)]) ∧ CallA P (N Fn.law03_lo) [(V.int .u64 49)] S32 (retT [(.agg [(.int .u64), (.int .u64)])] fun (x84_a : Int) (x84_b : Int) (S33 : St) => Same (S21.next :: (S15.next :: [])) S32 S33 ∧ ∃ x85 : Bool, eqV 6 [1, 1] (V.agg [(V.int .u64 x83_a), (V.int .u64 x83_b)]) (V.agg [(V.int .u64 x84_a), (V.int .u64 x84_b)]) = some x85 ∧ ifC x85 (ifS (loadV S33 (V.ptr S27.next 1)) fun x89 => newS S33 (.cells [(V.int .i64 1), (V.int .i64 2)] true) fun S34 => Same (S27.next :: (S21.next :: (S15.next :: []))) S33 S34 ∧ CallA P (N Fn.keep_Ints) [x89, (V.slice S33.next 0 2 2 1 true)] S34 (retT [(.one .bool)] fun (x91 : Bool) (S35 : St) => Same (S21.next :: (S15.next :: [])) S34 S35 ∧ ifC x91 (ifS (loadV S35 (V.ptr S27.next 5)) fun x95 => newS S35 (.cells [(V.int .i64 4), (V.int .i64 9)] true) fun S36 => Same (S27.next :: (S27.next :: (S21.next :: (S15.next :: [])))) S35 S36 ∧ CallA P (N Fn.keep_Ints) [x95, (V.slice S35.next 0 2 2 1 true)] S36 (retT [(.one .bool)] fun (x97 : Bool) (S37 : St) => Same (S27.next :: (S21.next :: (S15.next :: []))) S36 S37 ∧ ifC x97 (newS S37 (.cells [(V.int .i64 1), (V.int .i64 2)] true) fun S38 => Same (S27.next :: (S27.next :: (S21.next :: (S15.next :: [])))) S37 S38 ∧ CallA P (N Fn.vec_Check) [(V.slice S37.next 0 2 2 1 true), (V.int .i64 3)] S38 (retT [(.one (.int .i64))] fun (x101 : Int) (S39 : St) => Same (S27.next :: (S27.next :: (S21.next :: (S15.next :: [])))) S38 S39 ∧ K (decide (x101 = (30 : Int))) S39)) (K false S37))) (K false S35))) (K false S33))) (K false S32))) (K false S30))))))))))
abbrev law03_awake.Ok (P : Program) (N : Nat → Nat) : Prop := Reads P (N Fn.law03_awake) [(1, (.dt (.agg [(.int .i64)])), []), (0, (.dt (.agg [(.int .i64)])), []), (0, .no, [(.agg [(.int .u64), (.int .u64)]), (.one (.int .i64))]), (6, (.dt (.agg [(.int .i64), (.int .i64)])), []), (0, (.dt (.agg [(.int .i64), (.int .i64)])), []), (0, .no, [(.agg [(.int .i64), .any, .any, (.int .u64), (.int .u64), .any])]), (0, (.dt (.agg [(.int .i64), (.int .i64)])), []), (0, .no, [(.one .bool), (.one (.int .i64))]), (5, (.dt (.agg [(.int .i64), (.int .i64)])), []), (0, (.dt (.agg [(.int .i64), (.int .i64)])), []), (0, .no, [(.agg [(.int .i64), .any, .any, (.int .u64), (.int .u64), .any])]), (0, (.dt (.agg [(.int .i64), (.int .i64)])), []), (0, .no, [(.agg [(.int .u64), (.int .u64)]), (.one (.int .i64))]), (6, (.dt (.agg [(.int .i64), (.int .i64)])), []), (0, .no, [(.agg [(.int .i64), .any, .any, (.int .u64), (.int .u64), .any])]), (0, (.dt (.agg [(.int .i64), (.int .i64)])), []), (0, .no, [(.agg [(.int .u64), (.int .u64)]), (.one (.int .i64))]), (6, (.dt (.agg [(.int .i64), (.int .i64)])), []), (0, (.dt (.agg [(.int .i64), .any])), []), (0, (.dt (.agg [(.int .i64), (.int .i64)])), []), (0, (.dt (.agg [(.int .i64), .any])), []), (0, (.dt (.agg [(.int .i64), .any, (.int .i64), .any])), []), (0, .no, [(.agg [(.int .i64), .any, .any, (.int .u64), (.int .u64), .any]), (.one (.int .i64))]), (25, (.dt (.agg [(.int .u64), (.int .u64)])), []), (0, .no, [(.agg [(.int .u64), (.int .u64)])]), (8, (.dt (.agg [(.int .u64), (.int .u64)])), []), (0, .no, [(.agg [(.int .u64), (.int .u64)])]), (3, (.dt (.agg [(.int .u64), (.int .u64)])), []), (0, .no, [(.agg [(.int .u64), (.int .u64)])]), (5, (.dt (.agg [(.int .i64), (.int .i64)])), []), (0, .no, [(.one .bool)]), (4, (.dt (.agg [(.int .i64), (.int .i64)])), []), (0, .no, [(.one .bool)]), (2, (.dt (.agg [(.int .i64), (.int .i64)])), []), (0, .no, [(.one (.int .i64))])] [(6, [(11, (.one .bool))])] [] (fun A T (S : St) (K : Bool → St → Prop) => wpT P (envP P) T (endT A.results [(.one .bool)] K) (frT A []) S) (fun  S K => law03_awake.p P N  S K)
theorem law03_awake.run {P : Program} {N : Nat → Nat} (hF : law03_awake.Ok P N) {S : St} {K : Bool → St → Prop} (h : law03_awake.p P N  S K) : CallA P (N Fn.law03_awake) [] S (retT [(.one .bool)] K) := hF.run (fun q => q  S K) h rfl

def law03_big.p (P : Program) (N : Nat → Nat) (x0_a : Int) (x0_b : V) (x0_c : V) (x0_d : Int) (x0_e : Int) (x0_f : V) (S : St) (K : Bool → St → Prop) : Prop :=
  newS S (.cells [(V.int .i64 x0_a), x0_b, x0_c, (V.int .u64 x0_d), (V.int .u64 x0_e), x0_f] true) fun S1 => ifS (loadV S1 (V.ptr S.next 1)) fun x4 => ∃ x5 : Int, lenV S1 2 x4 = some (V.int .i64 x5) ∧ ifC (decide ((65536 : Int) < x5)) (K true S1) (ifS (loadV S1 (V.ptr S.next 2)) fun x9 => ∃ x10 : Int, lenV S1 2 x9 = some (V.int .i64 x10) ∧ ifC (decide ((65536 : Int) < x10)) (K true S1) (ifS (loadV S1 (V.ptr S.next 5)) fun x15 => ∃ x16 : Int, lenV S1 2 x15 = some (V.int .i64 x16) ∧ K (decide ((65536 : Int) < x16)) S1))
abbrev law03_big.Ok (P : Program) (N : Nat → Nat) : Prop := Reads P (N Fn.law03_big) [(4, (.dt (.one (.int .i64))), []), (4, (.dt (.one (.int .i64))), []), (5, (.dt (.one (.int .i64))), [])] [] [] (fun A T (x0_a : Int) (x0_b : V) (x0_c : V) (x0_d : Int) (x0_e : Int) (x0_f : V) (S : St) (K : Bool → St → Prop) => wpT P (envP P) T (endT A.results [(.one .bool)] K) (frT A [(V.agg [(V.int .i64 x0_a), x0_b, x0_c, (V.int .u64 x0_d), (V.int .u64 x0_e), x0_f])]) S) (fun x0_a x0_b x0_c x0_d x0_e x0_f S K => law03_big.p P N x0_a x0_b x0_c x0_d x0_e x0_f S K)
theorem law03_big.run {P : Program} {N : Nat → Nat} (hF : law03_big.Ok P N) {x0_a : Int} {x0_b : V} {x0_c : V} {x0_d : Int} {x0_e : Int} {x0_f : V} {S : St} {K : Bool → St → Prop} (h : law03_big.p P N x0_a x0_b x0_c x0_d x0_e x0_f S K) : CallA P (N Fn.law03_big) [(V.agg [(V.int .i64 x0_a), x0_b, x0_c, (V.int .u64 x0_d), (V.int .u64 x0_e), x0_f])] S (retT [(.one .bool)] K) := hF.run (fun q => q x0_a x0_b x0_c x0_d x0_e x0_f S K) h rfl

def law03_box.p (P : Program) (N : Nat → Nat) (x0 : V) (x1 : V) (S : St) (K : Int → V → V → Int → Int → V → St → Prop) : Prop :=
  newS S (.cells [(V.int .i64 0), V.nilSlice, V.nilSlice, (V.int .u64 0), (V.int .u64 0), V.nilSlice] true) fun S1 => V.cells x0 = [x0] ∧ V.cells x1 = [x1] ∧ ifS (storeV S1 6 (V.ptr S.next 0) (V.agg [(V.int .i64 2), x0, x1, (V.int .u64 0), (V.int .u64 0), V.nilSlice])) fun S2 => ∃ xr_a : Int, ∃ xr_b xr_c : V, ∃ xr_d xr_e : Int, ∃ xr_f : V, cellNV S2 6 (V.ptr S.next 0) = some (V.agg [(V.int .i64 xr_a), xr_b, xr_c, (V.int .u64 xr_d), (V.int .u64 xr_e), xr_f]) ∧ K xr_a xr_b xr_c xr_d xr_e xr_f S2
abbrev law03_box.Ok (P : Program) (N : Nat → Nat) : Prop := Reads P (N Fn.law03_box) [(3, (.dt (.agg [(.int .i64), .any, .any, (.int .u64), (.int .u64), .any])), [])] [] [] (fun A T (x0 : V) (x1 : V) (S : St) (K : Int → V → V → Int → Int → V → St → Prop) => wpT P (envP P) T (endT A.results [(.agg [(.int .i64), .any, .any, (.int .u64), (.int .u64), .any])] K) (frT A [x0, x1]) S) (fun x0 x1 S K => law03_box.p P N x0 x1 S K)
theorem law03_box.run {P : Program} {N : Nat → Nat} (hF : law03_box.Ok P N) {x0 : V} {x1 : V} {S : St} {K : Int → V → V → Int → Int → V → St → Prop} (h : law03_box.p P N x0 x1 S K) : CallA P (N Fn.law03_box) [x0, x1] S (retT [(.agg [(.int .i64), .any, .any, (.int .u64), (.int .u64), .any])] K) := hF.run (fun q => q x0 x1 S K) h rfl

def law03_ball.p (P : Program) (N : Nat → Nat) (x0 : V) (x1 : Int) (S : St) (K : Int → V → V → Int → Int → V → St → Prop) : Prop :=
  newS S (.cells [(V.int .i64 0), V.nilSlice, V.nilSlice, (V.int .u64 0), (V.int .u64 0), V.nilSlice] true) fun S1 => CallA P (N Fn.law03_lo) [(V.int .u64 x1)] S1 (retT [(.agg [(.int .u64), (.int .u64)])] fun (x7_a : Int) (x7_b : Int) (S2 : St) => V.cells x0 = [x0] ∧ ifS (storeV S2 6 (V.ptr S.next 0) (V.agg [(V.int .i64 3), x0, V.nilSlice, (V.int .u64 x7_a), (V.int .u64 x7_b), V.nilSlice])) fun S3 => ∃ xr_a : Int, ∃ xr_b xr_c : V, ∃ xr_d xr_e : Int, ∃ xr_f : V, cellNV S3 6 (V.ptr S.next 0) = some (V.agg [(V.int .i64 xr_a), xr_b, xr_c, (V.int .u64 xr_d), (V.int .u64 xr_e), xr_f]) ∧ K xr_a xr_b xr_c xr_d xr_e xr_f S3)
abbrev law03_ball.Ok (P : Program) (N : Nat → Nat) : Prop := Reads P (N Fn.law03_ball) [(3, .no, [(.agg [(.int .u64), (.int .u64)])]), (0, (.dt (.agg [(.int .i64), .any, .any, (.int .u64), (.int .u64), .any])), [])] [] [] (fun A T (x0 : V) (x1 : Int) (S : St) (K : Int → V → V → Int → Int → V → St → Prop) => wpT P (envP P) T (endT A.results [(.agg [(.int .i64), .any, .any, (.int .u64), (.int .u64), .any])] K) (frT A [x0, (V.int .u64 x1)]) S) (fun x0 x1 S K => law03_ball.p P N x0 x1 S K)
theorem law03_ball.run {P : Program} {N : Nat → Nat} (hF : law03_ball.Ok P N) {x0 : V} {x1 : Int} {S : St} {K : Int → V → V → Int → Int → V → St → Prop} (h : law03_ball.p P N x0 x1 S K) : CallA P (N Fn.law03_ball) [x0, (V.int .u64 x1)] S (retT [(.agg [(.int .i64), .any, .any, (.int .u64), (.int .u64), .any])] K) := hF.run (fun q => q x0 x1 S K) h rfl

def law03_lo.p (P : Program) (N : Nat → Nat) (x0 : Int) (S : St) (K : Int → Int → St → Prop) : Prop :=
  newS S (.cells [(V.int .u64 0), (V.int .u64 0)] true) fun S1 => ifS (storeV S1 2 (V.ptr S.next 0) (V.agg [(V.int .u64 0), (V.int .u64 x0)])) fun S2 => ∃ xr_a xr_b : Int, cellNV S2 2 (V.ptr S.next 0) = some (V.agg [(V.int .u64 xr_a), (V.int .u64 xr_b)]) ∧ K xr_a xr_b S2
abbrev law03_lo.Ok (P : Program) (N : Nat → Nat) : Prop := Reads P (N Fn.law03_lo) [(2, (.dt (.agg [(.int .u64), (.int .u64)])), [])] [] [] (fun A T (x0 : Int) (S : St) (K : Int → Int → St → Prop) => wpT P (envP P) T (endT A.results [(.agg [(.int .u64), (.int .u64)])] K) (frT A [(V.int .u64 x0)]) S) (fun x0 S K => law03_lo.p P N x0 S K)
theorem law03_lo.run {P : Program} {N : Nat → Nat} (hF : law03_lo.Ok P N) {x0 : Int} {S : St} {K : Int → Int → St → Prop} (h : law03_lo.p P N x0 S K) : CallA P (N Fn.law03_lo) [(V.int .u64 x0)] S (retT [(.agg [(.int .u64), (.int .u64)])] K) := hF.run (fun q => q x0 S K) h rfl

end Go.Th.L
end

section
/- Functions of math, read without frames (printed by tools/lib.py). -/
set_option linter.unusedVariables false
set_option maxRecDepth 100000
set_option maxHeartbeats 2000000
namespace Go.Th.L
open Go Go.Th

def math_bits_Len.p (P : Program) (N : Nat → Nat) (x0 : Int) (S : St) (K : Int → St → Prop) : Prop :=
  CallA P (N Fn.math_bits_Len64) [(V.int .u64 x0)] S (retT [(.one (.int .i64))] fun (x7 : Int) (S1 : St) => K x7 S1)
abbrev math_bits_Len.Ok (P : Program) (N : Nat → Nat) : Prop := Reads P (N Fn.math_bits_Len) [(3, .no, [(.one (.int .i64))]), (2, .no, [(.one (.int .i64))])] [] [] (fun A T (x0 : Int) (S : St) (K : Int → St → Prop) => wpT P (envP P) T (endT A.results [(.one (.int .i64))] K) (frT A [(V.int .u64 x0)]) S) (fun x0 S K => math_bits_Len.p P N x0 S K)
theorem math_bits_Len.run {P : Program} {N : Nat → Nat} (hF : math_bits_Len.Ok P N) {x0 : Int} {S : St} {K : Int → St → Prop} (h : math_bits_Len.p P N x0 S K) : CallA P (N Fn.math_bits_Len) [(V.int .u64 x0)] S (retT [(.one (.int .i64))] K) := hF.run (fun q => q x0 S K) h rfl

def math_bits_Len32.p (P : Program) (N : Nat → Nat) (x0 : Int) (S : St) (K : Int → St → Prop) : Prop :=
  Join2 (fun (k1 : Int → Int → St → Prop) => ifC (decide ((65536 : Int) ≤ x0)) (0 ≤ (16 : Int) ∧ setI (Int.fdiv x0 (2 ^ (min (Int.toNat (16 : Int)) (IntKind.bits .u32)))) fun x6 => k1 x6 16 S) (k1 x0 0 S)) (fun (x0_1 : Int) (x2 : Int) (S1 : St) => Join2 (fun (k2 : Int → Int → St → Prop) => ifC (decide ((256 : Int) ≤ x0_1)) (0 ≤ (8 : Int) ∧ setI (Int.fdiv x0_1 (2 ^ (min (Int.toNat (8 : Int)) (IntKind.bits .u32)))) fun x10 => setI (IntKind.i64.wrap (x2 + (8 : Int))) fun x12 => k2 x10 x12 S1) (k2 x0_1 x2 S1)) (fun (x0_2 : Int) (x2_1 : Int) (S2 : St) => setI (IntKind.u8.wrap x0_2) fun x15 => ∃ x16 : Int, idxStrV (V.str ([0, 1, 2, 2, 3, 3, 3, 3, 4, 4, 4, 4, 4, 4, 4, 4, 5, 5, 5, 5, 5, 5, 5, 5, 5, 5, 5, 5, 5, 5, 5, 5, 6, 6, 6, 6, 6, 6, 6, 6, 6, 6, 6, 6, 6, 6, 6, 6, 6, 6, 6, 6, 6, 6, 6, 6, 6, 6, 6, 6, 6, 6, 6, 6, 7, 7, 7, 7, 7, 7, 7, 7, 7, 7, 7, 7, 7, 7, 7, 7, 7, 7, 7, 7, 7, 7, 7, 7, 7, 7, 7, 7, 7, 7, 7, 7, 7, 7, 7, 7, 7, 7, 7, 7, 7, 7, 7, 7, 7, 7, 7, 7, 7, 7, 7, 7, 7, 7, 7, 7, 7, 7, 7, 7, 7, 7, 7, 7, 8, 8, 8, 8, 8, 8, 8, 8, 8, 8, 8, 8, 8, 8, 8, 8, 8, 8, 8, 8, 8, 8, 8, 8, 8, 8, 8, 8, 8, 8, 8, 8, 8, 8, 8, 8, 8, 8, 8, 8, 8, 8, 8, 8, 8, 8, 8, 8, 8, 8, 8, 8, 8, 8, 8, 8, 8, 8, 8, 8, 8, 8, 8, 8, 8, 8, 8, 8, 8, 8, 8, 8, 8, 8, 8, 8, 8, 8, 8, 8, 8, 8, 8, 8, 8, 8, 8, 8, 8, 8, 8, 8, 8, 8, 8, 8, 8, 8, 8, 8, 8, 8, 8, 8, 8, 8, 8, 8, 8, 8, 8, 8, 8, 8, 8, 8, 8, 8, 8, 8, 8, 8, 8, 8, 8, 8, 8, 8] : List UInt8)) (V.int .u8 x15) = some (V.int .u8 x16) ∧ setI (IntKind.i64.wrap x16) fun x17 => setI (IntKind.i64.wrap (x2_1 + x17)) fun x18 => K x18 S2))
abbrev math_bits_Len32.Ok (P : Program) (N : Nat → Nat) : Prop := Reads P (N Fn.math_bits_Len32) [(18, (.dt (.one (.int .u8))), [])] [(1, [(0, (.one (.int .u32))), (2, (.one (.int .i64)))]), (2, [(0, (.one (.int .u32))), (2, (.one (.int .i64)))])] [] (fun A T (x0 : Int) (S : St) (K : Int → St → Prop) => wpT P (envP P) T (endT A.results [(.one (.int .i64))] K) (frT A [(V.int .u32 x0)]) S) (fun x0 S K => math_bits_Len32.p P N x0 S K)
theorem math_bits_Len32.run {P : Program} {N : Nat → Nat} (hF : math_bits_Len32.Ok P N) {x0 : Int} {S : St} {K : Int → St → Prop} (h : math_bits_Len32.p P N x0 S K) : CallA P (N Fn.math_bits_Len32) [(V.int .u32 x0)] S (retT [(.one (.int .i64))] K) := hF.run (fun q => q x0 S K) h rfl

def math_bits_Len64.p (P : Program) (N : Nat → Nat) (x0 : Int) (S : St) (K : Int → St → Prop) : Prop :=
  Join2 (fun (k1 : Int → Int → St → Prop) => ifC (decide ((4294967296 : Int) ≤ x0)) (0 ≤ (32 : Int) ∧ setI (Int.fdiv x0 (2 ^ (min (Int.toNat (32 : Int)) (IntKind.bits .u64)))) fun x6 => k1 x6 32 S) (k1 x0 0 S)) (fun (x0_1 : Int) (x2 : Int) (S1 : St) => Join2 (fun (k2 : Int → Int → St → Prop) => ifC (decide ((65536 : Int) ≤ x0_1)) (0 ≤ (16 : Int) ∧ setI (Int.fdiv x0_1 (2 ^ (min (Int.toNat (16 : Int)) (IntKind.bits .u64)))) fun x10 => setI (IntKind.i64.wrap (x2 + (16 : Int))) fun x12 => k2 x10 x12 S1) (k2 x0_1 x2 S1)) (fun (x0_2 : Int) (x2_1 : Int) (S2 : St) => Join2 (fun (k3 : Int → Int → St → Prop) => ifC (decide ((256 : Int) ≤ x0_2)) (0 ≤ (8 : Int) ∧ setI (Int.fdiv x0_2 (2 ^ (min (Int.toNat (8 : Int)) (IntKind.bits .u64)))) fun x16 => setI (IntKind.i64.wrap (x2_1 + (8 : Int))) fun x18 => k3 x16 x18 S2) (k3 x0_2 x2_1 S2)) (fun (x0_3 : Int) (x2_2 : Int) (S3 : St) => setI (IntKind.u8.wrap x0_3) fun x21 => ∃ x22 : Int, idxStrV (V.str ([0, 1, 2, 2, 3, 3, 3, 3, 4, 4, 4, 4, 4, 4, 4, 4, 5, 5, 5, 5, 5, 5, 5, 5, 5, 5, 5, 5, 5, 5, 5, 5, 6, 6, 6, 6, 6, 6, 6, 6, 6, 6, 6, 6, 6, 6, 6, 6, 6, 6, 6, 6, 6, 6, 6, 6, 6, 6, 6, 6, 6, 6, 6, 6, 7, 7, 7, 7, 7, 7, 7, 7, 7, 7, 7, 7, 7, 7, 7, 7, 7, 7, 7, 7, 7, 7, 7, 7, 7, 7, 7, 7, 7, 7, 7, 7, 7, 7, 7, 7, 7, 7, 7, 7, 7, 7, 7, 7, 7, 7, 7, 7, 7, 7, 7, 7, 7, 7, 7, 7, 7, 7, 7, 7, 7, 7, 7, 7, 8, 8, 8, 8, 8, 8, 8, 8, 8, 8, 8, 8, 8, 8, 8, 8, 8, 8, 8, 8, 8, 8, 8, 8, 8, 8, 8, 8, 8, 8, 8, 8, 8, 8, 8, 8, 8, 8, 8, 8, 8, 8, 8, 8, 8, 8, 8, 8, 8, 8, 8, 8, 8, 8, 8, 8, 8, 8, 8, 8, 8, 8, 8, 8, 8, 8, 8, 8, 8, 8, 8, 8, 8, 8, 8, 8, 8, 8, 8, 8, 8, 8, 8, 8, 8, 8, 8, 8, 8, 8, 8, 8, 8, 8, 8, 8, 8, 8, 8, 8, 8, 8, 8, 8, 8, 8, 8, 8, 8, 8, 8, 8, 8, 8, 8, 8, 8, 8, 8, 8, 8, 8, 8, 8, 8, 8, 8, 8] : List UInt8)) (V.int .u8 x21) = some (V.int .u8 x22) ∧ setI (IntKind.i64.wrap x22) fun x23 => setI (IntKind.i64.wrap (x2_2 + x23)) fun x24 => K x24 S3)))
abbrev math_bits_Len64.Ok (P : Program) (N : Nat → Nat) : Prop := Reads P (N Fn.math_bits_Len64) [(26, (.dt (.one (.int .u8))), [])] [(1, [(0, (.one (.int .u64))), (2, (.one (.int .i64)))]), (2, [(0, (.one (.int .u64))), (2, (.one (.int .i64)))]), (2, [(0, (.one (.int .u64))), (2, (.one (.int .i64)))])] [] (fun A T (x0 : Int) (S : St) (K : Int → St → Prop) => wpT P (envP P) T (endT A.results [(.one (.int .i64))] K) (frT A [(V.int .u64 x0)]) S) (fun x0 S K => math_bits_Len64.p P N x0 S K)
theorem math_bits_Len64.run {P : Program} {N : Nat → Nat} (hF : math_bits_Len64.Ok P N) {x0 : Int} {S : St} {K : Int → St → Prop} (h : math_bits_Len64.p P N x0 S K) : CallA P (N Fn.math_bits_Len64) [(V.int .u64 x0)] S (retT [(.one (.int .i64))] K) := hF.run (fun q => q x0 S K) h rfl

def math_bits_Mul64.p (P : Program) (N : Nat → Nat) (x0 : Int) (x1 : Int) (S : St) (K : Int → Int → St → Prop) : Prop :=
  setI (intBits .and .u64 x0 (4294967295 : Int)) fun x15 => 0 ≤ (32 : Int) ∧ setI (Int.fdiv x0 (2 ^ (min (Int.toNat (32 : Int)) (IntKind.bits .u64)))) fun x17 => setI (intBits .and .u64 x1 (4294967295 : Int)) fun x19 => 0 ≤ (32 : Int) ∧ setI (Int.fdiv x1 (2 ^ (min (Int.toNat (32 : Int)) (IntKind.bits .u64)))) fun x21 => setI (IntKind.u64.wrap (x15 * x19)) fun x24 => setI (IntKind.u64.wrap (x17 * x19)) fun x27 => 0 ≤ (32 : Int) ∧ setI (Int.fdiv x24 (2 ^ (min (Int.toNat (32 : Int)) (IntKind.bits .u64)))) fun x29 => setI (IntKind.u64.wrap (x27 + x29)) fun x30 => setI (intBits .and .u64 x30 (4294967295 : Int)) fun x32 => 0 ≤ (32 : Int) ∧ setI (Int.fdiv x30 (2 ^ (min (Int.toNat (32 : Int)) (IntKind.bits .u64)))) fun x34 => setI (IntKind.u64.wrap (x15 * x21)) fun x38 => setI (IntKind.u64.wrap (x32 + x38)) fun x39 => setI (IntKind.u64.wrap (x17 * x21)) fun x42 => setI (IntKind.u64.wrap (x42 + x34)) fun x44 => 0 ≤ (32 : Int) ∧ setI (Int.fdiv x39 (2 ^ (min (Int.toNat (32 : Int)) (IntKind.bits .u64)))) fun x46 => setI (IntKind.u64.wrap (x44 + x46)) fun x47 => setI (IntKind.u64.wrap (x0 * x1)) fun x50 => K x47 x50 S
abbrev math_bits_Mul64.Ok (P : Program) (N : Nat → Nat) : Prop := Reads P (N Fn.math_bits_Mul64) [] [] [] (fun A T (x0 : Int) (x1 : Int) (S : St) (K : Int → Int → St → Prop) => wpT P (envP P) T (endT A.results [(.one (.int .u64)), (.one (.int .u64))] K) (frT A [(V.int .u64 x0), (V.int .u64 x1)]) S) (fun x0 x1 S K => math_bits_Mul64.p P N x0 x1 S K)
theorem math_bits_Mul64.run {P : Program} {N : Nat → Nat} (hF : math_bits_Mul64.Ok P N) {x0 : Int} {x1 : Int} {S : St} {K : Int → Int → St → Prop} (h : math_bits_Mul64.p P N x0 x1 S K) : CallA P (N Fn.math_bits_Mul64) [(V.int .u64 x0), (V.int .u64 x1)] S (retT [(.one (.int .u64)), (.one (.int .u64))] K) := hF.run (fun q => q x0 x1 S K) h rfl

end Go.Th.L
end

section
/- Functions of ref01, read without frames (printed by tools/lib.py). -/
set_option linter.unusedVariables false
set_option maxRecDepth 100000
set_option maxHeartbeats 2000000
namespace Go.Th.L
open Go Go.Th

def ref01_Less.p (P : Program) (N : Nat → Nat) (x0_a : Int) (x0_b : Int) (x1_a : Int) (x1_b : Int) (S : St) (K : Bool → St → Prop) : Prop :=
  newS S (.cells [(V.int .u64 x0_a), (V.int .u64 x0_b)] true) fun S1 => newS S1 (.cells [(V.int .u64 x1_a), (V.int .u64 x1_b)] true) fun S2 => ∃ x5_a x5_b : Int, loadNV S2 2 (V.ptr S.next 0) = some (V.agg [(V.int .u64 x5_a), (V.int .u64 x5_b)]) ∧ ∃ x7_a x7_b : Int, loadNV S2 2 (V.ptr S1.next 0) = some (V.agg [(V.int .u64 x7_a), (V.int .u64 x7_b)]) ∧ CallA P (N Fn.ref01_Of) [(V.agg [(V.int .u64 x5_a), (V.int .u64 x5_b)])] S2 (retT [(.agg [(.int .i64), (.int .i64), (.int .i64), (.int .i64), (.int .i64), (.int .i64), (.int .i64), (.int .i64), .bool])] fun (x6_a : Int) (x6_b : Int) (x6_c : Int) (x6_d : Int) (x6_e : Int) (x6_f : Int) (x6_g : Int) (x6_h : Int) (x6_i : Bool) (S3 : St) => Same (S1.next :: []) S2 S3 ∧ CallA P (N Fn.ref01_Of) [(V.agg [(V.int .u64 x7_a), (V.int .u64 x7_b)])] S3 (retT [(.agg [(.int .i64), (.int .i64), (.int .i64), (.int .i64), (.int .i64), (.int .i64), (.int .i64), (.int .i64), .bool])] fun (x8_a : Int) (x8_b : Int) (x8_c : Int) (x8_d : Int) (x8_e : Int) (x8_f : Int) (x8_g : Int) (x8_h : Int) (x8_i : Bool) (S4 : St) => Same (S.next :: []) S3 S4 ∧ CallA P (N Fn.ref01_Cmp) [(V.agg [(V.int .i64 x6_a), (V.int .i64 x6_b), (V.int .i64 x6_c), (V.int .i64 x6_d), (V.int .i64 x6_e), (V.int .i64 x6_f), (V.int .i64 x6_g), (V.int .i64 x6_h), (V.bool x6_i)]), (V.agg [(V.int .i64 x8_a), (V.int .i64 x8_b), (V.int .i64 x8_c), (V.int .i64 x8_d), (V.int .i64 x8_e), (V.int .i64 x8_f), (V.int .i64 x8_g), (V.int .i64 x8_h), (V.bool x8_i)])] S4 (retT [(.one (.int .i64))] fun (x9 : Int) (S5 : St) => Same (S1.next :: (S.next :: [])) S4 S5 ∧ K (decide (x9 < (0 : Int))) S5)))
abbrev ref01_Less.Ok (P : Program) (N : Nat → Nat) : Prop := Reads P (N Fn.ref01_Less) [(3, (.dt (.agg [(.int .u64), (.int .u64)])), []), (0, (.dt (.agg [(.int .u64), (.int .u64)])), []), (0, .no, [(.agg [(.int .i64), (.int .i64), (.int .i64), (.int .i64), (.int .i64), (.int .i64), (.int .i64), (.int .i64), .bool])]), (0, .no, [(.agg [(.int .i64), (.int .i64), (.int .i64), (.int .i64), (.int .i64), (.int .i64), (.int .i64), (.int .i64), .bool])]), (0, .no, [(.one (.int .i64))])] [] [] (fun A T (x0_a : Int) (x0_b : Int) (x1_a : Int) (x1_b : Int) (S : St) (K : Bool → St → Prop) => wpT P (envP P) T (endT A.results [(.one .bool)] K) (frT A [(V.agg [(V.int .u64 x0_a), (V.int .u64 x0_b)]), (V.agg [(V.int .u64 x1_a), (V.int .u64 x1_b)])]) S) (fun x0_a x0_b x1_a x1_b S K => ref01_Less.p P N x0_a x0_b x1_a x1_b S K)
theorem ref01_Less.run {P : Program} {N : Nat → Nat} (hF : ref01_Less.Ok P N) {x0_a : Int} {x0_b : Int} {x1_a : Int} {x1_b : Int} {S : St} {K : Bool → St → Prop} (h : ref01_Less.p P N x0_a x0_b x1_a x1_b S K) : CallA P (N Fn.ref01_Less) [(V.agg [(V.int .u64 x0_a), (V.int .u64 x0_b)]), (V.agg [(V.int .u64 x1_a), (V.int .u64 x1_b)])] S (retT [(.one .bool)] K) := hF.run (fun q => q x0_a x0_b x1_a x1_b S K) h rfl

def ref01_Add.p (P : Program) (N : Nat → Nat) (x0_a : Int) (x0_b : Int) (x1_a : Int) (x1_b : Int) (S : St) (K : Int → Int → Int → St → Prop) : Prop :=
  newS S (.cells [(V.int .u64 x0_a), (V.int .u64 x0_b)] true) fun S1 => newS S1 (.cells [(V.int .u64 x1_a), (V.int .u64 x1_b)] true) fun S2 => newS S2 (.cells [(V.int .u64 0), (V.int .u64 0)] true) fun S3 => Join1 (fun (k1 : V → St → Prop) => ∃ x7_a x7_b : Int, loadNV S3 2 (V.ptr S.next 0) = some (V.agg [(V.int .u64 x7_a), (V.int .u64 x7_b)]) ∧ ∃ x9_a x9_b : Int, loadNV S3 2 (V.ptr S1.next 0) = some (V.agg [(V.int .u64 x9_a), (V.int .u64 x9_b)]) ∧ (CallA P (N Fn.ref01_Of) [(V.agg [(V.int .u64 x7_a), (V.int .u64 x7_b)])] S3 (retT [(.agg [(.int .i64), (.int .i64), (.int .i64), (.int .i64), (.int .i64), (.int .i64), (.int .i64), (.int .i64), .bool])] fun (x8_a : Int) (x8_b : Int) (x8_c : Int) (x8_d : Int) (x8_e : Int) (x8_f : Int) (x8_g : Int) (x8_h : Int) (x8_i : Bool) (S5 : St) => Same (S1.next :: []) S3 S5 ∧ (CallA P (N Fn.ref01_Of) [(V.agg [(V.int .u64 x9_a), (V.int .u64 x9_b)])] S5 (retT [(.agg [(.int .i64), (.int .i64), (.int .i64), (.int .i64), (.int .i64), (.int .i64), (.int .i64), (.int .i64), .bool])] fun (x10_a : Int) (x10_b : Int) (x10_c : Int) (x10_d : Int) (x10_e : Int) (x10_f : Int) (x10_g : Int) (x10_h : Int) (x10_i : Bool) (S6 : St) => Same (S.next :: []) S5 S6 ∧ (CallA P (N Fn.ref01_Num_Plus) [(V.agg [(V.int .i64 x8_a), (V.int .i64 x8_b), (V.int .i64 x8_c), (V.int .i64 x8_d), (V.int .i64 x8_e), (V.int .i64 x8_f), (V.int .i64 x8_g), (V.int .i64 x8_h), (V.bool x8_i)]), (V.agg [(V.int .i64 x10_a), (V.int .i64 x10_b), (V.int .i64 x10_c), (V.int .i64 x10_d), (V.int .i64 x10_e), (V.int .i64 x10_f), (V.int .i64 x10_g), (V.int .i64 x10_h), (V.bool x10_i)])] S6 (retT [(.agg [(.int .i64), (.int .i64), (.int .i64), (.int .i64), (.int .i64), (.int .i64), (.int .i64), (.int .i64), .bool])] fun (x11_a : Int) (x11_b : Int) (x11_c : Int) (x11_d : Int) (x11_e : Int) (x11_f : Int) (x11_g : Int) (x11_h : Int) (x11_i : Bool) (S7 : St) => Same (S1.next :: (S.next :: [])) S6 S7 ∧ newS S7 (.cells [(V.int .i64 0), (V.int .i64 0), (V.int .i64 0), (V.int .i64 0), (V.int .i64 0), (V.int .i64 0), (V.int .i64 0), (V.int .i64 0), (V.bool false)] true) fun S8 => Same (S1.next :: (S.next :: [])) S7 S8 ∧ ifS (storeV S8 9 (V.ptr S7.next 0) (V.agg [(V.int .i64 x11_a), (V.int .i64 x11_b), (V.int .i64 x11_c), (V.int .i64 x11_d), (V.int .i64 x11_e), (V.int .i64 x11_f), (V.int .i64 x11_g), (V.int .i64 x11_h), (V.bool x11_i)])) fun S9 => k1 (V.ptr S7.next 0) S9)) ∧ (newS S6 (.cells [(V.int .i64 0), (V.int .i64 0), (V.int .i64 0), (V.int .i64 0), (V.int .i64 0), (V.int .i64 0), (V.int .i64 0), (V.int .i64 0), (V.bool false)] true) fun S10 => Same (S1.next :: (S.next :: [])) S6 S10 ∧ CallA P (N Fn.ref01_Num_Plus) [(V.agg [(V.int .i64 x8_a), (V.int .i64 x8_b), (V.int .i64 x8_c), (V.int .i64 x8_d), (V.int .i64 x8_e), (V.int .i64 x8_f), (V.int .i64 x8_g), (V.int .i64 x8_h), (V.bool x8_i)]), (V.agg [(V.int .i64 x10_a), (V.int .i64 x10_b), (V.int .i64 x10_c), (V.int .i64 x10_d), (V.int .i64 x10_e), (V.int .i64 x10_f), (V.int .i64 x10_g), (V.int .i64 x10_h), (V.bool x10_i)])] S10 (retT [(.agg [(.int .i64), (.int .i64), (.int .i64), (.int .i64), (.int .i64), (.int .i64), (.int .i64), (.int .i64), .bool])] fun (x11_a_1 : Int) (x11_b_1 : Int) (x11_c_1 : Int) (x11_d_1 : Int) (x11_e_1 : Int) (x11_f_1 : Int) (x11_g_1 : Int) (x11_h_1 : Int) (x11_i_1 : Bool) (S11 : St) => Same (S1.next :: (S.next :: [])) S10 S11 ∧ ifS (storeV S11 9 (V.ptr S6.next 0) (V.agg [(V.int .i64 x11_a_1), (V.int .i64 x11_b_1), (V.int .i64 x11_c_1), (V.int .i64 x11_d_1), (V.int .i64 x11_e_1), (V.int .i64 x11_f_1), (V.int .i64 x11_g_1), (V.int .i64 x11_h_1), (V.bool x11_i_1)])) fun S12 => k1 (V.ptr S6.next 0) S12)))) ∧ (newS S5 (.cells [(V.int .i64 0), (V.int .i64 0), (V.int .i64 0), (V.int .i64 0), (V.int .i64 0), (V.int .i64 0), (V.int .i64 0), (V.int .i64 0), (V.bool false)] true) fun S13 => Same (S1.next :: (S.next :: [])) S5 S13 ∧ CallA P (N Fn.ref01_Of) [(V.agg [(V.int .u64 x9_a), (V.int .u64 x9_b)])] S13 (retT [(.agg [(.int .i64), (.int .i64), (.int .i64), (.int .i64), (.int .i64), (.int .i64), (.int .i64), (.int .i64), .bool])] fun (x10_a_1 : Int) (x10_b_1 : Int) (x10_c_1 : Int) (x10_d_1 : Int) (x10_e_1 : Int) (x10_f_1 : Int) (x10_g_1 : Int) (x10_h_1 : Int) (x10_i_1 : Bool) (S14 : St) => Same (S.next :: []) S13 S14 ∧ CallA P (N Fn.ref01_Num_Plus) [(V.agg [(V.int .i64 x8_a), (V.int .i64 x8_b), (V.int .i64 x8_c), (V.int .i64 x8_d), (V.int .i64 x8_e), (V.int .i64 x8_f), (V.int .i64 x8_g), (V.int .i64 x8_h), (V.bool x8_i)]), (V.agg [(V.int .i64 x10_a_1), (V.int .i64 x10_b_1), (V.int .i64 x10_c_1), (V.int .i64 x10_d_1), (V.int .i64 x10_e_1), (V.int .i64 x10_f_1), (V.int .i64 x10_g_1), (V.int .i64 x10_h_1), (V.bool x10_i_1)])] S14 (retT [(.agg [(.int .i64), (.int .i64), (.int .i64), (.int .i64), (.int .i64), (.int .i64), (.int .i64), (.int .i64), .bool])] fun (x11_a_2 : Int) (x11_b_2 : Int) (x11_c_2 : Int) (x11_d_2 : Int) (x11_e_2 : Int) (x11_f_2 : Int) (x11_g_2 : Int) (x11_h_2 : Int) (x11_i_2 : Bool) (S15 : St) => Same (S1.next :: (S.next :: [])) S14 S15 ∧ ifS (storeV S15 9 (V.ptr S5.next 0) (V.agg [(V.int .i64 x11_a_2), (V.int .i64 x11_b_2), (V.int .i64 x11_c_2), (V.int .i64 x11_d_2), (V.int .i64 x11_e_2), (V.int .i64 x11_f_2), (V.int .i64 x11_g_2), (V.int .i64 x11_h_2), (V.bool x11_i_2)])) fun S16 => k1 (V.ptr S5.next 0) S16))))) ∧ (newS S3 (.cells [(V.int .i64 0), (V.int .i64 0), (V.int .i64 0), (V.int .i64 0), (V.int .i64 0), (V.int .i64 0), (V.int .i64 0), (V.int .i64 0), (V.bool false)] true) fun S17 => Same (S1.next :: (S.next :: [])) S3 S17 ∧ CallA P (N Fn.ref01_Of) [(V.agg [(V.int .u64 x7_a), (V.int .u64 x7_b)])] S17 (retT [(.agg [(.int .i64), (.int .i64), (.int .i64), (.int .i64), (.int .i64), (.int .i64), (.int .i64), (.int .i64), .bool])] fun (x8_a_1 : Int) (x8_b_1 : Int) (x8_c_1 : Int) (x8_d_1 : Int) (x8_e_1 : Int) (x8_f_1 : Int) (x8_g_1 : Int) (x8_h_1 : Int) (x8_i_1 : Bool) (S18 : St) => Same (S1.next :: []) S17 S18 ∧ CallA P (N Fn.ref01_Of) [(V.agg [(V.int .u64 x9_a), (V.int .u64 x9_b)])] S18 (retT [(.agg [(.int .i64), (.int .i64), (.int .i64), (.int .i64), (.int .i64), (.int .i64), (.int .i64), (.int .i64), .bool])] fun (x10_a_2 : Int) (x10_b_2 : Int) (x10_c_2 : Int) (x10_d_2 : Int) (x10_e_2 : Int) (x10_f_2 : Int) (x10_g_2 : Int) (x10_h_2 : Int) (x10_i_2 : Bool) (S19 : St) => Same (S.next :: []) S18 S19 ∧ CallA P (N Fn.ref01_Num_Plus) [(V.agg [(V.int .i64 x8_a_1), (V.int .i64 x8_b_1), (V.int .i64 x8_c_1), (V.int .i64 x8_d_1), (V.int .i64 x8_e_1), (V.int .i64 x8_f_1), (V.int .i64 x8_g_1), (V.int .i64 x8_h_1), (V.bool x8_i_1)]), (V.agg [(V.int .i64 x10_a_2), (V.int .i64 x10_b_2), (V.int .i64 x10_c_2), (V.int .i64 x10_d_2), (V.int .i64 x10_e_2), (V.int .i64 x10_f_2), (V.int .i64 x10_g_2), (V.int .i64 x10_h_2), (V.bool x10_i_2)])] S19 (retT [(.agg [(.int .i64), (.int .i64), (.int .i64), (.int .i64), (.int .i64), (.int .i64), (.int .i64), (.int .i64), .bool])] fun (x11_a_3 : Int) (x11_b_3 : Int) (x11_c_3 : Int) (x11_d_3 : Int) (x11_e_3 : Int) (x11_f_3 : Int) (x11_g_3 : Int) (x11_h_3 : Int) (x11_i_3 : Bool) (S20 : St) => Same (S1.next :: (S.next :: [])) S19 S20 ∧ ifS (storeV S20 9 (V.ptr S3.next 0) (V.agg [(V.int .i64 x11_a_3), (V.int .i64 x11_b_3), (V.int .i64 x11_c_3), (V.int .i64 x11_d_3), (V.int .i64 x11_e_3), (V.int .i64 x11_f_3), (V.int .i64 x11_g_3), (V.int .i64 x11_h_3), (V.bool x11_i_3)])) fun S21 => k1 (V.ptr S3.next 0) S21))))) (fun (x6 : V) (S4 : St) => ifS (fieldAddrV 8 x6) fun x12 => ∃ x13 : Bool, loadV S4 x12 = some (V.bool x13) ∧ ifC x13 (ifS (storeV S4 2 (V.ptr S2.next 0) (V.agg [(V.int .u64 0), (V.int .u64 0)])) fun S22 => ∃ xr_a xr_b : Int, cellNV S22 2 (V.ptr S2.next 0) = some (V.agg [(V.int .u64 xr_a), (V.int .u64 xr_b)]) ∧ K xr_a xr_b 10 S22) (∃ x15_a x15_b x15_c x15_d x15_e x15_f x15_g x15_h : Int, ∃ x15_i : Bool, loadNV S4 9 x6 = some (V.agg [(V.int .i64 x15_a), (V.int .i64 x15_b), (V.int .i64 x15_c), (V.int .i64 x15_d), (V.int .i64 x15_e), (V.int .i64 x15_f), (V.int .i64 x15_g), (V.int .i64 x15_h), (V.bool x15_i)]) ∧ CallA P (N Fn.ref01_Num_Wide) [(V.agg [(V.int .i64 x15_a), (V.int .i64 x15_b), (V.int .i64 x15_c), (V.int .i64 x15_d), (V.int .i64 x15_e), (V.int .i64 x15_f), (V.int .i64 x15_g), (V.int .i64 x15_h), (V.bool x15_i)])] S4 (retT [(.agg [(.int .u64), (.int .u64)])] fun (x16_a : Int) (x16_b : Int) (S23 : St) => ifS (storeV S23 2 (V.ptr S2.next 0) (V.agg [(V.int .u64 x16_a), (V.int .u64 x16_b)])) fun S24 => ∃ xr_a_1 xr_b_1 : Int, cellNV S24 2 (V.ptr S2.next 0) = some (V.agg [(V.int .u64 xr_a_1), (V.int .u64 xr_b_1)]) ∧ K xr_a_1 xr_b_1 0 S24)))
abbrev ref01_Add.Ok (P : Program) (N : Nat → Nat) : Prop := Reads P (N Fn.ref01_Add) [(4, (.dt (.agg [(.int .u64), (.int .u64)])), []), (0, (.dt (.agg [(.int .u64), (.int .u64)])), []), (0, .no, [(.agg [(.int .i64), (.int .i64), (.int .i64), (.int .i64), (.int .i64), (.int .i64), (.int .i64), (.int .i64), .bool])]), (0, .no, [(.agg [(.int .i64), (.int .i64), (.int .i64), (.int .i64), (.int .i64), (.int .i64), (.int .i64), (.int .i64), .bool])]), (0, .no, [(.agg [(.int .i64), (.int .i64), (.int .i64), (.int .i64), (.int .i64), (.int .i64), (.int .i64), (.int .i64), .bool])]), (3, .no, [(.agg [(.int .i64), (.int .i64), (.int .i64), (.int .i64), (.int .i64), (.int .i64), (.int .i64), (.int .i64), .bool])]), (2, .no, [(.agg [(.int .i64), (.int .i64), (.int .i64), (.int .i64), (.int .i64), (.int .i64), (.int .i64), (.int .i64), .bool])]), (0, .no, [(.agg [(.int .i64), (.int .i64), (.int .i64), (.int .i64), (.int .i64), (.int .i64), (.int .i64), (.int .i64), .bool])]), (2, .no, [(.agg [(.int .i64), (.int .i64), (.int .i64), (.int .i64), (.int .i64), (.int .i64), (.int .i64), (.int .i64), .bool])]), (0, .no, [(.agg [(.int .i64), (.int .i64), (.int .i64), (.int .i64), (.int .i64), (.int .i64), (.int .i64), (.int .i64), .bool])]), (0, .no, [(.agg [(.int .i64), (.int .i64), (.int .i64), (.int .i64), (.int .i64), (.int .i64), (.int .i64), (.int .i64), .bool])]), (2, (.dt (.one .bool)), []), (0, (.dt (.agg [(.int .u64), (.int .u64)])), []), (2, (.dt (.agg [(.int .i64), (.int .i64), (.int .i64), (.int .i64), (.int .i64), (.int .i64), (.int .i64), (.int .i64), .bool])), []), (0, .no, [(.agg [(.int .u64), (.int .u64)])])] [(1, [(6, (.one .any))])] [] (fun A T (x0_a : Int) (x0_b : Int) (x1_a : Int) (x1_b : Int) (S : St) (K : Int → Int → Int → St → Prop) => wpT P (envP P) T (endT A.results [(.agg [(.int .u64), (.int .u64)]), (.one (.int .i64))] K) (frT A [(V.agg [(V.int .u64 x0_a), (V.int .u64 x0_b)]), (V.agg [(V.int .u64 x1_a), (V.int .u64 x1_b)])]) S) (fun x0_a x0_b x1_a x1_b S K => ref01_Add.p P N x0_a x0_b x1_a x1_b S K)
theorem ref01_Add.run {P : Program} {N : Nat → Nat} (hF : ref01_Add.Ok P N) {x0_a : Int} {x0_b : Int} {x1_a : Int} {x1_b : Int} {S : St} {K : Int → Int → Int → St → Prop} (h : ref01_Add.p P N x0_a x0_b x1_a x1_b S K) : CallA P (N Fn.ref01_Add) [(V.agg [(V.int .u64 x0_a), (V.int .u64 x0_b)]), (V.agg [(V.int .u64 x1_a), (V.int .u64 x1_b)])] S (retT [(.agg [(.int .u64), (.int .u64)]), (.one (.int .i64))] K) := hF.run (fun q => q x0_a x0_b x1_a x1_b S K) h rfl

def ref01_Cmp.p (P : Program) (N : Nat → Nat) (x0_a : Int) (x0_b : Int) (x0_c : Int) (x0_d : Int) (x0_e : Int) (x0_f : Int) (x0_g : Int) (x0_h : Int) (x0_i : Bool) (x1_a : Int) (x1_b : Int) (x1_c : Int) (x1_d : Int) (x1_e : Int) (x1_f : Int) (x1_g : Int) (x1_h : Int) (x1_i : Bool) (S : St) (K : Int → St → Prop) : Prop :=
  newS S (.cells [(V.int .i64 x0_a), (V.int .i64 x0_b), (V.int .i64 x0_c), (V.int .i64 x0_d), (V.int .i64 x0_e), (V.int .i64 x0_f), (V.int .i64 x0_g), (V.int .i64 x0_h), (V.bool x0_i)] true) fun S1 => newS S1 (.cells [(V.int .i64 x1_a), (V.int .i64 x1_b), (V.int .i64 x1_c), (V.int .i64 x1_d), (V.int .i64 x1_e), (V.int .i64 x1_f), (V.int .i64 x1_g), (V.int .i64 x1_h), (V.bool x1_i)] true) fun S2 => Loop1 (fun (k1 : Int → St → Prop) (x5 : Int) (S3 : St) => ifC (decide ((0 : Int) ≤ x5)) (ifS (idxAddrArrV 8 1 (V.ptr S.next 0) (V.int .i64 x5)) fun x12 => ∃ x13 : Int, loadV S3 x12 = some (V.int .i64 x13) ∧ ifS (idxAddrArrV 8 1 (V.ptr S1.next 0) (V.int .i64 x5)) fun x16 => ∃ x17 : Int, loadV S3 x16 = some (V.int .i64 x17) ∧ ifC (!decide (x13 = x17)) (ifS (idxAddrArrV 8 1 (V.ptr S.next 0) (V.int .i64 x5)) fun x21 => ∃ x22 : Int, loadV S3 x21 = some (V.int .i64 x22) ∧ ifS (idxAddrArrV 8 1 (V.ptr S1.next 0) (V.int .i64 x5)) fun x25 => ∃ x26 : Int, loadV S3 x25 = some (V.int .i64 x26) ∧ ifC (decide (x22 < x26)) (K (-1) S3) (K 1 S3)) (setI (IntKind.i64.wrap (x5 - (1 : Int))) fun x9 => k1 x9 S3)) (K 0 S3)) 7 S2
abbrev ref01_Cmp.Ok (P : Program) (N : Nat → Nat) : Prop := Reads P (N Fn.ref01_Cmp) [(9, (.dt (.one (.int .i64))), []), (3, (.dt (.one (.int .i64))), []), (4, (.dt (.one (.int .i64))), []), (3, (.dt (.one (.int .i64))), [])] [] [[(5, (.one (.int .i64)))]] (fun A T (x0_a : Int) (x0_b : Int) (x0_c : Int) (x0_d : Int) (x0_e : Int) (x0_f : Int) (x0_g : Int) (x0_h : Int) (x0_i : Bool) (x1_a : Int) (x1_b : Int) (x1_c : Int) (x1_d : Int) (x1_e : Int) (x1_f : Int) (x1_g : Int) (x1_h : Int) (x1_i : Bool) (S : St) (K : Int → St → Prop) => wpT P (envP P) T (endT A.results [(.one (.int .i64))] K) (frT A [(V.agg [(V.int .i64 x0_a), (V.int .i64 x0_b), (V.int .i64 x0_c), (V.int .i64 x0_d), (V.int .i64 x0_e), (V.int .i64 x0_f), (V.int .i64 x0_g), (V.int .i64 x0_h), (V.bool x0_i)]), (V.agg [(V.int .i64 x1_a), (V.int .i64 x1_b), (V.int .i64 x1_c), (V.int .i64 x1_d), (V.int .i64 x1_e), (V.int .i64 x1_f), (V.int .i64 x1_g), (V.int .i64 x1_h), (V.bool x1_i)])]) S) (fun x0_a x0_b x0_c x0_d x0_e x0_f x0_g x0_h x0_i x1_a x1_b x1_c x1_d x1_e x1_f x1_g x1_h x1_i S K => ref01_Cmp.p P N x0_a x0_b x0_c x0_d x0_e x0_f x0_g x0_h x0_i x1_a x1_b x1_c x1_d x1_e x1_f x1_g x1_h x1_i S K)
theorem ref01_Cmp.run {P : Program} {N : Nat → Nat} (hF : ref01_Cmp.Ok P N) {x0_a : Int} {x0_b : Int} {x0_c : Int} {x0_d : Int} {x0_e : Int} {x0_f : Int} {x0_g : Int} {x0_h : Int} {x0_i : Bool} {x1_a : Int} {x1_b : Int} {x1_c : Int} {x1_d : Int} {x1_e : Int} {x1_f : Int} {x1_g : Int} {x1_h : Int} {x1_i : Bool} {S : St} {K : Int → St → Prop} (h : ref01_Cmp.p P N x0_a x0_b x0_c x0_d x0_e x0_f x0_g x0_h x0_i x1_a x1_b x1_c x1_d x1_e x1_f x1_g x1_h x1_i S K) : CallA P (N Fn.ref01_Cmp) [(V.agg [(V.int .i64 x0_a), (V.int .i64 x0_b), (V.int .i64 x0_c), (V.int .i64 x0_d), (V.int .i64 x0_e), (V.int .i64 x0_f), (V.int .i64 x0_g), (V.int .i64 x0_h), (V.bool x0_i)]), (V.agg [(V.int .i64 x1_a), (V.int .i64 x1_b), (V.int .i64 x1_c), (V.int .i64 x1_d), (V.int .i64 x1_e), (V.int .i64 x1_f), (V.int .i64 x1_g), (V.int .i64 x1_h), (V.bool x1_i)])] S (retT [(.one (.int .i64))] K) := hF.run (fun q => q x0_a x0_b x0_c x0_d x0_e x0_f x0_g x0_h x0_i x1_a x1_b x1_c x1_d x1_e x1_f x1_g x1_h x1_i S K) h rfl

def ref01_Of.p (P : Program) (N : Nat → Nat) (x0_a : Int) (x0_b : Int) (S : St) (K : Int → Int → Int → Int → Int → Int → Int → Int → Bool → St → Prop) : Prop :=
  newS S (.cells [(V.int .u64 x0_a), (V.int .u64 x0_b)] true) fun S1 => newS S1 (.cells [(V.int .i64 0), (V.int .i64 0), (V.int .i64 0), (V.int .i64 0), (V.int .i64 0), (V.int .i64 0), (V.int .i64 0), (V.int .i64 0), (V.bool false)] true) fun S2 => newS S2 (.cells [(V.int .i64 0), (V.int .i64 0), (V.int .i64 0), (V.int .i64 0), (V.int .i64 0), (V.int .i64 0), (V.int .i64 0), (V.int .i64 0), (V.bool false)] true) fun S3 => Loop1 (fun (k1 : Int → St → Prop) (x4 : Int) (S4 : St) => ifC (decide (x4 < (4 : Int))) (∃ x11 : Int, loadV S4 (V.ptr S.next 1) = some (V.int .u64 x11) ∧ (65536 : Int) ≠ 0 ∧ setI (Int.tmod x11 (65536 : Int)) fun x12 => setI (IntKind.i64.wrap x12) fun x13 => ifS (idxAddrArrV 8 1 (V.ptr S2.next 0) (V.int .i64 x4)) fun x15 => ifS (storeV S4 1 x15 (V.int .i64 x13)) fun S5 => ∃ x17 : Int, loadV S5 (V.ptr S.next 1) = some (V.int .u64 x17) ∧ (65536 : Int) ≠ 0 ∧ setI (IntKind.u64.wrap (Int.tdiv x17 (65536 : Int))) fun x18 => ifS (storeV S5 1 (V.ptr S.next 1) (V.int .u64 x18)) fun S6 => setI (IntKind.i64.wrap ((4 : Int) + x4)) fun x21 => ∃ x23 : Int, loadV S6 (V.ptr S.next 0) = some (V.int .u64 x23) ∧ (65536 : Int) ≠ 0 ∧ setI (Int.tmod x23 (65536 : Int)) fun x24 => setI (IntKind.i64.wrap x24) fun x25 => ifS (idxAddrArrV 8 1 (V.ptr S2.next 0) (V.int .i64 x21)) fun x27 => ifS (storeV S6 1 x27 (V.int .i64 x25)) fun S7 => ∃ x29 : Int, loadV S7 (V.ptr S.next 0) = some (V.int .u64 x29) ∧ (65536 : Int) ≠ 0 ∧ setI (IntKind.u64.wrap (Int.tdiv x29 (65536 : Int))) fun x30 => ifS (storeV S7 1 (V.ptr S.next 0) (V.int .u64 x30)) fun S8 => setI (IntKind.i64.wrap (x4 + (1 : Int))) fun x8 => k1 x8 S8) (∃ x32_a x32_b x32_c x32_d x32_e x32_f x32_g x32_h : Int, ∃ x32_i : Bool, loadNV S4 9 (V.ptr S2.next 0) = some (V.agg [(V.int .i64 x32_a), (V.int .i64 x32_b), (V.int .i64 x32_c), (V.int .i64 x32_d), (V.int .i64 x32_e), (V.int .i64 x32_f), (V.int .i64 x32_g), (V.int .i64 x32_h), (V.bool x32_i)]) ∧ ifS (storeV S4 9 (V.ptr S1.next 0) (V.agg [(V.int .i64 x32_a), (V.int .i64 x32_b), (V.int .i64 x32_c), (V.int .i64 x32_d), (V.int .i64 x32_e), (V.int .i64 x32_f), (V.int .i64 x32_g), (V.int .i64 x32_h), (V.bool x32_i)])) fun S9 => ∃ xr_a xr_b xr_c xr_d xr_e xr_f xr_g xr_h : Int, ∃ xr_i : Bool, cellNV S9 9 (V.ptr S1.next 0) = some (V.agg [(V.int .i64 xr_a), (V.int .i64 xr_b), (V.int .i64 xr_c), (V.int .i64 xr_d), (V.int .i64 xr_e), (V.int .i64 xr_f), (V.int .i64 xr_g), (V.int .i64 xr_h), (V.bool xr_i)]) ∧ K xr_a xr_b xr_c xr_d xr_e xr_f xr_g xr_h xr_i S9)) 0 S3
abbrev ref01_Of.Ok (P : Program) (N : Nat → Nat) : Prop := Reads P (N Fn.ref01_Of) [(8, (.dt (.one (.int .u64))), []), (6, (.dt (.one (.int .u64))), []), (6, (.dt (.one (.int .u64))), []), (6, (.dt (.one (.int .u64))), []), (6, (.dt (.agg [(.int .i64), (.int .i64), (.int .i64), (.int .i64), (.int .i64), (.int .i64), (.int .i64), (.int .i64), .bool])), [])] [] [[(4, (.one (.int .i64)))]] (fun A T (x0_a : Int) (x0_b : Int) (S : St) (K : Int → Int → Int → Int → Int → Int → Int → Int → Bool → St → Prop) => wpT P (envP P) T (endT A.results [(.agg [(.int .i64), (.int .i64), (.int .i64), (.int .i64), (.int .i64), (.int .i64), (.int .i64), (.int .i64), .bool])] K) (frT A [(V.agg [(V.int .u64 x0_a), (V.int .u64 x0_b)])]) S) (fun x0_a x0_b S K => ref01_Of.p P N x0_a x0_b S K)
theorem ref01_Of.run {P : Program} {N : Nat → Nat} (hF : ref01_Of.Ok P N) {x0_a : Int} {x0_b : Int} {S : St} {K : Int → Int → Int → Int → Int → Int → Int → Int → Bool → St → Prop} (h : ref01_Of.p P N x0_a x0_b S K) : CallA P (N Fn.ref01_Of) [(V.agg [(V.int .u64 x0_a), (V.int .u64 x0_b)])] S (retT [(.agg [(.int .i64), (.int .i64), (.int .i64), (.int .i64), (.int .i64), (.int .i64), (.int .i64), (.int .i64), .bool])] K) := hF.run (fun q => q x0_a x0_b S K) h rfl

def ref01_Num_Plus.p (P : Program) (N : Nat → Nat) (x0_a : Int) (x0_b : Int) (x0_c : Int) (x0_d : Int) (x0_e : Int) (x0_f : Int) (x0_g : Int) (x0_h : Int) (x0_i : Bool) (x1_a : Int) (x1_b : Int) (x1_c : Int) (x1_d : Int) (x1_e : Int) (x1_f : Int) (x1_g : Int) (x1_h : Int) (x1_i : Bool) (S : St) (K : Int → Int → Int → Int → Int → Int → Int → Int → Bool → St → Prop) : Prop :=
  newS S (.cells [(V.int .i64 x0_a), (V.int .i64 x0_b), (V.int .i64 x0_c), (V.int .i64 x0_d), (V.int .i64 x0_e), (V.int .i64 x0_f), (V.int .i64 x0_g), (V.int .i64 x0_h), (V.bool x0_i)] true) fun S1 => newS S1 (.cells [(V.int .i64 x1_a), (V.int .i64 x1_b), (V.int .i64 x1_c), (V.int .i64 x1_d), (V.int .i64 x1_e), (V.int .i64 x1_f), (V.int .i64 x1_g), (V.int .i64 x1_h), (V.bool x1_i)] true) fun S2 => newS S2 (.cells [(V.int .i64 0), (V.int .i64 0), (V.int .i64 0), (V.int .i64 0), (V.int .i64 0), (V.int .i64 0), (V.int .i64 0), (V.int .i64 0), (V.bool false)] true) fun S3 => Join0 (fun (k1 : St → Prop) => ∃ x7 : Bool, loadV S3 (V.ptr S.next 8) = some (V.bool x7) ∧ ifC x7 (ifS (storeV S3 1 (V.ptr S.next 8) (V.bool true)) fun S5 => k1  S5) (∃ x10 : Bool, loadV S3 (V.ptr S1.next 8) = some (V.bool x10) ∧ ifS (storeV S3 1 (V.ptr S.next 8) (V.bool x10)) fun S6 => k1  S6)) (fun (S4 : St) => Loop1 (fun (k2 : Int → St → Prop) (x5 : Int) (S7 : St) => ifC (decide (x5 < (8 : Int))) (∃ x17_a x17_b x17_c x17_d x17_e x17_f x17_g x17_h : Int, ∃ x17_i : Bool, loadNV S7 9 (V.ptr S.next 0) = some (V.agg [(V.int .i64 x17_a), (V.int .i64 x17_b), (V.int .i64 x17_c), (V.int .i64 x17_d), (V.int .i64 x17_e), (V.int .i64 x17_f), (V.int .i64 x17_g), (V.int .i64 x17_h), (V.bool x17_i)]) ∧ ifS (idxAddrArrV 8 1 (V.ptr S1.next 0) (V.int .i64 x5)) fun x21 => ∃ x22 : Int, loadV S7 x21 = some (V.int .i64 x22) ∧ CallA P (N Fn.ref01_Num_plus) [(V.agg [(V.int .i64 x17_a), (V.int .i64 x17_b), (V.int .i64 x17_c), (V.int .i64 x17_d), (V.int .i64 x17_e), (V.int .i64 x17_f), (V.int .i64 x17_g), (V.int .i64 x17_h), (V.bool x17_i)]), (V.int .i64 x5), (V.int .i64 x22)] S7 (retT [(.agg [(.int .i64), (.int .i64), (.int .i64), (.int .i64), (.int .i64), (.int .i64), (.int .i64), (.int .i64), .bool])] fun (x23_a : Int) (x23_b : Int) (x23_c : Int) (x23_d : Int) (x23_e : Int) (x23_f : Int) (x23_g : Int) (x23_h : Int) (x23_i : Bool) (S8 : St) => ifS (storeV S8 9 (V.ptr S.next 0) (V.agg [(V.int .i64 x23_a), (V.int .i64 x23_b), (V.int .i64 x23_c), (V.int .i64 x23_d), (V.int .i64 x23_e), (V.int .i64 x23_f), (V.int .i64 x23_g), (V.int .i64 x23_h), (V.bool x23_i)])) fun S9 => setI (IntKind.i64.wrap (x5 + (1 : Int))) fun x16 => k2 x16 S9)) (∃ x24_a x24_b x24_c x24_d x24_e x24_f x24_g x24_h : Int, ∃ x24_i : Bool, loadNV S7 9 (V.ptr S.next 0) = some (V.agg [(V.int .i64 x24_a), (V.int .i64 x24_b), (V.int .i64 x24_c), (V.int .i64 x24_d), (V.int .i64 x24_e), (V.int .i64 x24_f), (V.int .i64 x24_g), (V.int .i64 x24_h), (V.bool x24_i)]) ∧ ifS (storeV S7 9 (V.ptr S2.next 0) (V.agg [(V.int .i64 x24_a), (V.int .i64 x24_b), (V.int .i64 x24_c), (V.int .i64 x24_d), (V.int .i64 x24_e), (V.int .i64 x24_f), (V.int .i64 x24_g), (V.int .i64 x24_h), (V.bool x24_i)])) fun S10 => ∃ xr_a xr_b xr_c xr_d xr_e xr_f xr_g xr_h : Int, ∃ xr_i : Bool, cellNV S10 9 (V.ptr S2.next 0) = some (V.agg [(V.int .i64 xr_a), (V.int .i64 xr_b), (V.int .i64 xr_c), (V.int .i64 xr_d), (V.int .i64 xr_e), (V.int .i64 xr_f), (V.int .i64 xr_g), (V.int .i64 xr_h), (V.bool xr_i)]) ∧ K xr_a xr_b xr_c xr_d xr_e xr_f xr_g xr_h xr_i S10)) 0 S4)
abbrev ref01_Num_Plus.Ok (P : Program) (N : Nat → Nat) : Prop := Reads P (N Fn.ref01_Num_Plus) [(4, (.dt (.one .bool)), []), (2, (.dt (.one .bool)), []), (6, (.dt (.agg [(.int .i64), (.int .i64), (.int .i64), (.int .i64), (.int .i64), (.int .i64), (.int .i64), (.int .i64), .bool])), []), (4, (.dt (.one (.int .i64))), []), (0, .no, [(.agg [(.int .i64), (.int .i64), (.int .i64), (.int .i64), (.int .i64), (.int .i64), (.int .i64), (.int .i64), .bool])]), (4, (.dt (.agg [(.int .i64), (.int .i64), (.int .i64), (.int .i64), (.int .i64), (.int .i64), (.int .i64), (.int .i64), .bool])), [])] [(1, [])] [[(5, (.one (.int .i64)))]] (fun A T (x0_a : Int) (x0_b : Int) (x0_c : Int) (x0_d : Int) (x0_e : Int) (x0_f : Int) (x0_g : Int) (x0_h : Int) (x0_i : Bool) (x1_a : Int) (x1_b : Int) (x1_c : Int) (x1_d : Int) (x1_e : Int) (x1_f : Int) (x1_g : Int) (x1_h : Int) (x1_i : Bool) (S : St) (K : Int → Int → Int → Int → Int → Int → Int → Int → Bool → St → Prop) => wpT P (envP P) T (endT A.results [(.agg [(.int .i64), (.int .i64), (.int .i64), (.int .i64), (.int .i64), (.int .i64), (.int .i64), (.int .i64), .bool])] K) (frT A [(V.agg [(V.int .i64 x0_a), (V.int .i64 x0_b), (V.int .i64 x0_c), (V.int .i64 x0_d), (V.int .i64 x0_e), (V.int .i64 x0_f), (V.int .i64 x0_g), (V.int .i64 x0_h), (V.bool x0_i)]), (V.agg [(V.int .i64 x1_a), (V.int .i64 x1_b), (V.int .i64 x1_c), (V.int .i64 x1_d), (V.int .i64 x1_e), (V.int .i64 x1_f), (V.int .i64 x1_g), (V.int .i64 x1_h), (V.bool x1_i)])]) S) (fun x0_a x0_b x0_c x0_d x0_e x0_f x0_g x0_h x0_i x1_a x1_b x1_c x1_d x1_e x1_f x1_g x1_h x1_i S K => ref01_Num_Plus.p P N x0_a x0_b x0_c x0_d x0_e x0_f x0_g x0_h x0_i x1_a x1_b x1_c x1_d x1_e x1_f x1_g x1_h x1_i S K)
theorem ref01_Num_Plus.run {P : Program} {N : Nat → Nat} (hF : ref01_Num_Plus.Ok P N) {x0_a : Int} {x0_b : Int} {x0_c : Int} {x0_d : Int} {x0_e : Int} {x0_f : Int} {x0_g : Int} {x0_h : Int} {x0_i : Bool} {x1_a : Int} {x1_b : Int} {x1_c : Int} {x1_d : Int} {x1_e : Int} {x1_f : Int} {x1_g : Int} {x1_h : Int} {x1_i : Bool} {S : St} {K : Int → Int → Int → Int → Int → Int → Int → Int → Bool → St → Prop} (h : ref01_Num_Plus.p P N x0_a x0_b x0_c x0_d x0_e x0_f x0_g x0_h x0_i x1_a x1_b x1_c x1_d x1_e x1_f x1_g x1_h x1_i S K) : CallA P (N Fn.ref01_Num_Plus) [(V.agg [(V.int .i64 x0_a), (V.int .i64 x0_b), (V.int .i64 x0_c), (V.int .i64 x0_d), (V.int .i64 x0_e), (V.int .i64 x0_f), (V.int .i64 x0_g), (V.int .i64 x0_h), (V.bool x0_i)]), (V.agg [(V.int .i64 x1_a), (V.int .i64 x1_b), (V.int .i64 x1_c), (V.int .i64 x1_d), (V.int .i64 x1_e), (V.int .i64 x1_f), (V.int .i64 x1_g), (V.int .i64 x1_h), (V.bool x1_i)])] S (retT [(.agg [(.int .i64), (.int .i64), (.int .i64), (.int .i64), (.int .i64), (.int .i64), (.int .i64), (.int .i64), .bool])] K) := hF.run (fun q => q x0_a x0_b x0_c x0_d x0_e x0_f x0_g x0_h x0_i x1_a x1_b x1_c x1_d x1_e x1_f x1_g x1_h x1_i S K) h rfl

def ref01_Num_Wide.p (P : Program) (N : Nat → Nat) (x0_a : Int) (x0_b : Int) (x0_c : Int) (x0_d : Int) (x0_e : Int) (x0_f : Int) (x0_g : Int) (x0_h : Int) (x0_i : Bool) (S : St) (K : Int → Int → St → Prop) : Prop :=
  newS S (.cells [(V.int .i64 x0_a), (V.int .i64 x0_b), (V.int .i64 x0_c), (V.int .i64 x0_d), (V.int .i64 x0_e), (V.int .i64 x0_f), (V.int .i64 x0_g), (V.int .i64 x0_h), (V.bool x0_i)] true) fun S1 => newS S1 (.cells [(V.int .u64 0), (V.int .u64 0)] true) fun S2 => newS S2 (.cells [(V.int .u64 0), (V.int .u64 0)] true) fun S3 => Loop1 (fun (k1 : Int → St → Prop) (x4 : Int) (S4 : St) => ifC (decide ((0 : Int) ≤ x4)) (∃ x10 : Int, loadV S4 (V.ptr S2.next 1) = some (V.int .u64 x10) ∧ setI (IntKind.u64.wrap ((65536 : Int) * x10)) fun x11 => ifS (idxAddrArrV 8 1 (V.ptr S.next 0) (V.int .i64 x4)) fun x14 => ∃ x15 : Int, loadV S4 x14 = some (V.int .i64 x15) ∧ setI (IntKind.u64.wrap x15) fun x16 => setI (IntKind.u64.wrap (x11 + x16)) fun x17 => ifS (storeV S4 1 (V.ptr S2.next 1) (V.int .u64 x17)) fun S5 => ∃ x20 : Int, loadV S5 (V.ptr S2.next 0) = some (V.int .u64 x20) ∧ setI (IntKind.u64.wrap ((65536 : Int) * x20)) fun x21 => setI (IntKind.i64.wrap ((4 : Int) + x4)) fun x23 => ifS (idxAddrArrV 8 1 (V.ptr S.next 0) (V.int .i64 x23)) fun x25 => ∃ x26 : Int, loadV S5 x25 = some (V.int .i64 x26) ∧ setI (IntKind.u64.wrap x26) fun x27 => setI (IntKind.u64.wrap (x21 + x27)) fun x28 => ifS (storeV S5 1 (V.ptr S2.next 0) (V.int .u64 x28)) fun S6 => setI (IntKind.i64.wrap (x4 - (1 : Int))) fun x8 => k1 x8 S6) (∃ x30_a x30_b : Int, loadNV S4 2 (V.ptr S2.next 0) = some (V.agg [(V.int .u64 x30_a), (V.int .u64 x30_b)]) ∧ ifS (storeV S4 2 (V.ptr S1.next 0) (V.agg [(V.int .u64 x30_a), (V.int .u64 x30_b)])) fun S7 => ∃ xr_a xr_b : Int, cellNV S7 2 (V.ptr S1.next 0) = some (V.agg [(V.int .u64 xr_a), (V.int .u64 xr_b)]) ∧ K xr_a xr_b S7)) 3 S3
abbrev ref01_Num_Wide.Ok (P : Program) (N : Nat → Nat) : Prop := Reads P (N Fn.ref01_Num_Wide) [(7, (.dt (.one (.int .u64))), []), (4, (.dt (.one (.int .i64))), []), (5, (.dt (.one (.int .u64))), []), (5, (.dt (.one (.int .i64))), []), (7, (.dt (.agg [(.int .u64), (.int .u64)])), [])] [] [[(4, (.one (.int .i64)))]] (fun A T (x0_a : Int) (x0_b : Int) (x0_c : Int) (x0_d : Int) (x0_e : Int) (x0_f : Int) (x0_g : Int) (x0_h : Int) (x0_i : Bool) (S : St) (K : Int → Int → St → Prop) => wpT P (envP P) T (endT A.results [(.agg [(.int .u64), (.int .u64)])] K) (frT A [(V.agg [(V.int .i64 x0_a), (V.int .i64 x0_b), (V.int .i64 x0_c), (V.int .i64 x0_d), (V.int .i64 x0_e), (V.int .i64 x0_f), (V.int .i64 x0_g), (V.int .i64 x0_h), (V.bool x0_i)])]) S) (fun x0_a x0_b x0_c x0_d x0_e x0_f x0_g x0_h x0_i S K => ref01_Num_Wide.p P N x0_a x0_b x0_c x0_d x0_e x0_f x0_g x0_h x0_i S K)
theorem ref01_Num_Wide.run {P : Program} {N : Nat → Nat} (hF : ref01_Num_Wide.Ok P N) {x0_a : Int} {x0_b : Int} {x0_c : Int} {x0_d : Int} {x0_e : Int} {x0_f : Int} {x0_g : Int} {x0_h : Int} {x0_i : Bool} {S : St} {K : Int → Int → St → Prop} (h : ref01_Num_Wide.p P N x0_a x0_b x0_c x0_d x0_e x0_f x0_g x0_h x0_i S K) : CallA P (N Fn.ref01_Num_Wide) [(V.agg [(V.int .i64 x0_a), (V.int .i64 x0_b), (V.int .i64 x0_c), (V.int .i64 x0_d), (V.int .i64 x0_e), (V.int .i64 x0_f), (V.int .i64 x0_g), (V.int .i64 x0_h), (V.bool x0_i)])] S (retT [(.agg [(.int .u64), (.int .u64)])] K) := hF.run (fun q => q x0_a x0_b x0_c x0_d x0_e x0_f x0_g x0_h x0_i S K) h rfl

def ref01_Mul.p (P : Program) (N : Nat → Nat) (x0 : Int) (x1 : Int) (S : St) (K : Int → Int → St → Prop) : Prop :=
  newS S (.cells [(V.int .u64 0), (V.int .u64 0)] true) fun S1 => CallA P (N Fn.ref01_Of) [(V.agg [(V.int .u64 0), (V.int .u64 x0)])] S1 (retT [(.agg [(.int .i64), (.int .i64), (.int .i64), (.int .i64), (.int .i64), (.int .i64), (.int .i64), (.int .i64), .bool])] fun (x7_a : Int) (x7_b : Int) (x7_c : Int) (x7_d : Int) (x7_e : Int) (x7_f : Int) (x7_g : Int) (x7_h : Int) (x7_i : Bool) (S2 : St) => CallA P (N Fn.ref01_Of) [(V.agg [(V.int .u64 0), (V.int .u64 x1)])] S2 (retT [(.agg [(.int .i64), (.int .i64), (.int .i64), (.int .i64), (.int .i64), (.int .i64), (.int .i64), (.int .i64), .bool])] fun (x10_a : Int) (x10_b : Int) (x10_c : Int) (x10_d : Int) (x10_e : Int) (x10_f : Int) (x10_g : Int) (x10_h : Int) (x10_i : Bool) (S3 : St) => CallA P (N Fn.ref01_Num_Times) [(V.agg [(V.int .i64 x7_a), (V.int .i64 x7_b), (V.int .i64 x7_c), (V.int .i64 x7_d), (V.int .i64 x7_e), (V.int .i64 x7_f), (V.int .i64 x7_g), (V.int .i64 x7_h), (V.bool x7_i)]), (V.agg [(V.int .i64 x10_a), (V.int .i64 x10_b), (V.int .i64 x10_c), (V.int .i64 x10_d), (V.int .i64 x10_e), (V.int .i64 x10_f), (V.int .i64 x10_g), (V.int .i64 x10_h), (V.bool x10_i)])] S3 (retT [(.agg [(.int .i64), (.int .i64), (.int .i64), (.int .i64), (.int .i64), (.int .i64), (.int .i64), (.int .i64), .bool])] fun (x11_a : Int) (x11_b : Int) (x11_c : Int) (x11_d : Int) (x11_e : Int) (x11_f : Int) (x11_g : Int) (x11_h : Int) (x11_i : Bool) (S4 : St) => CallA P (N Fn.ref01_Num_Wide) [(V.agg [(V.int .i64 x11_a), (V.int .i64 x11_b), (V.int .i64 x11_c), (V.int .i64 x11_d), (V.int .i64 x11_e), (V.int .i64 x11_f), (V.int .i64 x11_g), (V.int .i64 x11_h), (V.bool x11_i)])] S4 (retT [(.agg [(.int .u64), (.int .u64)])] fun (x12_a : Int) (x12_b : Int) (S5 : St) => ifS (storeV S5 2 (V.ptr S.next 0) (V.agg [(V.int .u64 x12_a), (V.int .u64 x12_b)])) fun S6 => ∃ xr_a xr_b : Int, cellNV S6 2 (V.ptr S.next 0) = some (V.agg [(V.int .u64 xr_a), (V.int .u64 xr_b)]) ∧ K xr_a xr_b S6))))
abbrev ref01_Mul.Ok (P : Program) (N : Nat → Nat) : Prop := Reads P (N Fn.ref01_Mul) [(2, (.dt (.agg [(.int .u64), (.int .u64)])), []), (0, .no, [(.agg [(.int .i64), (.int .i64), (.int .i64), (.int .i64), (.int .i64), (.int .i64), (.int .i64), (.int .i64), .bool])]), (1, (.dt (.agg [(.int .u64), (.int .u64)])), []), (0, .no, [(.agg [(.int .i64), (.int .i64), (.int .i64), (.int .i64), (.int .i64), (.int .i64), (.int .i64), (.int .i64), .bool])]), (0, .no, [(.agg [(.int .i64), (.int .i64), (.int .i64), (.int .i64), (.int .i64), (.int .i64), (.int .i64), (.int .i64), .bool])]), (0, .no, [(.agg [(.int .u64), (.int .u64)])])] [] [] (fun A T (x0 : Int) (x1 : Int) (S : St) (K : Int → Int → St → Prop) => wpT P (envP P) T (endT A.results [(.agg [(.int .u64), (.int .u64)])] K) (frT A [(V.int .u64 x0), (V.int .u64 x1)]) S) (fun x0 x1 S K => ref01_Mul.p P N x0 x1 S K)
theorem ref01_Mul.run {P : Program} {N : Nat → Nat} (hF : ref01_Mul.Ok P N) {x0 : Int} {x1 : Int} {S : St} {K : Int → Int → St → Prop} (h : ref01_Mul.p P N x0 x1 S K) : CallA P (N Fn.ref01_Mul) [(V.int .u64 x0), (V.int .u64 x1)] S (retT [(.agg [(.int .u64), (.int .u64)])] K) := hF.run (fun q => q x0 x1 S K) h rfl

def ref01_Num_plus.p (P : Program) (N : Nat → Nat) (x0_a : Int) (x0_b : Int) (x0_c : Int) (x0_d : Int) (x0_e : Int) (x0_f : Int) (x0_g : Int) (x0_h : Int) (x0_i : Bool) (x1 : Int) (x2 : Int) (S : St) (K : Int → Int → Int → Int → Int → Int → Int → Int → Bool → St → Prop) : Prop :=
  newS S (.cells [(V.int .i64 x0_a), (V.int .i64 x0_b), (V.int .i64 x0_c), (V.int .i64 x0_d), (V.int .i64 x0_e), (V.int .i64 x0_f), (V.int .i64 x0_g), (V.int .i64 x0_h), (V.bool x0_i)] true) fun S1 => newS S1 (.cells [(V.int .i64 0), (V.int .i64 0), (V.int .i64 0), (V.int .i64 0), (V.int .i64 0), (V.int .i64 0), (V.int .i64 0), (V.int .i64 0), (V.bool false)] true) fun S2 => Loop2 (fun (k1 : Int → Int → St → Prop) (x2_1 : Int) (x7 : Int) (S3 : St) => ifC (decide ((0 : Int) < x2_1)) (ifC (decide ((8 : Int) ≤ x7)) (ifS (storeV S3 1 (V.ptr S.next 8) (V.bool true)) fun S4 => ∃ x16_a x16_b x16_c x16_d x16_e x16_f x16_g x16_h : Int, ∃ x16_i : Bool, loadNV S4 9 (V.ptr S.next 0) = some (V.agg [(V.int .i64 x16_a), (V.int .i64 x16_b), (V.int .i64 x16_c), (V.int .i64 x16_d), (V.int .i64 x16_e), (V.int .i64 x16_f), (V.int .i64 x16_g), (V.int .i64 x16_h), (V.bool x16_i)]) ∧ ifS (storeV S4 9 (V.ptr S1.next 0) (V.agg [(V.int .i64 x16_a), (V.int .i64 x16_b), (V.int .i64 x16_c), (V.int .i64 x16_d), (V.int .i64 x16_e), (V.int .i64 x16_f), (V.int .i64 x16_g), (V.int .i64 x16_h), (V.bool x16_i)])) fun S5 => ∃ xr_a xr_b xr_c xr_d xr_e xr_f xr_g xr_h : Int, ∃ xr_i : Bool, cellNV S5 9 (V.ptr S1.next 0) = some (V.agg [(V.int .i64 xr_a), (V.int .i64 xr_b), (V.int .i64 xr_c), (V.int .i64 xr_d), (V.int .i64 xr_e), (V.int .i64 xr_f), (V.int .i64 xr_g), (V.int .i64 xr_h), (V.bool xr_i)]) ∧ K xr_a xr_b xr_c xr_d xr_e xr_f xr_g xr_h xr_i S5) (ifS (idxAddrArrV 8 1 (V.ptr S.next 0) (V.int .i64 x7)) fun x20 => ∃ x21 : Int, loadV S3 x20 = some (V.int .i64 x21) ∧ setI (IntKind.i64.wrap (x2_1 + x21)) fun x22 => (65536 : Int) ≠ 0 ∧ setI (Int.tmod x22 (65536 : Int)) fun x25 => ifS (idxAddrArrV 8 1 (V.ptr S.next 0) (V.int .i64 x7)) fun x27 => ifS (storeV S3 1 x27 (V.int .i64 x25)) fun S6 => (65536 : Int) ≠ 0 ∧ setI (IntKind.i64.wrap (Int.tdiv x22 (65536 : Int))) fun x29 => setI (IntKind.i64.wrap (x7 + (1 : Int))) fun x12 => k1 x29 x12 S6)) (∃ x30_a x30_b x30_c x30_d x30_e x30_f x30_g x30_h : Int, ∃ x30_i : Bool, loadNV S3 9 (V.ptr S.next 0) = some (V.agg [(V.int .i64 x30_a), (V.int .i64 x30_b), (V.int .i64 x30_c), (V.int .i64 x30_d), (V.int .i64 x30_e), (V.int .i64 x30_f), (V.int .i64 x30_g), (V.int .i64 x30_h), (V.bool x30_i)]) ∧ ifS (storeV S3 9 (V.ptr S1.next 0) (V.agg [(V.int .i64 x30_a), (V.int .i64 x30_b), (V.int .i64 x30_c), (V.int .i64 x30_d), (V.int .i64 x30_e), (V.int .i64 x30_f), (V.int .i64 x30_g), (V.int .i64 x30_h), (V.bool x30_i)])) fun S7 => ∃ xr_a_1 xr_b_1 xr_c_1 xr_d_1 xr_e_1 xr_f_1 xr_g_1 xr_h_1 : Int, ∃ xr_i_1 : Bool, cellNV S7 9 (V.ptr S1.next 0) = some (V.agg [(V.int .i64 xr_a_1), (V.int .i64 xr_b_1), (V.int .i64 xr_c_1), (V.int .i64 xr_d_1), (V.int .i64 xr_e_1), (V.int .i64 xr_f_1), (V.int .i64 xr_g_1), (V.int .i64 xr_h_1), (V.bool xr_i_1)]) ∧ K xr_a_1 xr_b_1 xr_c_1 xr_d_1 xr_e_1 xr_f_1 xr_g_1 xr_h_1 xr_i_1 S7)) x2 x1 S2
abbrev ref01_Num_plus.Ok (P : Program) (N : Nat → Nat) : Prop := Reads P (N Fn.ref01_Num_plus) [(10, (.dt (.agg [(.int .i64), (.int .i64), (.int .i64), (.int .i64), (.int .i64), (.int .i64), (.int .i64), (.int .i64), .bool])), []), (5, (.dt (.one (.int .i64))), []), (14, (.dt (.agg [(.int .i64), (.int .i64), (.int .i64), (.int .i64), (.int .i64), (.int .i64), (.int .i64), (.int .i64), .bool])), [])] [] [[(2, (.one (.int .i64))), (7, (.one (.int .i64)))]] (fun A T (x0_a : Int) (x0_b : Int) (x0_c : Int) (x0_d : Int) (x0_e : Int) (x0_f : Int) (x0_g : Int) (x0_h : Int) (x0_i : Bool) (x1 : Int) (x2 : Int) (S : St) (K : Int → Int → Int → Int → Int → Int → Int → Int → Bool → St → Prop) => wpT P (envP P) T (endT A.results [(.agg [(.int .i64), (.int .i64), (.int .i64), (.int .i64), (.int .i64), (.int .i64), (.int .i64), (.int .i64), .bool])] K) (frT A [(V.agg [(V.int .i64 x0_a), (V.int .i64 x0_b), (V.int .i64 x0_c), (V.int .i64 x0_d), (V.int .i64 x0_e), (V.int .i64 x0_f), (V.int .i64 x0_g), (V.int .i64 x0_h), (V.bool x0_i)]), (V.int .i64 x1), (V.int .i64 x2)]) S) (fun x0_a x0_b x0_c x0_d x0_e x0_f x0_g x0_h x0_i x1 x2 S K => ref01_Num_plus.p P N x0_a x0_b x0_c x0_d x0_e x0_f x0_g x0_h x0_i x1 x2 S K)
theorem ref01_Num_plus.run {P : Program} {N : Nat → Nat} (hF : ref01_Num_plus.Ok P N) {x0_a : Int} {x0_b : Int} {x0_c : Int} {x0_d : Int} {x0_e : Int} {x0_f : Int} {x0_g : Int} {x0_h : Int} {x0_i : Bool} {x1 : Int} {x2 : Int} {S : St} {K : Int → Int → Int → Int → Int → Int → Int → Int → Bool → St → Prop} (h : ref01_Num_plus.p P N x0_a x0_b x0_c x0_d x0_e x0_f x0_g x0_h x0_i x1 x2 S K) : CallA P (N Fn.ref01_Num_plus) [(V.agg [(V.int .i64 x0_a), (V.int .i64 x0_b), (V.int .i64 x0_c), (V.int .i64 x0_d), (V.int .i64 x0_e), (V.int .i64 x0_f), (V.int .i64 x0_g), (V.int .i64 x0_h), (V.bool x0_i)]), (V.int .i64 x1), (V.int .i64 x2)] S (retT [(.agg [(.int .i64), (.int .i64), (.int .i64), (.int .i64), (.int .i64), (.int .i64), (.int .i64), (.int .i64), .bool])] K) := hF.run (fun q => q x0_a x0_b x0_c x0_d x0_e x0_f x0_g x0_h x0_i x1 x2 S K) h rfl

def ref01_Num_Times.p (P : Program) (N : Nat → Nat) (x0_a : Int) (x0_b : Int) (x0_c : Int) (x0_d : Int) (x0_e : Int) (x0_f : Int) (x0_g : Int) (x0_h : Int) (x0_i : Bool) (x1_a : Int) (x1_b : Int) (x1_c : Int) (x1_d : Int) (x1_e : Int) (x1_f : Int) (x1_g : Int) (x1_h : Int) (x1_i : Bool) (S : St) (K : Int → Int → Int → Int → Int → Int → Int → Int → Bool → St → Prop) : Prop :=
  newS S (.cells [(V.int .i64 x0_a), (V.int .i64 x0_b), (V.int .i64 x0_c), (V.int .i64 x0_d), (V.int .i64 x0_e), (V.int .i64 x0_f), (V.int .i64 x0_g), (V.int .i64 x0_h), (V.bool x0_i)] true) fun S1 => newS S1 (.cells [(V.int .i64 x1_a), (V.int .i64 x1_b), (V.int .i64 x1_c), (V.int .i64 x1_d), (V.int .i64 x1_e), (V.int .i64 x1_f), (V.int .i64 x1_g), (V.int .i64 x1_h), (V.bool x1_i)] true) fun S2 => newS S2 (.cells [(V.int .i64 0), (V.int .i64 0), (V.int .i64 0), (V.int .i64 0), (V.int .i64 0), (V.int .i64 0), (V.int .i64 0), (V.int .i64 0), (V.bool false)] true) fun S3 => newS S3 (.cells [(V.int .i64 0), (V.int .i64 0), (V.int .i64 0), (V.int .i64 0), (V.int .i64 0), (V.int .i64 0), (V.int .i64 0), (V.int .i64 0), (V.bool false)] true) fun S4 => Join0 (fun (k1 : St → Prop) => ∃ x10 : Bool, loadV S4 (V.ptr S.next 8) = some (V.bool x10) ∧ ifC x10 (ifS (storeV S4 1 (V.ptr S3.next 8) (V.bool true)) fun S6 => k1  S6) (∃ x13 : Bool, loadV S4 (V.ptr S1.next 8) = some (V.bool x13) ∧ ifS (storeV S4 1 (V.ptr S3.next 8) (V.bool x13)) fun S7 => k1  S7)) (fun (S5 : St) => Loop1 (fun (k2 : Int → St → Prop) (x6 : Int) (S8 : St) => ifC (decide (x6 < (8 : Int))) (Loop1 (fun (k3 : Int → St → Prop) (x7 : Int) (S9 : St) => ifC (decide (x7 < (8 : Int))) (ifS (idxAddrArrV 8 1 (V.ptr S.next 0) (V.int .i64 x6)) fun x26 => ∃ x27 : Int, loadV S9 x26 = some (V.int .i64 x27) ∧ ifS (idxAddrArrV 8 1 (V.ptr S1.next 0) (V.int .i64 x7)) fun x30 => ∃ x31 : Int, loadV S9 x30 = some (V.int .i64 x31) ∧ setI (IntKind.i64.wrap (x27 * x31)) fun x32 => Join1 (fun (k4 : Bool → St → Prop) => ifC (decide ((0 : Int) < x32)) (setI (IntKind.i64.wrap (x6 + x7)) fun x38 => k4 (decide ((8 : Int) ≤ x38)) S9) (k4 false S9)) (fun (x40 : Bool) (S10 : St) => ifC x40 (ifS (storeV S10 1 (V.ptr S3.next 8) (V.bool true)) fun S11 => setI (IntKind.i64.wrap (x7 + (1 : Int))) fun x23 => k3 x23 S11) (∃ x42_a x42_b x42_c x42_d x42_e x42_f x42_g x42_h : Int, ∃ x42_i : Bool, loadNV S10 9 (V.ptr S3.next 0) = some (V.agg [(V.int .i64 x42_a), (V.int .i64 x42_b), (V.int .i64 x42_c), (V.int .i64 x42_d), (V.int .i64 x42_e), (V.int .i64 x42_f), (V.int .i64 x42_g), (V.int .i64 x42_h), (V.bool x42_i)]) ∧ setI (IntKind.i64.wrap (x6 + x7)) fun x45 => CallA P (N Fn.ref01_Num_plus) [(V.agg [(V.int .i64 x42_a), (V.int .i64 x42_b), (V.int .i64 x42_c), (V.int .i64 x42_d), (V.int .i64 x42_e), (V.int .i64 x42_f), (V.int .i64 x42_g), (V.int .i64 x42_h), (V.bool x42_i)]), (V.int .i64 x45), (V.int .i64 x32)] S10 (retT [(.agg [(.int .i64), (.int .i64), (.int .i64), (.int .i64), (.int .i64), (.int .i64), (.int .i64), (.int .i64), .bool])] fun (x47_a : Int) (x47_b : Int) (x47_c : Int) (x47_d : Int) (x47_e : Int) (x47_f : Int) (x47_g : Int) (x47_h : Int) (x47_i : Bool) (S12 : St) => ifS (storeV S12 9 (V.ptr S3.next 0) (V.agg [(V.int .i64 x47_a), (V.int .i64 x47_b), (V.int .i64 x47_c), (V.int .i64 x47_d), (V.int .i64 x47_e), (V.int .i64 x47_f), (V.int .i64 x47_g), (V.int .i64 x47_h), (V.bool x47_i)])) fun S13 => setI (IntKind.i64.wrap (x7 + (1 : Int))) fun x23_1 => k3 x23_1 S13)))) (setI (IntKind.i64.wrap (x6 + (1 : Int))) fun x19 => k2 x19 S9)) 0 S8) (∃ x48_a x48_b x48_c x48_d x48_e x48_f x48_g x48_h : Int, ∃ x48_i : Bool, loadNV S8 9 (V.ptr S3.next 0) = some (V.agg [(V.int .i64 x48_a), (V.int .i64 x48_b), (V.int .i64 x48_c), (V.int .i64 x48_d), (V.int .i64 x48_e), (V.int .i64 x48_f), (V.int .i64 x48_g), (V.int .i64 x48_h), (V.bool x48_i)]) ∧ ifS (storeV S8 9 (V.ptr S2.next 0) (V.agg [(V.int .i64 x48_a), (V.int .i64 x48_b), (V.int .i64 x48_c), (V.int .i64 x48_d), (V.int .i64 x48_e), (V.int .i64 x48_f), (V.int .i64 x48_g), (V.int .i64 x48_h), (V.bool x48_i)])) fun S14 => ∃ xr_a xr_b xr_c xr_d xr_e xr_f xr_g xr_h : Int, ∃ xr_i : Bool, cellNV S14 9 (V.ptr S2.next 0) = some (V.agg [(V.int .i64 xr_a), (V.int .i64 xr_b), (V.int .i64 xr_c), (V.int .i64 xr_d), (V.int .i64 xr_e), (V.int .i64 xr_f), (V.int .i64 xr_g), (V.int .i64 xr_h), (V.bool xr_i)]) ∧ K xr_a xr_b xr_c xr_d xr_e xr_f xr_g xr_h xr_i S14)) 0 S5)
abbrev ref01_Num_Times.Ok (P : Program) (N : Nat → Nat) : Prop := Reads P (N Fn.ref01_Num_Times) [(5, (.dt (.one .bool)), []), (2, (.dt (.one .bool)), []), (12, (.dt (.one (.int .i64))), []), (3, (.dt (.one (.int .i64))), []), (12, (.dt (.agg [(.int .i64), (.int .i64), (.int .i64), (.int .i64), (.int .i64), (.int .i64), (.int .i64), (.int .i64), .bool])), []), (4, .no, [(.agg [(.int .i64), (.int .i64), (.int .i64), (.int .i64), (.int .i64), (.int .i64), (.int .i64), (.int .i64), .bool])]), (7, (.dt (.agg [(.int .i64), (.int .i64), (.int .i64), (.int .i64), (.int .i64), (.int .i64), (.int .i64), (.int .i64), .bool])), [])] [(2, []), (10, [(40, (.one .bool))])] [[(6, (.one (.int .i64)))], [(7, (.one (.int .i64)))]] (fun A T (x0_a : Int) (x0_b : Int) (x0_c : Int) (x0_d : Int) (x0_e : Int) (x0_f : Int) (x0_g : Int) (x0_h : Int) (x0_i : Bool) (x1_a : Int) (x1_b : Int) (x1_c : Int) (x1_d : Int) (x1_e : Int) (x1_f : Int) (x1_g : Int) (x1_h : Int) (x1_i : Bool) (S : St) (K : Int → Int → Int → Int → Int → Int → Int → Int → Bool → St → Prop) => wpT P (envP P) T (endT A.results [(.agg [(.int .i64), (.int .i64), (.int .i64), (.int .i64), (.int .i64), (.int .i64), (.int .i64), (.int .i64), .bool])] K) (frT A [(V.agg [(V.int .i64 x0_a), (V.int .i64 x0_b), (V.int .i64 x0_c), (V.int .i64 x0_d), (V.int .i64 x0_e), (V.int .i64 x0_f), (V.int .i64 x0_g), (V.int .i64 x0_h), (V.bool x0_i)]), (V.agg [(V.int .i64 x1_a), (V.int .i64 x1_b), (V.int .i64 x1_c), (V.int .i64 x1_d), (V.int .i64 x1_e), (V.int .i64 x1_f), (V.int .i64 x1_g), (V.int .i64 x1_h), (V.bool x1_i)])]) S) (fun x0_a x0_b x0_c x0_d x0_e x0_f x0_g x0_h x0_i x1_a x1_b x1_c x1_d x1_e x1_f x1_g x1_h x1_i S K => ref01_Num_Times.p P N x0_a x0_b x0_c x0_d x0_e x0_f x0_g x0_h x0_i x1_a x1_b x1_c x1_d x1_e x1_f x1_g x1_h x1_i S K)
theorem ref01_Num_Times.run {P : Program} {N : Nat → Nat} (hF : ref01_Num_Times.Ok P N) {x0_a : Int} {x0_b : Int} {x0_c : Int} {x0_d : Int} {x0_e : Int} {x0_f : Int} {x0_g : Int} {x0_h : Int} {x0_i : Bool} {x1_a : Int} {x1_b : Int} {x1_c : Int} {x1_d : Int} {x1_e : Int} {x1_f : Int} {x1_g : Int} {x1_h : Int} {x1_i : Bool} {S : St} {K : Int → Int → Int → Int → Int → Int → Int → Int → Bool → St → Prop} (h : ref01_Num_Times.p P N x0_a x0_b x0_c x0_d x0_e x0_f x0_g x0_h x0_i x1_a x1_b x1_c x1_d x1_e x1_f x1_g x1_h x1_i S K) : CallA P (N Fn.ref01_Num_Times) [(V.agg [(V.int .i64 x0_a), (V.int .i64 x0_b), (V.int .i64 x0_c), (V.int .i64 x0_d), (V.int .i64 x0_e), (V.int .i64 x0_f), (V.int .i64 x0_g), (V.int .i64 x0_h), (V.bool x0_i)]), (V.agg [(V.int .i64 x1_a), (V.int .i64 x1_b), (V.int .i64 x1_c), (V.int .i64 x1_d), (V.int .i64 x1_e), (V.int .i64 x1_f), (V.int .i64 x1_g), (V.int .i64 x1_h), (V.bool x1_i)])] S (retT [(.agg [(.int .i64), (.int .i64), (.int .i64), (.int .i64), (.int .i64), (.int .i64), (.int .i64), (.int .i64), .bool])] K) := hF.run (fun q => q x0_a x0_b x0_c x0_d x0_e x0_f x0_g x0_h x0_i x1_a x1_b x1_c x1_d x1_e x1_f x1_g x1_h x1_i S K) h rfl

end Go.Th.L
end
