/- What the row of one statement stands on: a store, abstract code, functions of the program and their laws (ThQ3, ThQ11, ThFn, ThGcmp, ThGcontainer, ThGlaw02, ThGmath, ThGref02, ThGslices, ThGslicesBase, ThGtopk, ThGwide). -/
import Derived.Test.YtdpehfhhbmmhjaaThBQ2

section
/- Code read without frames: rounds, joins, calls; that this is the code's own reading. -/
set_option linter.unusedVariables false
set_option linter.unusedSimpArgs false
namespace Go.Th
open Go.RowKit Go.Lib

/-! ## results -/
def group : List DT → List V → List V
  | [], _ => []
  | .one _ :: ds, vs => match vs with
    | v :: vs => v :: group ds vs
    | [] => []
  | .agg ts :: ds, vs => .agg (vs.take ts.length) :: group ds (vs.drop ts.length)

@[reducible] def Cur : List Ty → Type
  | [] => St → Prop
  | t :: ts => t.den → Cur ts

def Ret : (ts : List Ty) → (List V → V) → Cur ts → Res → St → Prop
  | [], mk, K, r, S => r = .ret (mk []) ∧ K S
  | t :: ts, mk, K, r, S => ∃ x : t.den, Ret ts (fun vs => mk (t.toV x :: vs)) (K x) r S

/-- What a call gives: results of these types. -/
def retT (ds : List DT) (K : Cur (flats ds)) : Post := Ret (flats ds) (fun vs => tupled (group ds vs)) K

def curK : (ts : List Ty) → (List V → V) → (V → St → Prop) → Cur ts
  | [], mk, k => fun S => k (mk []) S
  | t :: ts, mk, k => fun x => curK ts (fun vs => mk (t.toV x :: vs)) k

theorem Ret_ok : ∀ {ts : List Ty} {mk : List V → V} {k : V → St → Prop} {r : Res} {S : St}, Ret ts mk (curK ts mk k) r S → ∃ v, r = .ret v ∧ k v S
  | [], mk, k, r, S, h => ⟨_, h.1, h.2⟩
  | t :: ts, mk, k, r, S, h => by
    obtain ⟨x, h⟩ := h
    exact Ret_ok (ts := ts) h

def callT (P : Program) (f : FuncId) (args : List V) (ds : List DT) (S : St) (k : V → St → Prop) : Prop :=
  CallA P f args S (retT ds (curK (flats ds) (fun vs => tupled (group ds vs)) k))

/-- Who is called, and with what. -/
def calleeK (ok : Env) (v : V) (vs : List V) (k : FuncId → List V → Prop) : Prop := ifS (calleeV ok v vs) fun p => k p.1 p.2

theorem calleeK_ok {ok : Env} {v : V} {vs : List V} {k : FuncId → List V → Prop} (h : calleeK ok v vs k) : ∃ p, calleeV ok v vs = some p ∧ k p.1 p.2 := ifS_ok h

theorem callee_mk {P : Program} {f : FuncId} {fs cs vs : List V} (h : canEnter P f = true) : calleeV (envP P) (.func (.func f) fs cs) vs = some (f, fs ++ vs ++ cs) := by
  rw [calleeV_func]; exact if_pos h

/-! ## regions -/
structure TI where
  i : AI
  ann : Ann
  ds : List DT

def guardT (g : Option (Nat × Bool)) (F : SF) (a b : SF → Prop) : Prop :=
  match g with
  | none => a F
  | some (t, w) => match cellAt F t with
    | .tt => match w with
      | true => a F
      | false => b F
    | .ff => match w with
      | true => b F
      | false => a F
    | .val (.bool x) => match w with
      | true => ifC x (a (F.set t .tt)) (b (F.set t .ff))
      | false => ifC x (b (F.set t .tt)) (a (F.set t .ff))
    | .val (.tuple []) => b F
    | _ => False

def stepT (P : Program) (ok : Env) (t : TI) (F : SF) (S : St) (k : Cell → St → Prop) : Prop :=
  match t.i.op with
  | .callF f xs => needXs F xs fun vs => callT P f vs t.ds S fun v S' => k (.val v) S'
  | .callV x xs => needX F x fun v => needXs F xs fun vs => calleeK ok v vs fun f vs => callT P f vs t.ds S fun v S' => k (.val v) S'
  | .invoke nm x xs => needX F x fun v => needXs F xs fun vs => ifS (invokeV ok S nm v vs) fun p => callT P p.1 p.2 t.ds S fun v S' => k (.val v) S'
  | o => opT o t.ann F S k

def runT (P : Program) (ok : Env) : List TI → SF → St → (SF → St → Prop) → Prop
  | [], F, S, k => k F S
  | t :: r, F, S, k => guardT t.i.guard F (fun F => stepT P ok t F S fun c S' => runT P ok r (putT F t.i.dst c) S' k) (fun F => runT P ok r (putT F t.i.dst (.val .undef)) S k)

def gslots : Option (Nat × Bool) → List Nat
  | none => []
  | some (t, _) => [t]
def dslots : Option Nat → List Nat
  | none => []
  | some d => [d]
def modsI : List TI → List Nat
  | [] => []
  | t :: r => gslots t.i.guard ++ (dslots t.i.dst ++ modsI r)

theorem guardT_ok {g : Option (Nat × Bool)} {F : SF} {fr : List V} {a b : SF → Prop} (hF : Le F fr) (h : guardT g F a b) :
    (∃ F', Le F' fr ∧ Stay (gslots g) F F' ∧ wantI g fr = some true ∧ a F') ∨ ∃ F', Le F' fr ∧ Stay (gslots g) F F' ∧ wantI g fr = some false ∧ b F' := by
  unfold guardT at h
  split at h
  · exact .inl ⟨F, hF, Stay.refl _ _, rfl, h⟩
  · rename_i t w
    have ht := hF.at_ t
    split at h
    · rename_i hc
      rw [hc] at ht; simp only [Cell.Le, G] at ht
      cases w with
      | true => exact .inl ⟨F, hF, Stay.refl _ _, by simp only [wantI, ht]; rfl, h⟩
      | false => exact .inr ⟨F, hF, Stay.refl _ _, by simp only [wantI, ht]; rfl, h⟩
    · rename_i hc
      rw [hc] at ht; simp only [Cell.Le, G] at ht
      cases w with
      | true => exact .inr ⟨F, hF, Stay.refl _ _, by simp only [wantI, ht]; rfl, h⟩
      | false => exact .inl ⟨F, hF, Stay.refl _ _, by simp only [wantI, ht]; rfl, h⟩
    · rename_i x hc
      rw [hc] at ht; simp only [Cell.Le] at ht
      have ht' : fr.getD t .undef = .bool x := ht
      cases w with
      | true =>
        have hb := ifC_ok h
        cases x with
        | true => exact .inl ⟨_, hF.refine t (c := .tt) ht, Stay.set F _ (by simp [gslots]), by simp only [wantI, ht']; rfl, hb⟩
        | false => exact .inr ⟨_, hF.refine t (c := .ff) ht, Stay.set F _ (by simp [gslots]), by simp only [wantI, ht']; rfl, hb⟩
      | false =>
        have hb := ifC_ok h
        cases x with
        | true => exact .inr ⟨_, hF.refine t (c := .tt) ht, Stay.set F _ (by simp [gslots]), by simp only [wantI, ht']; rfl, hb⟩
        | false => exact .inl ⟨_, hF.refine t (c := .ff) ht, Stay.set F _ (by simp [gslots]), by simp only [wantI, ht']; rfl, hb⟩
    · rename_i hc
      rw [hc] at ht; simp only [Cell.Le, G] at ht
      exact .inr ⟨F, hF, Stay.refl _ _, by simp only [wantI, ht], h⟩
    · exact h.elim

theorem Stay.put {M : List Nat} (F : SF) (d : Option Nat) (v : Cell) (h : ∀ i ∈ dslots d, i ∈ M) : Stay M F (putT F d v) := by
  cases d with
  | none => exact Stay.refl _ _
  | some d => exact Stay.set F _ (h d (by simp [dslots]))

theorem stepT_ok {P : Program} {ok : Env} {Q : PostC} {t : TI} {r : List AI} {F : SF} {fr : List V} {S : St} {k : Cell → St → Prop} (hF : Le F fr) (h : stepT P ok t F S k)
    (hk : ∀ c v S', c.Le v → k c S' → runIs ok (CallA P) Q r (put fr t.i.dst v) S') : runIs ok (CallA P) Q (⟨t.i.dst, none, t.i.op⟩ :: r) fr S := by
  unfold stepT at h
  split at h
  · rename_i f xs ho
    have := needXs_ok hF h
    rw [ho, runIs_callF]
    refine CallA.mono this ?_
    intro res S' hr
    obtain ⟨v, rfl, hv⟩ := Ret_ok hr
    exact hk _ _ _ (Cell.le_val _) hv
  · rename_i x xs ho
    obtain ⟨p, h1, h2⟩ := calleeK_ok (needXs_ok hF (needX_ok hF h))
    rw [ho, runIs_callV, h1]
    refine CallA.mono h2 ?_
    intro res S' hr
    obtain ⟨v, rfl, hv⟩ := Ret_ok hr
    exact hk _ _ _ (Cell.le_val _) hv
  · rename_i nm x xs ho
    obtain ⟨p, h1, h2⟩ := ifS_ok (needXs_ok hF (needX_ok hF h))
    rw [ho, runIs_invoke, h1]
    refine CallA.mono h2 ?_
    intro res S' hr
    obtain ⟨v, rfl, hv⟩ := Ret_ok hr
    exact hk _ _ _ (Cell.le_val _) hv
  · exact opT_ok hF h hk

theorem runT_ok {P : Program} {ok : Env} {Q : PostC} : ∀ (l : List TI) {F : SF} {fr : List V} {S : St} {k : SF → St → Prop}, Le F fr → runT P ok l F S k →
    (∀ F' fr' S', Le F' fr' → Stay (modsI l) F F' → k F' S' → Q .normal fr' S') → runIs ok (CallA P) Q (l.map (·.i)) fr S
  | [], F, fr, S, k, hF, h, hk => hk F fr S hF (Stay.refl _ _) h
  | t :: r, F, fr, S, k, hF, h, hk => by
    simp only [runT] at h
    rw [List.map_cons]
    have hg : ∀ i ∈ gslots t.i.guard, i ∈ modsI (t :: r) := fun i hi => by simp only [modsI]; exact List.mem_append_left _ hi
    have hd : ∀ i ∈ dslots t.i.dst, i ∈ modsI (t :: r) := fun i hi => by simp only [modsI]; exact List.mem_append_right _ (List.mem_append_left _ hi)
    have hr : ∀ i ∈ modsI r, i ∈ modsI (t :: r) := fun i hi => by simp only [modsI]; exact List.mem_append_right _ (List.mem_append_right _ hi)
    rcases guardT_ok hF h with ⟨F1, hF1, hs1, hw, h1⟩ | ⟨F1, hF1, hs1, hw, h1⟩
    · have hstep : runIs ok (CallA P) Q (⟨t.i.dst, none, t.i.op⟩ :: r.map (·.i)) fr S := by
        refine stepT_ok hF1 h1 ?_
        intro c v S' hc hv
        refine runT_ok r (hF1.put t.i.dst hc) hv ?_
        intro F2 fr2 S2 hF2 hs2 hk2
        exact hk F2 fr2 S2 hF2 (((hs1.mono hg).trans (Stay.put F1 _ c hd)).trans (hs2.mono hr)) hk2
      have e : runIs ok (CallA P) Q (t.i :: r.map (·.i)) fr S = runIs ok (CallA P) Q (⟨t.i.dst, none, t.i.op⟩ :: r.map (·.i)) fr S := by
        simp only [runIs, hw]; rfl
      rw [e]; exact hstep
    · have e : runIs ok (CallA P) Q (t.i :: r.map (·.i)) fr S = runIs ok (CallA P) Q (r.map (·.i)) (put fr t.i.dst .undef) S := by
        simp only [runIs, hw]
      rw [e]
      refine runT_ok r (hF1.put t.i.dst (Cell.le_val .undef)) h1 ?_
      intro F2 fr2 S2 hF2 hs2 hk2
      exact hk F2 fr2 S2 hF2 (((hs1.mono hg).trans (Stay.put F1 _ _ hd)).trans (hs2.mono hr)) hk2

/-! ## regions that draw -/
def readsK (F : SF) (o : AO) (k : List Nat → Prop) : Prop :=
  match o with
  | .load1 x | .loadN _ x | .convBS x | .len _ x | .lookup _ _ _ x _ => needX F x fun v => k v.block
  | _ => k []

theorem readsK_ok {F : SF} {fr : List V} {o : AO} {k : List Nat → Prop} (hF : Le F fr) (h : readsK F o k) : k (o.reads fr) := by
  cases o <;> first | exact needX_ok hF h | exact h

/-- What was read stays. -/
def sameK (R : List Nat) (S S' : St) (k : Prop) : Prop :=
  match R with
  | [] => k
  | R => Same R S S' ∧ k

theorem sameK_ok {R : List Nat} {S S' : St} {k : Prop} (h : sameK R S S' k) : Same R S S' ∧ k := by
  cases R with
  | nil => exact ⟨fun i hi => by simp at hi, h⟩
  | cons i R => exact h

inductive TT where
  | done
  | step (n : Nat) (ds : List Nat) (t : TI) (r : TT)
  | both (a b : TT)

def TT.erase : TT → OT
  | .done => .done
  | .step n ds t r => .step n ds t.i r.erase
  | .both a b => .both a.erase b.erase
def modsT : TT → List Nat
  | .done => []
  | .step _ _ t r => gslots t.i.guard ++ (dslots t.i.dst ++ modsT r)
  | .both a b => modsT a ++ modsT b

def drawT (P : Program) (ok : Env) : TT → RD → SF → St → (SF → St → Prop) → Prop
  | .done, _, F, S, k => k F S
  | .both a b, R, F, S, k => drawT P ok a R F S k ∧ drawT P ok b R F S k
  | .step n ds t r, R, F, S, k => guardT t.i.guard F
      (fun F => match t.i.op.quiet with
        | true => readsK F t.i.op fun R' => stepT P ok t F S fun c S' => drawT P ok r ((n, R') :: R) (putT F t.i.dst c) S' k
        | false => stepT P ok t F S fun c S' => sameK (outD ds R) S S' (drawT P ok r R (putT F t.i.dst c) S' k))
      (fun F => drawT P ok r R (putT F t.i.dst (.val .undef)) S k)

theorem runD_one {ok : Env} {callH : FuncId → List V → St → Post → Prop} {Q : List V → St → Prop} {n : Nat} {ds : List Nat} {i : AI} {r : OT} {R : RD} {fr : List V} {S : St} (hw : wantI i.guard fr = some true) (hq : i.op.quiet = false)
    (h : runIs ok callH (fun e fr' S' => e = .normal ∧ Same (outD ds R) S S' ∧ runD ok callH Q r R fr' S') [⟨i.dst, none, i.op⟩] fr S) : runD ok callH Q (.step n ds i r) R fr S := by
  simp only [runD, hw]
  simp only [runIs, wantI] at h
  cases hr : i.op.run ok fr S with
  | val v S' => rw [hr] at h; simp only [hq, Bool.false_eq_true, if_false]; exact h.2
  | call f args =>
    rw [hr] at h
    simp only at h ⊢
    refine cast (congrArg (callH f args S) (funext fun res => funext fun S' => ?_)) h
    cases res <;> simp
  | panic v => rw [hr] at h; cases h.1
  | stuck => rw [hr] at h; exact h

theorem runD_quiet_one {ok : Env} {callH : FuncId → List V → St → Post → Prop} {Q : List V → St → Prop} {n : Nat} {ds : List Nat} {i : AI} {r : OT} {R : RD} {fr : List V} {S : St} (hw : wantI i.guard fr = some true) (hq : i.op.quiet = true)
    (h : runIs ok callH (fun e fr' S' => e = .normal ∧ runD ok callH Q r ((n, i.op.reads fr) :: R) fr' S') [⟨i.dst, none, i.op⟩] fr S) : runD ok callH Q (.step n ds i r) R fr S := by
  simp only [runD, hw]
  simp only [runIs, wantI] at h
  rcases AO.quiet_run (ok := ok) hq fr S with ⟨v, S', hr⟩ | hr
  · rw [hr] at h ⊢; simp only [hq, if_true]; exact h.2
  · rw [hr] at h; exact h.elim

theorem drawT_ok {P : Program} {ok : Env} {Q : List V → St → Prop} : ∀ (l : TT) {R : RD} {F : SF} {fr : List V} {S : St} {k : SF → St → Prop}, Le F fr → drawT P ok l R F S k →
    (∀ F' fr' S', Le F' fr' → Stay (modsT l) F F' → k F' S' → Q fr' S') → runD ok (CallA P) Q l.erase R fr S
  | .done, R, F, fr, S, k, hF, h, hk => hk F fr S hF (Stay.refl _ _) h
  | .both a b, R, F, fr, S, k, hF, h, hk =>
    ⟨drawT_ok a hF h.1 fun F' fr' S' h1 h2 h3 => hk F' fr' S' h1 (h2.mono fun i hi => by simp only [modsT]; exact List.mem_append_left _ hi) h3,
     drawT_ok b hF h.2 fun F' fr' S' h1 h2 h3 => hk F' fr' S' h1 (h2.mono fun i hi => by simp only [modsT]; exact List.mem_append_right _ hi) h3⟩
  | .step n ds t r, R, F, fr, S, k, hF, h, hk => by
    simp only [drawT] at h
    simp only [TT.erase]
    have hg : ∀ i ∈ gslots t.i.guard, i ∈ modsT (.step n ds t r) := fun i hi => by simp only [modsT]; exact List.mem_append_left _ hi
    have hd : ∀ i ∈ dslots t.i.dst, i ∈ modsT (.step n ds t r) := fun i hi => by simp only [modsT]; exact List.mem_append_right _ (List.mem_append_left _ hi)
    have hr : ∀ i ∈ modsT r, i ∈ modsT (.step n ds t r) := fun i hi => by simp only [modsT]; exact List.mem_append_right _ (List.mem_append_right _ hi)
    rcases guardT_ok hF h with ⟨F1, hF1, hs1, hw, h1⟩ | ⟨F1, hF1, hs1, hw, h1⟩
    · cases hq : t.i.op.quiet with
      | true =>
        rw [hq] at h1
        refine runD_quiet_one hw hq ?_
        refine stepT_ok (r := []) hF1 (readsK_ok hF1 h1) ?_
        intro c v S' hc hv
        refine ⟨rfl, drawT_ok r (hF1.put t.i.dst hc) hv ?_⟩
        intro F2 fr2 S2 hF2 hs2 hk2
        exact hk F2 fr2 S2 hF2 (((hs1.mono hg).trans (Stay.put F1 _ c hd)).trans (hs2.mono hr)) hk2
      | false =>
        rw [hq] at h1
        refine runD_one hw hq ?_
        refine stepT_ok (r := []) hF1 h1 ?_
        intro c v S' hc hv
        obtain ⟨hsm, hv⟩ := sameK_ok hv
        refine ⟨rfl, hsm, drawT_ok r (hF1.put t.i.dst hc) hv ?_⟩
        intro F2 fr2 S2 hF2 hs2 hk2
        exact hk F2 fr2 S2 hF2 (((hs1.mono hg).trans (Stay.put F1 _ c hd)).trans (hs2.mono hr)) hk2
    · have e : runD ok (CallA P) Q (.step n ds t.i r.erase) R fr S = runD ok (CallA P) Q r.erase R (put fr t.i.dst .undef) S := by
        simp only [runD, hw]
      rw [e]
      refine drawT_ok r (hF1.put t.i.dst (Cell.le_val .undef)) h1 ?_
      intro F2 fr2 S2 hF2 hs2 hk2
      exact hk F2 fr2 S2 hF2 (((hs1.mono hg).trans (Stay.put F1 _ _ hd)).trans (hs2.mono hr)) hk2

/-! ## code -/
inductive TC where
  | skip
  | region (l : List TI)
  | draw (t : TT)
  | seq (a b : TC)
  | join (live : List (Nat × DT)) (a b : TC)
  | cond (x : AX) (a b : TC)
  | block (id : Nat) (a : TC)
  | loop (live : List (Nat × DT)) (a : TC)
  | exit (id : Nat)
  | ret

def erI : List TI → List AI
  | [] => []
  | t :: r => t.i :: erI r
theorem erI_eq : ∀ (l : List TI), erI l = l.map (·.i)
  | [] => rfl
  | t :: r => by simp only [erI, List.map_cons, erI_eq r]

def TC.erase : TC → AC
  | .skip => .skip
  | .region l => .region (erI l)
  | .draw t => .draw t.erase
  | .seq a b => .seq a.erase b.erase
  | .join _ a b => .seq a.erase b.erase
  | .cond x a b => .cond x a.erase b.erase
  | .block id a => .block id a.erase
  | .loop _ a => .loop a.erase
  | .exit id => .exit id
  | .ret => .ret

def xslots : AX → List Nat
  | .tmp i => [i]
  | _ => []
def TC.mods : TC → List Nat
  | .skip => []
  | .region l => modsI l
  | .draw t => modsT t
  | .seq a b => a.mods ++ b.mods
  | .join _ a b => a.mods ++ b.mods
  | .cond x a b => xslots x ++ (a.mods ++ b.mods)
  | .block _ a => a.mods
  | .loop _ a => a.mods
  | .exit _ => []
  | .ret => []

def tysOf : List (Nat × DT) → List Ty
  | [] => []
  | p :: l => p.2.tys ++ tysOf l

def unTy : (t : Ty) → V → (t.den → Prop) → Prop
  | .any, v, k => k v
  | .bool, v, k => match v with
    | .bool b => k b
    | _ => False
  | .int kk, v, k => match v with
    | .int k' n => match decEq k' kk with
      | .isTrue _ => k n
      | .isFalse _ => False
    | _ => False
  | .str, v, k => match v with
    | .str s => k s
    | _ => False

theorem unTy_ok : ∀ {t : Ty} {v : V} {k : t.den → Prop}, unTy t v k → ∃ x, v = t.toV x ∧ k x
  | .any, v, k, h => ⟨v, rfl, h⟩
  | .bool, v, k, h => by
    simp only [unTy] at h
    split at h
    · exact ⟨_, rfl, h⟩
    · exact h.elim
  | .int kk, v, k, h => by
    simp only [unTy] at h
    split at h
    · split at h
      · rename_i he _; subst he; exact ⟨_, rfl, h⟩
      · exact h.elim
    · exact h.elim
  | .str, v, k, h => by
    simp only [unTy] at h
    split at h
    · exact ⟨_, rfl, h⟩
    · exact h.elim

def unVs : (ts : List Ty) → List V → (Dens ts → Prop) → Prop
  | [], vs, k => match vs with
    | [] => k ()
    | _ :: _ => False
  | t :: ts, vs, k => match vs with
    | [] => False
    | v :: vs => unTy t v fun x => unVs ts vs fun y => k (x, y)

theorem unVs_ok : ∀ {ts : List Ty} {vs : List V} {k : Dens ts → Prop}, unVs ts vs k → ∃ x, vs = toVs ts x ∧ k x
  | [], vs, k, h => by
    cases vs with
    | nil => exact ⟨(), rfl, h⟩
    | cons v vs => exact h.elim
  | t :: ts, vs, k, h => by
    cases vs with
    | nil => exact h.elim
    | cons v vs =>
      obtain ⟨x, hx, h⟩ := unTy_ok h
      obtain ⟨y, hy, h⟩ := unVs_ok h
      exact ⟨(x, y), by simp only [toVs, ← hx, ← hy], h⟩

/-- The cells of slots that live on. -/
def getLive (F : SF) : List (Nat × DT) → (List V → Prop) → Prop
  | [], k => k []
  | (i, d) :: l, k => need (cellAt F i) fun v => match d with
    | .one _ => getLive F l fun vs => k (v :: vs)
    | .agg ts => match v with
      | .agg cs => ifD (Nat.decEq cs.length ts.length) (getLive F l fun vs => k (cs ++ vs))
      | _ => False

def setLive : List (Nat × DT) → List V → SF → SF
  | [], _, F => F
  | (i, .one _) :: l, vs, F => match vs with
    | v :: vs => setLive l vs (F.set i (.val v))
    | [] => F
  | (i, .agg ts) :: l, vs, F => setLive l (vs.drop ts.length) (F.set i (.val (.agg (vs.take ts.length))))

theorem getLive_ok {F : SF} {fr : List V} (hF : Le F fr) : ∀ {l : List (Nat × DT)} {k : List V → Prop}, getLive F l k → ∃ vs, k vs ∧ ∀ F0, Le F0 fr → Le (setLive l vs F0) fr
  | [], k, h => ⟨[], h, fun F0 h0 => h0⟩
  | (i, .one t) :: l, k, h => by
    have hv := need_ok (hF.at_ i) h
    obtain ⟨vs, h1, h2⟩ := getLive_ok hF hv
    refine ⟨_, h1, fun F0 h0 => ?_⟩
    simp only [setLive]
    exact h2 _ (h0.refine i rfl)
  | (i, .agg ts) :: l, k, h => by
    have hv := need_ok (hF.at_ i) h
    simp only at hv
    split at hv
    · rename_i cs hg
      obtain ⟨hl, hv⟩ := ifD_ok hv
      obtain ⟨vs, h1, h2⟩ := getLive_ok hF hv
      refine ⟨_, h1, fun F0 h0 => ?_⟩
      simp only [setLive]
      rw [List.drop_left' hl, List.take_left' hl]
      exact h2 _ (h0.refine i hg)
    · exact hv.elim

def unLive (l : List (Nat × DT)) (F : SF) (k : Dens (tysOf l) → Prop) : Prop := getLive F l fun vs => unVs (tysOf l) vs k

/-- What is known, without these slots. -/
def clearT : List Nat → SF → SF
  | [], F => F
  | i :: l, F => clearT l (F.set i .none)

theorem clearT_le {F F' : SF} {fr : List V} {M : List Nat} (hF : Le F' fr) (hs : F'.length = F.length ∧ ∀ i, i ∉ M → cellAt F' i = cellAt F i) : Le (clearT M F) fr := by
  have key : ∀ (M : List Nat) (F : SF), F'.length = F.length → (∀ i, i ∉ M → cellAt F' i = cellAt F i ∨ cellAt F i = .none) → Le (clearT M F) fr := by
    intro M
    induction M with
    | nil =>
      intro F hl h
      refine ⟨by simp only [clearT]; rw [← hl]; exact hF.len, fun i => ?_⟩
      simp only [clearT]
      rcases h i (by simp) with h | h
      · rw [← h]; exact hF.at_ i
      · rw [h]; trivial
    | cons j M ih =>
      intro F hl h
      simp only [clearT]
      refine ih _ (by simpa using hl) fun i hi => ?_
      rw [cellAt_set]
      by_cases e : j = i
      · subst e
        by_cases hjl : j < F.length
        · rw [if_pos ⟨rfl, hjl⟩]; exact .inr rfl
        · right
          rw [if_neg (fun h' => hjl h'.2)]
          have : ∀ (F : SF) (j : Nat), ¬ j < F.length → cellAt F j = .none := by
            intro F
            induction F with
            | nil => intro j _; rfl
            | cons c F ih => intro j hj; cases j with
              | zero => simp at hj
              | succ j => exact ih j (by simpa using hj)
          exact this F j hjl
      · rw [if_neg (fun h' => e h'.1)]
        exact h i (by simp only [List.mem_cons, not_or]; exact ⟨fun h' => e h'.symm, hi⟩)
  exact key M F hs.1 fun i hi => .inl (hs.2 i hi)

abbrev PostT := AE → SF → St → Prop

def condT (x : AX) (F : SF) (a b : SF → Prop) : Prop :=
  match x with
  | .tmp i => match cellAt F i with
    | .tt => a F
    | .ff => b F
    | .val (.bool c) => ifC c (a (F.set i .tt)) (b (F.set i .ff))
    | _ => False
  | .con (.bool c) => match c with
    | true => a F
    | false => b F
  | _ => False

def afterT (k : SF → St → Prop) (Q : PostT) : PostT := fun e F S =>
  match e with
  | .normal => k F S
  | e => Q e F S

def blockT (id : Nat) (Q : PostT) : PostT := fun e F S =>
  match e with
  | .exit j => match Nat.decEq j id with
    | .isTrue _ => Q .normal F S
    | .isFalse _ => Q (.exit j) F S
  | e => Q e F S

def wpT (P : Program) (ok : Env) : TC → PostT → SF → St → Prop
  | .skip, Q, F, S => Q .normal F S
  | .region l, Q, F, S => runT P ok l F S (Q .normal)
  | .draw l, Q, F, S => drawT P ok l [] F S (Q .normal)
  | .seq a b, Q, F, S => wpT P ok a (afterT (fun F S => wpT P ok b Q F S) Q) F S
  | .join live a b, Q, F, S => joinN (tysOf live) (fun k => wpT P ok a (afterT (fun F' S' => unLive live F' fun x => k x S') Q) F S) (fun x S' => wpT P ok b Q (setLive live (toVs (tysOf live) x) (clearT a.mods F)) S')
  | .cond x a b, Q, F, S => condT x F (fun F => wpT P ok a Q F S) (fun F => wpT P ok b Q F S)
  | .block id a, Q, F, S => wpT P ok a (blockT id Q) F S
  | .loop live a, Q, F, S => unLive live F fun x0 => loopN (tysOf live) (fun cont x S' => wpT P ok a (afterT (fun F' S'' => unLive live F' fun x' => cont x' S'') Q) (setLive live (toVs (tysOf live) x) (clearT a.mods F)) S') x0 S
  | .exit id, Q, F, S => Q (.exit id) F S
  | .ret, Q, F, S => Q .ret F S

/-- What the frame's post says of what is known. -/
def Down (M : List Nat) (F : SF) (Q : PostT) : PostC := fun e fr' S' => ∃ F', Le F' fr' ∧ Stay M F F' ∧ Q e F' S'

theorem unLive_ok {l : List (Nat × DT)} {F : SF} {fr : List V} (hF : Le F fr) {k : Dens (tysOf l) → Prop} (h : unLive l F k) : ∃ x, k x ∧ ∀ F0, Le F0 fr → Le (setLive l (toVs (tysOf l) x) F0) fr := by
  obtain ⟨vs, h1, h2⟩ := getLive_ok hF h
  obtain ⟨x, rfl, h3⟩ := unVs_ok h1
  exact ⟨x, h3, h2⟩

theorem setLive_stay : ∀ (l : List (Nat × DT)) (vs : List V) (F : SF), (setLive l vs F).length = F.length
  | [], _, F => rfl
  | (i, .one _) :: l, vs, F => by
    cases vs with
    | nil => rfl
    | cons v vs => simp only [setLive]; rw [setLive_stay]; simp
  | (i, .agg ts) :: l, vs, F => by simp only [setLive]; rw [setLive_stay]; simp

theorem clearT_len : ∀ (M : List Nat) (F : SF), (clearT M F).length = F.length
  | [], _ => rfl
  | i :: M, F => by simp only [clearT]; rw [clearT_len]; simp

def slotsL : List (Nat × DT) → List Nat
  | [] => []
  | p :: l => p.1 :: slotsL l

theorem setLive_at : ∀ (l : List (Nat × DT)) (vs : List V) (F : SF) (i : Nat), i ∉ slotsL l → cellAt (setLive l vs F) i = cellAt F i
  | [], _, F, i, _ => rfl
  | (j, .one _) :: l, vs, F, i, h => by
    simp only [slotsL, List.mem_cons, not_or] at h
    cases vs with
    | nil => rfl
    | cons v vs =>
      simp only [setLive]
      rw [setLive_at l vs _ i h.2, cellAt_set, if_neg (fun e => h.1 e.1.symm)]
  | (j, .agg ts) :: l, vs, F, i, h => by
    simp only [slotsL, List.mem_cons, not_or] at h
    simp only [setLive]
    rw [setLive_at l _ _ i h.2, cellAt_set, if_neg (fun e => h.1 e.1.symm)]

theorem clearT_at : ∀ (M : List Nat) (F : SF) (i : Nat), i ∉ M → cellAt (clearT M F) i = cellAt F i
  | [], F, i, _ => rfl
  | j :: M, F, i, h => by
    simp only [List.mem_cons, not_or] at h
    simp only [clearT]
    rw [clearT_at M _ i h.2, cellAt_set, if_neg (fun e => h.1 e.1.symm)]

/-- The slots that live on are among those that may be written. -/
def liveIn (l : List (Nat × DT)) (M : List Nat) : Bool := (slotsL l).all fun i => M.contains i
def TC.okL : TC → Bool
  | .seq a b => a.okL && b.okL
  | .join l a b => liveIn l a.mods && (a.okL && b.okL)
  | .cond _ a b => a.okL && b.okL
  | .block _ a => a.okL
  | .loop l a => liveIn l a.mods && a.okL
  | _ => true

theorem headStay {l : List (Nat × DT)} {M : List Nat} (hl : liveIn l M = true) (vs : List V) (F : SF) : Stay M F (setLive l vs (clearT M F)) := by
  refine ⟨by rw [setLive_stay, clearT_len], fun i hi => ?_⟩
  have hn : i ∉ slotsL l := fun hm => by
    simp only [liveIn, List.all_eq_true] at hl
    have := hl i hm
    simp only [List.contains_iff_mem] at this
    exact hi this
  rw [setLive_at l vs _ i hn, clearT_at M F i hi]

theorem wpT_ok {P : Program} {ok : Env} (hok : EnvOk P ok) : ∀ (tc : TC), tc.okL = true → ∀ (Q : PostT) (F : SF) (fr : List V) (S : St), Le F fr → wpT P ok tc Q F S →
    wpA ok (CallA P) (LoopA P) tc.erase (Down tc.mods F Q) fr S := by
  have mono : ∀ (ac : AC) (Q Q' : PostC), (∀ e fr S, Q e fr S → Q' e fr S) → ∀ (fr : List V) (S : St), wpA ok (CallA P) (LoopA P) ac Q fr S → wpA ok (CallA P) (LoopA P) ac Q' fr S :=
    wpA_mono (fun f args S Q Q' hq h => h.mono hq) (fun ac Q Q' fr S hq h => h.mono hq)
  intro tc
  induction tc with
  | skip => intro _ Q F fr S hF h; exact ⟨F, hF, Stay.refl _ _, h⟩
  | region l =>
    intro _ Q F fr S hF h
    simp only [TC.erase, wpA, erI_eq]
    exact runT_ok l hF h fun F' fr' S' h1 h2 h3 => ⟨F', h1, h2, h3⟩
  | draw l =>
    intro _ Q F fr S hF h
    simp only [TC.erase, wpA]
    exact drawT_ok l hF h fun F' fr' S' h1 h2 h3 => ⟨F', h1, h2, h3⟩
  | seq a b iha ihb =>
    intro hk Q F fr S hF h
    simp only [TC.okL, Bool.and_eq_true] at hk
    simp only [TC.erase, wpA]
    refine mono _ _ _ ?_ _ _ (iha hk.1 _ F fr S hF h)
    rintro e fr' S' ⟨F', h1, h2, h3⟩
    have s1 : Stay (TC.seq a b).mods F F' := h2.mono fun i hi => by simp only [TC.mods]; exact List.mem_append_left _ hi
    cases e with
    | normal =>
      refine mono _ _ _ ?_ _ _ (ihb hk.2 _ F' fr' S' h1 h3)
      rintro e fr2 S2 ⟨F2, g1, g2, g3⟩
      exact ⟨F2, g1, s1.trans (g2.mono fun i hi => by simp only [TC.mods]; exact List.mem_append_right _ hi), g3⟩
    | exit j => exact ⟨F', h1, s1, h3⟩
    | ret => exact ⟨F', h1, s1, h3⟩
    | panic v => exact ⟨F', h1, s1, h3⟩
  | join l a b iha ihb =>
    intro hk Q F fr S hF h
    simp only [TC.okL, Bool.and_eq_true] at hk
    simp only [TC.erase, wpA]
    obtain ⟨M, hM, hr⟩ := joinN_ok _ _ _ h
    refine mono _ _ _ ?_ _ _ (iha hk.2.1 _ F fr S hF hM)
    rintro e fr' S' ⟨F', h1, h2, h3⟩
    have s1 : Stay (TC.join l a b).mods F F' := h2.mono fun i hi => by simp only [TC.mods]; exact List.mem_append_left _ hi
    cases e with
    | normal =>
      obtain ⟨x, hx, hl⟩ := unLive_ok h1 h3
      have hF2 := hl _ (clearT_le h1 h2)
      have s2 : Stay (TC.join l a b).mods F (setLive l (toVs (tysOf l) x) (clearT a.mods F)) := (headStay hk.1 _ F).mono fun i hi => by simp only [TC.mods]; exact List.mem_append_left _ hi
      refine mono _ _ _ ?_ _ _ (ihb hk.2.2 _ _ fr' S' hF2 (hr x S' hx))
      rintro e fr2 S2 ⟨F2, g1, g2, g3⟩
      exact ⟨F2, g1, s2.trans (g2.mono fun i hi => by simp only [TC.mods]; exact List.mem_append_right _ hi), g3⟩
    | exit j => exact ⟨F', h1, s1, h3⟩
    | ret => exact ⟨F', h1, s1, h3⟩
    | panic v => exact ⟨F', h1, s1, h3⟩
  | cond x a b iha ihb =>
    intro hk Q F fr S hF h
    simp only [TC.okL, Bool.and_eq_true] at hk
    have ma : ∀ i ∈ a.mods, i ∈ (TC.cond x a b).mods := fun i hi => by simp only [TC.mods]; exact List.mem_append_right _ (List.mem_append_left _ hi)
    have mb : ∀ i ∈ b.mods, i ∈ (TC.cond x a b).mods := fun i hi => by simp only [TC.mods]; exact List.mem_append_right _ (List.mem_append_right _ hi)
    have up : ∀ {M : List Nat} {F1 : SF} (hs : Stay (TC.cond x a b).mods F F1) (hm : ∀ i ∈ M, i ∈ (TC.cond x a b).mods) e fr' S', Down M F1 Q e fr' S' → Down (TC.cond x a b).mods F Q e fr' S' := by
      rintro M F1 hs hm e fr' S' ⟨F2, g1, g2, g3⟩
      exact ⟨F2, g1, hs.trans (g2.mono hm), g3⟩
    have goA : ∀ F1, Le F1 fr → Stay (TC.cond x a b).mods F F1 → x.ev fr = .bool true → wpT P ok a Q F1 S → wpA ok (CallA P) (LoopA P) (TC.cond x a b).erase (Down (TC.cond x a b).mods F Q) fr S := by
      intro F1 hF1 hs hx hw
      simp only [TC.erase, wpA, hx, if_true]
      exact mono _ _ _ (up hs ma) _ _ (iha hk.1 _ _ fr S hF1 hw)
    have goB : ∀ F1, Le F1 fr → Stay (TC.cond x a b).mods F F1 → x.ev fr = .bool false → wpT P ok b Q F1 S → wpA ok (CallA P) (LoopA P) (TC.cond x a b).erase (Down (TC.cond x a b).mods F Q) fr S := by
      intro F1 hF1 hs hx hw
      simp only [TC.erase, wpA, hx, Bool.false_eq_true, if_false]
      exact mono _ _ _ (up hs mb) _ _ (ihb hk.2 _ _ fr S hF1 hw)
    simp only [wpT, condT] at h
    split at h
    · rename_i i
      have hi := hF.at_ i
      have mi : i ∈ (TC.cond (.tmp i) a b).mods := by simp [TC.mods, xslots]
      split at h
      · rename_i hc; rw [hc] at hi
        exact goA F hF (Stay.refl _ _) hi h
      · rename_i hc; rw [hc] at hi
        exact goB F hF (Stay.refl _ _) hi h
      · rename_i c hc; rw [hc] at hi; simp only [Cell.Le] at hi
        have hb := ifC_ok h
        cases c with
        | true => exact goA _ (hF.refine i (c := .tt) hi) (Stay.set F _ mi) hi hb
        | false => exact goB _ (hF.refine i (c := .ff) hi) (Stay.set F _ mi) hi hb
      · exact h.elim
    · rename_i c
      cases c with
      | true => exact goA F hF (Stay.refl _ _) rfl h
      | false => exact goB F hF (Stay.refl _ _) rfl h
    · exact h.elim
  | block id a iha =>
    intro hk Q F fr S hF h
    simp only [TC.okL] at hk
    simp only [TC.erase, wpA]
    refine mono _ _ _ ?_ _ _ (iha hk _ F fr S hF h)
    rintro e fr' S' ⟨F', h1, h2, h3⟩
    cases e with
    | normal => exact ⟨F', h1, h2, h3⟩
    | exit j =>
      simp only [blockT] at h3
      simp only
      split at h3
      · rename_i hj _; rw [if_pos hj]; exact ⟨F', h1, h2, h3⟩
      · rename_i hj _; rw [if_neg hj]; exact ⟨F', h1, h2, h3⟩
    | ret => exact ⟨F', h1, h2, h3⟩
    | panic v => exact ⟨F', h1, h2, h3⟩
  | loop l a iha =>
    intro hk Q F fr S hF h
    simp only [TC.okL, Bool.and_eq_true] at hk
    simp only [TC.erase, wpA]
    obtain ⟨x0, h0, hl0⟩ := unLive_ok hF h
    obtain ⟨J, ⟨n, hn⟩, hJ⟩ := loopN_ok _ _ _ _ h0
    have hs0 : Le (setLive l (toVs (tysOf l) x0) (clearT a.mods F)) fr := hl0 _ (clearT_le hF ⟨rfl, fun _ _ => rfl⟩)
    refine LoopA.ind hok (fun n fr' S' => ∃ x, J n x S' ∧ Le (setLive l (toVs (tysOf l) x) (clearT a.mods F)) fr') ?_ n fr S ⟨x0, hn, hs0⟩
    rintro n fr' S' ⟨x, hx, hF'⟩
    have hbody := hJ n x S' hx
    refine mono _ _ _ ?_ _ _ (iha hk.2 _ _ fr' S' hF' hbody)
    rintro e fr2 S2 ⟨F2, h1, h2, h3⟩
    have hst : Stay a.mods F F2 := (headStay hk.1 _ F).trans h2
    cases e with
    | normal =>
      obtain ⟨x', ⟨k, hkn, hx'⟩, hl'⟩ := unLive_ok h1 h3
      exact ⟨k, hkn, x', hx', hl' _ (clearT_le h1 hst)⟩
    | exit j => exact ⟨F2, h1, hst, h3⟩
    | ret => exact ⟨F2, h1, hst, h3⟩
    | panic v => exact ⟨F2, h1, hst, h3⟩
  | exit id => intro _ Q F fr S hF h; exact ⟨F, hF, Stay.refl _ _, h⟩
  | ret => intro _ Q F fr S hF h; exact ⟨F, hF, Stay.refl _ _, h⟩

/-! ## functions -/
def unC : (ts : List Ty) → List V → Cur ts → St → Prop
  | [], vs, K, S => match vs with
    | [] => K S
    | _ :: _ => False
  | t :: ts, vs, K, S => match vs with
    | [] => False
    | v :: vs => unTy t v fun x => unC ts vs (K x) S

theorem unC_ok : ∀ {ts : List Ty} {vs : List V} {K : Cur ts} {S : St} {mk : List V → V}, unC ts vs K S → Ret ts mk K (.ret (mk vs)) S
  | [], vs, K, S, mk, h => by
    cases vs with
    | nil => exact ⟨rfl, h⟩
    | cons v vs => exact h.elim
  | t :: ts, vs, K, S, mk, h => by
    cases vs with
    | nil => exact h.elim
    | cons v vs =>
      have h' : unTy t v (fun x => unC ts vs (K x) S) := h
      obtain ⟨x, rfl, h2⟩ := unTy_ok h'
      exact ⟨x, unC_ok (mk := fun vs => mk (t.toV x :: vs)) h2⟩

/-- The results' cells. -/
def resT (F : SF) (S : St) : List ARes → List DT → (List V → Prop) → Prop
  | [], [], k => k []
  | .tmp t :: rs, .one _ :: ds, k => need (cellAt F t) fun v => resT F S rs ds fun vs => k (v :: vs)
  | .tmp t :: rs, .agg ts :: ds, k => need (cellAt F t) fun v => match v with
    | .agg cs => ifD (Nat.decEq cs.length ts.length) (resT F S rs ds fun vs => k (cs ++ vs))
    | _ => False
  | .cell1 t :: rs, .one ty :: ds, k => need (cellAt F t) fun p => exTy ty fun v => cell1V S p = some v ∧ resT F S rs ds fun vs => k (v :: vs)
  | .cellN t n :: rs, .agg ts :: ds, k => need (cellAt F t) fun p => exTys ts fun cs => cellNV S n p = some (.agg cs) ∧ ifD (Nat.decEq cs.length ts.length) (resT F S rs ds fun vs => k (cs ++ vs))
  | _, _, _ => False

theorem resT_ok {F : SF} {fr : List V} {S : St} (hF : Le F fr) : ∀ {rs : List ARes} {ds : List DT} {k : List V → Prop}, resT F S rs ds k → ∃ us vs, ARes.gets fr S rs = some us ∧ us = group ds vs ∧ k vs
  | [], [], k, h => ⟨[], [], rfl, rfl, h⟩
  | .tmp t :: rs, .one ty :: ds, k, h => by
    have h1 := need_ok (hF.at_ t) h
    obtain ⟨us, vs, h2, h3, h4⟩ := resT_ok hF h1
    exact ⟨_, _, by rw [gets_tmp, h2]; rfl, by simp only [group, ← h3], h4⟩
  | .tmp t :: rs, .agg ts :: ds, k, h => by
    have h1 := need_ok (hF.at_ t) h
    split at h1
    · rename_i cs hg
      obtain ⟨hl, h1⟩ := ifD_ok h1
      obtain ⟨us, vs, h2, h3, h4⟩ := resT_ok hF h1
      refine ⟨_, _, by rw [gets_tmp, h2]; rfl, ?_, h4⟩
      simp only [group]
      rw [List.take_left' hl, List.drop_left' hl, ← h3, hg]
    · exact h1.elim
  | .cell1 t :: rs, .one ty :: ds, k, h => by
    obtain ⟨v, h1, h5⟩ := exTy_ok (need_ok (hF.at_ t) h)
    obtain ⟨us, vs, h2, h3, h4⟩ := resT_ok hF h5
    exact ⟨_, _, by rw [gets_cell1, h1, h2]; rfl, by simp only [group, ← h3], h4⟩
  | .cellN t n :: rs, .agg ts :: ds, k, h => by
    obtain ⟨cs, h1, h5⟩ := exTys_ok (need_ok (hF.at_ t) h)
    obtain ⟨hl, h5⟩ := ifD_ok h5
    obtain ⟨us, vs, h2, h3, h4⟩ := resT_ok hF h5
    refine ⟨_, _, by rw [gets_cellN, h1, h2]; rfl, ?_, h4⟩
    simp only [group]
    rw [List.take_left' hl, List.drop_left' hl, ← h3]
  | [], _ :: _, k, h => h.elim
  | .tmp _ :: _, [], k, h => h.elim
  | .cell1 _ :: _, [], k, h => h.elim
  | .cellN _ _ :: _, [], k, h => h.elim
  | .cell1 _ :: _, .agg _ :: _, k, h => h.elim
  | .cellN _ _ :: _, .one _ :: _, k, h => h.elim

def endT (rs : List ARes) (ds : List DT) (K : Cur (flats ds)) : PostT := fun e F S =>
  match e with
  | .normal => resT F S rs ds fun vs => unC (flats ds) vs K S
  | .ret => resT F S rs ds fun vs => unC (flats ds) vs K S
  | _ => False

def startT : List V → List Cell
  | [] => []
  | v :: vs => .val v :: startT vs

theorem startT_le {args : List V} {n : Nat} : Le (startT args ++ List.replicate n .none) (args ++ List.replicate n .undef) := by
  induction args with
  | nil =>
    refine ⟨by simp [startT], fun i => ?_⟩
    have : ∀ (n i : Nat), cellAt (List.replicate n Cell.none) i = .none := by
      intro n
      induction n with
      | zero => intro i; rfl
      | succ n ih => intro i; cases i with
        | zero => rfl
        | succ i => exact ih i
    simp only [startT, List.nil_append, this]
    trivial
  | cons v vs ih =>
    refine ⟨by simpa [startT] using ih.len, fun i => ?_⟩
    cases i with
    | zero => rfl
    | succ i => exact ih.at_ i

/-- A function, read without frames. -/
theorem CallA.of_T {P : Program} {ok : Env} (hok : EnvOk P ok) {f : FuncId} {A : AF} (hA : afun P f = some A) {tc : TC} (ht : tc.erase = A.body) (hl : tc.okL = true) {args : List V} {S : St}
    {ds : List DT} {K : Cur (flats ds)} (h : wpT P ok tc (endT A.results ds K) (startT args ++ List.replicate (A.nt - args.length) .none) S) : CallA P f args S (retT ds K) := by
  refine CallA.of_body hok hA ?_
  rw [← ht]
  refine wpA_mono (fun f args S Q Q' hq h => h.mono hq) (fun ac Q Q' fr S hq h => h.mono hq) _ _ _ ?_ _ _ (wpT_ok hok tc hl _ _ _ S startT_le h)
  rintro e fr' S' ⟨F', h1, h2, h3⟩
  cases e with
  | normal =>
    obtain ⟨us, vs, g1, g2, g3⟩ := resT_ok h1 h3
    rw [endQ_normal, g1, g2]
    exact unC_ok (mk := fun vs => tupled (group ds vs)) g3
  | ret =>
    obtain ⟨us, vs, g1, g2, g3⟩ := resT_ok h1 h3
    rw [endQ_ret, g1, g2]
    exact unC_ok (mk := fun vs => tupled (group ds vs)) g3
  | exit j => exact h3.elim
  | panic v => exact h3.elim

theorem CallA.of_TP {P : Program} {f : FuncId} {A : AF} (hA : afun P f = some A) {tc : TC} (ht : tc.erase = A.body) (hl : tc.okL = true) {args : List V} {S : St}
    {ds : List DT} {K : Cur (flats ds)} (h : wpT P (envP P) tc (endT A.results ds K) (startT args ++ List.replicate (A.nt - args.length) .none) S) : CallA P f args S (retT ds K) :=
  CallA.of_T (envP_ok P) hA ht hl h

end Go.Th
end

section
/- Types and live slots laid over a function's abstract code, out of a short list; what a printed reading of a function says of the program. -/
set_option linter.unusedVariables false
namespace Go.Th
open Go

abbrev ItL := List (Nat × Ann × List DT)
abbrev JtL := List (Nat × List (Nat × DT))
abbrev LtL := List (List (Nat × DT))

def annI : List AI → ItL → List TI × ItL
  | [], s => ([], s)
  | i :: r, s =>
    match s with
    | [] => let q := annI r []; (⟨i, .no, []⟩ :: q.1, q.2)
    | (0, a, ds) :: s => let q := annI r s; (⟨i, a, ds⟩ :: q.1, q.2)
    | (n + 1, a, ds) :: s => let q := annI r ((n, a, ds) :: s); (⟨i, .no, []⟩ :: q.1, q.2)
def annO : OT → ItL → TT × ItL
  | .done, s => (.done, s)
  | .step n ds i r, s =>
    match s with
    | [] => let q := annO r []; (.step n ds ⟨i, .no, []⟩ q.1, q.2)
    | (0, a, d) :: s => let q := annO r s; (.step n ds ⟨i, a, d⟩ q.1, q.2)
    | (k + 1, a, d) :: s => let q := annO r ((k, a, d) :: s); (.step n ds ⟨i, .no, []⟩ q.1, q.2)
  | .both a b, s => let q := annO a s; let w := annO b q.2; (.both q.1 w.1, w.2)
def annC : AC → ItL → JtL → LtL → TC × ItL × JtL × LtL
  | .skip, s, j, l => (.skip, s, j, l)
  | .region r, s, j, l => let q := annI r s; (.region q.1, q.2, j, l)
  | .draw t, s, j, l => let q := annO t s; (.draw q.1, q.2, j, l)
  | .seq a b, s, j, l =>
    match j with
    | [] => let q := annC a s [] l; let w := annC b q.2.1 q.2.2.1 q.2.2.2; (.seq q.1 w.1, w.2)
    | (0, lv) :: j => let q := annC a s j l; let w := annC b q.2.1 q.2.2.1 q.2.2.2; (.join lv q.1 w.1, w.2)
    | (n + 1, lv) :: j => let q := annC a s ((n, lv) :: j) l; let w := annC b q.2.1 q.2.2.1 q.2.2.2; (.seq q.1 w.1, w.2)
  | .cond x a b, s, j, l => let q := annC a s j l; let w := annC b q.2.1 q.2.2.1 q.2.2.2; (.cond x q.1 w.1, w.2)
  | .block i a, s, j, l => let q := annC a s j l; (.block i q.1, q.2)
  | .loop a, s, j, l => let q := annC a s j l.tail; (.loop (l.headD []) q.1, q.2)
  | .exit i, s, j, l => (.exit i, s, j, l)
  | .ret, s, j, l => (.ret, s, j, l)

theorem annI_er : ∀ (l : List AI) (s : ItL), erI (annI l s).1 = l
  | [], _ => rfl
  | i :: r, s => by
    unfold annI
    split <;> simp only [erI, annI_er r]
theorem annO_er : ∀ (t : OT) (s : ItL), (annO t s).1.erase = t
  | .done, _ => rfl
  | .step n ds i r, s => by
    unfold annO
    split <;> simp only [TT.erase, annO_er r]
  | .both a b, s => by simp only [annO, TT.erase, annO_er a, annO_er b]
theorem annC_er : ∀ (c : AC) (s : ItL) (j : JtL) (l : LtL), (annC c s j l).1.erase = c
  | .skip, _, _, _ | .exit _, _, _, _ | .ret, _, _, _ => rfl
  | .region r, s, _, _ => by simp only [annC, TC.erase, annI_er]
  | .draw t, s, _, _ => by simp only [annC, TC.erase, annO_er]
  | .seq a b, s, j, l => by
    unfold annC
    split <;> simp only [TC.erase, annC_er a, annC_er b]
  | .cond x a b, s, j, l => by simp only [annC, TC.erase, annC_er a, annC_er b]
  | .block i a, s, j, l => by simp only [annC, TC.erase, annC_er a]
  | .loop a, s, j, l => by simp only [annC, TC.erase, annC_er a]

def tcOf (A : AF) (s : ItL) (j : JtL) (l : LtL) : TC := (annC A.body s j l).1
def afn (P : Program) (f : FuncId) : AF := (afun P f).getD ⟨0, [], .skip⟩
/-- Where a call begins. -/
def frT (A : AF) (args : List V) : SF := startT args ++ List.replicate (A.nt - args.length) .none

theorem afn_ok {P : Program} {f : FuncId} (h : (afun P f).isSome = true) : afun P f = some (afn P f) := by
  unfold afn
  cases ha : afun P f with
  | none => rw [ha] at h; cases h
  | some A => rfl

/-- The function is there, its slots are in order, and it reads so. -/
def Reads (P : Program) (f : FuncId) (s : ItL) (j : JtL) (l : LtL) {α : Type} (W : AF → TC → α) (p : α) : Prop :=
  ((afun P f).isSome, (tcOf (afn P f) s j l).okL, W (afn P f) (tcOf (afn P f) s j l)) = (true, true, p)

theorem Reads.of {P : Program} {f : FuncId} {s : ItL} {j : JtL} {l : LtL} {α : Type} {W : AF → TC → α} {p : α} (h : ((afun P f).isSome, (tcOf (afn P f) s j l).okL, W (afn P f) (tcOf (afn P f) s j l)) = (true, true, p)) : Reads P f s j l W p := h

theorem Reads.run {P : Program} {f : FuncId} {s : ItL} {j : JtL} {l : LtL} {α : Type} {W : AF → TC → α} {p : α} (h : Reads P f s j l W p) {args : List V} {S : St} {ds : List DT} {K : Cur (flats ds)} (ap : α → Prop)
    (hp : ap p) (he : ap (W (afn P f) (tcOf (afn P f) s j l)) = wpT P (envP P) (tcOf (afn P f) s j l) (endT (afn P f).results ds K) (frT (afn P f) args) S) : CallA P f args S (retT ds K) := by
  unfold Reads at h
  rw [Prod.mk.injEq, Prod.mk.injEq] at h
  refine CallA.of_TP (afn_ok h.1) (annC_er _ _ _ _) h.2.1 ?_
  rw [← h.2.2] at hp
  exact Eq.mp he hp

end Go.Th
end

section
/- Keys of the functions' names (printed by tools/lib.py). -/
namespace Go.Th.L
abbrev Fn.law16_CodecRecords : Nat := 1
abbrev Fn.codec_Encode : Nat := 2
abbrev Fn.ref16_Encode : Nat := 3
abbrev Fn.keep_LendBytes : Nat := 4
abbrev Fn.codec_Decode : Nat := 5
abbrev Fn.codec_Sum : Nat := 6
abbrev Fn.keep_BackBytes : Nat := 7
abbrev Fn.ref16_Decode : Nat := 8
abbrev Fn.law16_awake : Nat := 9
abbrev Fn.keep_Bytes : Nat := 10
abbrev Fn.ref16_Sum : Nat := 11
abbrev Fn.law16_CodecTexts : Nat := 12
abbrev Fn.law16_big : Nat := 13
abbrev Fn.keep_Lend : Nat := 14
abbrev Fn.codec_PutChange : Nat := 15
abbrev Fn.keep_Back : Nat := 16
abbrev Fn.ref16_PutChange : Nat := 17
abbrev Fn.keep_LendRows : Nat := 18
abbrev Fn.codec_PutRows : Nat := 19
abbrev Fn.keep_BackRows : Nat := 20
abbrev Fn.ref16_PutRows : Nat := 21
abbrev Fn.law16_CodecSpoilt : Nat := 22
abbrev Fn.law16_CodecReads : Nat := 23
abbrev Fn.codec_GetChange : Nat := 24
abbrev Fn.ref16_GetChange : Nat := 25
abbrev Fn.codec_GetRows : Nat := 26
abbrev Fn.ref16_GetRows : Nat := 27
abbrev Fn.keep_Ints : Nat := 28
abbrev Fn.keep_Rows : Nat := 29
abbrev Fn.law16_CodecRound : Nat := 30
abbrev Fn.codec_lay : Nat := 31
abbrev Fn.codec_check : Nat := 32
abbrev Fn.ref16_number : Nat := 33
abbrev Fn.codec_reading_number : Nat := 34
abbrev Fn.codec_reading_cut : Nat := 35
abbrev Fn.ref16_get : Nat := 36
abbrev Fn.keep_Vectors : Nat := 37
abbrev Fn.codec_may : Nat := 38
abbrev Fn.ref03_Id : Nat := 39
abbrev Fn.ref03_Check : Nat := 40
abbrev Fn.ref16_coord : Nat := 41
abbrev Fn.flat_Check : Nat := 42
abbrev Fn.codec_rising : Nat := 43
abbrev Fn.ref05_Check : Nat := 44
abbrev Fn.codec_reading_coords : Nat := 45
abbrev Fn.ref16_coords : Nat := 46
abbrev Fn.vec_Check : Nat := 47
abbrev Fn.ref03_Rows : Nat := 48
abbrev Fn.codec_reading_coords_1 : Nat := 49
abbrev Fn.vec_dim : Nat := 50
abbrev Fn.law02_TopkLess : Nat := 51
abbrev Fn.topk_Less : Nat := 52
abbrev Fn.ref02_Less : Nat := 53
abbrev Fn.law02_awake : Nat := 54
abbrev Fn.law02_TopkMerges : Nat := 55
abbrev Fn.law02_total : Nat := 56
abbrev Fn.law02_hit : Nat := 57
abbrev Fn.topk_Merge : Nat := 58
abbrev Fn.ref02_Same : Nat := 59
abbrev Fn.law02_spoil : Nat := 60
abbrev Fn.ref02_First : Nat := 61
abbrev Fn.law02_TopkOrder : Nat := 62
abbrev Fn.topk_New : Nat := 63
abbrev Fn.topk_Heap_Offer : Nat := 64
abbrev Fn.topk_Heap_List : Nat := 65
abbrev Fn.law02_TopkOffers : Nat := 66
abbrev Fn.ref02_With : Nat := 67
abbrev Fn.topk_Heap_Worst : Nat := 68
abbrev Fn.topk_Heap_Len : Nat := 69
abbrev Fn.topk_Heap_Full : Nat := 70
abbrev Fn.law02_TopkNil : Nat := 71
abbrev Fn.topk_compare : Nat := 72
abbrev Fn.topk_together_api_Hit : Nat := 73
abbrev Fn.ref02_Sorted : Nat := 74
abbrev Fn.container_heap_Push : Nat := 75
abbrev Fn.container_heap_Fix : Nat := 76
abbrev Fn.ty_ptopk_hits : Nat := 77
abbrev Fn.ty_api_Hit : Nat := 78
abbrev Fn.slices_Clone_Lapi_Hit : Nat := 79
abbrev Fn.slices_SortFunc_Lapi_Hit : Nat := 80
abbrev Fn.wide_Cmp : Nat := 81
abbrev Fn.cmp_Compare_int : Nat := 82
abbrev Fn.cmp_Or_int : Nat := 83
abbrev Fn.container_heap_up : Nat := 84
abbrev Fn.container_heap_down : Nat := 85
abbrev Fn.math_bits_Len : Nat := 86
abbrev Fn.slices_pdqsortCmpFunc_api_Hit : Nat := 87
abbrev Fn.cmp_isNaN_int : Nat := 88
abbrev Fn.slices_insertionSortCmpFunc_api_Hit : Nat := 89
abbrev Fn.slices_heapSortCmpFunc_api_Hit : Nat := 90
abbrev Fn.slices_breakPatternsCmpFunc_api_Hit : Nat := 91
abbrev Fn.slices_choosePivotCmpFunc_api_Hit : Nat := 92
abbrev Fn.slices_reverseRangeCmpFunc_api_Hit : Nat := 93
abbrev Fn.slices_partialInsertionSortCmpFunc_api_Hit : Nat := 94
abbrev Fn.slices_partitionEqualCmpFunc_api_Hit : Nat := 95
abbrev Fn.slices_partitionCmpFunc_api_Hit : Nat := 96
abbrev Fn.math_bits_Len32 : Nat := 97
abbrev Fn.math_bits_Len64 : Nat := 98
abbrev Fn.slices_siftDownCmpFunc_api_Hit : Nat := 99
abbrev Fn.slices_nextPowerOfTwo : Nat := 100
abbrev Fn.slices_xorshift_Next : Nat := 101
abbrev Fn.slices_medianAdjacentCmpFunc_api_Hit : Nat := 102
abbrev Fn.slices_medianCmpFunc_api_Hit : Nat := 103
abbrev Fn.slices_order2CmpFunc_api_Hit : Nat := 104
abbrev Fn.topk_hits_Len : Nat := 105
abbrev Fn.topk_hits_Less : Nat := 106
abbrev Fn.topk_hits_Swap : Nat := 107
abbrev Fn.topk_hits_Push : Nat := 108
abbrev Fn.law03_VecDists : Nat := 109
abbrev Fn.vec_Dist : Nat := 110
abbrev Fn.ref03_Dist : Nat := 111
abbrev Fn.law03_awake : Nat := 112
abbrev Fn.law03_VecBounds : Nat := 113
abbrev Fn.law03_big : Nat := 114
abbrev Fn.vec_Inside : Nat := 115
abbrev Fn.vec_Bound : Nat := 116
abbrev Fn.ref01_Less : Nat := 117
abbrev Fn.law03_VecMoves : Nat := 118
abbrev Fn.law03_VecScale : Nat := 119
abbrev Fn.ref01_Add : Nat := 120
abbrev Fn.law03_VecTriangle : Nat := 121
abbrev Fn.ref03_Root : Nat := 122
abbrev Fn.law03_VecShapes : Nat := 123
abbrev Fn.vec_Box : Nat := 124
abbrev Fn.vec_Ball : Nat := 125
abbrev Fn.ref03_Box : Nat := 126
abbrev Fn.ref03_Ball : Nat := 127
abbrev Fn.ref03_Same : Nat := 128
abbrev Fn.law03_VecHolds : Nat := 129
abbrev Fn.vec_far : Nat := 130
abbrev Fn.ref03_Far : Nat := 131
abbrev Fn.law03_box : Nat := 132
abbrev Fn.law03_ball : Nat := 133
abbrev Fn.law03_lo : Nat := 134
abbrev Fn.vec_CheckRegion : Nat := 135
abbrev Fn.vec_both : Nat := 136
abbrev Fn.vec_Inside_1 : Nat := 137
abbrev Fn.vec_plus : Nat := 138
abbrev Fn.wide_Sqrt : Nat := 139
abbrev Fn.wide_Mul : Nat := 140
abbrev Fn.ref03_Inside : Nat := 141
abbrev Fn.ref03_CheckRegion : Nat := 142
abbrev Fn.ref03_In : Nat := 143
abbrev Fn.ref03_Bound : Nat := 144
abbrev Fn.ref03_Near : Nat := 145
abbrev Fn.ref03_form : Nat := 146
abbrev Fn.ref03_ids : Nat := 147
abbrev Fn.ref01_Of : Nat := 148
abbrev Fn.ref01_Cmp : Nat := 149
abbrev Fn.ref01_Mul : Nat := 150
abbrev Fn.vec_ids : Nat := 151
abbrev Fn.slices_Clone_Lint : Nat := 152
abbrev Fn.ref03_Ids : Nat := 153
abbrev Fn.ref03_Ints : Nat := 154
abbrev Fn.ref03_Square : Nat := 155
abbrev Fn.ref03_Sum : Nat := 156
abbrev Fn.wide_Add : Nat := 157
abbrev Fn.math_bits_Mul64 : Nat := 158
abbrev Fn.ref01_Num_Plus : Nat := 159
abbrev Fn.ref01_Num_plus : Nat := 160
abbrev Fn.ref01_Num_Wide : Nat := 161
abbrev Fn.ref01_Num_Times : Nat := 162
abbrev Fn.slices_Sort_Lint : Nat := 163
abbrev Fn.ref03_With : Nat := 164
abbrev Fn.slices_pdqsortOrdered_int : Nat := 165
abbrev Fn.slices_insertionSortOrdered_int : Nat := 166
abbrev Fn.slices_heapSortOrdered_int : Nat := 167
abbrev Fn.slices_breakPatternsOrdered_int : Nat := 168
abbrev Fn.slices_choosePivotOrdered_int : Nat := 169
abbrev Fn.slices_reverseRangeOrdered_int : Nat := 170
abbrev Fn.slices_partialInsertionSortOrdered_int : Nat := 171
abbrev Fn.cmp_Less_int : Nat := 172
abbrev Fn.slices_partitionEqualOrdered_int : Nat := 173
abbrev Fn.slices_partitionOrdered_int : Nat := 174
abbrev Fn.slices_siftDownOrdered_int : Nat := 175
abbrev Fn.slices_medianAdjacentOrdered_int : Nat := 176
abbrev Fn.slices_medianOrdered_int : Nat := 177
abbrev Fn.slices_order2Ordered_int : Nat := 178
abbrev Fn.law03_VecRegions : Nat := 179
abbrev Fn.law12_FactoryParses : Nat := 180
abbrev Fn.factory_Parse : Nat := 181
abbrev Fn.ref12_Parse : Nat := 182
abbrev Fn.law12_awake : Nat := 183
abbrev Fn.law12_FactoryPrints : Nat := 184
abbrev Fn.factory_Print : Nat := 185
abbrev Fn.ref12_Print : Nat := 186
abbrev Fn.factory_Check : Nat := 187
abbrev Fn.ref12_Check : Nat := 188
abbrev Fn.law12_FactoryRound : Nat := 189
abbrev Fn.factory_Parse_1 : Nat := 190
abbrev Fn.factory_Parse_2 : Nat := 191
abbrev Fn.ref12_one : Nat := 192
abbrev Fn.ref12_ivf : Nat := 193
abbrev Fn.strconv_Itoa : Nat := 194
abbrev Fn.ref12_Number : Nat := 195
abbrev Fn.ref12_within : Nat := 196
abbrev Fn.strings_CutPrefix : Nat := 197
abbrev Fn.internal_stringslite_CutPrefix : Nat := 198
abbrev Fn.strconv_Atoi : Nat := 199
abbrev Fn.ref12_front : Nat := 200
abbrev Fn.ref12_digits : Nat := 201
abbrev Fn.internal_stringslite_HasPrefix : Nat := 202
abbrev Fn.internal_strconv_Atoi : Nat := 203
abbrev Fn.strconv_toError : Nat := 204
abbrev Fn.internal_strconv_Itoa : Nat := 205
end Go.Th.L
end

section
/- Functions of cmp, read without frames (printed by tools/lib.py). -/
set_option linter.unusedVariables false
set_option maxRecDepth 100000
set_option maxHeartbeats 2000000
namespace Go.Th.L
open Go Go.Th

def cmp_Or_int.p (P : Program) (N : Nat → Nat) (x0 : V) (S : St) (K : Int → St → Prop) : Prop :=
  ∃ x7 : Int, lenV S 2 x0 = some (V.int .i64 x7) ∧ Loop1 (fun (k1 : Int → St → Prop) (x8 : Int) (S1 : St) => ifC (decide (x8 < x7)) (ifS (idxAddrV 1 x0 (V.int .i64 x8)) fun x10 => ∃ x11 : Int, loadV S1 x10 = some (V.int .i64 x11) ∧ ifC (!decide (x11 = (0 : Int))) (K x11 S1) (setI (IntKind.i64.wrap (x8 + (1 : Int))) fun x16 => k1 x16 S1)) (K 0 S1)) 0 S
abbrev cmp_Or_int.Ok (P : Program) (N : Nat → Nat) : Prop := Reads P (N Fn.cmp_Or_int) [(3, (.dt (.one (.int .i64))), []), (3, (.dt (.one (.int .i64))), [])] [] [[(8, (.one (.int .i64)))]] (fun A T (x0 : V) (S : St) (K : Int → St → Prop) => wpT P (envP P) T (endT A.results [(.one (.int .i64))] K) (frT A [x0]) S) (fun x0 S K => cmp_Or_int.p P N x0 S K)
theorem cmp_Or_int.run {P : Program} {N : Nat → Nat} (hF : cmp_Or_int.Ok P N) {x0 : V} {S : St} {K : Int → St → Prop} (h : cmp_Or_int.p P N x0 S K) : CallA P (N Fn.cmp_Or_int) [x0] S (retT [(.one (.int .i64))] K) := hF.run (fun q => q x0 S K) h rfl

def cmp_Compare_int.p (P : Program) (N : Nat → Nat) (x0 : Int) (x1 : Int) (S : St) (K : Int → St → Prop) : Prop :=
  CallA P (N Fn.cmp_isNaN_int) [(V.int .i64 x0)] S (retT [(.one .bool)] fun (x8 : Bool) (S1 : St) => CallA P (N Fn.cmp_isNaN_int) [(V.int .i64 x1)] S1 (retT [(.one .bool)] fun (x10 : Bool) (S2 : St) => ifC x8 (ifC x10 (K 0 S2) (K (-1) S2)) (ifC x10 (K 1 S2) (ifC (decide (x0 < x1)) (K (-1) S2) (ifC (decide (x1 < x0)) (K 1 S2) (K 0 S2))))))
abbrev cmp_Compare_int.Ok (P : Program) (N : Nat → Nat) : Prop := Reads P (N Fn.cmp_Compare_int) [(2, .no, [(.one .bool)]), (2, .no, [(.one .bool)])] [] [] (fun A T (x0 : Int) (x1 : Int) (S : St) (K : Int → St → Prop) => wpT P (envP P) T (endT A.results [(.one (.int .i64))] K) (frT A [(V.int .i64 x0), (V.int .i64 x1)]) S) (fun x0 x1 S K => cmp_Compare_int.p P N x0 x1 S K)
theorem cmp_Compare_int.run {P : Program} {N : Nat → Nat} (hF : cmp_Compare_int.Ok P N) {x0 : Int} {x1 : Int} {S : St} {K : Int → St → Prop} (h : cmp_Compare_int.p P N x0 x1 S K) : CallA P (N Fn.cmp_Compare_int) [(V.int .i64 x0), (V.int .i64 x1)] S (retT [(.one (.int .i64))] K) := hF.run (fun q => q x0 x1 S K) h rfl

def cmp_isNaN_int.p (P : Program) (N : Nat → Nat) (x0 : Int) (S : St) (K : Bool → St → Prop) : Prop :=
  K (!decide (x0 = x0)) S
abbrev cmp_isNaN_int.Ok (P : Program) (N : Nat → Nat) : Prop := Reads P (N Fn.cmp_isNaN_int) [] [] [] (fun A T (x0 : Int) (S : St) (K : Bool → St → Prop) => wpT P (envP P) T (endT A.results [(.one .bool)] K) (frT A [(V.int .i64 x0)]) S) (fun x0 S K => cmp_isNaN_int.p P N x0 S K)
theorem cmp_isNaN_int.run {P : Program} {N : Nat → Nat} (hF : cmp_isNaN_int.Ok P N) {x0 : Int} {S : St} {K : Bool → St → Prop} (h : cmp_isNaN_int.p P N x0 S K) : CallA P (N Fn.cmp_isNaN_int) [(V.int .i64 x0)] S (retT [(.one .bool)] K) := hF.run (fun q => q x0 S K) h rfl

def cmp_Less_int.p (P : Program) (N : Nat → Nat) (x0 : Int) (x1 : Int) (S : St) (K : Bool → St → Prop) : Prop :=
  CallA P (N Fn.cmp_isNaN_int) [(V.int .i64 x0)] S (retT [(.one .bool)] fun (x6 : Bool) (S1 : St) => ifC x6 (CallA P (N Fn.cmp_isNaN_int) [(V.int .i64 x1)] S1 (retT [(.one .bool)] fun (x9 : Bool) (S2 : St) => ifC (!x9) (K true S2) (K (decide (x0 < x1)) S2))) (K (decide (x0 < x1)) S1))
abbrev cmp_Less_int.Ok (P : Program) (N : Nat → Nat) : Prop := Reads P (N Fn.cmp_Less_int) [(2, .no, [(.one .bool)]), (2, .no, [(.one .bool)])] [] [] (fun A T (x0 : Int) (x1 : Int) (S : St) (K : Bool → St → Prop) => wpT P (envP P) T (endT A.results [(.one .bool)] K) (frT A [(V.int .i64 x0), (V.int .i64 x1)]) S) (fun x0 x1 S K => cmp_Less_int.p P N x0 x1 S K)
theorem cmp_Less_int.run {P : Program} {N : Nat → Nat} (hF : cmp_Less_int.Ok P N) {x0 : Int} {x1 : Int} {S : St} {K : Bool → St → Prop} (h : cmp_Less_int.p P N x0 x1 S K) : CallA P (N Fn.cmp_Less_int) [(V.int .i64 x0), (V.int .i64 x1)] S (retT [(.one .bool)] K) := hF.run (fun q => q x0 x1 S K) h rfl

end Go.Th.L
end

section
/- Functions of container, read without frames (printed by tools/lib.py). -/
set_option linter.unusedVariables false
set_option maxRecDepth 100000
set_option maxHeartbeats 2000000
namespace Go.Th.L
open Go Go.Th

def container_heap_Push.p (P : Program) (N : Nat → Nat) (x0 : V) (x1 : V) (S : St) (K : St → Prop) : Prop :=
  ifS (invokeV (envP P) S "Push" x0 [x1]) fun xf => CallA P xf.1 xf.2 S (retT [] fun (S1 : St) => ifS (invokeV (envP P) S1 "Len" x0 []) fun xf_1 => CallA P xf_1.1 xf_1.2 S1 (retT [(.one (.int .i64))] fun (x9 : Int) (S2 : St) => setI (IntKind.i64.wrap (x9 - (1 : Int))) fun x10 => CallA P (N Fn.container_heap_up) [x0, (V.int .i64 x10)] S2 (retT [] fun (S3 : St) => K  S3)))
abbrev container_heap_Push.Ok (P : Program) (N : Nat → Nat) : Prop := Reads P (N Fn.container_heap_Push) [(5, .no, [(.one (.int .i64))])] [] [] (fun A T (x0 : V) (x1 : V) (S : St) (K : St → Prop) => wpT P (envP P) T (endT A.results [] K) (frT A [x0, x1]) S) (fun x0 x1 S K => container_heap_Push.p P N x0 x1 S K)
theorem container_heap_Push.run {P : Program} {N : Nat → Nat} (hF : container_heap_Push.Ok P N) {x0 : V} {x1 : V} {S : St} {K : St → Prop} (h : container_heap_Push.p P N x0 x1 S K) : CallA P (N Fn.container_heap_Push) [x0, x1] S (retT [] K) := hF.run (fun q => q x0 x1 S K) h rfl

def container_heap_Fix.p (P : Program) (N : Nat → Nat) (x0 : V) (x1 : Int) (S : St) (K : St → Prop) : Prop :=
  ifS (invokeV (envP P) S "Len" x0 []) fun xf => CallA P xf.1 xf.2 S (retT [(.one (.int .i64))] fun (x7 : Int) (S1 : St) => CallA P (N Fn.container_heap_down) [x0, (V.int .i64 x1), (V.int .i64 x7)] S1 (retT [(.one .bool)] fun (x8 : Bool) (S2 : St) => ifC (!x8) (CallA P (N Fn.container_heap_up) [x0, (V.int .i64 x1)] S2 (retT [] fun (S3 : St) => K  S3)) (K  S2)))
abbrev container_heap_Fix.Ok (P : Program) (N : Nat → Nat) : Prop := Reads P (N Fn.container_heap_Fix) [(3, .no, [(.one (.int .i64))]), (0, .no, [(.one .bool)])] [] [] (fun A T (x0 : V) (x1 : Int) (S : St) (K : St → Prop) => wpT P (envP P) T (endT A.results [] K) (frT A [x0, (V.int .i64 x1)]) S) (fun x0 x1 S K => container_heap_Fix.p P N x0 x1 S K)
theorem container_heap_Fix.run {P : Program} {N : Nat → Nat} (hF : container_heap_Fix.Ok P N) {x0 : V} {x1 : Int} {S : St} {K : St → Prop} (h : container_heap_Fix.p P N x0 x1 S K) : CallA P (N Fn.container_heap_Fix) [x0, (V.int .i64 x1)] S (retT [] K) := hF.run (fun q => q x0 x1 S K) h rfl

def container_heap_up.p (P : Program) (N : Nat → Nat) (x0 : V) (x1 : Int) (S : St) (K : St → Prop) : Prop :=
  Loop1 (fun (k1 : Int → St → Prop) (x1_1 : Int) (S1 : St) => setI (IntKind.i64.wrap (x1_1 - (1 : Int))) fun x6 => (2 : Int) ≠ 0 ∧ setI (IntKind.i64.wrap (Int.tdiv x6 (2 : Int))) fun x7 => ifC (decide (x7 = x1_1)) (K  S1) (ifS (invokeV (envP P) S1 "Less" x0 [(V.int .i64 x1_1), (V.int .i64 x7)]) fun xf => CallA P xf.1 xf.2 S1 (retT [(.one .bool)] fun (x15 : Bool) (S2 : St) => ifC (!x15) (K  S2) (ifS (invokeV (envP P) S2 "Swap" x0 [(V.int .i64 x7), (V.int .i64 x1_1)]) fun xf_1 => CallA P xf_1.1 xf_1.2 S2 (retT [] fun (S3 : St) => k1 x7 S3))))) x1 S
abbrev container_heap_up.Ok (P : Program) (N : Nat → Nat) : Prop := Reads P (N Fn.container_heap_up) [(11, .no, [(.one .bool)])] [] [[(1, (.one (.int .i64)))]] (fun A T (x0 : V) (x1 : Int) (S : St) (K : St → Prop) => wpT P (envP P) T (endT A.results [] K) (frT A [x0, (V.int .i64 x1)]) S) (fun x0 x1 S K => container_heap_up.p P N x0 x1 S K)
theorem container_heap_up.run {P : Program} {N : Nat → Nat} (hF : container_heap_up.Ok P N) {x0 : V} {x1 : Int} {S : St} {K : St → Prop} (h : container_heap_up.p P N x0 x1 S K) : CallA P (N Fn.container_heap_up) [x0, (V.int .i64 x1)] S (retT [] K) := hF.run (fun q => q x0 x1 S K) h rfl

def container_heap_down.p (P : Program) (N : Nat → Nat) (x0 : V) (x1 : Int) (x2 : Int) (S : St) (K : Bool → St → Prop) : Prop :=
  Loop1 (fun (k1 : Int → St → Prop) (x7 : Int) (S1 : St) => setI (IntKind.i64.wrap ((2 : Int) * x7)) fun x13 => setI (IntKind.i64.wrap (x13 + (1 : Int))) fun x14 => Join0 (fun (k2 : St → Prop) => ifC (decide (x2 ≤ x14)) (K (decide (x1 < x7)) S1) (ifC (decide (x14 < (0 : Int))) (K (decide (x1 < x7)) S1) (k2  S1))) (fun (S2 : St) => Join1 (fun (k3 : Int → St → Prop) => setI (IntKind.i64.wrap (x14 + (1 : Int))) fun x24 => ifC (decide (x24 < x2)) (ifS (invokeV (envP P) S2 "Less" x0 [(V.int .i64 x24), (V.int .i64 x14)]) fun xf => CallA P xf.1 xf.2 S2 (retT [(.one .bool)] fun (x32 : Bool) (S4 : St) => ifC x32 (k3 x24 S4) (k3 x14 S4))) (k3 x14 S2)) (fun (x9 : Int) (S3 : St) => ifS (invokeV (envP P) S3 "Less" x0 [(V.int .i64 x9), (V.int .i64 x7)]) fun xf_1 => CallA P xf_1.1 xf_1.2 S3 (retT [(.one .bool)] fun (x38 : Bool) (S5 : St) => ifC (!x38) (K (decide (x1 < x7)) S5) (ifS (invokeV (envP P) S5 "Swap" x0 [(V.int .i64 x7), (V.int .i64 x9)]) fun xf_2 => CallA P xf_2.1 xf_2.2 S5 (retT [] fun (S6 : St) => k1 x9 S6)))))) x1 S
abbrev container_heap_down.Ok (P : Program) (N : Nat → Nat) : Prop := Reads P (N Fn.container_heap_down) [(26, .no, [(.one .bool)]), (6, .no, [(.one .bool)])] [(4, []), (2, [(9, (.one (.int .i64)))])] [[(7, (.one (.int .i64)))]] (fun A T (x0 : V) (x1 : Int) (x2 : Int) (S : St) (K : Bool → St → Prop) => wpT P (envP P) T (endT A.results [(.one .bool)] K) (frT A [x0, (V.int .i64 x1), (V.int .i64 x2)]) S) (fun x0 x1 x2 S K => container_heap_down.p P N x0 x1 x2 S K)
theorem container_heap_down.run {P : Program} {N : Nat → Nat} (hF : container_heap_down.Ok P N) {x0 : V} {x1 : Int} {x2 : Int} {S : St} {K : Bool → St → Prop} (h : container_heap_down.p P N x0 x1 x2 S K) : CallA P (N Fn.container_heap_down) [x0, (V.int .i64 x1), (V.int .i64 x2)] S (retT [(.one .bool)] K) := hF.run (fun q => q x0 x1 x2 S K) h rfl

end Go.Th.L
end

section
/- Functions of law02, read without frames (printed by tools/lib.py). -/
set_option linter.unusedVariables false
set_option maxRecDepth 100000
set_option maxHeartbeats 2000000
namespace Go.Th.L
open Go Go.Th

def law02_TopkLess.p (P : Program) (N : Nat → Nat) (x0_a : Int) (x0_b : Int) (x0_c : Int) (x1_a : Int) (x1_b : Int) (x1_c : Int) (x2_a : Int) (x2_b : Int) (x2_c : Int) (S : St) (K : Bool → St → Prop) : Prop :=
  newS S (.cells [(V.int .i64 x0_a), (V.int .u64 x0_b), (V.int .u64 x0_c)] true) fun S1 => newS S1 (.cells [(V.int .i64 x1_a), (V.int .u64 x1_b), (V.int .u64 x1_c)] true) fun S2 => newS S2 (.cells [(V.int .i64 x2_a), (V.int .u64 x2_b), (V.int .u64 x2_c)] true) fun S3 => ∃ x11_a x11_b x11_c : Int, loadNV S3 3 (V.ptr S.next 0) = some (V.agg [(V.int .i64 x11_a), (V.int .u64 x11_b), (V.int .u64 x11_c)]) ∧ ∃ x12_a x12_b x12_c : Int, loadNV S3 3 (V.ptr S1.next 0) = some (V.agg [(V.int .i64 x12_a), (V.int .u64 x12_b), (V.int .u64 x12_c)]) ∧ CallA P (N Fn.topk_Less) [(V.agg [(V.int .i64 x11_a), (V.int .u64 x11_b), (V.int .u64 x11_c)]), (V.agg [(V.int .i64 x12_a), (V.int .u64 x12_b), (V.int .u64 x12_c)])] S3 (retT [(.one .bool)] fun (x13 : Bool) (S4 : St) => ∃ x14_a x14_b x14_c : Int, loadNV S4 3 (V.ptr S1.next 0) = some (V.agg [(V.int .i64 x14_a), (V.int .u64 x14_b), (V.int .u64 x14_c)]) ∧ ∃ x15_a x15_b x15_c : Int, loadNV S4 3 (V.ptr S.next 0) = some (V.agg [(V.int .i64 x15_a), (V.int .u64 x15_b), (V.int .u64 x15_c)]) ∧ CallA P (N Fn.topk_Less) [(V.agg [(V.int .i64 x14_a), (V.int .u64 x14_b), (V.int .u64 x14_c)]), (V.agg [(V.int .i64 x15_a), (V.int .u64 x15_b), (V.int .u64 x15_c)])] S4 (retT [(.one .bool)] fun (x16 : Bool) (S5 : St) => ∃ x17_a x17_b x17_c : Int, loadNV S5 3 (V.ptr S1.next 0) = some (V.agg [(V.int .i64 x17_a), (V.int .u64 x17_b), (V.int .u64 x17_c)]) ∧ ∃ x18_a x18_b x18_c : Int, loadNV S5 3 (V.ptr S2.next 0) = some (V.agg [(V.int .i64 x18_a), (V.int .u64 x18_b), (V.int .u64 x18_c)]) ∧ CallA P (N Fn.topk_Less) [(V.agg [(V.int .i64 x17_a), (V.int .u64 x17_b), (V.int .u64 x17_c)]), (V.agg [(V.int .i64 x18_a), (V.int .u64 x18_b), (V.int .u64 x18_c)])] S5 (retT [(.one .bool)] fun (x19 : Bool) (S6 : St) => ∃ x20_a x20_b x20_c : Int, loadNV S6 3 (V.ptr S.next 0) = some (V.agg [(V.int .i64 x20_a), (V.int .u64 x20_b), (V.int .u64 x20_c)]) ∧ ∃ x21_a x21_b x21_c : Int, loadNV S6 3 (V.ptr S2.next 0) = some (V.agg [(V.int .i64 x21_a), (V.int .u64 x21_b), (V.int .u64 x21_c)]) ∧ CallA P (N Fn.topk_Less) [(V.agg [(V.int .i64 x20_a), (V.int .u64 x20_b), (V.int .u64 x20_c)]), (V.agg [(V.int .i64 x21_a), (V.int .u64 x21_b), (V.int .u64 x21_c)])] S6 (retT [(.one .bool)] fun (x22 : Bool) (S7 : St) => Join0 (fun (k1 : St → Prop) => ∃ x24_a x24_b x24_c : Int, loadNV S7 3 (V.ptr S.next 0) = some (V.agg [(V.int .i64 x24_a), (V.int .u64 x24_b), (V.int .u64 x24_c)]) ∧ ∃ x25_a x25_b x25_c : Int, loadNV S7 3 (V.ptr S1.next 0) = some (V.agg [(V.int .i64 x25_a), (V.int .u64 x25_b), (V.int .u64 x25_c)]) ∧ CallA P (N Fn.ref02_Less) [(V.agg [(V.int .i64 x24_a), (V.int .u64 x24_b), (V.int .u64 x24_c)]), (V.agg [(V.int .i64 x25_a), (V.int .u64 x25_b), (V.int .u64 x25_c)])] S7 (retT [(.one .bool)] fun (x26 : Bool) (S9 : St) => ifC (!(x13 == x26)) (K false S9) (ifC x13 (ifC x16 (K false S9) (∃ x35_a x35_b x35_c : Int, loadNV S9 3 (V.ptr S.next 0) = some (V.agg [(V.int .i64 x35_a), (V.int .u64 x35_b), (V.int .u64 x35_c)]) ∧ ∃ x36_a x36_b x36_c : Int, loadNV S9 3 (V.ptr S.next 0) = some (V.agg [(V.int .i64 x36_a), (V.int .u64 x36_b), (V.int .u64 x36_c)]) ∧ CallA P (N Fn.topk_Less) [(V.agg [(V.int .i64 x35_a), (V.int .u64 x35_b), (V.int .u64 x35_c)]), (V.agg [(V.int .i64 x36_a), (V.int .u64 x36_b), (V.int .u64 x36_c)])] S9 (retT [(.one .bool)] fun (x37 : Bool) (S10 : St) => ifC x37 (K false S10) (ifC x13 (ifC x19 (ifC (!x22) (K false S10) (k1  S10)) (k1  S10)) (k1  S10))))) (∃ x35_a_1 x35_b_1 x35_c_1 : Int, loadNV S9 3 (V.ptr S.next 0) = some (V.agg [(V.int .i64 x35_a_1), (V.int .u64 x35_b_1), (V.int .u64 x35_c_1)]) ∧ ∃ x36_a_1 x36_b_1 x36_c_1 : Int, loadNV S9 3 (V.ptr S.next 0) = some (V.agg [(V.int .i64 x36_a_1), (V.int .u64 x36_b_1), (V.int .u64 x36_c_1)]) ∧ CallA P (N Fn.topk_Less) [(V.agg [(V.int .i64 x35_a_1), (V.int .u64 x35_b_1), (V.int .u64 x35_c_1)]), (V.agg [(V.int .i64 x36_a_1), (V.int .u64 x36_b_1), (V.int .u64 x36_c_1)])] S9 (retT [(.one .bool)] fun (x37_1 : Bool) (S11 : St) => ifC x37_1 (K false S11) (ifC x13 (ifC x19 (ifC (!x22) (K false S11) (k1  S11)) (k1  S11)) (k1  S11))))))) (fun (S8 : St) => CallA P (N Fn.law02_awake) [] S8 (retT [(.one .bool)] fun (x49 : Bool) (S12 : St) => ifC x49 (ifC x13 (K true S12) (ifC x16 (K true S12) (∃ x56_a x56_b x56_c : Int, loadNV S12 3 (V.ptr S.next 0) = some (V.agg [(V.int .i64 x56_a), (V.int .u64 x56_b), (V.int .u64 x56_c)]) ∧ ∃ x57_a x57_b x57_c : Int, loadNV S12 3 (V.ptr S1.next 0) = some (V.agg [(V.int .i64 x57_a), (V.int .u64 x57_b), (V.int .u64 x57_c)]) ∧ ∃ x58 : Bool, eqV 6 [1, 1, 1] (V.agg [(V.int .i64 x56_a), (V.int .u64 x56_b), (V.int .u64 x56_c)]) (V.agg [(V.int .i64 x57_a), (V.int .u64 x57_b), (V.int .u64 x57_c)]) = some x58 ∧ K x58 S12))) (K false S12)))))))
abbrev law02_TopkLess.Ok (P : Program) (N : Nat → Nat) : Prop := Reads P (N Fn.law02_TopkLess) [(4, (.dt (.agg [(.int .i64), (.int .u64), (.int .u64)])), []), (0, (.dt (.agg [(.int .i64), (.int .u64), (.int .u64)])), []), (0, .no, [(.one .bool)]), (1, (.dt (.agg [(.int .i64), (.int .u64), (.int .u64)])), []), (0, (.dt (.agg [(.int .i64), (.int .u64), (.int .u64)])), []), (0, .no, [(.one .bool)]), (1, (.dt (.agg [(.int .i64), (.int .u64), (.int .u64)])), []), (0, (.dt (.agg [(.int .i64), (.int .u64), (.int .u64)])), []), (0, .no, [(.one .bool)]), (1, (.dt (.agg [(.int .i64), (.int .u64), (.int .u64)])), []), (0, (.dt (.agg [(.int .i64), (.int .u64), (.int .u64)])), []), (0, .no, [(.one .bool)]), (2, (.dt (.agg [(.int .i64), (.int .u64), (.int .u64)])), []), (0, (.dt (.agg [(.int .i64), (.int .u64), (.int .u64)])), []), (0, .no, [(.one .bool)]), (8, (.dt (.agg [(.int .i64), (.int .u64), (.int .u64)])), []), (0, (.dt (.agg [(.int .i64), (.int .u64), (.int .u64)])), []), (0, .no, [(.one .bool)]), (12, .no, [(.one .bool)]), (6, (.dt (.agg [(.int .i64), (.int .u64), (.int .u64)])), []), (0, (.dt (.agg [(.int .i64), (.int .u64), (.int .u64)])), [])] [(5, [])] [] (fun A T (x0_a : Int) (x0_b : Int) (x0_c : Int) (x1_a : Int) (x1_b : Int) (x1_c : Int) (x2_a : Int) (x2_b : Int) (x2_c : Int) (S : St) (K : Bool → St → Prop) => wpT P (envP P) T (endT A.results [(.one .bool)] K) (frT A [(V.agg [(V.int .i64 x0_a), (V.int .u64 x0_b), (V.int .u64 x0_c)]), (V.agg [(V.int .i64 x1_a), (V.int .u64 x1_b), (V.int .u64 x1_c)]), (V.agg [(V.int .i64 x2_a), (V.int .u64 x2_b), (V.int .u64 x2_c)])]) S) (fun x0_a x0_b x0_c x1_a x1_b x1_c x2_a x2_b x2_c S K => law02_TopkLess.p P N x0_a x0_b x0_c x1_a x1_b x1_c x2_a x2_b x2_c S K)
theorem law02_TopkLess.run {P : Program} {N : Nat → Nat} (hF : law02_TopkLess.Ok P N) {x0_a : Int} {x0_b : Int} {x0_c : Int} {x1_a : Int} {x1_b : Int} {x1_c : Int} {x2_a : Int} {x2_b : Int} {x2_c : Int} {S : St} {K : Bool → St → Prop} (h : law02_TopkLess.p P N x0_a x0_b x0_c x1_a x1_b x1_c x2_a x2_b x2_c S K) : CallA P (N Fn.law02_TopkLess) [(V.agg [(V.int .i64 x0_a), (V.int .u64 x0_b), (V.int .u64 x0_c)]), (V.agg [(V.int .i64 x1_a), (V.int .u64 x1_b), (V.int .u64 x1_c)]), (V.agg [(V.int .i64 x2_a), (V.int .u64 x2_b), (V.int .u64 x2_c)])] S (retT [(.one .bool)] K) := hF.run (fun q => q x0_a x0_b x0_c x1_a x1_b x1_c x2_a x2_b x2_c S K) h rfl

def law02_TopkMerges.p (P : Program) (N : Nat → Nat) (x0 : Int) (x1 : V) (S : St) (K : Bool → St → Prop) : Prop :=
  CallA P (N Fn.law02_total) [x1] S (retT [(.one (.int .i64))] fun (x14 : Int) (S1 : St) => ifC (decide ((3000 : Int) < x14)) (CallA P (N Fn.law02_awake) [] S1 (retT [(.one .bool)] fun (x16 : Bool) (S2 : St) => K x16 S2)) (Loop3 (fun (k1 : V → V → Int → St → Prop) (x5 : V) (x6 : V) (x7 : Int) (S3 : St) => ∃ x19 : Int, lenV S3 2 x1 = some (V.int .i64 x19) ∧ ifC (decide (x7 < x19)) (ifS (idxAddrV 1 x1 (V.int .i64 x7)) fun x25 => ifS (loadV S3 x25) fun x26 => ∃ x27 : Int, lenV S3 2 x26 = some (V.int .i64 x27) ∧ setI (IntKind.i64.wrap (x27 + (1 : Int))) fun x28 => ifP (mkSliceV S3 3 24 [(V.int .i64 0), (V.int .u64 0), (V.int .u64 0)] (V.int .i64 x28) (V.int .i64 x28)) fun x29 S4 => ifS (idxAddrV 1 x1 (V.int .i64 x7)) fun x33 => ifS (loadV S4 x33) fun x34 => ifP (copyV S4 3 x29 x34) fun x35 S5 => ifS (idxAddrV 1 x1 (V.int .i64 x7)) fun x39 => ifS (loadV S5 x39) fun x40 => ∃ x41 : Int, lenV S5 2 x40 = some (V.int .i64 x41) ∧ CallA P (N Fn.law02_hit) [(V.int .i64 (-7)), (V.int .u64 7)] S5 (retT [(.agg [(.int .i64), (.int .u64), (.int .u64)])] fun (x42_a : Int) (x42_b : Int) (x42_c : Int) (S6 : St) => sameK (V.block x40 ++ (V.block x39 ++ [])) S5 S6 (ifS (idxAddrV 3 x29 (V.int .i64 x41)) fun x43 => ifS (storeV S6 3 x43 (V.agg [(V.int .i64 x42_a), (V.int .u64 x42_b), (V.int .u64 x42_c)])) fun S7 => ifS (idxAddrV 1 x1 (V.int .i64 x7)) fun x48 => ifS (loadV S7 x48) fun x49 => ∃ x50 : Int, lenV S7 2 x49 = some (V.int .i64 x50) ∧ ifS (sliceSlV 3 x29 none (some (V.int .i64 x50)) none) fun x51 => V.cells x51 = [x51] ∧ newS S7 (.cells [x51] true) fun S8 => ifP (appV S8 1 24 x5 (V.slice S7.next 0 1 1 1 true)) fun x53 S9 => ifS (idxAddrV 1 x1 (V.int .i64 x7)) fun x57 => ifS (loadV S9 x57) fun x58 => ifP (appV S9 3 24 x6 x58) fun x59 S10 => setI (IntKind.i64.wrap (x7 + (1 : Int))) fun x22 => k1 x53 x59 x22 S10))) (CallA P (N Fn.topk_Merge) [(V.int .i64 x0), x5] S3 (retT [(.one .any), (.one (.int .i64))] fun (x63a : V) (x63b : Int) (S11 : St) => Loop1 (fun (k2 : Int → St → Prop) (x11 : Int) (S12 : St) => ∃ x68 : Int, lenV S12 2 x1 = some (V.int .i64 x68) ∧ ifC (decide (x11 < x68)) (ifS (idxAddrV 1 x5 (V.int .i64 x11)) fun x74 => ifS (loadV S12 x74) fun x75 => ifS (idxAddrV 1 x1 (V.int .i64 x11)) fun x78 => ifS (loadV S12 x78) fun x79 => ∃ x80 : Int, lenV S12 2 x79 = some (V.int .i64 x80) ∧ setI (IntKind.i64.wrap (x80 + (1 : Int))) fun x81 => ifS (sliceSlV 3 x75 none (some (V.int .i64 x81)) none) fun x82 => Join0 (fun (k3 : St → Prop) => ifS (idxAddrV 1 x5 (V.int .i64 x11)) fun x85 => ifS (loadV S12 x85) fun x86 => ifS (idxAddrV 1 x1 (V.int .i64 x11)) fun x89 => ifS (loadV S12 x89) fun x90 => CallA P (N Fn.ref02_Same) [x86, x90] S12 (retT [(.one .bool)] fun (x91 : Bool) (S14 : St) => ifC (!x91) (K false S14) (ifS (idxAddrV 1 x1 (V.int .i64 x11)) fun x97 => ifS (loadV S14 x97) fun x98 => ∃ x99 : Int, lenV S14 2 x98 = some (V.int .i64 x99) ∧ ifS (idxAddrV 3 x82 (V.int .i64 x99)) fun x100 => ∃ x101_a x101_b x101_c : Int, loadNV S14 3 x100 = some (V.agg [(V.int .i64 x101_a), (V.int .u64 x101_b), (V.int .u64 x101_c)]) ∧ CallA P (N Fn.law02_hit) [(V.int .i64 (-7)), (V.int .u64 7)] S14 (retT [(.agg [(.int .i64), (.int .u64), (.int .u64)])] fun (x102_a : Int) (x102_b : Int) (x102_c : Int) (S15 : St) => sameK (V.block x100 ++ (V.block x98 ++ (V.block x97 ++ (V.block x89 ++ (V.block x85 ++ []))))) S14 S15 (∃ x103 : Bool, eqV 6 [1, 1, 1] (V.agg [(V.int .i64 x101_a), (V.int .u64 x101_b), (V.int .u64 x101_c)]) (V.agg [(V.int .i64 x102_a), (V.int .u64 x102_b), (V.int .u64 x102_c)]) = some x103 ∧ ifC (!x103) (K false S15) (k3  S15)))))) (fun (S13 : St) => ifS (idxAddrV 1 x5 (V.int .i64 x11)) fun x107 => ifS (loadV S13 x107) fun x108 => CallA P (N Fn.law02_spoil) [x108] S13 (retT [] fun (S16 : St) => setI (IntKind.i64.wrap (x11 + (1 : Int))) fun x71 => k2 x71 S16))) (Join1 (fun (k4 : Bool → St → Prop) => ifC (decide (x0 < (1 : Int))) (k4 true S12) (k4 (decide ((64 : Int) < x0)) S12)) (fun (x115 : Bool) (S17 : St) => ifC x115 (CallA P (N Fn.law02_awake) [] S17 (retT [(.one .bool)] fun (x116 : Bool) (S18 : St) => ifC x116 (ifC (decide (x63b = (1 : Int))) (∃ x123 : Int, lenV S18 2 x63a = some (V.int .i64 x123) ∧ K (decide (x123 = (0 : Int))) S18) (K false S18)) (K false S18))) (CallA P (N Fn.law02_awake) [] S17 (retT [(.one .bool)] fun (x126 : Bool) (S19 : St) => ifC x126 (ifC (decide (x63b = (0 : Int))) (CallA P (N Fn.ref02_First) [x6, (V.int .i64 x0)] S19 (retT [(.one .any)] fun (x135 : V) (S20 : St) => CallA P (N Fn.ref02_Same) [x63a, x135] S20 (retT [(.one .bool)] fun (x136 : Bool) (S21 : St) => K x136 S21))) (K false S19)) (K false S19)))))) 0 S11))) V.nilSlice V.nilSlice 0 S1))
abbrev law02_TopkMerges.Ok (P : Program) (N : Nat → Nat) : Prop := Reads P (N Fn.law02_TopkMerges) [(2, .no, [(.one (.int .i64))]), (1, .no, [(.one .bool)]), (6, (.dt (.one (.int .i64))), []), (5, (.dt (.one (.int .i64))), []), (14, (.dt (.one (.int .i64))), []), (0, .no, [(.agg [(.int .i64), (.int .u64), (.int .u64)])]), (8, (.dt (.one (.int .i64))), []), (1, (.dt (.agg [.any])), []), (14, .no, [(.one .any), (.one (.int .i64))]), (8, (.dt (.one (.int .i64))), []), (9, (.dt (.one (.int .i64))), []), (11, .no, [(.one .bool)]), (7, (.dt (.one (.int .i64))), []), (1, (.dt (.agg [(.int .i64), (.int .u64), (.int .u64)])), []), (0, .no, [(.agg [(.int .i64), (.int .u64), (.int .u64)])]), (17, .no, [(.one .bool)]), (6, (.dt (.one (.int .i64))), []), (3, .no, [(.one .bool)]), (8, .no, [(.one .any)]), (0, .no, [(.one .bool)])] [(22, []), (3, [(115, (.one .bool))])] [[(5, (.one .any)), (6, (.one .any)), (7, (.one (.int .i64)))], [(11, (.one (.int .i64)))]] (fun A T (x0 : Int) (x1 : V) (S : St) (K : Bool → St → Prop) => wpT P (envP P) T (endT A.results [(.one .bool)] K) (frT A [(V.int .i64 x0), x1]) S) (fun x0 x1 S K => law02_TopkMerges.p P N x0 x1 S K)
theorem law02_TopkMerges.run {P : Program} {N : Nat → Nat} (hF : law02_TopkMerges.Ok P N) {x0 : Int} {x1 : V} {S : St} {K : Bool → St → Prop} (h : law02_TopkMerges.p P N x0 x1 S K) : CallA P (N Fn.law02_TopkMerges) [(V.int .i64 x0), x1] S (retT [(.one .bool)] K) := hF.run (fun q => q x0 x1 S K) h rfl

def law02_TopkOrder.p (P : Program) (N : Nat → Nat) (x0 : Int) (x1 : V) (x2 : Int) (S : St) (K : Bool → St → Prop) : Prop :=
  Join1 (fun (k1 : Bool → St → Prop) => ∃ x20 : Int, lenV S 2 x1 = some (V.int .i64 x20) ∧ ifC (decide ((3000 : Int) < x20)) (k1 true S) (ifC (decide (x0 < (1 : Int))) (k1 true S) (k1 (decide ((64 : Int) < x0)) S))) (fun (x29 : Bool) (S1 : St) => ifC x29 (CallA P (N Fn.law02_awake) [] S1 (retT [(.one .bool)] fun (x30 : Bool) (S2 : St) => K x30 S2)) (Join1 (fun (k2 : Int → St → Prop) => ifC (decide (x2 < (0 : Int))) (setI (IntKind.i64.wrap (x2 + (1 : Int))) fun x34 => setI (IntKind.i64.wrap (0 - x34)) fun x35 => k2 x35 S1) (k2 x2 S1)) (fun (x2_1 : Int) (S3 : St) => ∃ x38 : Int, lenV S3 2 x1 = some (V.int .i64 x38) ∧ setI (IntKind.i64.wrap (x38 + (1 : Int))) fun x39 => x39 ≠ 0 ∧ setI (Int.tmod x2_1 x39) fun x40 => CallA P (N Fn.topk_New) [(V.int .i64 x0)] S3 (retT [(.one .any), (.one (.int .i64))] fun (x43a : V) (x43b : Int) (S4 : St) => CallA P (N Fn.topk_New) [(V.int .i64 x0)] S4 (retT [(.one .any), (.one (.int .i64))] fun (x48a : V) (x48b : Int) (S5 : St) => Join0 (fun (k3 : St → Prop) => ∃ x52 : Bool, eqV 1 [] x43a V.nilPtr = some x52 ∧ ifC x52 (K false S5) (∃ x55 : Bool, eqV 1 [] x48a V.nilPtr = some x55 ∧ ifC x55 (K false S5) (ifC (!decide (x43b = (0 : Int))) (K false S5) (ifC (!decide (x48b = (0 : Int))) (K false S5) (k3  S5))))) (fun (S6 : St) => Loop1 (fun (k4 : Int → St → Prop) (x11 : Int) (S7 : St) => ∃ x67 : Int, lenV S7 2 x1 = some (V.int .i64 x67) ∧ ifC (decide (x11 < x67)) (ifS (idxAddrV 3 x1 (V.int .i64 x11)) fun x74 => ∃ x75_a x75_b x75_c : Int, loadNV S7 3 x74 = some (V.agg [(V.int .i64 x75_a), (V.int .u64 x75_b), (V.int .u64 x75_c)]) ∧ CallA P (N Fn.topk_Heap_Offer) [x43a, (V.agg [(V.int .i64 x75_a), (V.int .u64 x75_b), (V.int .u64 x75_c)])] S7 (retT [(.one .bool)] fun (x76 : Bool) (S8 : St) => ∃ x81 : Int, lenV S8 2 x1 = some (V.int .i64 x81) ∧ setI (IntKind.i64.wrap (x40 + x81)) fun x82 => setI (IntKind.i64.wrap (x82 - (1 : Int))) fun x83 => setI (IntKind.i64.wrap (x83 - x11)) fun x85 => ∃ x87 : Int, lenV S8 2 x1 = some (V.int .i64 x87) ∧ x87 ≠ 0 ∧ setI (Int.tmod x85 x87) fun x88 => ifS (idxAddrV 3 x1 (V.int .i64 x88)) fun x89 => ∃ x90_a x90_b x90_c : Int, loadNV S8 3 x89 = some (V.agg [(V.int .i64 x90_a), (V.int .u64 x90_b), (V.int .u64 x90_c)]) ∧ CallA P (N Fn.topk_Heap_Offer) [x48a, (V.agg [(V.int .i64 x90_a), (V.int .u64 x90_b), (V.int .u64 x90_c)])] S8 (retT [(.one .bool)] fun (x91 : Bool) (S9 : St) => setI (IntKind.i64.wrap (x11 + (1 : Int))) fun x70 => k4 x70 S9))) (ifS (sliceSlV 3 x1 none (some (V.int .i64 x40)) none) fun x96 => V.cells x96 = [x96] ∧ newS S7 (.cells [x96] true) fun S10 => CallA P (N Fn.topk_Merge) [(V.int .i64 x0), (V.slice S7.next 0 1 1 1 true)] S10 (retT [(.one .any), (.one (.int .i64))] fun (x98a : V) (x98b : Int) (S11 : St) => ifS (sliceSlV 3 x1 (some (V.int .i64 x40)) none none) fun x105 => V.cells x105 = [x105] ∧ newS S11 (.cells [x105] true) fun S12 => CallA P (N Fn.topk_Merge) [(V.int .i64 x0), (V.slice S11.next 0 1 1 1 true)] S12 (retT [(.one .any), (.one (.int .i64))] fun (x107a : V) (x107b : Int) (S13 : St) => V.cells x98a = [x98a] ∧ V.cells x107a = [x107a] ∧ newS S13 (.cells [x98a, x107a] true) fun S14 => CallA P (N Fn.topk_Merge) [(V.int .i64 x0), (V.slice S13.next 0 2 2 1 true)] S14 (retT [(.one .any), (.one (.int .i64))] fun (x115a : V) (x115b : Int) (S15 : St) => CallA P (N Fn.topk_Heap_List) [x43a] S15 (retT [(.one .any)] fun (x119 : V) (S16 : St) => CallA P (N Fn.law02_awake) [] S16 (retT [(.one .bool)] fun (x120 : Bool) (S17 : St) => ifC x120 (ifC (decide (x98b = (0 : Int))) (ifC (decide (x107b = (0 : Int))) (ifC (decide (x115b = (0 : Int))) (CallA P (N Fn.topk_Heap_List) [x48a] S17 (retT [(.one .any)] fun (x135 : V) (S18 : St) => CallA P (N Fn.ref02_Same) [x135, x119] S18 (retT [(.one .bool)] fun (x137 : Bool) (S19 : St) => ifC x137 (CallA P (N Fn.ref02_Same) [x115a, x119] S19 (retT [(.one .bool)] fun (x142 : Bool) (S20 : St) => ifC x142 (∃ x146 : Int, lenV S20 2 x119 = some (V.int .i64 x146) ∧ ∃ x149 : Int, lenV S20 2 x1 = some (V.int .i64 x149) ∧ K (decide (x146 = (goMin x0 x149))) S20) (K false S20))) (K false S19)))) (K false S17)) (K false S17)) (K false S17)) (K false S17)))))))) 0 S6))))))
abbrev law02_TopkOrder.Ok (P : Program) (N : Nat → Nat) : Prop := Reads P (N Fn.law02_TopkOrder) [(2, (.dt (.one (.int .i64))), []), (9, .no, [(.one .bool)]), (9, (.dt (.one (.int .i64))), []), (4, .no, [(.one .any), (.one (.int .i64))]), (6, .no, [(.one .any), (.one (.int .i64))]), (23, (.dt (.one (.int .i64))), []), (5, (.dt (.agg [(.int .i64), (.int .u64), (.int .u64)])), []), (0, .no, [(.one .bool)]), (4, (.dt (.one (.int .i64))), []), (5, (.dt (.one (.int .i64))), []), (2, (.dt (.agg [(.int .i64), (.int .u64), (.int .u64)])), []), (0, .no, [(.one .bool)]), (7, (.dt (.agg [.any])), []), (0, .no, [(.one .any), (.one (.int .i64))]), (9, (.dt (.agg [.any])), []), (0, .no, [(.one .any), (.one (.int .i64))]), (8, (.dt (.agg [.any, .any])), []), (0, .no, [(.one .any), (.one (.int .i64))]), (6, .no, [(.one .any)]), (1, .no, [(.one .bool)]), (14, .no, [(.one .any)]), (1, .no, [(.one .bool)]), (4, .no, [(.one .bool)]), (3, (.dt (.one (.int .i64))), []), (2, (.dt (.one (.int .i64))), [])] [(2, [(29, (.one .bool))]), (1, [(2, (.one (.int .i64)))]), (4, [])] [[(11, (.one (.int .i64)))]] (fun A T (x0 : Int) (x1 : V) (x2 : Int) (S : St) (K : Bool → St → Prop) => wpT P (envP P) T (endT A.results [(.one .bool)] K) (frT A [(V.int .i64 x0), x1, (V.int .i64 x2)]) S) (fun x0 x1 x2 S K => law02_TopkOrder.p P N x0 x1 x2 S K)
theorem law02_TopkOrder.run {P : Program} {N : Nat → Nat} (hF : law02_TopkOrder.Ok P N) {x0 : Int} {x1 : V} {x2 : Int} {S : St} {K : Bool → St → Prop} (h : law02_TopkOrder.p P N x0 x1 x2 S K) : CallA P (N Fn.law02_TopkOrder) [(V.int .i64 x0), x1, (V.int .i64 x2)] S (retT [(.one .bool)] K) := hF.run (fun q => q x0 x1 x2 S K) h rfl

def law02_TopkOffers.p (P : Program) (N : Nat → Nat) (x0 : Int) (x1 : V) (S : St) (K : Bool → St → Prop) : Prop :=
  ∃ x16 : Int, lenV S 2 x1 = some (V.int .i64 x16) ∧ ifC (decide ((3000 : Int) < x16)) (CallA P (N Fn.law02_awake) [] S (retT [(.one .bool)] fun (x18 : Bool) (S1 : St) => K x18 S1)) (CallA P (N Fn.topk_New) [(V.int .i64 x0)] S (retT [(.one .any), (.one (.int .i64))] fun (x21a : V) (x21b : Int) (S2 : St) => Join1 (fun (k1 : Bool → St → Prop) => ifC (decide (x0 < (1 : Int))) (k1 true S2) (k1 (decide ((64 : Int) < x0)) S2)) (fun (x29 : Bool) (S3 : St) => ifC x29 (CallA P (N Fn.law02_awake) [] S3 (retT [(.one .bool)] fun (x30 : Bool) (S4 : St) => ifC x30 (∃ x33 : Bool, eqV 1 [] x21a V.nilPtr = some x33 ∧ ifC x33 (K (decide (x21b = (1 : Int))) S4) (K false S4)) (K false S4))) (Join0 (fun (k2 : St → Prop) => ∃ x40 : Bool, eqV 1 [] x21a V.nilPtr = some x40 ∧ ifC x40 (K false S3) (ifC (!decide (x21b = (0 : Int))) (K false S3) (k2  S3))) (fun (S5 : St) => Loop2 (fun (k3 : V → Int → St → Prop) (x7 : V) (x8 : Int) (S6 : St) => ∃ x47 : Int, lenV S6 2 x1 = some (V.int .i64 x47) ∧ ifC (decide (x8 < x47)) (Join1 (fun (k4 : Bool → St → Prop) => ∃ x52 : Int, lenV S6 2 x7 = some (V.int .i64 x52) ∧ ifC (decide (x52 < x0)) (k4 true S6) (ifS (idxAddrV 3 x1 (V.int .i64 x8)) fun x58 => ∃ x59_a x59_b x59_c : Int, loadNV S6 3 x58 = some (V.agg [(V.int .i64 x59_a), (V.int .u64 x59_b), (V.int .u64 x59_c)]) ∧ setI (IntKind.i64.wrap (x0 - (1 : Int))) fun x62 => ifS (idxAddrV 3 x7 (V.int .i64 x62)) fun x63 => ∃ x64_a x64_b x64_c : Int, loadNV S6 3 x63 = some (V.agg [(V.int .i64 x64_a), (V.int .u64 x64_b), (V.int .u64 x64_c)]) ∧ CallA P (N Fn.ref02_Less) [(V.agg [(V.int .i64 x59_a), (V.int .u64 x59_b), (V.int .u64 x59_c)]), (V.agg [(V.int .i64 x64_a), (V.int .u64 x64_b), (V.int .u64 x64_c)])] S6 (retT [(.one .bool)] fun (x65 : Bool) (S8 : St) => sameK (V.block x7 ++ []) S6 S8 (k4 x65 S8)))) (fun (x9 : Bool) (S7 : St) => ifS (idxAddrV 3 x1 (V.int .i64 x8)) fun x70 => ∃ x71_a x71_b x71_c : Int, loadNV S7 3 x70 = some (V.agg [(V.int .i64 x71_a), (V.int .u64 x71_b), (V.int .u64 x71_c)]) ∧ CallA P (N Fn.topk_Heap_Offer) [x21a, (V.agg [(V.int .i64 x71_a), (V.int .u64 x71_b), (V.int .u64 x71_c)])] S7 (retT [(.one .bool)] fun (x72 : Bool) (S9 : St) => ifC (!(x72 == x9)) (K false S9) (Join1 (fun (k5 : V → St → Prop) => ifC x9 (ifS (idxAddrV 3 x1 (V.int .i64 x8)) fun x79 => ∃ x80_a x80_b x80_c : Int, loadNV S9 3 x79 = some (V.agg [(V.int .i64 x80_a), (V.int .u64 x80_b), (V.int .u64 x80_c)]) ∧ CallA P (N Fn.ref02_With) [x7, (V.agg [(V.int .i64 x80_a), (V.int .u64 x80_b), (V.int .u64 x80_c)])] S9 (retT [(.one .any)] fun (x81 : V) (S11 : St) => CallA P (N Fn.ref02_First) [x81, (V.int .i64 x0)] S11 (retT [(.one .any)] fun (x83 : V) (S12 : St) => k5 x83 S12))) (k5 x7 S9)) (fun (x7_1 : V) (S10 : St) => CallA P (N Fn.topk_Heap_Worst) [x21a] S10 (retT [(.agg [(.int .i64), (.int .u64), (.int .u64)]), (.one .bool)] fun (x86a_a : Int) (x86a_b : Int) (x86a_c : Int) (x86b : Bool) (S13 : St) => newS S13 (.cells [(V.int .i64 0), (V.int .u64 0), (V.int .u64 0)] true) fun S14 => ifS (storeV S14 3 (V.ptr S13.next 0) (V.agg [(V.int .i64 x86a_a), (V.int .u64 x86a_b), (V.int .u64 x86a_c)])) fun S15 => CallA P (N Fn.topk_Heap_List) [x21a] S15 (retT [(.one .any)] fun (x90 : V) (S16 : St) => ifC (!x86b) (K false S16) (∃ x94_a x94_b x94_c : Int, loadNV S16 3 (V.ptr S13.next 0) = some (V.agg [(V.int .i64 x94_a), (V.int .u64 x94_b), (V.int .u64 x94_c)]) ∧ ∃ x97 : Int, lenV S16 2 x7_1 = some (V.int .i64 x97) ∧ setI (IntKind.i64.wrap (x97 - (1 : Int))) fun x98 => ifS (idxAddrV 3 x7_1 (V.int .i64 x98)) fun x99 => ∃ x100_a x100_b x100_c : Int, loadNV S16 3 x99 = some (V.agg [(V.int .i64 x100_a), (V.int .u64 x100_b), (V.int .u64 x100_c)]) ∧ ∃ x101 : Bool, eqV 6 [1, 1, 1] (V.agg [(V.int .i64 x94_a), (V.int .u64 x94_b), (V.int .u64 x94_c)]) (V.agg [(V.int .i64 x100_a), (V.int .u64 x100_b), (V.int .u64 x100_c)]) = some x101 ∧ ifC (!x101) (K false S16) (∃ x107 : Int, lenV S16 2 x7_1 = some (V.int .i64 x107) ∧ CallA P (N Fn.topk_Heap_Len) [x21a] S16 (retT [(.one (.int .i64))] fun (x105 : Int) (S17 : St) => sameK (V.block x7_1 ++ (V.block x99 ++ (V.block x7_1 ++ (S13.next :: [])))) S16 S17 (ifC (!decide (x105 = x107)) (K false S17) (∃ x114 : Int, lenV S17 2 x7_1 = some (V.int .i64 x114) ∧ CallA P (N Fn.topk_Heap_Full) [x21a] S17 (retT [(.one .bool)] fun (x112 : Bool) (S18 : St) => sameK (V.block x7_1 ++ (V.block x7_1 ++ (V.block x99 ++ (V.block x7_1 ++ (S13.next :: []))))) S17 S18 (ifC (!(x112 == (decide (x114 = x0)))) (K false S18) (CallA P (N Fn.ref02_Same) [x90, x7_1] S18 (retT [(.one .bool)] fun (x122 : Bool) (S19 : St) => sameK (V.block x7_1 ++ (V.block x7_1 ++ (V.block x99 ++ (V.block x7_1 ++ (S13.next :: []))))) S18 S19 (ifC (!x122) (K false S19) (CallA P (N Fn.law02_spoil) [x90] S19 (retT [] fun (S20 : St) => setI (IntKind.i64.wrap (x8 + (1 : Int))) fun x50 => k3 x7_1 x50 S20))))))))))))))))))) (CallA P (N Fn.topk_Heap_Worst) [x21a] S6 (retT [(.agg [(.int .i64), (.int .u64), (.int .u64)]), (.one .bool)] fun (x129a_a : Int) (x129a_b : Int) (x129a_c : Int) (x129b : Bool) (S21 : St) => newS S21 (.cells [(V.int .i64 0), (V.int .u64 0), (V.int .u64 0)] true) fun S22 => ifS (storeV S22 3 (V.ptr S21.next 0) (V.agg [(V.int .i64 x129a_a), (V.int .u64 x129a_b), (V.int .u64 x129a_c)])) fun S23 => CallA P (N Fn.law02_awake) [] S23 (retT [(.one .bool)] fun (x132 : Bool) (S24 : St) => ifC x132 (∃ x136 : Int, lenV S24 2 x1 = some (V.int .i64 x136) ∧ ifC (x129b == (decide ((0 : Int) < x136))) (CallA P (N Fn.topk_Heap_Len) [x21a] S24 (retT [(.one (.int .i64))] fun (x142 : Int) (S25 : St) => ∃ x144 : Int, lenV S25 2 x7 = some (V.int .i64 x144) ∧ K (decide (x142 = x144)) S25)) (K false S24)) (K false S24))))) V.nilSlice 0 S5)))))
abbrev law02_TopkOffers.Ok (P : Program) (N : Nat → Nat) : Prop := Reads P (N Fn.law02_TopkOffers) [(2, (.dt (.one (.int .i64))), []), (1, .no, [(.one .bool)]), (2, .no, [(.one .any), (.one (.int .i64))]), (11, .no, [(.one .bool)]), (20, (.dt (.one (.int .i64))), []), (2, (.dt (.one (.int .i64))), []), (6, (.dt (.agg [(.int .i64), (.int .u64), (.int .u64)])), []), (4, (.dt (.agg [(.int .i64), (.int .u64), (.int .u64)])), []), (0, .no, [(.one .bool)]), (6, (.dt (.agg [(.int .i64), (.int .u64), (.int .u64)])), []), (0, .no, [(.one .bool)]), (8, (.dt (.agg [(.int .i64), (.int .u64), (.int .u64)])), []), (0, .no, [(.one .any)]), (1, .no, [(.one .any)]), (2, .no, [(.agg [(.int .i64), (.int .u64), (.int .u64)]), (.one .bool)]), (7, .no, [(.one .any)]), (4, (.dt (.agg [(.int .i64), (.int .u64), (.int .u64)])), []), (2, (.dt (.one (.int .i64))), []), (2, (.dt (.agg [(.int .i64), (.int .u64), (.int .u64)])), []), (5, (.dt (.one (.int .i64))), []), (0, .no, [(.one (.int .i64))]), (5, (.dt (.one (.int .i64))), []), (2, .no, [(.one .bool)]), (5, .no, [(.one .bool)]), (9, .no, [(.agg [(.int .i64), (.int .u64), (.int .u64)]), (.one .bool)]), (6, .no, [(.one .bool)]), (3, (.dt (.one (.int .i64))), []), (5, .no, [(.one (.int .i64))]), (1, (.dt (.one (.int .i64))), [])] [(6, [(29, (.one .bool))]), (1, []), (8, [(9, (.one .bool))]), (3, [(7, (.one .any))])] [[(7, (.one .any)), (8, (.one (.int .i64)))]] (fun A T (x0 : Int) (x1 : V) (S : St) (K : Bool → St → Prop) => wpT P (envP P) T (endT A.results [(.one .bool)] K) (frT A [(V.int .i64 x0), x1]) S) (fun x0 x1 S K => law02_TopkOffers.p P N x0 x1 S K)
theorem law02_TopkOffers.run {P : Program} {N : Nat → Nat} (hF : law02_TopkOffers.Ok P N) {x0 : Int} {x1 : V} {S : St} {K : Bool → St → Prop} (h : law02_TopkOffers.p P N x0 x1 S K) : CallA P (N Fn.law02_TopkOffers) [(V.int .i64 x0), x1] S (retT [(.one .bool)] K) := hF.run (fun q => q x0 x1 S K) h rfl

def law02_TopkNil.p (P : Program) (N : Nat → Nat) (x0_a : Int) (x0_b : Int) (x0_c : Int) (S : St) (K : Bool → St → Prop) : Prop :=
  newS S (.cells [(V.int .i64 x0_a), (V.int .u64 x0_b), (V.int .u64 x0_c)] true) fun S1 => CallA P (N Fn.topk_Heap_Worst) [V.nilPtr] S1 (retT [(.agg [(.int .i64), (.int .u64), (.int .u64)]), (.one .bool)] fun (x8a_a : Int) (x8a_b : Int) (x8a_c : Int) (x8b : Bool) (S2 : St) => newS S2 (.cells [(V.int .i64 0), (V.int .u64 0), (V.int .u64 0)] true) fun S3 => ifS (storeV S3 3 (V.ptr S2.next 0) (V.agg [(V.int .i64 x8a_a), (V.int .u64 x8a_b), (V.int .u64 x8a_c)])) fun S4 => CallA P (N Fn.law02_awake) [] S4 (retT [(.one .bool)] fun (x11 : Bool) (S5 : St) => ifC x11 (∃ x14_a x14_b x14_c : Int, loadNV S5 3 (V.ptr S.next 0) = some (V.agg [(V.int .i64 x14_a), (V.int .u64 x14_b), (V.int .u64 x14_c)]) ∧ CallA P (N Fn.topk_Heap_Offer) [V.nilPtr, (V.agg [(V.int .i64 x14_a), (V.int .u64 x14_b), (V.int .u64 x14_c)])] S5 (retT [(.one .bool)] fun (x15 : Bool) (S6 : St) => ifC (!x15) (CallA P (N Fn.topk_Heap_Len) [V.nilPtr] S6 (retT [(.one (.int .i64))] fun (x20 : Int) (S7 : St) => ifC (decide (x20 = (0 : Int))) (CallA P (N Fn.topk_Heap_Full) [V.nilPtr] S7 (retT [(.one .bool)] fun (x25 : Bool) (S8 : St) => ifC (!x25) (∃ x29_a x29_b x29_c : Int, loadNV S8 3 (V.ptr S2.next 0) = some (V.agg [(V.int .i64 x29_a), (V.int .u64 x29_b), (V.int .u64 x29_c)]) ∧ ∃ x31 : Bool, eqV 6 [1, 1, 1] (V.agg [(V.int .i64 x29_a), (V.int .u64 x29_b), (V.int .u64 x29_c)]) (V.agg [(V.int .i64 0), (V.int .u64 0), (V.int .u64 0)]) = some x31 ∧ ifC x31 (ifC (!x8b) (CallA P (N Fn.topk_Heap_List) [V.nilPtr] S8 (retT [(.one .any)] fun (x39 : V) (S9 : St) => ∃ x40 : Int, lenV S9 2 x39 = some (V.int .i64 x40) ∧ K (decide (x40 = (0 : Int))) S9)) (K false S8)) (K false S8)) (K false S8))) (K false S7))) (K false S6))) (K false S5)))
abbrev law02_TopkNil.Ok (P : Program) (N : Nat → Nat) : Prop := Reads P (N Fn.law02_TopkNil) [(4, .no, [(.agg [(.int .i64), (.int .u64), (.int .u64)]), (.one .bool)]), (6, .no, [(.one .bool)]), (2, (.dt (.agg [(.int .i64), (.int .u64), (.int .u64)])), []), (0, .no, [(.one .bool)]), (4, .no, [(.one (.int .i64))]), (4, .no, [(.one .bool)]), (3, (.dt (.agg [(.int .i64), (.int .u64), (.int .u64)])), []), (0, (.dt (.agg [(.int .i64), (.int .u64), (.int .u64)])), []), (8, .no, [(.one .any)]), (0, (.dt (.one (.int .i64))), [])] [] [] (fun A T (x0_a : Int) (x0_b : Int) (x0_c : Int) (S : St) (K : Bool → St → Prop) => wpT P (envP P) T (endT A.results [(.one .bool)] K) (frT A [(V.agg [(V.int .i64 x0_a), (V.int .u64 x0_b), (V.int .u64 x0_c)])]) S) (fun x0_a x0_b x0_c S K => law02_TopkNil.p P N x0_a x0_b x0_c S K)
theorem law02_TopkNil.run {P : Program} {N : Nat → Nat} (hF : law02_TopkNil.Ok P N) {x0_a : Int} {x0_b : Int} {x0_c : Int} {S : St} {K : Bool → St → Prop} (h : law02_TopkNil.p P N x0_a x0_b x0_c S K) : CallA P (N Fn.law02_TopkNil) [(V.agg [(V.int .i64 x0_a), (V.int .u64 x0_b), (V.int .u64 x0_c)])] S (retT [(.one .bool)] K) := hF.run (fun q => q x0_a x0_b x0_c S K) h rfl

def law02_awake.p (P : Program) (N : Nat → Nat) (S : St) (K : Bool → St → Prop) : Prop :=
  CallA P (N Fn.topk_New) [(V.int .i64 2)] S (retT [(.one .any), (.one (.int .i64))] fun (x15a : V) (x15b : Int) (S1 : St) => CallA P (N Fn.topk_New) [(V.int .i64 0)] S1 (retT [(.one .any), (.one (.int .i64))] fun (x19a : V) (x19b : Int) (S2 : St) => Join0 (fun (k1 : St → Prop) => ∃ x23 : Bool, eqV 1 [] x15a V.nilPtr = some x23 ∧ ifC x23 (K false S2) (ifC (!decide (x15b = (0 : Int))) (K false S2) (ifC (!decide (x19b = (1 : Int))) (K false S2) (k1  S2)))) (fun (S3 : St) => CallA P (N Fn.law02_hit) [(V.int .i64 1), (V.int .u64 9)] S3 (retT [(.agg [(.int .i64), (.int .u64), (.int .u64)])] fun (x33_a : Int) (x33_b : Int) (x33_c : Int) (S4 : St) => CallA P (N Fn.topk_Heap_Offer) [x15a, (V.agg [(V.int .i64 x33_a), (V.int .u64 x33_b), (V.int .u64 x33_c)])] S4 (retT [(.one .bool)] fun (x34 : Bool) (S5 : St) => CallA P (N Fn.law02_hit) [(V.int .i64 2), (V.int .u64 4)] S5 (retT [(.agg [(.int .i64), (.int .u64), (.int .u64)])] fun (x36_a : Int) (x36_b : Int) (x36_c : Int) (S6 : St) => CallA P (N Fn.topk_Heap_Offer) [x15a, (V.agg [(V.int .i64 x36_a), (V.int .u64 x36_b), (V.int .u64 x36_c)])] S6 (retT [(.one .bool)] fun (x37 : Bool) (S7 : St) => CallA P (N Fn.law02_hit) [(V.int .i64 3), (V.int .u64 9)] S7 (retT [(.agg [(.int .i64), (.int .u64), (.int .u64)])] fun (x39_a : Int) (x39_b : Int) (x39_c : Int) (S8 : St) => CallA P (N Fn.topk_Heap_Offer) [x15a, (V.agg [(V.int .i64 x39_a), (V.int .u64 x39_b), (V.int .u64 x39_c)])] S8 (retT [(.one .bool)] fun (x40 : Bool) (S9 : St) => CallA P (N Fn.law02_hit) [(V.int .i64 3), (V.int .u64 4)] S9 (retT [(.agg [(.int .i64), (.int .u64), (.int .u64)])] fun (x42_a : Int) (x42_b : Int) (x42_c : Int) (S10 : St) => CallA P (N Fn.topk_Heap_Offer) [x15a, (V.agg [(V.int .i64 x42_a), (V.int .u64 x42_b), (V.int .u64 x42_c)])] S10 (retT [(.one .bool)] fun (x43 : Bool) (S11 : St) => CallA P (N Fn.topk_Heap_Worst) [x15a] S11 (retT [(.agg [(.int .i64), (.int .u64), (.int .u64)]), (.one .bool)] fun (x46a_a : Int) (x46a_b : Int) (x46a_c : Int) (x46b : Bool) (S12 : St) => newS S12 (.cells [(V.int .i64 0), (V.int .u64 0), (V.int .u64 0)] true) fun S13 => ifS (storeV S13 3 (V.ptr S12.next 0) (V.agg [(V.int .i64 x46a_a), (V.int .u64 x46a_b), (V.int .u64 x46a_c)])) fun S14 => CallA P (N Fn.topk_Heap_List) [x15a] S14 (retT [(.one .any)] fun (x50 : V) (S15 : St) => CallA P (N Fn.law02_hit) [(V.int .i64 5), (V.int .u64 1)] S15 (retT [(.agg [(.int .i64), (.int .u64), (.int .u64)])] fun (x52_a : Int) (x52_b : Int) (x52_c : Int) (S16 : St) => CallA P (N Fn.law02_hit) [(V.int .i64 4), (V.int .u64 9)] S16 (retT [(.agg [(.int .i64), (.int .u64), (.int .u64)])] fun (x53_a : Int) (x53_b : Int) (x53_c : Int) (S17 : St) => newS S17 (.cells [(V.int .i64 x52_a), (V.int .u64 x52_b), (V.int .u64 x52_c), (V.int .i64 x53_a), (V.int .u64 x53_b), (V.int .u64 x53_c)] true) fun S18 => CallA P (N Fn.law02_hit) [(V.int .i64 6), (V.int .u64 1)] S18 (retT [(.agg [(.int .i64), (.int .u64), (.int .u64)])] fun (x55_a : Int) (x55_b : Int) (x55_c : Int) (S19 : St) => CallA P (N Fn.law02_hit) [(V.int .i64 5), (V.int .u64 1)] S19 (retT [(.agg [(.int .i64), (.int .u64), (.int .u64)])] fun (x56_a : Int) (x56_b : Int) (x56_c : Int) (S20 : St) => newS S20 (.cells [(V.int .i64 x55_a), (V.int .u64 x55_b), (V.int .u64 x55_c), (V.int .i64 x56_a), (V.int .u64 x56_b), (V.int .u64 x56_c)] true) fun S21 => V.cells (V.slice S17.next 0 2 2 3 true) = [(V.slice S17.next 0 2 2 3 true)] ∧ V.cells V.nilSlice = [V.nilSlice] ∧ V.cells (V.slice S20.next 0 2 2 3 true) = [(V.slice S20.next 0 2 2 3 true)] ∧ newS S21 (.cells [(V.slice S17.next 0 2 2 3 true), V.nilSlice, (V.slice S20.next 0 2 2 3 true)] true) fun S22 => CallA P (N Fn.topk_Merge) [(V.int .i64 3), (V.slice S21.next 0 3 3 1 true)] S22 (retT [(.one .any), (.one (.int .i64))] fun (x59a : V) (x59b : Int) (S23 : St) => ifC x34 (ifC x37 (ifC (!x40) (ifC x43 (ifC x46b (∃ x77_a x77_b x77_c : Int, loadNV S23 3 (V.ptr S12.next 0) = some (V.agg [(V.int .i64 x77_a), (V.int .u64 x77_b), (V.int .u64 x77_c)]) ∧ CallA P (N Fn.law02_hit) [(V.int .i64 3), (V.int .u64 4)] S23 (retT [(.agg [(.int .i64), (.int .u64), (.int .u64)])] fun (x78_a : Int) (x78_b : Int) (x78_c : Int) (S24 : St) => Same (S12.next :: []) S23 S24 ∧ ∃ x79 : Bool, eqV 6 [1, 1, 1] (V.agg [(V.int .i64 x77_a), (V.int .u64 x77_b), (V.int .u64 x77_c)]) (V.agg [(V.int .i64 x78_a), (V.int .u64 x78_b), (V.int .u64 x78_c)]) = some x79 ∧ ifC x79 (CallA P (N Fn.law02_hit) [(V.int .i64 2), (V.int .u64 4)] S24 (retT [(.agg [(.int .i64), (.int .u64), (.int .u64)])] fun (x83_a : Int) (x83_b : Int) (x83_c : Int) (S25 : St) => Same (S12.next :: []) S24 S25 ∧ CallA P (N Fn.law02_hit) [(V.int .i64 3), (V.int .u64 4)] S25 (retT [(.agg [(.int .i64), (.int .u64), (.int .u64)])] fun (x84_a : Int) (x84_b : Int) (x84_c : Int) (S26 : St) => Same (S12.next :: []) S25 S26 ∧ newS S26 (.cells [(V.int .i64 x83_a), (V.int .u64 x83_b), (V.int .u64 x83_c), (V.int .i64 x84_a), (V.int .u64 x84_b), (V.int .u64 x84_c)] true) fun S27 => Same (S12.next :: []) S26 S27 ∧ CallA P (N Fn.ref02_Same) [x50, (V.slice S26.next 0 2 2 3 true)] S27 (retT [(.one .bool)] fun (x86 : Bool) (S28 : St) => Same (S12.next :: []) S27 S28 ∧ ifC x86 (ifC (decide (x59b = (0 : Int))) (CallA P (N Fn.law02_hit) [(V.int .i64 5), (V.int .u64 1)] S28 (retT [(.agg [(.int .i64), (.int .u64), (.int .u64)])] fun (x94_a : Int) (x94_b : Int) (x94_c : Int) (S29 : St) => Same (S12.next :: []) S28 S29 ∧ CallA P (N Fn.law02_hit) [(V.int .i64 5), (V.int .u64 1)] S29 (retT [(.agg [(.int .i64), (.int .u64), (.int .u64)])] fun (x95_a : Int) (x95_b : Int) (x95_c : Int) (S30 : St) => Same (S12.next :: []) S29 S30 ∧ CallA P (N Fn.law02_hit) [(V.int .i64 6), (V.int .u64 1)] S30 (retT [(.agg [(.int .i64), (.int .u64), (.int .u64)])] fun (x96_a : Int) (x96_b : Int) (x96_c : Int) (S31 : St) => Same (S12.next :: []) S30 S31 ∧ newS S31 (.cells [(V.int .i64 x94_a), (V.int .u64 x94_b), (V.int .u64 x94_c), (V.int .i64 x95_a), (V.int .u64 x95_b), (V.int .u64 x95_c), (V.int .i64 x96_a), (V.int .u64 x96_b), (V.int .u64 x96_c)] true) fun S32 => Same (S12.next :: []) S31 S32 ∧ CallA P (N Fn.ref02_Same) [x59a, (V.slice S31.next 0 3 3 3 true)] S32 (retT [(.one .bool)] fun (x98 : Bool) (S33 : St) => Same (S12.next :: []) S32 S33 ∧ ifC x98 (CallA P (N Fn.law02_hit) [(V.int .i64 1), (V.int .u64 5)] S33 (retT [(.agg [(.int .i64), (.int .u64), (.int .u64)])] fun (x101_a : Int) (x101_b : Int) (x101_c : Int) (S34 : St) => Same (S12.next :: []) S33 S34 ∧ CallA P (N Fn.law02_hit) [(V.int .i64 2), (V.int .u64 5)] S34 (retT [(.agg [(.int .i64), (.int .u64), (.int .u64)])] fun (x102_a : Int) (x102_b : Int) (x102_c : Int) (S35 : St) => Same (S12.next :: []) S34 S35 ∧ CallA P (N Fn.topk_Less) [(V.agg [(V.int .i64 x101_a), (V.int .u64 x101_b), (V.int .u64 x101_c)]), (V.agg [(V.int .i64 x102_a), (V.int .u64 x102_b), (V.int .u64 x102_c)])] S35 (retT [(.one .bool)] fun (x103 : Bool) (S36 : St) => Same (S12.next :: []) S35 S36 ∧ K x103 S36)))) (K false S33)))))) (K false S28)) (K false S28))))) (K false S24))) (K false S23)) (K false S23)) (K false S23)) (K false S23)) (K false S23)))))))))))))))))))
abbrev law02_awake.Ok (P : Program) (N : Nat → Nat) : Prop := Reads P (N Fn.law02_awake) [(1, .no, [(.one .any), (.one (.int .i64))]), (5, .no, [(.one .any), (.one (.int .i64))]), (17, .no, [(.agg [(.int .i64), (.int .u64), (.int .u64)])]), (0, .no, [(.one .bool)]), (2, .no, [(.agg [(.int .i64), (.int .u64), (.int .u64)])]), (0, .no, [(.one .bool)]), (2, .no, [(.agg [(.int .i64), (.int .u64), (.int .u64)])]), (0, .no, [(.one .bool)]), (2, .no, [(.agg [(.int .i64), (.int .u64), (.int .u64)])]), (0, .no, [(.one .bool)]), (2, .no, [(.agg [(.int .i64), (.int .u64), (.int .u64)]), (.one .bool)]), (7, .no, [(.one .any)]), (1, .no, [(.agg [(.int .i64), (.int .u64), (.int .u64)])]), (0, .no, [(.agg [(.int .i64), (.int .u64), (.int .u64)])]), (0, (.dt (.agg [(.int .i64), (.int .u64), (.int .u64), (.int .i64), (.int .u64), (.int .u64)])), []), (0, .no, [(.agg [(.int .i64), (.int .u64), (.int .u64)])]), (0, .no, [(.agg [(.int .i64), (.int .u64), (.int .u64)])]), (0, (.dt (.agg [(.int .i64), (.int .u64), (.int .u64), (.int .i64), (.int .u64), (.int .u64)])), []), (0, (.dt (.agg [.any, .any, .any])), []), (0, .no, [(.one .any), (.one (.int .i64))]), (20, (.dt (.agg [(.int .i64), (.int .u64), (.int .u64)])), []), (0, .no, [(.agg [(.int .i64), (.int .u64), (.int .u64)])]), (4, .no, [(.agg [(.int .i64), (.int .u64), (.int .u64)])]), (0, .no, [(.agg [(.int .i64), (.int .u64), (.int .u64)])]), (0, (.dt (.agg [(.int .i64), (.int .u64), (.int .u64), (.int .i64), (.int .u64), (.int .u64)])), []), (0, .no, [(.one .bool)]), (7, .no, [(.agg [(.int .i64), (.int .u64), (.int .u64)])]), (0, .no, [(.agg [(.int .i64), (.int .u64), (.int .u64)])]), (0, .no, [(.agg [(.int .i64), (.int .u64), (.int .u64)])]), (0, (.dt (.agg [(.int .i64), (.int .u64), (.int .u64), (.int .i64), (.int .u64), (.int .u64), (.int .i64), (.int .u64), (.int .u64)])), []), (0, .no, [(.one .bool)]), (2, .no, [(.agg [(.int .i64), (.int .u64), (.int .u64)])]), (0, .no, [(.agg [(.int .i64), (.int .u64), (.int .u64)])]), (0, .no, [(.one .bool)])] [(3, [])] [] (fun A T (S : St) (K : Bool → St → Prop) => wpT P (envP P) T (endT A.results [(.one .bool)] K) (frT A []) S) (fun  S K => law02_awake.p P N  S K)
theorem law02_awake.run {P : Program} {N : Nat → Nat} (hF : law02_awake.Ok P N) {S : St} {K : Bool → St → Prop} (h : law02_awake.p P N  S K) : CallA P (N Fn.law02_awake) [] S (retT [(.one .bool)] K) := hF.run (fun q => q  S K) h rfl

def law02_total.p (P : Program) (N : Nat → Nat) (x0 : V) (S : St) (K : Int → St → Prop) : Prop :=
  ∃ x6 : Int, lenV S 2 x0 = some (V.int .i64 x6) ∧ Loop2 (fun (k1 : Int → Int → St → Prop) (x3 : Int) (x4 : Int) (S1 : St) => Join0 (fun (k2 : St → Prop) => ∃ x9 : Int, lenV S1 2 x0 = some (V.int .i64 x9) ∧ ifC (decide (x4 < x9)) (ifC (decide (x3 ≤ (3000 : Int))) (k2  S1) (K x3 S1)) (K x3 S1)) (fun (S2 : St) => ifS (idxAddrV 1 x0 (V.int .i64 x4)) fun x20 => ifS (loadV S2 x20) fun x21 => ∃ x22 : Int, lenV S2 2 x21 = some (V.int .i64 x22) ∧ setI (IntKind.i64.wrap (x3 + x22)) fun x23 => setI (IntKind.i64.wrap (x4 + (1 : Int))) fun x16 => k1 x23 x16 S2)) x6 0 S
abbrev law02_total.Ok (P : Program) (N : Nat → Nat) : Prop := Reads P (N Fn.law02_total) [(2, (.dt (.one (.int .i64))), []), (4, (.dt (.one (.int .i64))), []), (10, (.dt (.one (.int .i64))), [])] [(4, [])] [[(3, (.one (.int .i64))), (4, (.one (.int .i64)))]] (fun A T (x0 : V) (S : St) (K : Int → St → Prop) => wpT P (envP P) T (endT A.results [(.one (.int .i64))] K) (frT A [x0]) S) (fun x0 S K => law02_total.p P N x0 S K)
theorem law02_total.run {P : Program} {N : Nat → Nat} (hF : law02_total.Ok P N) {x0 : V} {S : St} {K : Int → St → Prop} (h : law02_total.p P N x0 S K) : CallA P (N Fn.law02_total) [x0] S (retT [(.one (.int .i64))] K) := hF.run (fun q => q x0 S K) h rfl

def law02_hit.p (P : Program) (N : Nat → Nat) (x0 : Int) (x1 : Int) (S : St) (K : Int → Int → Int → St → Prop) : Prop :=
  newS S (.cells [(V.int .i64 0), (V.int .u64 0), (V.int .u64 0)] true) fun S1 => ifS (storeV S1 3 (V.ptr S.next 0) (V.agg [(V.int .i64 x0), (V.int .u64 0), (V.int .u64 x1)])) fun S2 => ∃ xr_a xr_b xr_c : Int, cellNV S2 3 (V.ptr S.next 0) = some (V.agg [(V.int .i64 xr_a), (V.int .u64 xr_b), (V.int .u64 xr_c)]) ∧ K xr_a xr_b xr_c S2
abbrev law02_hit.Ok (P : Program) (N : Nat → Nat) : Prop := Reads P (N Fn.law02_hit) [(3, (.dt (.agg [(.int .u64), (.int .u64)])), []), (0, (.dt (.agg [(.int .i64), (.int .u64), (.int .u64)])), [])] [] [] (fun A T (x0 : Int) (x1 : Int) (S : St) (K : Int → Int → Int → St → Prop) => wpT P (envP P) T (endT A.results [(.agg [(.int .i64), (.int .u64), (.int .u64)])] K) (frT A [(V.int .i64 x0), (V.int .u64 x1)]) S) (fun x0 x1 S K => law02_hit.p P N x0 x1 S K)
theorem law02_hit.run {P : Program} {N : Nat → Nat} (hF : law02_hit.Ok P N) {x0 : Int} {x1 : Int} {S : St} {K : Int → Int → Int → St → Prop} (h : law02_hit.p P N x0 x1 S K) : CallA P (N Fn.law02_hit) [(V.int .i64 x0), (V.int .u64 x1)] S (retT [(.agg [(.int .i64), (.int .u64), (.int .u64)])] K) := hF.run (fun q => q x0 x1 S K) h rfl

def law02_spoil.p (P : Program) (N : Nat → Nat) (x0 : V) (S : St) (K : St → Prop) : Prop :=
  ∃ x5 : Int, capV x0 = some (V.int .i64 x5) ∧ ifS (sliceSlV 3 x0 none (some (V.int .i64 x5)) none) fun x6 => Loop1 (fun (k1 : Int → St → Prop) (x2 : Int) (S1 : St) => ∃ x9 : Int, lenV S1 2 x6 = some (V.int .i64 x9) ∧ ifC (decide (x2 < x9)) (CallA P (N Fn.law02_hit) [(V.int .i64 (-9)), (V.int .u64 9)] S1 (retT [(.agg [(.int .i64), (.int .u64), (.int .u64)])] fun (x15_a : Int) (x15_b : Int) (x15_c : Int) (S2 : St) => ifS (idxAddrV 3 x6 (V.int .i64 x2)) fun x16 => ifS (storeV S2 3 x16 (V.agg [(V.int .i64 x15_a), (V.int .u64 x15_b), (V.int .u64 x15_c)])) fun S3 => setI (IntKind.i64.wrap (x2 + (1 : Int))) fun x12 => k1 x12 S3)) (K  S1)) 0 S
abbrev law02_spoil.Ok (P : Program) (N : Nat → Nat) : Prop := Reads P (N Fn.law02_spoil) [(2, (.dt (.one (.int .i64))), []), (5, (.dt (.one (.int .i64))), []), (3, .no, [(.agg [(.int .i64), (.int .u64), (.int .u64)])])] [] [[(2, (.one (.int .i64)))]] (fun A T (x0 : V) (S : St) (K : St → Prop) => wpT P (envP P) T (endT A.results [] K) (frT A [x0]) S) (fun x0 S K => law02_spoil.p P N x0 S K)
theorem law02_spoil.run {P : Program} {N : Nat → Nat} (hF : law02_spoil.Ok P N) {x0 : V} {S : St} {K : St → Prop} (h : law02_spoil.p P N x0 S K) : CallA P (N Fn.law02_spoil) [x0] S (retT [] K) := hF.run (fun q => q x0 S K) h rfl

end Go.Th.L
end

section
/- Functions of math, read without frames (printed by tools/lib.py). -/
set_option linter.unusedVariables false
set_option maxRecDepth 100000
set_option maxHeartbeats 2000000
namespace Go.Th.L
open Go Go.Th

def math_bits_Len.p (P : Program) (N : Nat → Nat) (x0 : Int) (S : St) (K : Int → St → Prop) : Prop :=
  CallA P (N Fn.math_bits_Len64) [(V.int .u64 x0)] S (retT [(.one (.int .i64))] fun (x7 : Int) (S1 : St) => K x7 S1)
abbrev math_bits_Len.Ok (P : Program) (N : Nat → Nat) : Prop := Reads P (N Fn.math_bits_Len) [(3, .no, [(.one (.int .i64))]), (2, .no, [(.one (.int .i64))])] [] [] (fun A T (x0 : Int) (S : St) (K : Int → St → Prop) => wpT P (envP P) T (endT A.results [(.one (.int .i64))] K) (frT A [(V.int .u64 x0)]) S) (fun x0 S K => math_bits_Len.p P N x0 S K)
theorem math_bits_Len.run {P : Program} {N : Nat → Nat} (hF : math_bits_Len.Ok P N) {x0 : Int} {S : St} {K : Int → St → Prop} (h : math_bits_Len.p P N x0 S K) : CallA P (N Fn.math_bits_Len) [(V.int .u64 x0)] S (retT [(.one (.int .i64))] K) := hF.run (fun q => q x0 S K) h rfl

def math_bits_Len32.p (P : Program) (N : Nat → Nat) (x0 : Int) (S : St) (K : Int → St → Prop) : Prop :=
  Join2 (fun (k1 : Int → Int → St → Prop) => ifC (decide ((65536 : Int) ≤ x0)) (0 ≤ (16 : Int) ∧ setI (Int.fdiv x0 (2 ^ (min (Int.toNat (16 : Int)) (IntKind.bits .u32)))) fun x6 => k1 x6 16 S) (k1 x0 0 S)) (fun (x0_1 : Int) (x2 : Int) (S1 : St) => Join2 (fun (k2 : Int → Int → St → Prop) => ifC (decide ((256 : Int) ≤ x0_1)) (0 ≤ (8 : Int) ∧ setI (Int.fdiv x0_1 (2 ^ (min (Int.toNat (8 : Int)) (IntKind.bits .u32)))) fun x10 => setI (IntKind.i64.wrap (x2 + (8 : Int))) fun x12 => k2 x10 x12 S1) (k2 x0_1 x2 S1)) (fun (x0_2 : Int) (x2_1 : Int) (S2 : St) => setI (IntKind.u8.wrap x0_2) fun x15 => ∃ x16 : Int, idxStrV (V.str ([0, 1, 2, 2, 3, 3, 3, 3, 4, 4, 4, 4, 4, 4, 4, 4, 5, 5, 5, 5, 5, 5, 5, 5, 5, 5, 5, 5, 5, 5, 5, 5, 6, 6, 6, 6, 6, 6, 6, 6, 6, 6, 6, 6, 6, 6, 6, 6, 6, 6, 6, 6, 6, 6, 6, 6, 6, 6, 6, 6, 6, 6, 6, 6, 7, 7, 7, 7, 7, 7, 7, 7, 7, 7, 7, 7, 7, 7, 7, 7, 7, 7, 7, 7, 7, 7, 7, 7, 7, 7, 7, 7, 7, 7, 7, 7, 7, 7, 7, 7, 7, 7, 7, 7, 7, 7, 7, 7, 7, 7, 7, 7, 7, 7, 7, 7, 7, 7, 7, 7, 7, 7, 7, 7, 7, 7, 7, 7, 8, 8, 8, 8, 8, 8, 8, 8, 8, 8, 8, 8, 8, 8, 8, 8, 8, 8, 8, 8, 8, 8, 8, 8, 8, 8, 8, 8, 8, 8, 8, 8, 8, 8, 8, 8, 8, 8, 8, 8, 8, 8, 8, 8, 8, 8, 8, 8, 8, 8, 8, 8, 8, 8, 8, 8, 8, 8, 8, 8, 8, 8, 8, 8, 8, 8, 8, 8, 8, 8, 8, 8, 8, 8, 8, 8, 8, 8, 8, 8, 8, 8, 8, 8, 8, 8, 8, 8, 8, 8, 8, 8, 8, 8, 8, 8, 8, 8, 8, 8, 8, 8, 8, 8, 8, 8, 8, 8, 8, 8, 8, 8, 8, 8, 8, 8, 8, 8, 8, 8, 8, 8, 8, 8, 8, 8, 8, 8] : List UInt8)) (V.int .u8 x15) = some (V.int .u8 x16) ∧ setI (IntKind.i64.wrap x16) fun x17 => setI (IntKind.i64.wrap (x2_1 + x17)) fun x18 => K x18 S2))
abbrev math_bits_Len32.Ok (P : Program) (N : Nat → Nat) : Prop := Reads P (N Fn.math_bits_Len32) [(18, (.dt (.one (.int .u8))), [])] [(1, [(0, (.one (.int .u32))), (2, (.one (.int .i64)))]), (2, [(0, (.one (.int .u32))), (2, (.one (.int .i64)))])] [] (fun A T (x0 : Int) (S : St) (K : Int → St → Prop) => wpT P (envP P) T (endT A.results [(.one (.int .i64))] K) (frT A [(V.int .u32 x0)]) S) (fun x0 S K => math_bits_Len32.p P N x0 S K)
theorem math_bits_Len32.run {P : Program} {N : Nat → Nat} (hF : math_bits_Len32.Ok P N) {x0 : Int} {S : St} {K : Int → St → Prop} (h : math_bits_Len32.p P N x0 S K) : CallA P (N Fn.math_bits_Len32) [(V.int .u32 x0)] S (retT [(.one (.int .i64))] K) := hF.run (fun q => q x0 S K) h rfl

def math_bits_Len64.p (P : Program) (N : Nat → Nat) (x0 : Int) (S : St) (K : Int → St → Prop) : Prop :=
  Join2 (fun (k1 : Int → Int → St → Prop) => ifC (decide ((4294967296 : Int) ≤ x0)) (0 ≤ (32 : Int) ∧ setI (Int.fdiv x0 (2 ^ (min (Int.toNat (32 : Int)) (IntKind.bits .u64)))) fun x6 => k1 x6 32 S) (k1 x0 0 S)) (fun (x0_1 : Int) (x2 : Int) (S1 : St) => Join2 (fun (k2 : Int → Int → St → Prop) => ifC (decide ((65536 : Int) ≤ x0_1)) (0 ≤ (16 : Int) ∧ setI (Int.fdiv x0_1 (2 ^ (min (Int.toNat (16 : Int)) (IntKind.bits .u64)))) fun x10 => setI (IntKind.i64.wrap (x2 + (16 : Int))) fun x12 => k2 x10 x12 S1) (k2 x0_1 x2 S1)) (fun (x0_2 : Int) (x2_1 : Int) (S2 : St) => Join2 (fun (k3 : Int → Int → St → Prop) => ifC (decide ((256 : Int) ≤ x0_2)) (0 ≤ (8 : Int) ∧ setI (Int.fdiv x0_2 (2 ^ (min (Int.toNat (8 : Int)) (IntKind.bits .u64)))) fun x16 => setI (IntKind.i64.wrap (x2_1 + (8 : Int))) fun x18 => k3 x16 x18 S2) (k3 x0_2 x2_1 S2)) (fun (x0_3 : Int) (x2_2 : Int) (S3 : St) => setI (IntKind.u8.wrap x0_3) fun x21 => ∃ x22 : Int, idxStrV (V.str ([0, 1, 2, 2, 3, 3, 3, 3, 4, 4, 4, 4, 4, 4, 4, 4, 5, 5, 5, 5, 5, 5, 5, 5, 5, 5, 5, 5, 5, 5, 5, 5, 6, 6, 6, 6, 6, 6, 6, 6, 6, 6, 6, 6, 6, 6, 6, 6, 6, 6, 6, 6, 6, 6, 6, 6, 6, 6, 6, 6, 6, 6, 6, 6, 7, 7, 7, 7, 7, 7, 7, 7, 7, 7, 7, 7, 7, 7, 7, 7, 7, 7, 7, 7, 7, 7, 7, 7, 7, 7, 7, 7, 7, 7, 7, 7, 7, 7, 7, 7, 7, 7, 7, 7, 7, 7, 7, 7, 7, 7, 7, 7, 7, 7, 7, 7, 7, 7, 7, 7, 7, 7, 7, 7, 7, 7, 7, 7, 8, 8, 8, 8, 8, 8, 8, 8, 8, 8, 8, 8, 8, 8, 8, 8, 8, 8, 8, 8, 8, 8, 8, 8, 8, 8, 8, 8, 8, 8, 8, 8, 8, 8, 8, 8, 8, 8, 8, 8, 8, 8, 8, 8, 8, 8, 8, 8, 8, 8, 8, 8, 8, 8, 8, 8, 8, 8, 8, 8, 8, 8, 8, 8, 8, 8, 8, 8, 8, 8, 8, 8, 8, 8, 8, 8, 8, 8, 8, 8, 8, 8, 8, 8, 8, 8, 8, 8, 8, 8, 8, 8, 8, 8, 8, 8, 8, 8, 8, 8, 8, 8, 8, 8, 8, 8, 8, 8, 8, 8, 8, 8, 8, 8, 8, 8, 8, 8, 8, 8, 8, 8, 8, 8, 8, 8, 8, 8] : List UInt8)) (V.int .u8 x21) = some (V.int .u8 x22) ∧ setI (IntKind.i64.wrap x22) fun x23 => setI (IntKind.i64.wrap (x2_2 + x23)) fun x24 => K x24 S3)))
abbrev math_bits_Len64.Ok (P : Program) (N : Nat → Nat) : Prop := Reads P (N Fn.math_bits_Len64) [(26, (.dt (.one (.int .u8))), [])] [(1, [(0, (.one (.int .u64))), (2, (.one (.int .i64)))]), (2, [(0, (.one (.int .u64))), (2, (.one (.int .i64)))]), (2, [(0, (.one (.int .u64))), (2, (.one (.int .i64)))])] [] (fun A T (x0 : Int) (S : St) (K : Int → St → Prop) => wpT P (envP P) T (endT A.results [(.one (.int .i64))] K) (frT A [(V.int .u64 x0)]) S) (fun x0 S K => math_bits_Len64.p P N x0 S K)
theorem math_bits_Len64.run {P : Program} {N : Nat → Nat} (hF : math_bits_Len64.Ok P N) {x0 : Int} {S : St} {K : Int → St → Prop} (h : math_bits_Len64.p P N x0 S K) : CallA P (N Fn.math_bits_Len64) [(V.int .u64 x0)] S (retT [(.one (.int .i64))] K) := hF.run (fun q => q x0 S K) h rfl

def math_bits_Mul64.p (P : Program) (N : Nat → Nat) (x0 : Int) (x1 : Int) (S : St) (K : Int → Int → St → Prop) : Prop :=
  setI (intBits .and .u64 x0 (4294967295 : Int)) fun x15 => 0 ≤ (32 : Int) ∧ setI (Int.fdiv x0 (2 ^ (min (Int.toNat (32 : Int)) (IntKind.bits .u64)))) fun x17 => setI (intBits .and .u64 x1 (4294967295 : Int)) fun x19 => 0 ≤ (32 : Int) ∧ setI (Int.fdiv x1 (2 ^ (min (Int.toNat (32 : Int)) (IntKind.bits .u64)))) fun x21 => setI (IntKind.u64.wrap (x15 * x19)) fun x24 => setI (IntKind.u64.wrap (x17 * x19)) fun x27 => 0 ≤ (32 : Int) ∧ setI (Int.fdiv x24 (2 ^ (min (Int.toNat (32 : Int)) (IntKind.bits .u64)))) fun x29 => setI (IntKind.u64.wrap (x27 + x29)) fun x30 => setI (intBits .and .u64 x30 (4294967295 : Int)) fun x32 => 0 ≤ (32 : Int) ∧ setI (Int.fdiv x30 (2 ^ (min (Int.toNat (32 : Int)) (IntKind.bits .u64)))) fun x34 => setI (IntKind.u64.wrap (x15 * x21)) fun x38 => setI (IntKind.u64.wrap (x32 + x38)) fun x39 => setI (IntKind.u64.wrap (x17 * x21)) fun x42 => setI (IntKind.u64.wrap (x42 + x34)) fun x44 => 0 ≤ (32 : Int) ∧ setI (Int.fdiv x39 (2 ^ (min (Int.toNat (32 : Int)) (IntKind.bits .u64)))) fun x46 => setI (IntKind.u64.wrap (x44 + x46)) fun x47 => setI (IntKind.u64.wrap (x0 * x1)) fun x50 => K x47 x50 S
abbrev math_bits_Mul64.Ok (P : Program) (N : Nat → Nat) : Prop := Reads P (N Fn.math_bits_Mul64) [] [] [] (fun A T (x0 : Int) (x1 : Int) (S : St) (K : Int → Int → St → Prop) => wpT P (envP P) T (endT A.results [(.one (.int .u64)), (.one (.int .u64))] K) (frT A [(V.int .u64 x0), (V.int .u64 x1)]) S) (fun x0 x1 S K => math_bits_Mul64.p P N x0 x1 S K)
theorem math_bits_Mul64.run {P : Program} {N : Nat → Nat} (hF : math_bits_Mul64.Ok P N) {x0 : Int} {x1 : Int} {S : St} {K : Int → Int → St → Prop} (h : math_bits_Mul64.p P N x0 x1 S K) : CallA P (N Fn.math_bits_Mul64) [(V.int .u64 x0), (V.int .u64 x1)] S (retT [(.one (.int .u64)), (.one (.int .u64))] K) := hF.run (fun q => q x0 x1 S K) h rfl

end Go.Th.L
end

section
/- Functions of ref02, read without frames (printed by tools/lib.py). -/
set_option linter.unusedVariables false
set_option maxRecDepth 100000
set_option maxHeartbeats 2000000
namespace Go.Th.L
open Go Go.Th

def ref02_Less.p (P : Program) (N : Nat → Nat) (x0_a : Int) (x0_b : Int) (x0_c : Int) (x1_a : Int) (x1_b : Int) (x1_c : Int) (S : St) (K : Bool → St → Prop) : Prop :=
  newS S (.cells [(V.int .i64 x0_a), (V.int .u64 x0_b), (V.int .u64 x0_c)] true) fun S1 => newS S1 (.cells [(V.int .i64 x1_a), (V.int .u64 x1_b), (V.int .u64 x1_c)] true) fun S2 => ∃ x7 : Int, loadV S2 (V.ptr S.next 1) = some (V.int .u64 x7) ∧ ∃ x10 : Int, loadV S2 (V.ptr S1.next 1) = some (V.int .u64 x10) ∧ ifC (!decide (x7 = x10)) (∃ x14 : Int, loadV S2 (V.ptr S.next 1) = some (V.int .u64 x14) ∧ ∃ x17 : Int, loadV S2 (V.ptr S1.next 1) = some (V.int .u64 x17) ∧ K (decide (x14 < x17)) S2) (∃ x21 : Int, loadV S2 (V.ptr S.next 2) = some (V.int .u64 x21) ∧ ∃ x24 : Int, loadV S2 (V.ptr S1.next 2) = some (V.int .u64 x24) ∧ ifC (!decide (x21 = x24)) (∃ x28 : Int, loadV S2 (V.ptr S.next 2) = some (V.int .u64 x28) ∧ ∃ x31 : Int, loadV S2 (V.ptr S1.next 2) = some (V.int .u64 x31) ∧ K (decide (x28 < x31)) S2) (∃ x34 : Int, loadV S2 (V.ptr S.next 0) = some (V.int .i64 x34) ∧ ∃ x36 : Int, loadV S2 (V.ptr S1.next 0) = some (V.int .i64 x36) ∧ K (decide (x34 < x36)) S2))
abbrev ref02_Less.Ok (P : Program) (N : Nat → Nat) : Prop := Reads P (N Fn.ref02_Less) [(5, (.dt (.one (.int .u64))), []), (2, (.dt (.one (.int .u64))), []), (3, (.dt (.one (.int .u64))), []), (2, (.dt (.one (.int .u64))), []), (4, (.dt (.one (.int .u64))), []), (2, (.dt (.one (.int .u64))), []), (3, (.dt (.one (.int .u64))), []), (2, (.dt (.one (.int .u64))), []), (3, (.dt (.one (.int .i64))), []), (1, (.dt (.one (.int .i64))), [])] [] [] (fun A T (x0_a : Int) (x0_b : Int) (x0_c : Int) (x1_a : Int) (x1_b : Int) (x1_c : Int) (S : St) (K : Bool → St → Prop) => wpT P (envP P) T (endT A.results [(.one .bool)] K) (frT A [(V.agg [(V.int .i64 x0_a), (V.int .u64 x0_b), (V.int .u64 x0_c)]), (V.agg [(V.int .i64 x1_a), (V.int .u64 x1_b), (V.int .u64 x1_c)])]) S) (fun x0_a x0_b x0_c x1_a x1_b x1_c S K => ref02_Less.p P N x0_a x0_b x0_c x1_a x1_b x1_c S K)
theorem ref02_Less.run {P : Program} {N : Nat → Nat} (hF : ref02_Less.Ok P N) {x0_a : Int} {x0_b : Int} {x0_c : Int} {x1_a : Int} {x1_b : Int} {x1_c : Int} {S : St} {K : Bool → St → Prop} (h : ref02_Less.p P N x0_a x0_b x0_c x1_a x1_b x1_c S K) : CallA P (N Fn.ref02_Less) [(V.agg [(V.int .i64 x0_a), (V.int .u64 x0_b), (V.int .u64 x0_c)]), (V.agg [(V.int .i64 x1_a), (V.int .u64 x1_b), (V.int .u64 x1_c)])] S (retT [(.one .bool)] K) := hF.run (fun q => q x0_a x0_b x0_c x1_a x1_b x1_c S K) h rfl

def ref02_Same.p (P : Program) (N : Nat → Nat) (x0 : V) (x1 : V) (S : St) (K : Bool → St → Prop) : Prop :=
  ∃ x7 : Int, lenV S 2 x0 = some (V.int .i64 x7) ∧ ∃ x9 : Int, lenV S 2 x1 = some (V.int .i64 x9) ∧ ifC (!decide (x7 = x9)) (K false S) (Loop1 (fun (k1 : Int → St → Prop) (x5 : Int) (S1 : St) => ∃ x13 : Int, lenV S1 2 x0 = some (V.int .i64 x13) ∧ ifC (decide (x5 < x13)) (ifS (idxAddrV 3 x0 (V.int .i64 x5)) fun x19 => ∃ x20_a x20_b x20_c : Int, loadNV S1 3 x19 = some (V.agg [(V.int .i64 x20_a), (V.int .u64 x20_b), (V.int .u64 x20_c)]) ∧ ifS (idxAddrV 3 x1 (V.int .i64 x5)) fun x23 => ∃ x24_a x24_b x24_c : Int, loadNV S1 3 x23 = some (V.agg [(V.int .i64 x24_a), (V.int .u64 x24_b), (V.int .u64 x24_c)]) ∧ ∃ x25 : Bool, eqV 6 [1, 1, 1] (V.agg [(V.int .i64 x20_a), (V.int .u64 x20_b), (V.int .u64 x20_c)]) (V.agg [(V.int .i64 x24_a), (V.int .u64 x24_b), (V.int .u64 x24_c)]) = some x25 ∧ ifC (!x25) (K false S1) (setI (IntKind.i64.wrap (x5 + (1 : Int))) fun x16 => k1 x16 S1)) (K true S1)) 0 S)
abbrev ref02_Same.Ok (P : Program) (N : Nat → Nat) : Prop := Reads P (N Fn.ref02_Same) [(2, (.dt (.one (.int .i64))), []), (1, (.dt (.one (.int .i64))), []), (5, (.dt (.one (.int .i64))), []), (4, (.dt (.agg [(.int .i64), (.int .u64), (.int .u64)])), []), (3, (.dt (.agg [(.int .i64), (.int .u64), (.int .u64)])), [])] [] [[(5, (.one (.int .i64)))]] (fun A T (x0 : V) (x1 : V) (S : St) (K : Bool → St → Prop) => wpT P (envP P) T (endT A.results [(.one .bool)] K) (frT A [x0, x1]) S) (fun x0 x1 S K => ref02_Same.p P N x0 x1 S K)
theorem ref02_Same.run {P : Program} {N : Nat → Nat} (hF : ref02_Same.Ok P N) {x0 : V} {x1 : V} {S : St} {K : Bool → St → Prop} (h : ref02_Same.p P N x0 x1 S K) : CallA P (N Fn.ref02_Same) [x0, x1] S (retT [(.one .bool)] K) := hF.run (fun q => q x0 x1 S K) h rfl

def ref02_First.p (P : Program) (N : Nat → Nat) (x0 : V) (x1 : Int) (S : St) (K : V → St → Prop) : Prop :=
  CallA P (N Fn.ref02_Sorted) [x0] S (retT [(.one .any)] fun (x7 : V) (S1 : St) => ∃ x9 : Int, lenV S1 2 x7 = some (V.int .i64 x9) ∧ ifC (decide (x1 < x9)) (ifS (sliceSlV 3 x7 none (some (V.int .i64 x1)) none) fun x14 => K x14 S1) (K x7 S1))
abbrev ref02_First.Ok (P : Program) (N : Nat → Nat) : Prop := Reads P (N Fn.ref02_First) [(2, .no, [(.one .any)]), (2, (.dt (.one (.int .i64))), [])] [] [] (fun A T (x0 : V) (x1 : Int) (S : St) (K : V → St → Prop) => wpT P (envP P) T (endT A.results [(.one .any)] K) (frT A [x0, (V.int .i64 x1)]) S) (fun x0 x1 S K => ref02_First.p P N x0 x1 S K)
theorem ref02_First.run {P : Program} {N : Nat → Nat} (hF : ref02_First.Ok P N) {x0 : V} {x1 : Int} {S : St} {K : V → St → Prop} (h : ref02_First.p P N x0 x1 S K) : CallA P (N Fn.ref02_First) [x0, (V.int .i64 x1)] S (retT [(.one .any)] K) := hF.run (fun q => q x0 x1 S K) h rfl

def ref02_With.p (P : Program) (N : Nat → Nat) (x0 : V) (x1_a : Int) (x1_b : Int) (x1_c : Int) (S : St) (K : V → St → Prop) : Prop :=
  newS S (.cells [(V.int .i64 x1_a), (V.int .u64 x1_b), (V.int .u64 x1_c)] true) fun S1 => Join1 (fun (k1 : Int → St → Prop) => Loop1 (fun (k2 : Int → St → Prop) (x5_1 : Int) (S3 : St) => ∃ x9 : Int, lenV S3 2 x0 = some (V.int .i64 x9) ∧ ifC (decide (x5_1 < x9)) (∃ x12_a x12_b x12_c : Int, loadNV S3 3 (V.ptr S.next 0) = some (V.agg [(V.int .i64 x12_a), (V.int .u64 x12_b), (V.int .u64 x12_c)]) ∧ ifS (idxAddrV 3 x0 (V.int .i64 x5_1)) fun x15 => ∃ x16_a x16_b x16_c : Int, loadNV S3 3 x15 = some (V.agg [(V.int .i64 x16_a), (V.int .u64 x16_b), (V.int .u64 x16_c)]) ∧ CallA P (N Fn.ref02_Less) [(V.agg [(V.int .i64 x12_a), (V.int .u64 x12_b), (V.int .u64 x12_c)]), (V.agg [(V.int .i64 x16_a), (V.int .u64 x16_b), (V.int .u64 x16_c)])] S3 (retT [(.one .bool)] fun (x17 : Bool) (S4 : St) => sameK (V.block x0 ++ []) S3 S4 (ifC (!x17) (setI (IntKind.i64.wrap (x5_1 + (1 : Int))) fun x21 => k2 x21 S4) (k1 x5_1 S4)))) (k1 x5_1 S3)) 0 S1) (fun (x5 : Int) (S2 : St) => ifS (sliceSlV 3 x0 none (some (V.int .i64 x5)) none) fun x25 => ifP (appV S2 3 24 V.nilSlice x25) fun x26 S5 => ∃ x28_a x28_b x28_c : Int, loadNV S5 3 (V.ptr S.next 0) = some (V.agg [(V.int .i64 x28_a), (V.int .u64 x28_b), (V.int .u64 x28_c)]) ∧ newS S5 (.cells [(V.int .i64 x28_a), (V.int .u64 x28_b), (V.int .u64 x28_c)] true) fun S6 => ifP (appV S6 3 24 x26 (V.slice S5.next 0 1 1 3 true)) fun x30 S7 => ifS (sliceSlV 3 x0 (some (V.int .i64 x5)) none none) fun x34 => ifP (appV S7 3 24 x30 x34) fun x35 S8 => K x35 S8)
abbrev ref02_With.Ok (P : Program) (N : Nat → Nat) : Prop := Reads P (N Fn.ref02_With) [(5, (.dt (.one (.int .i64))), []), (2, (.dt (.agg [(.int .i64), (.int .u64), (.int .u64)])), []), (3, (.dt (.agg [(.int .i64), (.int .u64), (.int .u64)])), []), (0, .no, [(.one .bool)]), (13, (.dt (.agg [(.int .i64), (.int .u64), (.int .u64)])), []), (0, (.dt (.agg [(.int .i64), (.int .u64), (.int .u64)])), [])] [(2, [(5, (.one (.int .i64)))])] [[(5, (.one (.int .i64)))]] (fun A T (x0 : V) (x1_a : Int) (x1_b : Int) (x1_c : Int) (S : St) (K : V → St → Prop) => wpT P (envP P) T (endT A.results [(.one .any)] K) (frT A [x0, (V.agg [(V.int .i64 x1_a), (V.int .u64 x1_b), (V.int .u64 x1_c)])]) S) (fun x0 x1_a x1_b x1_c S K => ref02_With.p P N x0 x1_a x1_b x1_c S K)
theorem ref02_With.run {P : Program} {N : Nat → Nat} (hF : ref02_With.Ok P N) {x0 : V} {x1_a : Int} {x1_b : Int} {x1_c : Int} {S : St} {K : V → St → Prop} (h : ref02_With.p P N x0 x1_a x1_b x1_c S K) : CallA P (N Fn.ref02_With) [x0, (V.agg [(V.int .i64 x1_a), (V.int .u64 x1_b), (V.int .u64 x1_c)])] S (retT [(.one .any)] K) := hF.run (fun q => q x0 x1_a x1_b x1_c S K) h rfl

def ref02_Sorted.p (P : Program) (N : Nat → Nat) (x0 : V) (S : St) (K : V → St → Prop) : Prop :=
  Loop2 (fun (k1 : V → Int → St → Prop) (x3 : V) (x4 : Int) (S1 : St) => ∃ x7 : Int, lenV S1 2 x0 = some (V.int .i64 x7) ∧ ifC (decide (x4 < x7)) (ifS (idxAddrV 3 x0 (V.int .i64 x4)) fun x14 => ∃ x15_a x15_b x15_c : Int, loadNV S1 3 x14 = some (V.agg [(V.int .i64 x15_a), (V.int .u64 x15_b), (V.int .u64 x15_c)]) ∧ CallA P (N Fn.ref02_With) [x3, (V.agg [(V.int .i64 x15_a), (V.int .u64 x15_b), (V.int .u64 x15_c)])] S1 (retT [(.one .any)] fun (x16 : V) (S2 : St) => setI (IntKind.i64.wrap (x4 + (1 : Int))) fun x10 => k1 x16 x10 S2)) (K x3 S1)) V.nilSlice 0 S
abbrev ref02_Sorted.Ok (P : Program) (N : Nat → Nat) : Prop := Reads P (N Fn.ref02_Sorted) [(5, (.dt (.one (.int .i64))), []), (5, (.dt (.agg [(.int .i64), (.int .u64), (.int .u64)])), []), (0, .no, [(.one .any)])] [] [[(3, (.one .any)), (4, (.one (.int .i64)))]] (fun A T (x0 : V) (S : St) (K : V → St → Prop) => wpT P (envP P) T (endT A.results [(.one .any)] K) (frT A [x0]) S) (fun x0 S K => ref02_Sorted.p P N x0 S K)
theorem ref02_Sorted.run {P : Program} {N : Nat → Nat} (hF : ref02_Sorted.Ok P N) {x0 : V} {S : St} {K : V → St → Prop} (h : ref02_Sorted.p P N x0 S K) : CallA P (N Fn.ref02_Sorted) [x0] S (retT [(.one .any)] K) := hF.run (fun q => q x0 S K) h rfl

end Go.Th.L
end

section
/- Functions of slices, read without frames (printed by tools/lib.py). -/
set_option linter.unusedVariables false
set_option maxRecDepth 100000
set_option maxHeartbeats 2000000
namespace Go.Th.L
open Go Go.Th

def slices_Clone_Lapi_Hit.p (P : Program) (N : Nat → Nat) (x0 : V) (S : St) (K : V → St → Prop) : Prop :=
  ∃ x4 : Bool, eqV 2 [] x0 V.nilSlice = some x4 ∧ ifC x4 (K V.nilSlice S) (newS S (.cells [] true) fun S1 => ifP (appV S1 3 24 (V.slice S.next 0 0 0 3 true) x0) fun x7 S2 => K x7 S2)
abbrev slices_Clone_Lapi_Hit.Ok (P : Program) (N : Nat → Nat) : Prop := Reads P (N Fn.slices_Clone_Lapi_Hit) [(4, (.dt (.agg [])), [])] [] [] (fun A T (x0 : V) (S : St) (K : V → St → Prop) => wpT P (envP P) T (endT A.results [(.one .any)] K) (frT A [x0]) S) (fun x0 S K => slices_Clone_Lapi_Hit.p P N x0 S K)
theorem slices_Clone_Lapi_Hit.run {P : Program} {N : Nat → Nat} (hF : slices_Clone_Lapi_Hit.Ok P N) {x0 : V} {S : St} {K : V → St → Prop} (h : slices_Clone_Lapi_Hit.p P N x0 S K) : CallA P (N Fn.slices_Clone_Lapi_Hit) [x0] S (retT [(.one .any)] K) := hF.run (fun q => q x0 S K) h rfl

def slices_SortFunc_Lapi_Hit.p (P : Program) (N : Nat → Nat) (x0 : V) (x1 : V) (S : St) (K : St → Prop) : Prop :=
  ∃ x6 : Int, lenV S 2 x0 = some (V.int .i64 x6) ∧ setI (IntKind.u64.wrap x6) fun x10 => CallA P (N Fn.math_bits_Len) [(V.int .u64 x10)] S (retT [(.one (.int .i64))] fun (x11 : Int) (S1 : St) => CallA P (N Fn.slices_pdqsortCmpFunc_api_Hit) [x0, (V.int .i64 0), (V.int .i64 x6), (V.int .i64 x11), x1] S1 (retT [] fun (S2 : St) => K  S2))
abbrev slices_SortFunc_Lapi_Hit.Ok (P : Program) (N : Nat → Nat) : Prop := Reads P (N Fn.slices_SortFunc_Lapi_Hit) [(1, (.dt (.one (.int .i64))), []), (5, .no, [(.one (.int .i64))])] [] [] (fun A T (x0 : V) (x1 : V) (S : St) (K : St → Prop) => wpT P (envP P) T (endT A.results [] K) (frT A [x0, x1]) S) (fun x0 x1 S K => slices_SortFunc_Lapi_Hit.p P N x0 x1 S K)
theorem slices_SortFunc_Lapi_Hit.run {P : Program} {N : Nat → Nat} (hF : slices_SortFunc_Lapi_Hit.Ok P N) {x0 : V} {x1 : V} {S : St} {K : St → Prop} (h : slices_SortFunc_Lapi_Hit.p P N x0 x1 S K) : CallA P (N Fn.slices_SortFunc_Lapi_Hit) [x0, x1] S (retT [] K) := hF.run (fun q => q x0 x1 S K) h rfl

def slices_pdqsortCmpFunc_api_Hit.p (P : Program) (N : Nat → Nat) (x0 : V) (x1 : Int) (x2 : Int) (x3 : Int) (x4 : V) (S : St) (K : St → Prop) : Prop :=
  Loop5 (fun (k1 : Int → Int → Int → Bool → Bool → St → Prop) (x1_1 : Int) (x2_1 : Int) (x3_1 : Int) (x10 : Bool) (x11 : Bool) (S1 : St) => setI (IntKind.i64.wrap (x2_1 - x1_1)) fun x23 => ifC (decide (x23 ≤ (12 : Int))) (CallA P (N Fn.slices_insertionSortCmpFunc_api_Hit) [x0, (V.int .i64 x1_1), (V.int .i64 x2_1), x4] S1 (retT [] fun (S2 : St) => K  S2)) (ifC (decide (x3_1 = (0 : Int))) (CallA P (N Fn.slices_heapSortCmpFunc_api_Hit) [x0, (V.int .i64 x1_1), (V.int .i64 x2_1), x4] S1 (retT [] fun (S3 : St) => K  S3)) (Join1 (fun (k2 : Int → St → Prop) => ifC (!x10) (CallA P (N Fn.slices_breakPatternsCmpFunc_api_Hit) [x0, (V.int .i64 x1_1), (V.int .i64 x2_1), x4] S1 (retT [] fun (S5 : St) => setI (IntKind.i64.wrap (x3_1 - (1 : Int))) fun x46 => k2 x46 S5)) (k2 x3_1 S1)) (fun (x3_2 : Int) (S4 : St) => CallA P (N Fn.slices_choosePivotCmpFunc_api_Hit) [x0, (V.int .i64 x1_1), (V.int .i64 x2_1), x4] S4 (retT [(.one (.int .i64)), (.one (.int .i64))] fun (x52a : Int) (x52b : Int) (S6 : St) => Join2 (fun (k3 : Int → Int → St → Prop) => ifC (decide (x52b = (2 : Int))) (CallA P (N Fn.slices_reverseRangeCmpFunc_api_Hit) [x0, (V.int .i64 x1_1), (V.int .i64 x2_1), x4] S6 (retT [] fun (S8 : St) => setI (IntKind.i64.wrap (x2_1 - (1 : Int))) fun x63 => setI (IntKind.i64.wrap (x52a - x1_1)) fun x66 => setI (IntKind.i64.wrap (x63 - x66)) fun x67 => k3 x67 1 S8)) (k3 x52a x52b S6)) (fun (x13 : Int) (x14 : Int) (S7 : St) => Join0 (fun (k4 : St → Prop) => Join1 (fun (k5 : Bool → St → Prop) => ifC x10 (ifC x11 (k5 (decide (x14 = (1 : Int))) S7) (k5 false S7)) (k5 false S7)) (fun (x75 : Bool) (S10 : St) => ifC x75 (CallA P (N Fn.slices_partialInsertionSortCmpFunc_api_Hit) [x0, (V.int .i64 x1_1), (V.int .i64 x2_1), x4] S10 (retT [(.one .bool)] fun (x80 : Bool) (S11 : St) => ifC x80 (K  S11) (k4  S11))) (k4  S10))) (fun (S9 : St) => Join1 (fun (k6 : Bool → St → Prop) => ifC (decide ((0 : Int) < x1_1)) (setI (IntKind.i64.wrap (x1_1 - (1 : Int))) fun x87 => ifS (idxAddrV 3 x0 (V.int .i64 x87)) fun x88 => ∃ x89_a x89_b x89_c : Int, loadNV S9 3 x88 = some (V.agg [(V.int .i64 x89_a), (V.int .u64 x89_b), (V.int .u64 x89_c)]) ∧ ifS (idxAddrV 3 x0 (V.int .i64 x13)) fun x92 => ∃ x93_a x93_b x93_c : Int, loadNV S9 3 x92 = some (V.agg [(V.int .i64 x93_a), (V.int .u64 x93_b), (V.int .u64 x93_c)]) ∧ ifS (calleeV (envP P) x4 [(V.agg [(V.int .i64 x89_a), (V.int .u64 x89_b), (V.int .u64 x89_c)]), (V.agg [(V.int .i64 x93_a), (V.int .u64 x93_b), (V.int .u64 x93_c)])]) fun xf => CallA P xf.1 xf.2 S9 (retT [(.one (.int .i64))] fun (x94 : Int) (S13 : St) => k6 (!(decide (x94 < (0 : Int)))) S13)) (k6 false S9)) (fun (x97 : Bool) (S12 : St) => ifC x97 (CallA P (N Fn.slices_partitionEqualCmpFunc_api_Hit) [x0, (V.int .i64 x1_1), (V.int .i64 x2_1), (V.int .i64 x13), x4] S12 (retT [(.one (.int .i64))] fun (x103 : Int) (S14 : St) => k1 x103 x2_1 x3_2 x10 x11 S14)) (CallA P (N Fn.slices_partitionCmpFunc_api_Hit) [x0, (V.int .i64 x1_1), (V.int .i64 x2_1), (V.int .i64 x13), x4] S12 (retT [(.one (.int .i64)), (.one .bool)] fun (x111a : Int) (x111b : Bool) (S15 : St) => setI (IntKind.i64.wrap (x111a - x1_1)) fun x117 => setI (IntKind.i64.wrap (x2_1 - x111a)) fun x120 => (8 : Int) ≠ 0 ∧ setI (IntKind.i64.wrap (Int.tdiv x23 (8 : Int))) fun x122 => ifC (decide (x117 < x120)) (CallA P (N Fn.slices_pdqsortCmpFunc_api_Hit) [x0, (V.int .i64 x1_1), (V.int .i64 x111a), (V.int .i64 x3_2), x4] S15 (retT [] fun (S16 : St) => setI (IntKind.i64.wrap (x111a + (1 : Int))) fun x136 => k1 x136 x2_1 x3_2 (decide (x122 ≤ x117)) x111b S16)) (setI (IntKind.i64.wrap (x111a + (1 : Int))) fun x142 => CallA P (N Fn.slices_pdqsortCmpFunc_api_Hit) [x0, (V.int .i64 x142), (V.int .i64 x2_1), (V.int .i64 x3_2), x4] S15 (retT [] fun (S17 : St) => k1 x1_1 x111a x3_2 (decide (x122 ≤ x120)) x111b S17)))))))))))) x1 x2 x3 true true S
abbrev slices_pdqsortCmpFunc_api_Hit.Ok (P : Program) (N : Nat → Nat) : Prop := Reads P (N Fn.slices_pdqsortCmpFunc_api_Hit) [(34, .no, [(.one (.int .i64)), (.one (.int .i64))]), (32, .no, [(.one .bool)]), (8, (.dt (.agg [(.int .i64), (.int .u64), (.int .u64)])), []), (3, (.dt (.agg [(.int .i64), (.int .u64), (.int .u64)])), []), (0, .no, [(.one (.int .i64))]), (8, .no, [(.one (.int .i64))]), (8, .no, [(.one (.int .i64)), (.one .bool)])] [(9, [(3, (.one (.int .i64)))]), (3, [(13, (.one (.int .i64))), (14, (.one (.int .i64)))]), (3, []), (0, [(75, (.one .bool))]), (2, [(97, (.one .bool))])] [[(1, (.one (.int .i64))), (2, (.one (.int .i64))), (3, (.one (.int .i64))), (10, (.one .bool)), (11, (.one .bool))]] (fun A T (x0 : V) (x1 : Int) (x2 : Int) (x3 : Int) (x4 : V) (S : St) (K : St → Prop) => wpT P (envP P) T (endT A.results [] K) (frT A [x0, (V.int .i64 x1), (V.int .i64 x2), (V.int .i64 x3), x4]) S) (fun x0 x1 x2 x3 x4 S K => slices_pdqsortCmpFunc_api_Hit.p P N x0 x1 x2 x3 x4 S K)
theorem slices_pdqsortCmpFunc_api_Hit.run {P : Program} {N : Nat → Nat} (hF : slices_pdqsortCmpFunc_api_Hit.Ok P N) {x0 : V} {x1 : Int} {x2 : Int} {x3 : Int} {x4 : V} {S : St} {K : St → Prop} (h : slices_pdqsortCmpFunc_api_Hit.p P N x0 x1 x2 x3 x4 S K) : CallA P (N Fn.slices_pdqsortCmpFunc_api_Hit) [x0, (V.int .i64 x1), (V.int .i64 x2), (V.int .i64 x3), x4] S (retT [] K) := hF.run (fun q => q x0 x1 x2 x3 x4 S K) h rfl

def slices_insertionSortCmpFunc_api_Hit.p (P : Program) (N : Nat → Nat) (x0 : V) (x1 : Int) (x2 : Int) (x3 : V) (S : St) (K : St → Prop) : Prop :=
  setI (IntKind.i64.wrap (x1 + (1 : Int))) fun x11 => Loop1 (fun (k1 : Int → St → Prop) (x8 : Int) (S1 : St) => ifC (decide (x8 < x2)) (Loop1 (fun (k2 : Int → St → Prop) (x9 : Int) (S2 : St) => Join0 (fun (k3 : St → Prop) => ifC (decide (x1 < x9)) (ifS (idxAddrV 3 x0 (V.int .i64 x9)) fun x25 => ∃ x26_a x26_b x26_c : Int, loadNV S2 3 x25 = some (V.agg [(V.int .i64 x26_a), (V.int .u64 x26_b), (V.int .u64 x26_c)]) ∧ setI (IntKind.i64.wrap (x9 - (1 : Int))) fun x29 => ifS (idxAddrV 3 x0 (V.int .i64 x29)) fun x30 => ∃ x31_a x31_b x31_c : Int, loadNV S2 3 x30 = some (V.agg [(V.int .i64 x31_a), (V.int .u64 x31_b), (V.int .u64 x31_c)]) ∧ ifS (calleeV (envP P) x3 [(V.agg [(V.int .i64 x26_a), (V.int .u64 x26_b), (V.int .u64 x26_c)]), (V.agg [(V.int .i64 x31_a), (V.int .u64 x31_b), (V.int .u64 x31_c)])]) fun xf => CallA P xf.1 xf.2 S2 (retT [(.one (.int .i64))] fun (x32 : Int) (S4 : St) => ifC (decide (x32 < (0 : Int))) (k3  S4) (setI (IntKind.i64.wrap (x8 + (1 : Int))) fun x16 => k1 x16 S4))) (setI (IntKind.i64.wrap (x8 + (1 : Int))) fun x16_1 => k1 x16_1 S2)) (fun (S3 : St) => setI (IntKind.i64.wrap (x9 - (1 : Int))) fun x41 => setI (IntKind.i64.wrap (x9 - (1 : Int))) fun x44 => ifS (idxAddrV 3 x0 (V.int .i64 x44)) fun x45 => ∃ x46_a x46_b x46_c : Int, loadNV S3 3 x45 = some (V.agg [(V.int .i64 x46_a), (V.int .u64 x46_b), (V.int .u64 x46_c)]) ∧ ifS (idxAddrV 3 x0 (V.int .i64 x9)) fun x49 => ∃ x50_a x50_b x50_c : Int, loadNV S3 3 x49 = some (V.agg [(V.int .i64 x50_a), (V.int .u64 x50_b), (V.int .u64 x50_c)]) ∧ ifS (idxAddrV 3 x0 (V.int .i64 x9)) fun x51 => ifS (storeV S3 3 x51 (V.agg [(V.int .i64 x46_a), (V.int .u64 x46_b), (V.int .u64 x46_c)])) fun S5 => ifS (idxAddrV 3 x0 (V.int .i64 x41)) fun x52 => ifS (storeV S5 3 x52 (V.agg [(V.int .i64 x50_a), (V.int .u64 x50_b), (V.int .u64 x50_c)])) fun S6 => setI (IntKind.i64.wrap (x9 - (1 : Int))) fun x36 => k2 x36 S6)) x8 S1) (K  S1)) x11 S
abbrev slices_insertionSortCmpFunc_api_Hit.Ok (P : Program) (N : Nat → Nat) : Prop := Reads P (N Fn.slices_insertionSortCmpFunc_api_Hit) [(16, (.dt (.agg [(.int .i64), (.int .u64), (.int .u64)])), []), (4, (.dt (.agg [(.int .i64), (.int .u64), (.int .u64)])), []), (0, .no, [(.one (.int .i64))]), (11, (.dt (.agg [(.int .i64), (.int .u64), (.int .u64)])), []), (3, (.dt (.agg [(.int .i64), (.int .u64), (.int .u64)])), [])] [(5, [])] [[(8, (.one (.int .i64)))], [(9, (.one (.int .i64)))]] (fun A T (x0 : V) (x1 : Int) (x2 : Int) (x3 : V) (S : St) (K : St → Prop) => wpT P (envP P) T (endT A.results [] K) (frT A [x0, (V.int .i64 x1), (V.int .i64 x2), x3]) S) (fun x0 x1 x2 x3 S K => slices_insertionSortCmpFunc_api_Hit.p P N x0 x1 x2 x3 S K)
theorem slices_insertionSortCmpFunc_api_Hit.run {P : Program} {N : Nat → Nat} (hF : slices_insertionSortCmpFunc_api_Hit.Ok P N) {x0 : V} {x1 : Int} {x2 : Int} {x3 : V} {S : St} {K : St → Prop} (h : slices_insertionSortCmpFunc_api_Hit.p P N x0 x1 x2 x3 S K) : CallA P (N Fn.slices_insertionSortCmpFunc_api_Hit) [x0, (V.int .i64 x1), (V.int .i64 x2), x3] S (retT [] K) := hF.run (fun q => q x0 x1 x2 x3 S K) h rfl

def slices_heapSortCmpFunc_api_Hit.p (P : Program) (N : Nat → Nat) (x0 : V) (x1 : Int) (x2 : Int) (x3 : V) (S : St) (K : St → Prop) : Prop :=
  setI (IntKind.i64.wrap (x2 - x1)) fun x16 => setI (IntKind.i64.wrap (x16 - (1 : Int))) fun x18 => (2 : Int) ≠ 0 ∧ setI (IntKind.i64.wrap (Int.tdiv x18 (2 : Int))) fun x19 => Loop1 (fun (k1 : Int → St → Prop) (x11 : Int) (S1 : St) => ifC (decide ((0 : Int) ≤ x11)) (CallA P (N Fn.slices_siftDownCmpFunc_api_Hit) [x0, (V.int .i64 x11), (V.int .i64 x16), (V.int .i64 x1), x3] S1 (retT [] fun (S2 : St) => setI (IntKind.i64.wrap (x11 - (1 : Int))) fun x23 => k1 x23 S2)) (setI (IntKind.i64.wrap (x16 - (1 : Int))) fun x31 => Loop1 (fun (k2 : Int → St → Prop) (x12 : Int) (S3 : St) => ifC (decide ((0 : Int) ≤ x12)) (setI (IntKind.i64.wrap (x1 + x12)) fun x41 => setI (IntKind.i64.wrap (x1 + x12)) fun x45 => ifS (idxAddrV 3 x0 (V.int .i64 x45)) fun x46 => ∃ x47_a x47_b x47_c : Int, loadNV S3 3 x46 = some (V.agg [(V.int .i64 x47_a), (V.int .u64 x47_b), (V.int .u64 x47_c)]) ∧ ifS (idxAddrV 3 x0 (V.int .i64 x1)) fun x50 => ∃ x51_a x51_b x51_c : Int, loadNV S3 3 x50 = some (V.agg [(V.int .i64 x51_a), (V.int .u64 x51_b), (V.int .u64 x51_c)]) ∧ ifS (idxAddrV 3 x0 (V.int .i64 x1)) fun x52 => ifS (storeV S3 3 x52 (V.agg [(V.int .i64 x47_a), (V.int .u64 x47_b), (V.int .u64 x47_c)])) fun S4 => ifS (idxAddrV 3 x0 (V.int .i64 x41)) fun x53 => ifS (storeV S4 3 x53 (V.agg [(V.int .i64 x51_a), (V.int .u64 x51_b), (V.int .u64 x51_c)])) fun S5 => CallA P (N Fn.slices_siftDownCmpFunc_api_Hit) [x0, (V.int .i64 0), (V.int .i64 x12), (V.int .i64 x1), x3] S5 (retT [] fun (S6 : St) => setI (IntKind.i64.wrap (x12 - (1 : Int))) fun x35 => k2 x35 S6)) (K  S3)) x31 S1)) x19 S
abbrev slices_heapSortCmpFunc_api_Hit.Ok (P : Program) (N : Nat → Nat) : Prop := Reads P (N Fn.slices_heapSortCmpFunc_api_Hit) [(38, (.dt (.agg [(.int .i64), (.int .u64), (.int .u64)])), []), (3, (.dt (.agg [(.int .i64), (.int .u64), (.int .u64)])), [])] [] [[(11, (.one (.int .i64)))], [(12, (.one (.int .i64)))]] (fun A T (x0 : V) (x1 : Int) (x2 : Int) (x3 : V) (S : St) (K : St → Prop) => wpT P (envP P) T (endT A.results [] K) (frT A [x0, (V.int .i64 x1), (V.int .i64 x2), x3]) S) (fun x0 x1 x2 x3 S K => slices_heapSortCmpFunc_api_Hit.p P N x0 x1 x2 x3 S K)
theorem slices_heapSortCmpFunc_api_Hit.run {P : Program} {N : Nat → Nat} (hF : slices_heapSortCmpFunc_api_Hit.Ok P N) {x0 : V} {x1 : Int} {x2 : Int} {x3 : V} {S : St} {K : St → Prop} (h : slices_heapSortCmpFunc_api_Hit.p P N x0 x1 x2 x3 S K) : CallA P (N Fn.slices_heapSortCmpFunc_api_Hit) [x0, (V.int .i64 x1), (V.int .i64 x2), x3] S (retT [] K) := hF.run (fun q => q x0 x1 x2 x3 S K) h rfl

def slices_breakPatternsCmpFunc_api_Hit.p (P : Program) (N : Nat → Nat) (x0 : V) (x1 : Int) (x2 : Int) (x3 : V) (S : St) (K : St → Prop) : Prop :=
  setI (IntKind.i64.wrap (x2 - x1)) fun x15 => ifC (decide ((8 : Int) ≤ x15)) (setI (IntKind.u64.wrap x15) fun x19 => newS S (.cells [(V.int .u64 0)] true) fun S1 => ifS (storeV S1 1 (V.ptr S.next 0) (V.int .u64 x19)) fun S2 => CallA P (N Fn.slices_nextPowerOfTwo) [(V.int .i64 x15)] S2 (retT [(.one (.int .u64))] fun (x21 : Int) (S3 : St) => (4 : Int) ≠ 0 ∧ setI (IntKind.i64.wrap (Int.tdiv x15 (4 : Int))) fun x24 => setI (IntKind.i64.wrap (x24 * (2 : Int))) fun x25 => setI (IntKind.i64.wrap (x1 + x25)) fun x26 => setI (IntKind.i64.wrap (x26 - (1 : Int))) fun x27 => Loop1 (fun (k1 : Int → St → Prop) (x11 : Int) (S4 : St) => (4 : Int) ≠ 0 ∧ setI (IntKind.i64.wrap (Int.tdiv x15 (4 : Int))) fun x31 => setI (IntKind.i64.wrap (x31 * (2 : Int))) fun x32 => setI (IntKind.i64.wrap (x1 + x32)) fun x33 => setI (IntKind.i64.wrap (x33 + (1 : Int))) fun x34 => ifC (decide (x11 ≤ x34)) (CallA P (N Fn.slices_xorshift_Next) [(V.ptr S.next 0)] S4 (retT [(.one (.int .u64))] fun (x38 : Int) (S5 : St) => setI (IntKind.u64.wrap (x21 - (1 : Int))) fun x40 => setI (intBits .and .u64 x38 x40) fun x41 => setI (IntKind.i64.wrap x41) fun x42 => Join1 (fun (k2 : Int → St → Prop) => ifC (decide (x15 ≤ x42)) (setI (IntKind.i64.wrap (x42 - x15)) fun x48 => k2 x48 S5) (k2 x42 S5)) (fun (x12 : Int) (S6 : St) => setI (IntKind.i64.wrap (x1 + x12)) fun x54 => setI (IntKind.i64.wrap (x1 + x12)) fun x58 => ifS (idxAddrV 3 x0 (V.int .i64 x58)) fun x59 => ∃ x60_a x60_b x60_c : Int, loadNV S6 3 x59 = some (V.agg [(V.int .i64 x60_a), (V.int .u64 x60_b), (V.int .u64 x60_c)]) ∧ ifS (idxAddrV 3 x0 (V.int .i64 x11)) fun x63 => ∃ x64_a x64_b x64_c : Int, loadNV S6 3 x63 = some (V.agg [(V.int .i64 x64_a), (V.int .u64 x64_b), (V.int .u64 x64_c)]) ∧ ifS (idxAddrV 3 x0 (V.int .i64 x11)) fun x65 => ifS (storeV S6 3 x65 (V.agg [(V.int .i64 x60_a), (V.int .u64 x60_b), (V.int .u64 x60_c)])) fun S7 => ifS (idxAddrV 3 x0 (V.int .i64 x54)) fun x66 => ifS (storeV S7 3 x66 (V.agg [(V.int .i64 x64_a), (V.int .u64 x64_b), (V.int .u64 x64_c)])) fun S8 => setI (IntKind.i64.wrap (x11 + (1 : Int))) fun x37 => k1 x37 S8))) (K  S4)) x27 S3)) (K  S)
abbrev slices_breakPatternsCmpFunc_api_Hit.Ok (P : Program) (N : Nat → Nat) : Prop := Reads P (N Fn.slices_breakPatternsCmpFunc_api_Hit) [(11, .no, [(.one (.int .u64))]), (16, .no, [(.one (.int .u64))]), (23, (.dt (.agg [(.int .i64), (.int .u64), (.int .u64)])), []), (3, (.dt (.agg [(.int .i64), (.int .u64), (.int .u64)])), [])] [(9, [(12, (.one (.int .i64)))])] [[(11, (.one (.int .i64)))]] (fun A T (x0 : V) (x1 : Int) (x2 : Int) (x3 : V) (S : St) (K : St → Prop) => wpT P (envP P) T (endT A.results [] K) (frT A [x0, (V.int .i64 x1), (V.int .i64 x2), x3]) S) (fun x0 x1 x2 x3 S K => slices_breakPatternsCmpFunc_api_Hit.p P N x0 x1 x2 x3 S K)
theorem slices_breakPatternsCmpFunc_api_Hit.run {P : Program} {N : Nat → Nat} (hF : slices_breakPatternsCmpFunc_api_Hit.Ok P N) {x0 : V} {x1 : Int} {x2 : Int} {x3 : V} {S : St} {K : St → Prop} (h : slices_breakPatternsCmpFunc_api_Hit.p P N x0 x1 x2 x3 S K) : CallA P (N Fn.slices_breakPatternsCmpFunc_api_Hit) [x0, (V.int .i64 x1), (V.int .i64 x2), x3] S (retT [] K) := hF.run (fun q => q x0 x1 x2 x3 S K) h rfl

def slices_choosePivotCmpFunc_api_Hit.p (P : Program) (N : Nat → Nat) (x0 : V) (x1 : Int) (x2 : Int) (x3 : V) (S : St) (K : Int → Int → St → Prop) : Prop :=
  setI (IntKind.i64.wrap (x2 - x1)) fun x17 => newS S (.cells [(V.int .i64 0)] true) fun S1 => (4 : Int) ≠ 0 ∧ setI (IntKind.i64.wrap (Int.tdiv x17 (4 : Int))) fun x20 => setI (IntKind.i64.wrap (x20 * (1 : Int))) fun x21 => setI (IntKind.i64.wrap (x1 + x21)) fun x22 => (4 : Int) ≠ 0 ∧ setI (IntKind.i64.wrap (Int.tdiv x17 (4 : Int))) fun x25 => setI (IntKind.i64.wrap (x25 * (2 : Int))) fun x26 => setI (IntKind.i64.wrap (x1 + x26)) fun x27 => (4 : Int) ≠ 0 ∧ setI (IntKind.i64.wrap (Int.tdiv x17 (4 : Int))) fun x30 => setI (IntKind.i64.wrap (x30 * (3 : Int))) fun x31 => setI (IntKind.i64.wrap (x1 + x31)) fun x32 => Join1 (fun (k1 : Int → St → Prop) => ifC (decide ((8 : Int) ≤ x17)) (ifC (decide ((50 : Int) ≤ x17)) (CallA P (N Fn.slices_medianAdjacentCmpFunc_api_Hit) [x0, (V.int .i64 x22), (V.ptr S.next 0), x3] S1 (retT [(.one (.int .i64))] fun (x40 : Int) (S3 : St) => CallA P (N Fn.slices_medianAdjacentCmpFunc_api_Hit) [x0, (V.int .i64 x27), (V.ptr S.next 0), x3] S3 (retT [(.one (.int .i64))] fun (x44 : Int) (S4 : St) => CallA P (N Fn.slices_medianAdjacentCmpFunc_api_Hit) [x0, (V.int .i64 x32), (V.ptr S.next 0), x3] S4 (retT [(.one (.int .i64))] fun (x48 : Int) (S5 : St) => CallA P (N Fn.slices_medianCmpFunc_api_Hit) [x0, (V.int .i64 x40), (V.int .i64 x44), (V.int .i64 x48), (V.ptr S.next 0), x3] S5 (retT [(.one (.int .i64))] fun (x54 : Int) (S6 : St) => k1 x54 S6))))) (CallA P (N Fn.slices_medianCmpFunc_api_Hit) [x0, (V.int .i64 x22), (V.int .i64 x27), (V.int .i64 x32), (V.ptr S.next 0), x3] S1 (retT [(.one (.int .i64))] fun (x54_1 : Int) (S7 : St) => k1 x54_1 S7))) (k1 x27 S1)) (fun (x13 : Int) (S2 : St) => ∃ x55 : Int, loadV S2 (V.ptr S.next 0) = some (V.int .i64 x55) ∧ ifC (decide (x55 = (0 : Int))) (K x13 1 S2) (ifC (decide (x55 = (12 : Int))) (K x13 2 S2) (K x13 0 S2)))
abbrev slices_choosePivotCmpFunc_api_Hit.Ok (P : Program) (N : Nat → Nat) : Prop := Reads P (N Fn.slices_choosePivotCmpFunc_api_Hit) [(32, .no, [(.one (.int .i64))]), (4, .no, [(.one (.int .i64))]), (4, .no, [(.one (.int .i64))]), (6, .no, [(.one (.int .i64))]), (1, (.dt (.one (.int .i64))), [])] [(6, [(13, (.one (.int .i64)))])] [] (fun A T (x0 : V) (x1 : Int) (x2 : Int) (x3 : V) (S : St) (K : Int → Int → St → Prop) => wpT P (envP P) T (endT A.results [(.one (.int .i64)), (.one (.int .i64))] K) (frT A [x0, (V.int .i64 x1), (V.int .i64 x2), x3]) S) (fun x0 x1 x2 x3 S K => slices_choosePivotCmpFunc_api_Hit.p P N x0 x1 x2 x3 S K)
theorem slices_choosePivotCmpFunc_api_Hit.run {P : Program} {N : Nat → Nat} (hF : slices_choosePivotCmpFunc_api_Hit.Ok P N) {x0 : V} {x1 : Int} {x2 : Int} {x3 : V} {S : St} {K : Int → Int → St → Prop} (h : slices_choosePivotCmpFunc_api_Hit.p P N x0 x1 x2 x3 S K) : CallA P (N Fn.slices_choosePivotCmpFunc_api_Hit) [x0, (V.int .i64 x1), (V.int .i64 x2), x3] S (retT [(.one (.int .i64)), (.one (.int .i64))] K) := hF.run (fun q => q x0 x1 x2 x3 S K) h rfl

def slices_reverseRangeCmpFunc_api_Hit.p (P : Program) (N : Nat → Nat) (x0 : V) (x1 : Int) (x2 : Int) (x3 : V) (S : St) (K : St → Prop) : Prop :=
  setI (IntKind.i64.wrap (x2 - (1 : Int))) fun x12 => Loop2 (fun (k1 : Int → Int → St → Prop) (x8 : Int) (x9 : Int) (S1 : St) => ifC (decide (x8 < x9)) (ifS (idxAddrV 3 x0 (V.int .i64 x9)) fun x22 => ∃ x23_a x23_b x23_c : Int, loadNV S1 3 x22 = some (V.agg [(V.int .i64 x23_a), (V.int .u64 x23_b), (V.int .u64 x23_c)]) ∧ ifS (idxAddrV 3 x0 (V.int .i64 x8)) fun x26 => ∃ x27_a x27_b x27_c : Int, loadNV S1 3 x26 = some (V.agg [(V.int .i64 x27_a), (V.int .u64 x27_b), (V.int .u64 x27_c)]) ∧ ifS (idxAddrV 3 x0 (V.int .i64 x8)) fun x28 => ifS (storeV S1 3 x28 (V.agg [(V.int .i64 x23_a), (V.int .u64 x23_b), (V.int .u64 x23_c)])) fun S2 => ifS (idxAddrV 3 x0 (V.int .i64 x9)) fun x29 => ifS (storeV S2 3 x29 (V.agg [(V.int .i64 x27_a), (V.int .u64 x27_b), (V.int .u64 x27_c)])) fun S3 => setI (IntKind.i64.wrap (x8 + (1 : Int))) fun x31 => setI (IntKind.i64.wrap (x9 - (1 : Int))) fun x33 => k1 x31 x33 S3) (K  S1)) x1 x12 S
abbrev slices_reverseRangeCmpFunc_api_Hit.Ok (P : Program) (N : Nat → Nat) : Prop := Reads P (N Fn.slices_reverseRangeCmpFunc_api_Hit) [(15, (.dt (.agg [(.int .i64), (.int .u64), (.int .u64)])), []), (3, (.dt (.agg [(.int .i64), (.int .u64), (.int .u64)])), [])] [] [[(8, (.one (.int .i64))), (9, (.one (.int .i64)))]] (fun A T (x0 : V) (x1 : Int) (x2 : Int) (x3 : V) (S : St) (K : St → Prop) => wpT P (envP P) T (endT A.results [] K) (frT A [x0, (V.int .i64 x1), (V.int .i64 x2), x3]) S) (fun x0 x1 x2 x3 S K => slices_reverseRangeCmpFunc_api_Hit.p P N x0 x1 x2 x3 S K)
theorem slices_reverseRangeCmpFunc_api_Hit.run {P : Program} {N : Nat → Nat} (hF : slices_reverseRangeCmpFunc_api_Hit.Ok P N) {x0 : V} {x1 : Int} {x2 : Int} {x3 : V} {S : St} {K : St → Prop} (h : slices_reverseRangeCmpFunc_api_Hit.p P N x0 x1 x2 x3 S K) : CallA P (N Fn.slices_reverseRangeCmpFunc_api_Hit) [x0, (V.int .i64 x1), (V.int .i64 x2), x3] S (retT [] K) := hF.run (fun q => q x0 x1 x2 x3 S K) h rfl

def slices_partialInsertionSortCmpFunc_api_Hit.p (P : Program) (N : Nat → Nat) (x0 : V) (x1 : Int) (x2 : Int) (x3 : V) (S : St) (K : Bool → St → Prop) : Prop :=
  setI (IntKind.i64.wrap (x1 + (1 : Int))) fun x14 => Loop2 (fun (k1 : Int → Int → St → Prop) (x9 : Int) (x10 : Int) (S1 : St) => ifC (decide (x10 < (5 : Int))) (Join1 (fun (k2 : Int → St → Prop) => Loop1 (fun (k3 : Int → St → Prop) (x9_2 : Int) (S3 : St) => ifC (decide (x9_2 < x2)) (ifS (idxAddrV 3 x0 (V.int .i64 x9_2)) fun x26 => ∃ x27_a x27_b x27_c : Int, loadNV S3 3 x26 = some (V.agg [(V.int .i64 x27_a), (V.int .u64 x27_b), (V.int .u64 x27_c)]) ∧ setI (IntKind.i64.wrap (x9_2 - (1 : Int))) fun x30 => ifS (idxAddrV 3 x0 (V.int .i64 x30)) fun x31 => ∃ x32_a x32_b x32_c : Int, loadNV S3 3 x31 = some (V.agg [(V.int .i64 x32_a), (V.int .u64 x32_b), (V.int .u64 x32_c)]) ∧ ifS (calleeV (envP P) x3 [(V.agg [(V.int .i64 x27_a), (V.int .u64 x27_b), (V.int .u64 x27_c)]), (V.agg [(V.int .i64 x32_a), (V.int .u64 x32_b), (V.int .u64 x32_c)])]) fun xf => CallA P xf.1 xf.2 S3 (retT [(.one (.int .i64))] fun (x33 : Int) (S4 : St) => ifC (!(decide (x33 < (0 : Int)))) (setI (IntKind.i64.wrap (x9_2 + (1 : Int))) fun x38 => k3 x38 S4) (k2 x9_2 S4))) (k2 x9_2 S3)) x9 S1) (fun (x9_1 : Int) (S2 : St) => ifC (decide (x9_1 = x2)) (K true S2) (setI (IntKind.i64.wrap (x2 - x1)) fun x44 => ifC (decide (x44 < (50 : Int))) (K false S2) (setI (IntKind.i64.wrap (x9_1 - (1 : Int))) fun x50 => setI (IntKind.i64.wrap (x9_1 - (1 : Int))) fun x53 => ifS (idxAddrV 3 x0 (V.int .i64 x53)) fun x54 => ∃ x55_a x55_b x55_c : Int, loadNV S2 3 x54 = some (V.agg [(V.int .i64 x55_a), (V.int .u64 x55_b), (V.int .u64 x55_c)]) ∧ ifS (idxAddrV 3 x0 (V.int .i64 x9_1)) fun x58 => ∃ x59_a x59_b x59_c : Int, loadNV S2 3 x58 = some (V.agg [(V.int .i64 x59_a), (V.int .u64 x59_b), (V.int .u64 x59_c)]) ∧ ifS (idxAddrV 3 x0 (V.int .i64 x9_1)) fun x60 => ifS (storeV S2 3 x60 (V.agg [(V.int .i64 x55_a), (V.int .u64 x55_b), (V.int .u64 x55_c)])) fun S5 => ifS (idxAddrV 3 x0 (V.int .i64 x50)) fun x61 => ifS (storeV S5 3 x61 (V.agg [(V.int .i64 x59_a), (V.int .u64 x59_b), (V.int .u64 x59_c)])) fun S6 => Join0 (fun (k4 : St → Prop) => setI (IntKind.i64.wrap (x9_1 - x1)) fun x64 => ifC (decide ((2 : Int) ≤ x64)) (setI (IntKind.i64.wrap (x9_1 - (1 : Int))) fun x67 => Loop1 (fun (k5 : Int → St → Prop) (x11 : Int) (S8 : St) => ifC (decide ((1 : Int) ≤ x11)) (ifS (idxAddrV 3 x0 (V.int .i64 x11)) fun x75 => ∃ x76_a x76_b x76_c : Int, loadNV S8 3 x75 = some (V.agg [(V.int .i64 x76_a), (V.int .u64 x76_b), (V.int .u64 x76_c)]) ∧ setI (IntKind.i64.wrap (x11 - (1 : Int))) fun x79 => ifS (idxAddrV 3 x0 (V.int .i64 x79)) fun x80 => ∃ x81_a x81_b x81_c : Int, loadNV S8 3 x80 = some (V.agg [(V.int .i64 x81_a), (V.int .u64 x81_b), (V.int .u64 x81_c)]) ∧ ifS (calleeV (envP P) x3 [(V.agg [(V.int .i64 x76_a), (V.int .u64 x76_b), (V.int .u64 x76_c)]), (V.agg [(V.int .i64 x81_a), (V.int .u64 x81_b), (V.int .u64 x81_c)])]) fun xf_1 => CallA P xf_1.1 xf_1.2 S8 (retT [(.one (.int .i64))] fun (x82 : Int) (S9 : St) => ifC (!(decide (x82 < (0 : Int)))) (k4  S9) (setI (IntKind.i64.wrap (x11 - (1 : Int))) fun x89 => setI (IntKind.i64.wrap (x11 - (1 : Int))) fun x92 => ifS (idxAddrV 3 x0 (V.int .i64 x92)) fun x93 => ∃ x94_a x94_b x94_c : Int, loadNV S9 3 x93 = some (V.agg [(V.int .i64 x94_a), (V.int .u64 x94_b), (V.int .u64 x94_c)]) ∧ ifS (idxAddrV 3 x0 (V.int .i64 x11)) fun x97 => ∃ x98_a x98_b x98_c : Int, loadNV S9 3 x97 = some (V.agg [(V.int .i64 x98_a), (V.int .u64 x98_b), (V.int .u64 x98_c)]) ∧ ifS (idxAddrV 3 x0 (V.int .i64 x11)) fun x99 => ifS (storeV S9 3 x99 (V.agg [(V.int .i64 x94_a), (V.int .u64 x94_b), (V.int .u64 x94_c)])) fun S10 => ifS (idxAddrV 3 x0 (V.int .i64 x89)) fun x100 => ifS (storeV S10 3 x100 (V.agg [(V.int .i64 x98_a), (V.int .u64 x98_b), (V.int .u64 x98_c)])) fun S11 => setI (IntKind.i64.wrap (x11 - (1 : Int))) fun x71 => k5 x71 S11))) (k4  S8)) x67 S6) (k4  S6)) (fun (S7 : St) => setI (IntKind.i64.wrap (x2 - x9_1)) fun x103 => ifC (decide ((2 : Int) ≤ x103)) (setI (IntKind.i64.wrap (x9_1 + (1 : Int))) fun x106 => Loop1 (fun (k6 : Int → St → Prop) (x12 : Int) (S12 : St) => ifC (decide (x12 < x2)) (ifS (idxAddrV 3 x0 (V.int .i64 x12)) fun x115 => ∃ x116_a x116_b x116_c : Int, loadNV S12 3 x115 = some (V.agg [(V.int .i64 x116_a), (V.int .u64 x116_b), (V.int .u64 x116_c)]) ∧ setI (IntKind.i64.wrap (x12 - (1 : Int))) fun x119 => ifS (idxAddrV 3 x0 (V.int .i64 x119)) fun x120 => ∃ x121_a x121_b x121_c : Int, loadNV S12 3 x120 = some (V.agg [(V.int .i64 x121_a), (V.int .u64 x121_b), (V.int .u64 x121_c)]) ∧ ifS (calleeV (envP P) x3 [(V.agg [(V.int .i64 x116_a), (V.int .u64 x116_b), (V.int .u64 x116_c)]), (V.agg [(V.int .i64 x121_a), (V.int .u64 x121_b), (V.int .u64 x121_c)])]) fun xf_2 => CallA P xf_2.1 xf_2.2 S12 (retT [(.one (.int .i64))] fun (x122 : Int) (S13 : St) => ifC (!(decide (x122 < (0 : Int)))) (setI (IntKind.i64.wrap (x10 + (1 : Int))) fun x18 => k1 x9_1 x18 S13) (setI (IntKind.i64.wrap (x12 - (1 : Int))) fun x129 => setI (IntKind.i64.wrap (x12 - (1 : Int))) fun x132 => ifS (idxAddrV 3 x0 (V.int .i64 x132)) fun x133 => ∃ x134_a x134_b x134_c : Int, loadNV S13 3 x133 = some (V.agg [(V.int .i64 x134_a), (V.int .u64 x134_b), (V.int .u64 x134_c)]) ∧ ifS (idxAddrV 3 x0 (V.int .i64 x12)) fun x137 => ∃ x138_a x138_b x138_c : Int, loadNV S13 3 x137 = some (V.agg [(V.int .i64 x138_a), (V.int .u64 x138_b), (V.int .u64 x138_c)]) ∧ ifS (idxAddrV 3 x0 (V.int .i64 x12)) fun x139 => ifS (storeV S13 3 x139 (V.agg [(V.int .i64 x134_a), (V.int .u64 x134_b), (V.int .u64 x134_c)])) fun S14 => ifS (idxAddrV 3 x0 (V.int .i64 x129)) fun x140 => ifS (storeV S14 3 x140 (V.agg [(V.int .i64 x138_a), (V.int .u64 x138_b), (V.int .u64 x138_c)])) fun S15 => setI (IntKind.i64.wrap (x12 + (1 : Int))) fun x111 => k6 x111 S15))) (setI (IntKind.i64.wrap (x10 + (1 : Int))) fun x18_1 => k1 x9_1 x18_1 S12)) x106 S7) (setI (IntKind.i64.wrap (x10 + (1 : Int))) fun x18_2 => k1 x9_1 x18_2 S7)))))) (K false S1)) x14 0 S
abbrev slices_partialInsertionSortCmpFunc_api_Hit.Ok (P : Program) (N : Nat → Nat) : Prop := Reads P (N Fn.slices_partialInsertionSortCmpFunc_api_Hit) [(15, (.dt (.agg [(.int .i64), (.int .u64), (.int .u64)])), []), (4, (.dt (.agg [(.int .i64), (.int .u64), (.int .u64)])), []), (0, .no, [(.one (.int .i64))]), (24, (.dt (.agg [(.int .i64), (.int .u64), (.int .u64)])), []), (3, (.dt (.agg [(.int .i64), (.int .u64), (.int .u64)])), []), (17, (.dt (.agg [(.int .i64), (.int .u64), (.int .u64)])), []), (4, (.dt (.agg [(.int .i64), (.int .u64), (.int .u64)])), []), (0, .no, [(.one (.int .i64))]), (11, (.dt (.agg [(.int .i64), (.int .u64), (.int .u64)])), []), (3, (.dt (.agg [(.int .i64), (.int .u64), (.int .u64)])), []), (21, (.dt (.agg [(.int .i64), (.int .u64), (.int .u64)])), []), (4, (.dt (.agg [(.int .i64), (.int .u64), (.int .u64)])), []), (0, .no, [(.one (.int .i64))]), (11, (.dt (.agg [(.int .i64), (.int .u64), (.int .u64)])), []), (3, (.dt (.agg [(.int .i64), (.int .u64), (.int .u64)])), [])] [(7, [(9, (.one (.int .i64)))]), (9, [])] [[(9, (.one (.int .i64))), (10, (.one (.int .i64)))], [(9, (.one (.int .i64)))], [(11, (.one (.int .i64)))], [(12, (.one (.int .i64)))]] (fun A T (x0 : V) (x1 : Int) (x2 : Int) (x3 : V) (S : St) (K : Bool → St → Prop) => wpT P (envP P) T (endT A.results [(.one .bool)] K) (frT A [x0, (V.int .i64 x1), (V.int .i64 x2), x3]) S) (fun x0 x1 x2 x3 S K => slices_partialInsertionSortCmpFunc_api_Hit.p P N x0 x1 x2 x3 S K)
theorem slices_partialInsertionSortCmpFunc_api_Hit.run {P : Program} {N : Nat → Nat} (hF : slices_partialInsertionSortCmpFunc_api_Hit.Ok P N) {x0 : V} {x1 : Int} {x2 : Int} {x3 : V} {S : St} {K : Bool → St → Prop} (h : slices_partialInsertionSortCmpFunc_api_Hit.p P N x0 x1 x2 x3 S K) : CallA P (N Fn.slices_partialInsertionSortCmpFunc_api_Hit) [x0, (V.int .i64 x1), (V.int .i64 x2), x3] S (retT [(.one .bool)] K) := hF.run (fun q => q x0 x1 x2 x3 S K) h rfl

def slices_partitionEqualCmpFunc_api_Hit.p (P : Program) (N : Nat → Nat) (x0 : V) (x1 : Int) (x2 : Int) (x3 : Int) (x4 : V) (S : St) (K : Int → St → Prop) : Prop :=
  ifS (idxAddrV 3 x0 (V.int .i64 x3)) fun x19 => ∃ x20_a x20_b x20_c : Int, loadNV S 3 x19 = some (V.agg [(V.int .i64 x20_a), (V.int .u64 x20_b), (V.int .u64 x20_c)]) ∧ ifS (idxAddrV 3 x0 (V.int .i64 x1)) fun x23 => ∃ x24_a x24_b x24_c : Int, loadNV S 3 x23 = some (V.agg [(V.int .i64 x24_a), (V.int .u64 x24_b), (V.int .u64 x24_c)]) ∧ ifS (idxAddrV 3 x0 (V.int .i64 x1)) fun x25 => ifS (storeV S 3 x25 (V.agg [(V.int .i64 x20_a), (V.int .u64 x20_b), (V.int .u64 x20_c)])) fun S1 => ifS (idxAddrV 3 x0 (V.int .i64 x3)) fun x26 => ifS (storeV S1 3 x26 (V.agg [(V.int .i64 x24_a), (V.int .u64 x24_b), (V.int .u64 x24_c)])) fun S2 => setI (IntKind.i64.wrap (x1 + (1 : Int))) fun x28 => setI (IntKind.i64.wrap (x2 - (1 : Int))) fun x30 => Loop2 (fun (k1 : Int → Int → St → Prop) (x11 : Int) (x12 : Int) (S3 : St) => Join1 (fun (k2 : Int → St → Prop) => Loop1 (fun (k3 : Int → St → Prop) (x11_2 : Int) (S5 : St) => ifC (decide (x11_2 ≤ x12)) (ifS (idxAddrV 3 x0 (V.int .i64 x1)) fun x38 => ∃ x39_a x39_b x39_c : Int, loadNV S5 3 x38 = some (V.agg [(V.int .i64 x39_a), (V.int .u64 x39_b), (V.int .u64 x39_c)]) ∧ ifS (idxAddrV 3 x0 (V.int .i64 x11_2)) fun x42 => ∃ x43_a x43_b x43_c : Int, loadNV S5 3 x42 = some (V.agg [(V.int .i64 x43_a), (V.int .u64 x43_b), (V.int .u64 x43_c)]) ∧ ifS (calleeV (envP P) x4 [(V.agg [(V.int .i64 x39_a), (V.int .u64 x39_b), (V.int .u64 x39_c)]), (V.agg [(V.int .i64 x43_a), (V.int .u64 x43_b), (V.int .u64 x43_c)])]) fun xf => CallA P xf.1 xf.2 S5 (retT [(.one (.int .i64))] fun (x44 : Int) (S6 : St) => ifC (!(decide (x44 < (0 : Int)))) (setI (IntKind.i64.wrap (x11_2 + (1 : Int))) fun x49 => k3 x49 S6) (k2 x11_2 S6))) (k2 x11_2 S5)) x11 S3) (fun (x11_1 : Int) (S4 : St) => Join1 (fun (k4 : Int → St → Prop) => Loop1 (fun (k5 : Int → St → Prop) (x12_2 : Int) (S8 : St) => ifC (decide (x11_1 ≤ x12_2)) (ifS (idxAddrV 3 x0 (V.int .i64 x1)) fun x57 => ∃ x58_a x58_b x58_c : Int, loadNV S8 3 x57 = some (V.agg [(V.int .i64 x58_a), (V.int .u64 x58_b), (V.int .u64 x58_c)]) ∧ ifS (idxAddrV 3 x0 (V.int .i64 x12_2)) fun x61 => ∃ x62_a x62_b x62_c : Int, loadNV S8 3 x61 = some (V.agg [(V.int .i64 x62_a), (V.int .u64 x62_b), (V.int .u64 x62_c)]) ∧ ifS (calleeV (envP P) x4 [(V.agg [(V.int .i64 x58_a), (V.int .u64 x58_b), (V.int .u64 x58_c)]), (V.agg [(V.int .i64 x62_a), (V.int .u64 x62_b), (V.int .u64 x62_c)])]) fun xf_1 => CallA P xf_1.1 xf_1.2 S8 (retT [(.one (.int .i64))] fun (x63 : Int) (S9 : St) => ifC (decide (x63 < (0 : Int))) (setI (IntKind.i64.wrap (x12_2 - (1 : Int))) fun x67 => k5 x67 S9) (k4 x12_2 S9))) (k4 x12_2 S8)) x12 S4) (fun (x12_1 : Int) (S7 : St) => ifC (decide (x12_1 < x11_1)) (K x11_1 S7) (ifS (idxAddrV 3 x0 (V.int .i64 x12_1)) fun x77 => ∃ x78_a x78_b x78_c : Int, loadNV S7 3 x77 = some (V.agg [(V.int .i64 x78_a), (V.int .u64 x78_b), (V.int .u64 x78_c)]) ∧ ifS (idxAddrV 3 x0 (V.int .i64 x11_1)) fun x81 => ∃ x82_a x82_b x82_c : Int, loadNV S7 3 x81 = some (V.agg [(V.int .i64 x82_a), (V.int .u64 x82_b), (V.int .u64 x82_c)]) ∧ ifS (idxAddrV 3 x0 (V.int .i64 x11_1)) fun x83 => ifS (storeV S7 3 x83 (V.agg [(V.int .i64 x78_a), (V.int .u64 x78_b), (V.int .u64 x78_c)])) fun S10 => ifS (idxAddrV 3 x0 (V.int .i64 x12_1)) fun x84 => ifS (storeV S10 3 x84 (V.agg [(V.int .i64 x82_a), (V.int .u64 x82_b), (V.int .u64 x82_c)])) fun S11 => setI (IntKind.i64.wrap (x11_1 + (1 : Int))) fun x86 => setI (IntKind.i64.wrap (x12_1 - (1 : Int))) fun x88 => k1 x86 x88 S11)))) x28 x30 S2
abbrev slices_partitionEqualCmpFunc_api_Hit.Ok (P : Program) (N : Nat → Nat) : Prop := Reads P (N Fn.slices_partitionEqualCmpFunc_api_Hit) [(8, (.dt (.agg [(.int .i64), (.int .u64), (.int .u64)])), []), (3, (.dt (.agg [(.int .i64), (.int .u64), (.int .u64)])), []), (18, (.dt (.agg [(.int .i64), (.int .u64), (.int .u64)])), []), (3, (.dt (.agg [(.int .i64), (.int .u64), (.int .u64)])), []), (0, .no, [(.one (.int .i64))]), (14, (.dt (.agg [(.int .i64), (.int .u64), (.int .u64)])), []), (3, (.dt (.agg [(.int .i64), (.int .u64), (.int .u64)])), []), (0, .no, [(.one (.int .i64))]), (15, (.dt (.agg [(.int .i64), (.int .u64), (.int .u64)])), []), (3, (.dt (.agg [(.int .i64), (.int .u64), (.int .u64)])), [])] [(4, [(11, (.one (.int .i64)))]), (2, [(12, (.one (.int .i64)))])] [[(11, (.one (.int .i64))), (12, (.one (.int .i64)))], [(11, (.one (.int .i64)))], [(12, (.one (.int .i64)))]] (fun A T (x0 : V) (x1 : Int) (x2 : Int) (x3 : Int) (x4 : V) (S : St) (K : Int → St → Prop) => wpT P (envP P) T (endT A.results [(.one (.int .i64))] K) (frT A [x0, (V.int .i64 x1), (V.int .i64 x2), (V.int .i64 x3), x4]) S) (fun x0 x1 x2 x3 x4 S K => slices_partitionEqualCmpFunc_api_Hit.p P N x0 x1 x2 x3 x4 S K)
theorem slices_partitionEqualCmpFunc_api_Hit.run {P : Program} {N : Nat → Nat} (hF : slices_partitionEqualCmpFunc_api_Hit.Ok P N) {x0 : V} {x1 : Int} {x2 : Int} {x3 : Int} {x4 : V} {S : St} {K : Int → St → Prop} (h : slices_partitionEqualCmpFunc_api_Hit.p P N x0 x1 x2 x3 x4 S K) : CallA P (N Fn.slices_partitionEqualCmpFunc_api_Hit) [x0, (V.int .i64 x1), (V.int .i64 x2), (V.int .i64 x3), x4] S (retT [(.one (.int .i64))] K) := hF.run (fun q => q x0 x1 x2 x3 x4 S K) h rfl

def slices_partitionCmpFunc_api_Hit.p (P : Program) (N : Nat → Nat) (x0 : V) (x1 : Int) (x2 : Int) (x3 : Int) (x4 : V) (S : St) (K : Int → Bool → St → Prop) : Prop :=
  ifS (idxAddrV 3 x0 (V.int .i64 x3)) fun x20 => ∃ x21_a x21_b x21_c : Int, loadNV S 3 x20 = some (V.agg [(V.int .i64 x21_a), (V.int .u64 x21_b), (V.int .u64 x21_c)]) ∧ ifS (idxAddrV 3 x0 (V.int .i64 x1)) fun x24 => ∃ x25_a x25_b x25_c : Int, loadNV S 3 x24 = some (V.agg [(V.int .i64 x25_a), (V.int .u64 x25_b), (V.int .u64 x25_c)]) ∧ ifS (idxAddrV 3 x0 (V.int .i64 x1)) fun x26 => ifS (storeV S 3 x26 (V.agg [(V.int .i64 x21_a), (V.int .u64 x21_b), (V.int .u64 x21_c)])) fun S1 => ifS (idxAddrV 3 x0 (V.int .i64 x3)) fun x27 => ifS (storeV S1 3 x27 (V.agg [(V.int .i64 x25_a), (V.int .u64 x25_b), (V.int .u64 x25_c)])) fun S2 => setI (IntKind.i64.wrap (x1 + (1 : Int))) fun x29 => setI (IntKind.i64.wrap (x2 - (1 : Int))) fun x31 => Join1 (fun (k1 : Int → St → Prop) => Loop1 (fun (k2 : Int → St → Prop) (x12_1 : Int) (S4 : St) => ifC (decide (x12_1 ≤ x31)) (ifS (idxAddrV 3 x0 (V.int .i64 x12_1)) fun x39 => ∃ x40_a x40_b x40_c : Int, loadNV S4 3 x39 = some (V.agg [(V.int .i64 x40_a), (V.int .u64 x40_b), (V.int .u64 x40_c)]) ∧ ifS (idxAddrV 3 x0 (V.int .i64 x1)) fun x43 => ∃ x44_a x44_b x44_c : Int, loadNV S4 3 x43 = some (V.agg [(V.int .i64 x44_a), (V.int .u64 x44_b), (V.int .u64 x44_c)]) ∧ ifS (calleeV (envP P) x4 [(V.agg [(V.int .i64 x40_a), (V.int .u64 x40_b), (V.int .u64 x40_c)]), (V.agg [(V.int .i64 x44_a), (V.int .u64 x44_b), (V.int .u64 x44_c)])]) fun xf => CallA P xf.1 xf.2 S4 (retT [(.one (.int .i64))] fun (x45 : Int) (S5 : St) => ifC (decide (x45 < (0 : Int))) (setI (IntKind.i64.wrap (x12_1 + (1 : Int))) fun x49 => k2 x49 S5) (k1 x12_1 S5))) (k1 x12_1 S4)) x29 S2) (fun (x12 : Int) (S3 : St) => Join1 (fun (k3 : Int → St → Prop) => Loop1 (fun (k4 : Int → St → Prop) (x13_1 : Int) (S7 : St) => ifC (decide (x12 ≤ x13_1)) (ifS (idxAddrV 3 x0 (V.int .i64 x13_1)) fun x57 => ∃ x58_a x58_b x58_c : Int, loadNV S7 3 x57 = some (V.agg [(V.int .i64 x58_a), (V.int .u64 x58_b), (V.int .u64 x58_c)]) ∧ ifS (idxAddrV 3 x0 (V.int .i64 x1)) fun x61 => ∃ x62_a x62_b x62_c : Int, loadNV S7 3 x61 = some (V.agg [(V.int .i64 x62_a), (V.int .u64 x62_b), (V.int .u64 x62_c)]) ∧ ifS (calleeV (envP P) x4 [(V.agg [(V.int .i64 x58_a), (V.int .u64 x58_b), (V.int .u64 x58_c)]), (V.agg [(V.int .i64 x62_a), (V.int .u64 x62_b), (V.int .u64 x62_c)])]) fun xf_1 => CallA P xf_1.1 xf_1.2 S7 (retT [(.one (.int .i64))] fun (x63 : Int) (S8 : St) => ifC (!(decide (x63 < (0 : Int)))) (setI (IntKind.i64.wrap (x13_1 - (1 : Int))) fun x68 => k4 x68 S8) (k3 x13_1 S8))) (k3 x13_1 S7)) x31 S3) (fun (x13 : Int) (S6 : St) => ifC (decide (x13 < x12)) (ifS (idxAddrV 3 x0 (V.int .i64 x1)) fun x78 => ∃ x79_a x79_b x79_c : Int, loadNV S6 3 x78 = some (V.agg [(V.int .i64 x79_a), (V.int .u64 x79_b), (V.int .u64 x79_c)]) ∧ ifS (idxAddrV 3 x0 (V.int .i64 x13)) fun x82 => ∃ x83_a x83_b x83_c : Int, loadNV S6 3 x82 = some (V.agg [(V.int .i64 x83_a), (V.int .u64 x83_b), (V.int .u64 x83_c)]) ∧ ifS (idxAddrV 3 x0 (V.int .i64 x13)) fun x84 => ifS (storeV S6 3 x84 (V.agg [(V.int .i64 x79_a), (V.int .u64 x79_b), (V.int .u64 x79_c)])) fun S9 => ifS (idxAddrV 3 x0 (V.int .i64 x1)) fun x85 => ifS (storeV S9 3 x85 (V.agg [(V.int .i64 x83_a), (V.int .u64 x83_b), (V.int .u64 x83_c)])) fun S10 => K x13 true S10) (ifS (idxAddrV 3 x0 (V.int .i64 x13)) fun x93 => ∃ x94_a x94_b x94_c : Int, loadNV S6 3 x93 = some (V.agg [(V.int .i64 x94_a), (V.int .u64 x94_b), (V.int .u64 x94_c)]) ∧ ifS (idxAddrV 3 x0 (V.int .i64 x12)) fun x97 => ∃ x98_a x98_b x98_c : Int, loadNV S6 3 x97 = some (V.agg [(V.int .i64 x98_a), (V.int .u64 x98_b), (V.int .u64 x98_c)]) ∧ ifS (idxAddrV 3 x0 (V.int .i64 x12)) fun x99 => ifS (storeV S6 3 x99 (V.agg [(V.int .i64 x94_a), (V.int .u64 x94_b), (V.int .u64 x94_c)])) fun S11 => ifS (idxAddrV 3 x0 (V.int .i64 x13)) fun x100 => ifS (storeV S11 3 x100 (V.agg [(V.int .i64 x98_a), (V.int .u64 x98_b), (V.int .u64 x98_c)])) fun S12 => setI (IntKind.i64.wrap (x12 + (1 : Int))) fun x102 => setI (IntKind.i64.wrap (x13 - (1 : Int))) fun x104 => Loop2 (fun (k5 : Int → Int → St → Prop) (x12_2 : Int) (x13_2 : Int) (S13 : St) => Join1 (fun (k6 : Int → St → Prop) => Loop1 (fun (k7 : Int → St → Prop) (x12_4 : Int) (S15 : St) => ifC (decide (x12_4 ≤ x13_2)) (ifS (idxAddrV 3 x0 (V.int .i64 x12_4)) fun x112 => ∃ x113_a x113_b x113_c : Int, loadNV S15 3 x112 = some (V.agg [(V.int .i64 x113_a), (V.int .u64 x113_b), (V.int .u64 x113_c)]) ∧ ifS (idxAddrV 3 x0 (V.int .i64 x1)) fun x116 => ∃ x117_a x117_b x117_c : Int, loadNV S15 3 x116 = some (V.agg [(V.int .i64 x117_a), (V.int .u64 x117_b), (V.int .u64 x117_c)]) ∧ ifS (calleeV (envP P) x4 [(V.agg [(V.int .i64 x113_a), (V.int .u64 x113_b), (V.int .u64 x113_c)]), (V.agg [(V.int .i64 x117_a), (V.int .u64 x117_b), (V.int .u64 x117_c)])]) fun xf_2 => CallA P xf_2.1 xf_2.2 S15 (retT [(.one (.int .i64))] fun (x118 : Int) (S16 : St) => ifC (decide (x118 < (0 : Int))) (setI (IntKind.i64.wrap (x12_4 + (1 : Int))) fun x122 => k7 x122 S16) (k6 x12_4 S16))) (k6 x12_4 S15)) x12_2 S13) (fun (x12_3 : Int) (S14 : St) => Join1 (fun (k8 : Int → St → Prop) => Loop1 (fun (k9 : Int → St → Prop) (x13_4 : Int) (S18 : St) => ifC (decide (x12_3 ≤ x13_4)) (ifS (idxAddrV 3 x0 (V.int .i64 x13_4)) fun x130 => ∃ x131_a x131_b x131_c : Int, loadNV S18 3 x130 = some (V.agg [(V.int .i64 x131_a), (V.int .u64 x131_b), (V.int .u64 x131_c)]) ∧ ifS (idxAddrV 3 x0 (V.int .i64 x1)) fun x134 => ∃ x135_a x135_b x135_c : Int, loadNV S18 3 x134 = some (V.agg [(V.int .i64 x135_a), (V.int .u64 x135_b), (V.int .u64 x135_c)]) ∧ ifS (calleeV (envP P) x4 [(V.agg [(V.int .i64 x131_a), (V.int .u64 x131_b), (V.int .u64 x131_c)]), (V.agg [(V.int .i64 x135_a), (V.int .u64 x135_b), (V.int .u64 x135_c)])]) fun xf_3 => CallA P xf_3.1 xf_3.2 S18 (retT [(.one (.int .i64))] fun (x136 : Int) (S19 : St) => ifC (!(decide (x136 < (0 : Int)))) (setI (IntKind.i64.wrap (x13_4 - (1 : Int))) fun x141 => k9 x141 S19) (k8 x13_4 S19))) (k8 x13_4 S18)) x13_2 S14) (fun (x13_3 : Int) (S17 : St) => ifC (decide (x13_3 < x12_3)) (ifS (idxAddrV 3 x0 (V.int .i64 x1)) fun x169 => ∃ x170_a x170_b x170_c : Int, loadNV S17 3 x169 = some (V.agg [(V.int .i64 x170_a), (V.int .u64 x170_b), (V.int .u64 x170_c)]) ∧ ifS (idxAddrV 3 x0 (V.int .i64 x13_3)) fun x173 => ∃ x174_a x174_b x174_c : Int, loadNV S17 3 x173 = some (V.agg [(V.int .i64 x174_a), (V.int .u64 x174_b), (V.int .u64 x174_c)]) ∧ ifS (idxAddrV 3 x0 (V.int .i64 x13_3)) fun x175 => ifS (storeV S17 3 x175 (V.agg [(V.int .i64 x170_a), (V.int .u64 x170_b), (V.int .u64 x170_c)])) fun S20 => ifS (idxAddrV 3 x0 (V.int .i64 x1)) fun x176 => ifS (storeV S20 3 x176 (V.agg [(V.int .i64 x174_a), (V.int .u64 x174_b), (V.int .u64 x174_c)])) fun S21 => K x13_3 false S21) (ifS (idxAddrV 3 x0 (V.int .i64 x13_3)) fun x151 => ∃ x152_a x152_b x152_c : Int, loadNV S17 3 x151 = some (V.agg [(V.int .i64 x152_a), (V.int .u64 x152_b), (V.int .u64 x152_c)]) ∧ ifS (idxAddrV 3 x0 (V.int .i64 x12_3)) fun x155 => ∃ x156_a x156_b x156_c : Int, loadNV S17 3 x155 = some (V.agg [(V.int .i64 x156_a), (V.int .u64 x156_b), (V.int .u64 x156_c)]) ∧ ifS (idxAddrV 3 x0 (V.int .i64 x12_3)) fun x157 => ifS (storeV S17 3 x157 (V.agg [(V.int .i64 x152_a), (V.int .u64 x152_b), (V.int .u64 x152_c)])) fun S22 => ifS (idxAddrV 3 x0 (V.int .i64 x13_3)) fun x158 => ifS (storeV S22 3 x158 (V.agg [(V.int .i64 x156_a), (V.int .u64 x156_b), (V.int .u64 x156_c)])) fun S23 => setI (IntKind.i64.wrap (x12_3 + (1 : Int))) fun x160 => setI (IntKind.i64.wrap (x13_3 - (1 : Int))) fun x162 => k5 x160 x162 S23)))) x102 x104 S12)))
abbrev slices_partitionCmpFunc_api_Hit.Ok (P : Program) (N : Nat → Nat) : Prop := Reads P (N Fn.slices_partitionCmpFunc_api_Hit) [(9, (.dt (.agg [(.int .i64), (.int .u64), (.int .u64)])), []), (3, (.dt (.agg [(.int .i64), (.int .u64), (.int .u64)])), []), (18, (.dt (.agg [(.int .i64), (.int .u64), (.int .u64)])), []), (3, (.dt (.agg [(.int .i64), (.int .u64), (.int .u64)])), []), (0, .no, [(.one (.int .i64))]), (13, (.dt (.agg [(.int .i64), (.int .u64), (.int .u64)])), []), (3, (.dt (.agg [(.int .i64), (.int .u64), (.int .u64)])), []), (0, .no, [(.one (.int .i64))]), (16, (.dt (.agg [(.int .i64), (.int .u64), (.int .u64)])), []), (3, (.dt (.agg [(.int .i64), (.int .u64), (.int .u64)])), []), (14, (.dt (.agg [(.int .i64), (.int .u64), (.int .u64)])), []), (3, (.dt (.agg [(.int .i64), (.int .u64), (.int .u64)])), []), (18, (.dt (.agg [(.int .i64), (.int .u64), (.int .u64)])), []), (3, (.dt (.agg [(.int .i64), (.int .u64), (.int .u64)])), []), (0, .no, [(.one (.int .i64))]), (13, (.dt (.agg [(.int .i64), (.int .u64), (.int .u64)])), []), (3, (.dt (.agg [(.int .i64), (.int .u64), (.int .u64)])), []), (0, .no, [(.one (.int .i64))]), (16, (.dt (.agg [(.int .i64), (.int .u64), (.int .u64)])), []), (3, (.dt (.agg [(.int .i64), (.int .u64), (.int .u64)])), []), (17, (.dt (.agg [(.int .i64), (.int .u64), (.int .u64)])), []), (3, (.dt (.agg [(.int .i64), (.int .u64), (.int .u64)])), [])] [(3, [(12, (.one (.int .i64)))]), (2, [(13, (.one (.int .i64)))]), (10, [(12, (.one (.int .i64)))]), (2, [(13, (.one (.int .i64)))])] [[(12, (.one (.int .i64)))], [(13, (.one (.int .i64)))], [(12, (.one (.int .i64))), (13, (.one (.int .i64)))], [(12, (.one (.int .i64)))], [(13, (.one (.int .i64)))]] (fun A T (x0 : V) (x1 : Int) (x2 : Int) (x3 : Int) (x4 : V) (S : St) (K : Int → Bool → St → Prop) => wpT P (envP P) T (endT A.results [(.one (.int .i64)), (.one .bool)] K) (frT A [x0, (V.int .i64 x1), (V.int .i64 x2), (V.int .i64 x3), x4]) S) (fun x0 x1 x2 x3 x4 S K => slices_partitionCmpFunc_api_Hit.p P N x0 x1 x2 x3 x4 S K)
theorem slices_partitionCmpFunc_api_Hit.run {P : Program} {N : Nat → Nat} (hF : slices_partitionCmpFunc_api_Hit.Ok P N) {x0 : V} {x1 : Int} {x2 : Int} {x3 : Int} {x4 : V} {S : St} {K : Int → Bool → St → Prop} (h : slices_partitionCmpFunc_api_Hit.p P N x0 x1 x2 x3 x4 S K) : CallA P (N Fn.slices_partitionCmpFunc_api_Hit) [x0, (V.int .i64 x1), (V.int .i64 x2), (V.int .i64 x3), x4] S (retT [(.one (.int .i64)), (.one .bool)] K) := hF.run (fun q => q x0 x1 x2 x3 x4 S K) h rfl

def slices_siftDownCmpFunc_api_Hit.p (P : Program) (N : Nat → Nat) (x0 : V) (x1 : Int) (x2 : Int) (x3 : Int) (x4 : V) (S : St) (K : St → Prop) : Prop :=
  Loop1 (fun (k1 : Int → St → Prop) (x10 : Int) (S1 : St) => setI (IntKind.i64.wrap ((2 : Int) * x10)) fun x14 => setI (IntKind.i64.wrap (x14 + (1 : Int))) fun x15 => ifC (decide (x2 ≤ x15)) (K  S1) (Join1 (fun (k2 : Int → St → Prop) => Join1 (fun (k3 : Bool → St → Prop) => setI (IntKind.i64.wrap (x15 + (1 : Int))) fun x20 => ifC (decide (x20 < x2)) (setI (IntKind.i64.wrap (x3 + x15)) fun x28 => ifS (idxAddrV 3 x0 (V.int .i64 x28)) fun x29 => ∃ x30_a x30_b x30_c : Int, loadNV S1 3 x29 = some (V.agg [(V.int .i64 x30_a), (V.int .u64 x30_b), (V.int .u64 x30_c)]) ∧ setI (IntKind.i64.wrap (x3 + x15)) fun x34 => setI (IntKind.i64.wrap (x34 + (1 : Int))) fun x35 => ifS (idxAddrV 3 x0 (V.int .i64 x35)) fun x36 => ∃ x37_a x37_b x37_c : Int, loadNV S1 3 x36 = some (V.agg [(V.int .i64 x37_a), (V.int .u64 x37_b), (V.int .u64 x37_c)]) ∧ ifS (calleeV (envP P) x4 [(V.agg [(V.int .i64 x30_a), (V.int .u64 x30_b), (V.int .u64 x30_c)]), (V.agg [(V.int .i64 x37_a), (V.int .u64 x37_b), (V.int .u64 x37_c)])]) fun xf => CallA P xf.1 xf.2 S1 (retT [(.one (.int .i64))] fun (x38 : Int) (S4 : St) => k3 (decide (x38 < (0 : Int))) S4)) (k3 false S1)) (fun (x40 : Bool) (S3 : St) => ifC x40 (setI (IntKind.i64.wrap (x15 + (1 : Int))) fun x42 => k2 x42 S3) (k2 x15 S3))) (fun (x11 : Int) (S2 : St) => setI (IntKind.i64.wrap (x3 + x10)) fun x47 => ifS (idxAddrV 3 x0 (V.int .i64 x47)) fun x48 => ∃ x49_a x49_b x49_c : Int, loadNV S2 3 x48 = some (V.agg [(V.int .i64 x49_a), (V.int .u64 x49_b), (V.int .u64 x49_c)]) ∧ setI (IntKind.i64.wrap (x3 + x11)) fun x53 => ifS (idxAddrV 3 x0 (V.int .i64 x53)) fun x54 => ∃ x55_a x55_b x55_c : Int, loadNV S2 3 x54 = some (V.agg [(V.int .i64 x55_a), (V.int .u64 x55_b), (V.int .u64 x55_c)]) ∧ ifS (calleeV (envP P) x4 [(V.agg [(V.int .i64 x49_a), (V.int .u64 x49_b), (V.int .u64 x49_c)]), (V.agg [(V.int .i64 x55_a), (V.int .u64 x55_b), (V.int .u64 x55_c)])]) fun xf_1 => CallA P xf_1.1 xf_1.2 S2 (retT [(.one (.int .i64))] fun (x56 : Int) (S5 : St) => ifC (!(decide (x56 < (0 : Int)))) (K  S5) (setI (IntKind.i64.wrap (x3 + x10)) fun x62 => setI (IntKind.i64.wrap (x3 + x11)) fun x66 => setI (IntKind.i64.wrap (x3 + x11)) fun x70 => ifS (idxAddrV 3 x0 (V.int .i64 x70)) fun x71 => ∃ x72_a x72_b x72_c : Int, loadNV S5 3 x71 = some (V.agg [(V.int .i64 x72_a), (V.int .u64 x72_b), (V.int .u64 x72_c)]) ∧ setI (IntKind.i64.wrap (x3 + x10)) fun x76 => ifS (idxAddrV 3 x0 (V.int .i64 x76)) fun x77 => ∃ x78_a x78_b x78_c : Int, loadNV S5 3 x77 = some (V.agg [(V.int .i64 x78_a), (V.int .u64 x78_b), (V.int .u64 x78_c)]) ∧ ifS (idxAddrV 3 x0 (V.int .i64 x62)) fun x79 => ifS (storeV S5 3 x79 (V.agg [(V.int .i64 x72_a), (V.int .u64 x72_b), (V.int .u64 x72_c)])) fun S6 => ifS (idxAddrV 3 x0 (V.int .i64 x66)) fun x80 => ifS (storeV S6 3 x80 (V.agg [(V.int .i64 x78_a), (V.int .u64 x78_b), (V.int .u64 x78_c)])) fun S7 => k1 x11 S7))))) x1 S
abbrev slices_siftDownCmpFunc_api_Hit.Ok (P : Program) (N : Nat → Nat) : Prop := Reads P (N Fn.slices_siftDownCmpFunc_api_Hit) [(20, (.dt (.agg [(.int .i64), (.int .u64), (.int .u64)])), []), (6, (.dt (.agg [(.int .i64), (.int .u64), (.int .u64)])), []), (0, .no, [(.one (.int .i64))]), (11, (.dt (.agg [(.int .i64), (.int .u64), (.int .u64)])), []), (5, (.dt (.agg [(.int .i64), (.int .u64), (.int .u64)])), []), (0, .no, [(.one (.int .i64))]), (15, (.dt (.agg [(.int .i64), (.int .u64), (.int .u64)])), []), (5, (.dt (.agg [(.int .i64), (.int .u64), (.int .u64)])), [])] [(4, [(11, (.one (.int .i64)))]), (0, [(40, (.one .bool))])] [[(10, (.one (.int .i64)))]] (fun A T (x0 : V) (x1 : Int) (x2 : Int) (x3 : Int) (x4 : V) (S : St) (K : St → Prop) => wpT P (envP P) T (endT A.results [] K) (frT A [x0, (V.int .i64 x1), (V.int .i64 x2), (V.int .i64 x3), x4]) S) (fun x0 x1 x2 x3 x4 S K => slices_siftDownCmpFunc_api_Hit.p P N x0 x1 x2 x3 x4 S K)
theorem slices_siftDownCmpFunc_api_Hit.run {P : Program} {N : Nat → Nat} (hF : slices_siftDownCmpFunc_api_Hit.Ok P N) {x0 : V} {x1 : Int} {x2 : Int} {x3 : Int} {x4 : V} {S : St} {K : St → Prop} (h : slices_siftDownCmpFunc_api_Hit.p P N x0 x1 x2 x3 x4 S K) : CallA P (N Fn.slices_siftDownCmpFunc_api_Hit) [x0, (V.int .i64 x1), (V.int .i64 x2), (V.int .i64 x3), x4] S (retT [] K) := hF.run (fun q => q x0 x1 x2 x3 x4 S K) h rfl

def slices_medianAdjacentCmpFunc_api_Hit.p (P : Program) (N : Nat → Nat) (x0 : V) (x1 : Int) (x2 : V) (x3 : V) (S : St) (K : Int → St → Prop) : Prop :=
  setI (IntKind.i64.wrap (x1 - (1 : Int))) fun x11 => setI (IntKind.i64.wrap (x1 + (1 : Int))) fun x14 => CallA P (N Fn.slices_medianCmpFunc_api_Hit) [x0, (V.int .i64 x11), (V.int .i64 x1), (V.int .i64 x14), x2, x3] S (retT [(.one (.int .i64))] fun (x17 : Int) (S1 : St) => K x17 S1)
abbrev slices_medianAdjacentCmpFunc_api_Hit.Ok (P : Program) (N : Nat → Nat) : Prop := Reads P (N Fn.slices_medianAdjacentCmpFunc_api_Hit) [(9, .no, [(.one (.int .i64))])] [] [] (fun A T (x0 : V) (x1 : Int) (x2 : V) (x3 : V) (S : St) (K : Int → St → Prop) => wpT P (envP P) T (endT A.results [(.one (.int .i64))] K) (frT A [x0, (V.int .i64 x1), x2, x3]) S) (fun x0 x1 x2 x3 S K => slices_medianAdjacentCmpFunc_api_Hit.p P N x0 x1 x2 x3 S K)
theorem slices_medianAdjacentCmpFunc_api_Hit.run {P : Program} {N : Nat → Nat} (hF : slices_medianAdjacentCmpFunc_api_Hit.Ok P N) {x0 : V} {x1 : Int} {x2 : V} {x3 : V} {S : St} {K : Int → St → Prop} (h : slices_medianAdjacentCmpFunc_api_Hit.p P N x0 x1 x2 x3 S K) : CallA P (N Fn.slices_medianAdjacentCmpFunc_api_Hit) [x0, (V.int .i64 x1), x2, x3] S (retT [(.one (.int .i64))] K) := hF.run (fun q => q x0 x1 x2 x3 S K) h rfl

def slices_medianCmpFunc_api_Hit.p (P : Program) (N : Nat → Nat) (x0 : V) (x1 : Int) (x2 : Int) (x3 : Int) (x4 : V) (x5 : V) (S : St) (K : Int → St → Prop) : Prop :=
  CallA P (N Fn.slices_order2CmpFunc_api_Hit) [x0, (V.int .i64 x1), (V.int .i64 x2), x4, x5] S (retT [(.one (.int .i64)), (.one (.int .i64))] fun (x19a : Int) (x19b : Int) (S1 : St) => CallA P (N Fn.slices_order2CmpFunc_api_Hit) [x0, (V.int .i64 x19b), (V.int .i64 x3), x4, x5] S1 (retT [(.one (.int .i64)), (.one (.int .i64))] fun (x28a : Int) (x28b : Int) (S2 : St) => CallA P (N Fn.slices_order2CmpFunc_api_Hit) [x0, (V.int .i64 x19a), (V.int .i64 x28a), x4, x5] S2 (retT [(.one (.int .i64)), (.one (.int .i64))] fun (x37a : Int) (x37b : Int) (S3 : St) => K x37b S3)))
abbrev slices_medianCmpFunc_api_Hit.Ok (P : Program) (N : Nat → Nat) : Prop := Reads P (N Fn.slices_medianCmpFunc_api_Hit) [(6, .no, [(.one (.int .i64)), (.one (.int .i64))]), (10, .no, [(.one (.int .i64)), (.one (.int .i64))]), (10, .no, [(.one (.int .i64)), (.one (.int .i64))])] [] [] (fun A T (x0 : V) (x1 : Int) (x2 : Int) (x3 : Int) (x4 : V) (x5 : V) (S : St) (K : Int → St → Prop) => wpT P (envP P) T (endT A.results [(.one (.int .i64))] K) (frT A [x0, (V.int .i64 x1), (V.int .i64 x2), (V.int .i64 x3), x4, x5]) S) (fun x0 x1 x2 x3 x4 x5 S K => slices_medianCmpFunc_api_Hit.p P N x0 x1 x2 x3 x4 x5 S K)
theorem slices_medianCmpFunc_api_Hit.run {P : Program} {N : Nat → Nat} (hF : slices_medianCmpFunc_api_Hit.Ok P N) {x0 : V} {x1 : Int} {x2 : Int} {x3 : Int} {x4 : V} {x5 : V} {S : St} {K : Int → St → Prop} (h : slices_medianCmpFunc_api_Hit.p P N x0 x1 x2 x3 x4 x5 S K) : CallA P (N Fn.slices_medianCmpFunc_api_Hit) [x0, (V.int .i64 x1), (V.int .i64 x2), (V.int .i64 x3), x4, x5] S (retT [(.one (.int .i64))] K) := hF.run (fun q => q x0 x1 x2 x3 x4 x5 S K) h rfl

def slices_order2CmpFunc_api_Hit.p (P : Program) (N : Nat → Nat) (x0 : V) (x1 : Int) (x2 : Int) (x3 : V) (x4 : V) (S : St) (K : Int → Int → St → Prop) : Prop :=
  ifS (idxAddrV 3 x0 (V.int .i64 x2)) fun x15 => ∃ x16_a x16_b x16_c : Int, loadNV S 3 x15 = some (V.agg [(V.int .i64 x16_a), (V.int .u64 x16_b), (V.int .u64 x16_c)]) ∧ ifS (idxAddrV 3 x0 (V.int .i64 x1)) fun x19 => ∃ x20_a x20_b x20_c : Int, loadNV S 3 x19 = some (V.agg [(V.int .i64 x20_a), (V.int .u64 x20_b), (V.int .u64 x20_c)]) ∧ ifS (calleeV (envP P) x4 [(V.agg [(V.int .i64 x16_a), (V.int .u64 x16_b), (V.int .u64 x16_c)]), (V.agg [(V.int .i64 x20_a), (V.int .u64 x20_b), (V.int .u64 x20_c)])]) fun xf => CallA P xf.1 xf.2 S (retT [(.one (.int .i64))] fun (x21 : Int) (S1 : St) => ifC (decide (x21 < (0 : Int))) (nilV x3 = some x3 ∧ ∃ x25 : Int, loadV S1 x3 = some (V.int .i64 x25) ∧ setI (IntKind.i64.wrap (x25 + (1 : Int))) fun x26 => nilV x3 = some x3 ∧ ifS (storeV S1 1 x3 (V.int .i64 x26)) fun S2 => K x2 x1 S2) (K x1 x2 S1))
abbrev slices_order2CmpFunc_api_Hit.Ok (P : Program) (N : Nat → Nat) : Prop := Reads P (N Fn.slices_order2CmpFunc_api_Hit) [(6, (.dt (.agg [(.int .i64), (.int .u64), (.int .u64)])), []), (3, (.dt (.agg [(.int .i64), (.int .u64), (.int .u64)])), []), (0, .no, [(.one (.int .i64))]), (3, (.dt (.one (.int .i64))), [])] [] [] (fun A T (x0 : V) (x1 : Int) (x2 : Int) (x3 : V) (x4 : V) (S : St) (K : Int → Int → St → Prop) => wpT P (envP P) T (endT A.results [(.one (.int .i64)), (.one (.int .i64))] K) (frT A [x0, (V.int .i64 x1), (V.int .i64 x2), x3, x4]) S) (fun x0 x1 x2 x3 x4 S K => slices_order2CmpFunc_api_Hit.p P N x0 x1 x2 x3 x4 S K)
theorem slices_order2CmpFunc_api_Hit.run {P : Program} {N : Nat → Nat} (hF : slices_order2CmpFunc_api_Hit.Ok P N) {x0 : V} {x1 : Int} {x2 : Int} {x3 : V} {x4 : V} {S : St} {K : Int → Int → St → Prop} (h : slices_order2CmpFunc_api_Hit.p P N x0 x1 x2 x3 x4 S K) : CallA P (N Fn.slices_order2CmpFunc_api_Hit) [x0, (V.int .i64 x1), (V.int .i64 x2), x3, x4] S (retT [(.one (.int .i64)), (.one (.int .i64))] K) := hF.run (fun q => q x0 x1 x2 x3 x4 S K) h rfl

end Go.Th.L
end

section
/- Functions of slicesBase, read without frames (printed by tools/lib.py). -/
set_option linter.unusedVariables false
set_option maxRecDepth 100000
set_option maxHeartbeats 2000000
namespace Go.Th.L
open Go Go.Th

def slices_nextPowerOfTwo.p (P : Program) (N : Nat → Nat) (x0 : Int) (S : St) (K : Int → St → Prop) : Prop :=
  setI (IntKind.u64.wrap x0) fun x4 => CallA P (N Fn.math_bits_Len) [(V.int .u64 x4)] S (retT [(.one (.int .i64))] fun (x5 : Int) (S1 : St) => 0 ≤ x5 ∧ setI (IntKind.u64.wrap ((1 : Int) * 2 ^ (min (Int.toNat x5) (IntKind.bits .u64)))) fun x6 => K x6 S1)
abbrev slices_nextPowerOfTwo.Ok (P : Program) (N : Nat → Nat) : Prop := Reads P (N Fn.slices_nextPowerOfTwo) [(3, .no, [(.one (.int .i64))])] [] [] (fun A T (x0 : Int) (S : St) (K : Int → St → Prop) => wpT P (envP P) T (endT A.results [(.one (.int .u64))] K) (frT A [(V.int .i64 x0)]) S) (fun x0 S K => slices_nextPowerOfTwo.p P N x0 S K)
theorem slices_nextPowerOfTwo.run {P : Program} {N : Nat → Nat} (hF : slices_nextPowerOfTwo.Ok P N) {x0 : Int} {S : St} {K : Int → St → Prop} (h : slices_nextPowerOfTwo.p P N x0 S K) : CallA P (N Fn.slices_nextPowerOfTwo) [(V.int .i64 x0)] S (retT [(.one (.int .u64))] K) := hF.run (fun q => q x0 S K) h rfl

def slices_xorshift_Next.p (P : Program) (N : Nat → Nat) (x0 : V) (S : St) (K : Int → St → Prop) : Prop :=
  nilV x0 = some x0 ∧ ∃ x5 : Int, loadV S x0 = some (V.int .u64 x5) ∧ nilV x0 = some x0 ∧ ∃ x8 : Int, loadV S x0 = some (V.int .u64 x8) ∧ 0 ≤ (13 : Int) ∧ setI (IntKind.u64.wrap (x8 * 2 ^ (min (Int.toNat (13 : Int)) (IntKind.bits .u64)))) fun x9 => setI (intBits .xor .u64 x5 x9) fun x10 => nilV x0 = some x0 ∧ ifS (storeV S 1 x0 (V.int .u64 x10)) fun S1 => nilV x0 = some x0 ∧ ∃ x14 : Int, loadV S1 x0 = some (V.int .u64 x14) ∧ nilV x0 = some x0 ∧ ∃ x17 : Int, loadV S1 x0 = some (V.int .u64 x17) ∧ 0 ≤ (7 : Int) ∧ setI (Int.fdiv x17 (2 ^ (min (Int.toNat (7 : Int)) (IntKind.bits .u64)))) fun x18 => setI (intBits .xor .u64 x14 x18) fun x19 => nilV x0 = some x0 ∧ ifS (storeV S1 1 x0 (V.int .u64 x19)) fun S2 => nilV x0 = some x0 ∧ ∃ x23 : Int, loadV S2 x0 = some (V.int .u64 x23) ∧ nilV x0 = some x0 ∧ ∃ x26 : Int, loadV S2 x0 = some (V.int .u64 x26) ∧ 0 ≤ (17 : Int) ∧ setI (IntKind.u64.wrap (x26 * 2 ^ (min (Int.toNat (17 : Int)) (IntKind.bits .u64)))) fun x27 => setI (intBits .xor .u64 x23 x27) fun x28 => nilV x0 = some x0 ∧ ifS (storeV S2 1 x0 (V.int .u64 x28)) fun S3 => nilV x0 = some x0 ∧ ∃ x32 : Int, loadV S3 x0 = some (V.int .u64 x32) ∧ K x32 S3
abbrev slices_xorshift_Next.Ok (P : Program) (N : Nat → Nat) : Prop := Reads P (N Fn.slices_xorshift_Next) [(3, (.dt (.one (.int .u64))), []), (2, (.dt (.one (.int .u64))), []), (6, (.dt (.one (.int .u64))), []), (2, (.dt (.one (.int .u64))), []), (6, (.dt (.one (.int .u64))), []), (2, (.dt (.one (.int .u64))), []), (6, (.dt (.one (.int .u64))), [])] [] [] (fun A T (x0 : V) (S : St) (K : Int → St → Prop) => wpT P (envP P) T (endT A.results [(.one (.int .u64))] K) (frT A [x0]) S) (fun x0 S K => slices_xorshift_Next.p P N x0 S K)
theorem slices_xorshift_Next.run {P : Program} {N : Nat → Nat} (hF : slices_xorshift_Next.Ok P N) {x0 : V} {S : St} {K : Int → St → Prop} (h : slices_xorshift_Next.p P N x0 S K) : CallA P (N Fn.slices_xorshift_Next) [x0] S (retT [(.one (.int .u64))] K) := hF.run (fun q => q x0 S K) h rfl

end Go.Th.L
end

section
/- Functions of topk, read without frames (printed by tools/lib.py). -/
set_option linter.unusedVariables false
set_option maxRecDepth 100000
set_option maxHeartbeats 2000000
namespace Go.Th.L
open Go Go.Th

def topk_Less.p (P : Program) (N : Nat → Nat) (x0_a : Int) (x0_b : Int) (x0_c : Int) (x1_a : Int) (x1_b : Int) (x1_c : Int) (S : St) (K : Bool → St → Prop) : Prop :=
  newS S (.cells [(V.int .i64 x0_a), (V.int .u64 x0_b), (V.int .u64 x0_c)] true) fun S1 => newS S1 (.cells [(V.int .i64 x1_a), (V.int .u64 x1_b), (V.int .u64 x1_c)] true) fun S2 => ∃ x5_a x5_b x5_c : Int, loadNV S2 3 (V.ptr S.next 0) = some (V.agg [(V.int .i64 x5_a), (V.int .u64 x5_b), (V.int .u64 x5_c)]) ∧ ∃ x6_a x6_b x6_c : Int, loadNV S2 3 (V.ptr S1.next 0) = some (V.agg [(V.int .i64 x6_a), (V.int .u64 x6_b), (V.int .u64 x6_c)]) ∧ CallA P (N Fn.topk_compare) [(V.agg [(V.int .i64 x5_a), (V.int .u64 x5_b), (V.int .u64 x5_c)]), (V.agg [(V.int .i64 x6_a), (V.int .u64 x6_b), (V.int .u64 x6_c)])] S2 (retT [(.one (.int .i64))] fun (x7 : Int) (S3 : St) => K (decide (x7 < (0 : Int))) S3)
abbrev topk_Less.Ok (P : Program) (N : Nat → Nat) : Prop := Reads P (N Fn.topk_Less) [(3, (.dt (.agg [(.int .i64), (.int .u64), (.int .u64)])), []), (0, (.dt (.agg [(.int .i64), (.int .u64), (.int .u64)])), []), (0, .no, [(.one (.int .i64))])] [] [] (fun A T (x0_a : Int) (x0_b : Int) (x0_c : Int) (x1_a : Int) (x1_b : Int) (x1_c : Int) (S : St) (K : Bool → St → Prop) => wpT P (envP P) T (endT A.results [(.one .bool)] K) (frT A [(V.agg [(V.int .i64 x0_a), (V.int .u64 x0_b), (V.int .u64 x0_c)]), (V.agg [(V.int .i64 x1_a), (V.int .u64 x1_b), (V.int .u64 x1_c)])]) S) (fun x0_a x0_b x0_c x1_a x1_b x1_c S K => topk_Less.p P N x0_a x0_b x0_c x1_a x1_b x1_c S K)
theorem topk_Less.run {P : Program} {N : Nat → Nat} (hF : topk_Less.Ok P N) {x0_a : Int} {x0_b : Int} {x0_c : Int} {x1_a : Int} {x1_b : Int} {x1_c : Int} {S : St} {K : Bool → St → Prop} (h : topk_Less.p P N x0_a x0_b x0_c x1_a x1_b x1_c S K) : CallA P (N Fn.topk_Less) [(V.agg [(V.int .i64 x0_a), (V.int .u64 x0_b), (V.int .u64 x0_c)]), (V.agg [(V.int .i64 x1_a), (V.int .u64 x1_b), (V.int .u64 x1_c)])] S (retT [(.one .bool)] K) := hF.run (fun q => q x0_a x0_b x0_c x1_a x1_b x1_c S K) h rfl

def topk_Merge.p (P : Program) (N : Nat → Nat) (x0 : Int) (x1 : V) (S : St) (K : V → Int → St → Prop) : Prop :=
  CallA P (N Fn.topk_New) [(V.int .i64 x0)] S (retT [(.one .any), (.one (.int .i64))] fun (x12a : V) (x12b : Int) (S1 : St) => ifC (!decide (x12b = (0 : Int))) (K V.nilSlice x12b S1) (CallA P (N Fn.topk_together_api_Hit) [x1] S1 (retT [(.one .any)] fun (x19 : V) (S2 : St) => ∃ x20 : Int, lenV S2 2 x19 = some (V.int .i64 x20) ∧ Loop1 (fun (k1 : Int → St → Prop) (x21 : Int) (S3 : St) => ifC (decide (x21 < x20)) (ifS (idxAddrV 3 x19 (V.int .i64 x21)) fun x23 => ∃ x24_a x24_b x24_c : Int, loadNV S3 3 x23 = some (V.agg [(V.int .i64 x24_a), (V.int .u64 x24_b), (V.int .u64 x24_c)]) ∧ newS S3 (.cells [(V.int .i64 0), (V.int .u64 0), (V.int .u64 0)] true) fun S4 => ifS (storeV S4 3 (V.ptr S3.next 0) (V.agg [(V.int .i64 x24_a), (V.int .u64 x24_b), (V.int .u64 x24_c)])) fun S5 => ∃ x26_a x26_b x26_c : Int, loadNV S5 3 (V.ptr S3.next 0) = some (V.agg [(V.int .i64 x26_a), (V.int .u64 x26_b), (V.int .u64 x26_c)]) ∧ CallA P (N Fn.topk_Heap_Offer) [x12a, (V.agg [(V.int .i64 x26_a), (V.int .u64 x26_b), (V.int .u64 x26_c)])] S5 (retT [(.one .bool)] fun (x27 : Bool) (S6 : St) => setI (IntKind.i64.wrap (x21 + (1 : Int))) fun x28 => k1 x28 S6)) (CallA P (N Fn.topk_Heap_List) [x12a] S3 (retT [(.one .any)] fun (x30 : V) (S7 : St) => K x30 0 S7))) 0 S2)))
abbrev topk_Merge.Ok (P : Program) (N : Nat → Nat) : Prop := Reads P (N Fn.topk_Merge) [(3, .no, [(.one .any), (.one (.int .i64))]), (11, .no, [(.one .any)]), (0, (.dt (.one (.int .i64))), []), (3, (.dt (.agg [(.int .i64), (.int .u64), (.int .u64)])), []), (3, (.dt (.agg [(.int .i64), (.int .u64), (.int .u64)])), []), (0, .no, [(.one .bool)]), (3, .no, [(.one .any)])] [] [[(21, (.one (.int .i64)))]] (fun A T (x0 : Int) (x1 : V) (S : St) (K : V → Int → St → Prop) => wpT P (envP P) T (endT A.results [(.one .any), (.one (.int .i64))] K) (frT A [(V.int .i64 x0), x1]) S) (fun x0 x1 S K => topk_Merge.p P N x0 x1 S K)
theorem topk_Merge.run {P : Program} {N : Nat → Nat} (hF : topk_Merge.Ok P N) {x0 : Int} {x1 : V} {S : St} {K : V → Int → St → Prop} (h : topk_Merge.p P N x0 x1 S K) : CallA P (N Fn.topk_Merge) [(V.int .i64 x0), x1] S (retT [(.one .any), (.one (.int .i64))] K) := hF.run (fun q => q x0 x1 S K) h rfl

def topk_New.p (P : Program) (N : Nat → Nat) (x0 : Int) (S : St) (K : V → Int → St → Prop) : Prop :=
  Join0 (fun (k1 : St → Prop) => ifC (decide (x0 < (1 : Int))) (K V.nilPtr 1 S) (ifC (decide ((64 : Int) < x0)) (K V.nilPtr 1 S) (k1  S))) (fun (S1 : St) => newS S1 (.cells [(V.int .i64 x0), V.nilSlice] true) fun S2 => K (V.ptr S1.next 0) 0 S2)
abbrev topk_New.Ok (P : Program) (N : Nat → Nat) : Prop := Reads P (N Fn.topk_New) [(11, (.dt (.agg [(.int .i64), .any])), [])] [(1, [])] [] (fun A T (x0 : Int) (S : St) (K : V → Int → St → Prop) => wpT P (envP P) T (endT A.results [(.one .any), (.one (.int .i64))] K) (frT A [(V.int .i64 x0)]) S) (fun x0 S K => topk_New.p P N x0 S K)
theorem topk_New.run {P : Program} {N : Nat → Nat} (hF : topk_New.Ok P N) {x0 : Int} {S : St} {K : V → Int → St → Prop} (h : topk_New.p P N x0 S K) : CallA P (N Fn.topk_New) [(V.int .i64 x0)] S (retT [(.one .any), (.one (.int .i64))] K) := hF.run (fun q => q x0 S K) h rfl

def topk_Heap_Offer.p (P : Program) (N : Nat → Nat) (x0 : V) (x1_a : Int) (x1_b : Int) (x1_c : Int) (S : St) (K : Bool → St → Prop) : Prop :=
  newS S (.cells [(V.int .i64 x1_a), (V.int .u64 x1_b), (V.int .u64 x1_c)] true) fun S1 => ∃ x7 : Bool, eqV 1 [] x0 V.nilPtr = some x7 ∧ ifC x7 (K false S1) (nilV x0 = some x0 ∧ ifS (fieldAddrV 1 x0) fun x11 => ifS (loadV S1 x11) fun x12 => ∃ x13 : Int, lenV S1 2 x12 = some (V.int .i64 x13) ∧ nilV x0 = some x0 ∧ ifS (fieldAddrV 0 x0) fun x16 => ∃ x17 : Int, loadV S1 x16 = some (V.int .i64 x17) ∧ ifC (decide (x13 < x17)) (nilV x0 = some x0 ∧ ifS (fieldAddrV 1 x0) fun x21 => ∃ x23_a x23_b x23_c : Int, loadNV S1 3 (V.ptr S.next 0) = some (V.agg [(V.int .i64 x23_a), (V.int .u64 x23_b), (V.int .u64 x23_c)]) ∧ CallA P (N Fn.container_heap_Push) [(V.iface (N Fn.ty_ptopk_hits) x21), (V.iface (N Fn.ty_api_Hit) (V.agg [(V.int .i64 x23_a), (V.int .u64 x23_b), (V.int .u64 x23_c)]))] S1 (retT [] fun (S2 : St) => Same (S.next :: []) S1 S2 ∧ K true S2)) (∃ x27_a x27_b x27_c : Int, loadNV S1 3 (V.ptr S.next 0) = some (V.agg [(V.int .i64 x27_a), (V.int .u64 x27_b), (V.int .u64 x27_c)]) ∧ nilV x0 = some x0 ∧ ifS (fieldAddrV 1 x0) fun x30 => ifS (loadV S1 x30) fun x31 => ifS (idxAddrV 3 x31 (V.int .i64 0)) fun x32 => ∃ x33_a x33_b x33_c : Int, loadNV S1 3 x32 = some (V.agg [(V.int .i64 x33_a), (V.int .u64 x33_b), (V.int .u64 x33_c)]) ∧ CallA P (N Fn.topk_Less) [(V.agg [(V.int .i64 x27_a), (V.int .u64 x27_b), (V.int .u64 x27_c)]), (V.agg [(V.int .i64 x33_a), (V.int .u64 x33_b), (V.int .u64 x33_c)])] S1 (retT [(.one .bool)] fun (x34 : Bool) (S3 : St) => sameK (V.block x30 ++ []) S1 S3 (ifC (!x34) (K false S3) (nilV x0 = some x0 ∧ ifS (fieldAddrV 1 x0) fun x38 => ifS (loadV S3 x38) fun x39 => ∃ x40_a x40_b x40_c : Int, loadNV S3 3 (V.ptr S.next 0) = some (V.agg [(V.int .i64 x40_a), (V.int .u64 x40_b), (V.int .u64 x40_c)]) ∧ ifS (idxAddrV 3 x39 (V.int .i64 0)) fun x41 => ifS (storeV S3 3 x41 (V.agg [(V.int .i64 x40_a), (V.int .u64 x40_b), (V.int .u64 x40_c)])) fun S4 => nilV x0 = some x0 ∧ ifS (fieldAddrV 1 x0) fun x44 => CallA P (N Fn.container_heap_Fix) [(V.iface (N Fn.ty_ptopk_hits) x44), (V.int .i64 0)] S4 (retT [] fun (S5 : St) => K true S5))))))
abbrev topk_Heap_Offer.Ok (P : Program) (N : Nat → Nat) : Prop := Reads P (N Fn.topk_Heap_Offer) [(10, (.dt (.one (.int .i64))), []), (3, (.dt (.one (.int .i64))), []), (6, (.dt (.agg [(.int .i64), (.int .u64), (.int .u64)])), []), (3, (.dt (.agg [(.int .i64), (.int .u64), (.int .u64)])), []), (5, (.dt (.agg [(.int .i64), (.int .u64), (.int .u64)])), []), (0, .no, [(.one .bool)]), (7, (.dt (.agg [(.int .i64), (.int .u64), (.int .u64)])), [])] [] [] (fun A T (x0 : V) (x1_a : Int) (x1_b : Int) (x1_c : Int) (S : St) (K : Bool → St → Prop) => wpT P (envP P) T (endT A.results [(.one .bool)] K) (frT A [x0, (V.agg [(V.int .i64 x1_a), (V.int .u64 x1_b), (V.int .u64 x1_c)])]) S) (fun x0 x1_a x1_b x1_c S K => topk_Heap_Offer.p P N x0 x1_a x1_b x1_c S K)
theorem topk_Heap_Offer.run {P : Program} {N : Nat → Nat} (hF : topk_Heap_Offer.Ok P N) {x0 : V} {x1_a : Int} {x1_b : Int} {x1_c : Int} {S : St} {K : Bool → St → Prop} (h : topk_Heap_Offer.p P N x0 x1_a x1_b x1_c S K) : CallA P (N Fn.topk_Heap_Offer) [x0, (V.agg [(V.int .i64 x1_a), (V.int .u64 x1_b), (V.int .u64 x1_c)])] S (retT [(.one .bool)] K) := hF.run (fun q => q x0 x1_a x1_b x1_c S K) h rfl

def topk_Heap_List.p (P : Program) (N : Nat → Nat) (x0 : V) (S : St) (K : V → St → Prop) : Prop :=
  ∃ x5 : Bool, eqV 1 [] x0 V.nilPtr = some x5 ∧ ifC x5 (K V.nilSlice S) (nilV x0 = some x0 ∧ ifS (fieldAddrV 1 x0) fun x8 => ifS (loadV S x8) fun x9 => CallA P (N Fn.slices_Clone_Lapi_Hit) [x9] S (retT [(.one .any)] fun (x10 : V) (S1 : St) => CallA P (N Fn.slices_SortFunc_Lapi_Hit) [x10, (V.func (.func (N Fn.topk_compare)) [] [])] S1 (retT [] fun (S2 : St) => K x10 S2)))
abbrev topk_Heap_List.Ok (P : Program) (N : Nat → Nat) : Prop := Reads P (N Fn.topk_Heap_List) [(8, .no, [(.one .any)])] [] [] (fun A T (x0 : V) (S : St) (K : V → St → Prop) => wpT P (envP P) T (endT A.results [(.one .any)] K) (frT A [x0]) S) (fun x0 S K => topk_Heap_List.p P N x0 S K)
theorem topk_Heap_List.run {P : Program} {N : Nat → Nat} (hF : topk_Heap_List.Ok P N) {x0 : V} {S : St} {K : V → St → Prop} (h : topk_Heap_List.p P N x0 S K) : CallA P (N Fn.topk_Heap_List) [x0] S (retT [(.one .any)] K) := hF.run (fun q => q x0 S K) h rfl

def topk_Heap_Worst.p (P : Program) (N : Nat → Nat) (x0 : V) (S : St) (K : Int → Int → Int → Bool → St → Prop) : Prop :=
  newS S (.cells [(V.int .i64 0), (V.int .u64 0), (V.int .u64 0)] true) fun S1 => CallA P (N Fn.topk_Heap_Len) [x0] S1 (retT [(.one (.int .i64))] fun (x5 : Int) (S2 : St) => ifC (decide (x5 = (0 : Int))) (ifS (storeV S2 3 (V.ptr S.next 0) (V.agg [(V.int .i64 0), (V.int .u64 0), (V.int .u64 0)])) fun S3 => ∃ xr_a xr_b xr_c : Int, cellNV S3 3 (V.ptr S.next 0) = some (V.agg [(V.int .i64 xr_a), (V.int .u64 xr_b), (V.int .u64 xr_c)]) ∧ K xr_a xr_b xr_c false S3) (nilV x0 = some x0 ∧ ifS (fieldAddrV 1 x0) fun x10 => ifS (loadV S2 x10) fun x11 => ifS (idxAddrV 3 x11 (V.int .i64 0)) fun x12 => ∃ x13_a x13_b x13_c : Int, loadNV S2 3 x12 = some (V.agg [(V.int .i64 x13_a), (V.int .u64 x13_b), (V.int .u64 x13_c)]) ∧ ifS (storeV S2 3 (V.ptr S.next 0) (V.agg [(V.int .i64 x13_a), (V.int .u64 x13_b), (V.int .u64 x13_c)])) fun S4 => ∃ xr_a_1 xr_b_1 xr_c_1 : Int, cellNV S4 3 (V.ptr S.next 0) = some (V.agg [(V.int .i64 xr_a_1), (V.int .u64 xr_b_1), (V.int .u64 xr_c_1)]) ∧ K xr_a_1 xr_b_1 xr_c_1 true S4))
abbrev topk_Heap_Worst.Ok (P : Program) (N : Nat → Nat) : Prop := Reads P (N Fn.topk_Heap_Worst) [(3, .no, [(.one (.int .i64))]), (1, (.dt (.agg [(.int .i64), (.int .u64), (.int .u64)])), []), (7, (.dt (.agg [(.int .i64), (.int .u64), (.int .u64)])), [])] [] [] (fun A T (x0 : V) (S : St) (K : Int → Int → Int → Bool → St → Prop) => wpT P (envP P) T (endT A.results [(.agg [(.int .i64), (.int .u64), (.int .u64)]), (.one .bool)] K) (frT A [x0]) S) (fun x0 S K => topk_Heap_Worst.p P N x0 S K)
theorem topk_Heap_Worst.run {P : Program} {N : Nat → Nat} (hF : topk_Heap_Worst.Ok P N) {x0 : V} {S : St} {K : Int → Int → Int → Bool → St → Prop} (h : topk_Heap_Worst.p P N x0 S K) : CallA P (N Fn.topk_Heap_Worst) [x0] S (retT [(.agg [(.int .i64), (.int .u64), (.int .u64)]), (.one .bool)] K) := hF.run (fun q => q x0 S K) h rfl

def topk_Heap_Len.p (P : Program) (N : Nat → Nat) (x0 : V) (S : St) (K : Int → St → Prop) : Prop :=
  ∃ x4 : Bool, eqV 1 [] x0 V.nilPtr = some x4 ∧ ifC x4 (K 0 S) (nilV x0 = some x0 ∧ ifS (fieldAddrV 1 x0) fun x7 => ifS (loadV S x7) fun x8 => ∃ x9 : Int, lenV S 2 x8 = some (V.int .i64 x9) ∧ K x9 S)
abbrev topk_Heap_Len.Ok (P : Program) (N : Nat → Nat) : Prop := Reads P (N Fn.topk_Heap_Len) [(8, (.dt (.one (.int .i64))), [])] [] [] (fun A T (x0 : V) (S : St) (K : Int → St → Prop) => wpT P (envP P) T (endT A.results [(.one (.int .i64))] K) (frT A [x0]) S) (fun x0 S K => topk_Heap_Len.p P N x0 S K)
theorem topk_Heap_Len.run {P : Program} {N : Nat → Nat} (hF : topk_Heap_Len.Ok P N) {x0 : V} {S : St} {K : Int → St → Prop} (h : topk_Heap_Len.p P N x0 S K) : CallA P (N Fn.topk_Heap_Len) [x0] S (retT [(.one (.int .i64))] K) := hF.run (fun q => q x0 S K) h rfl

def topk_Heap_Full.p (P : Program) (N : Nat → Nat) (x0 : V) (S : St) (K : Bool → St → Prop) : Prop :=
  ∃ x4 : Bool, eqV 1 [] x0 V.nilPtr = some x4 ∧ ifC (!x4) (nilV x0 = some x0 ∧ ifS (fieldAddrV 1 x0) fun x8 => ifS (loadV S x8) fun x9 => ∃ x10 : Int, lenV S 2 x9 = some (V.int .i64 x10) ∧ nilV x0 = some x0 ∧ ifS (fieldAddrV 0 x0) fun x13 => ∃ x14 : Int, loadV S x13 = some (V.int .i64 x14) ∧ K (decide (x10 = x14)) S) (K false S)
abbrev topk_Heap_Full.Ok (P : Program) (N : Nat → Nat) : Prop := Reads P (N Fn.topk_Heap_Full) [(8, (.dt (.one (.int .i64))), []), (3, (.dt (.one (.int .i64))), [])] [] [] (fun A T (x0 : V) (S : St) (K : Bool → St → Prop) => wpT P (envP P) T (endT A.results [(.one .bool)] K) (frT A [x0]) S) (fun x0 S K => topk_Heap_Full.p P N x0 S K)
theorem topk_Heap_Full.run {P : Program} {N : Nat → Nat} (hF : topk_Heap_Full.Ok P N) {x0 : V} {S : St} {K : Bool → St → Prop} (h : topk_Heap_Full.p P N x0 S K) : CallA P (N Fn.topk_Heap_Full) [x0] S (retT [(.one .bool)] K) := hF.run (fun q => q x0 S K) h rfl

def topk_compare.p (P : Program) (N : Nat → Nat) (x0_a : Int) (x0_b : Int) (x0_c : Int) (x1_a : Int) (x1_b : Int) (x1_c : Int) (S : St) (K : Int → St → Prop) : Prop :=
  newS S (.cells [(V.int .i64 x0_a), (V.int .u64 x0_b), (V.int .u64 x0_c)] true) fun S1 => newS S1 (.cells [(V.int .i64 x1_a), (V.int .u64 x1_b), (V.int .u64 x1_c)] true) fun S2 => ∃ x6_a x6_b : Int, loadNV S2 2 (V.ptr S.next 1) = some (V.agg [(V.int .u64 x6_a), (V.int .u64 x6_b)]) ∧ ∃ x8_a x8_b : Int, loadNV S2 2 (V.ptr S1.next 1) = some (V.agg [(V.int .u64 x8_a), (V.int .u64 x8_b)]) ∧ ∃ x11 : Int, loadV S2 (V.ptr S.next 0) = some (V.int .i64 x11) ∧ ∃ x13 : Int, loadV S2 (V.ptr S1.next 0) = some (V.int .i64 x13) ∧ CallA P (N Fn.wide_Cmp) [(V.agg [(V.int .u64 x6_a), (V.int .u64 x6_b)]), (V.agg [(V.int .u64 x8_a), (V.int .u64 x8_b)])] S2 (retT [(.one (.int .i64))] fun (x9 : Int) (S3 : St) => Same (S1.next :: (S.next :: [])) S2 S3 ∧ CallA P (N Fn.cmp_Compare_int) [(V.int .i64 x11), (V.int .i64 x13)] S3 (retT [(.one (.int .i64))] fun (x14 : Int) (S4 : St) => Same (S1.next :: (S.next :: [])) S3 S4 ∧ newS S4 (.cells [(V.int .i64 x9), (V.int .i64 x14)] true) fun S5 => Same (S1.next :: (S.next :: (S1.next :: (S.next :: [])))) S4 S5 ∧ CallA P (N Fn.cmp_Or_int) [(V.slice S4.next 0 2 2 1 true)] S5 (retT [(.one (.int .i64))] fun (x16 : Int) (S6 : St) => Same (S1.next :: (S.next :: (S1.next :: (S.next :: [])))) S5 S6 ∧ K x16 S6)))
abbrev topk_compare.Ok (P : Program) (N : Nat → Nat) : Prop := Reads P (N Fn.topk_compare) [(4, (.dt (.agg [(.int .u64), (.int .u64)])), []), (1, (.dt (.agg [(.int .u64), (.int .u64)])), []), (1, (.dt (.one (.int .i64))), []), (1, (.dt (.one (.int .i64))), []), (0, .no, [(.one (.int .i64))]), (0, .no, [(.one (.int .i64))]), (0, (.dt (.agg [(.int .i64), (.int .i64)])), []), (0, .no, [(.one (.int .i64))])] [] [] (fun A T (x0_a : Int) (x0_b : Int) (x0_c : Int) (x1_a : Int) (x1_b : Int) (x1_c : Int) (S : St) (K : Int → St → Prop) => wpT P (envP P) T (endT A.results [(.one (.int .i64))] K) (frT A [(V.agg [(V.int .i64 x0_a), (V.int .u64 x0_b), (V.int .u64 x0_c)]), (V.agg [(V.int .i64 x1_a), (V.int .u64 x1_b), (V.int .u64 x1_c)])]) S) (fun x0_a x0_b x0_c x1_a x1_b x1_c S K => topk_compare.p P N x0_a x0_b x0_c x1_a x1_b x1_c S K)
theorem topk_compare.run {P : Program} {N : Nat → Nat} (hF : topk_compare.Ok P N) {x0_a : Int} {x0_b : Int} {x0_c : Int} {x1_a : Int} {x1_b : Int} {x1_c : Int} {S : St} {K : Int → St → Prop} (h : topk_compare.p P N x0_a x0_b x0_c x1_a x1_b x1_c S K) : CallA P (N Fn.topk_compare) [(V.agg [(V.int .i64 x0_a), (V.int .u64 x0_b), (V.int .u64 x0_c)]), (V.agg [(V.int .i64 x1_a), (V.int .u64 x1_b), (V.int .u64 x1_c)])] S (retT [(.one (.int .i64))] K) := hF.run (fun q => q x0_a x0_b x0_c x1_a x1_b x1_c S K) h rfl

def topk_together_api_Hit.p (P : Program) (N : Nat → Nat) (x0 : V) (S : St) (K : V → St → Prop) : Prop :=
  ∃ x7 : Int, lenV S 2 x0 = some (V.int .i64 x7) ∧ Loop2 (fun (k1 : V → Int → St → Prop) (x3 : V) (x8 : Int) (S1 : St) => ifC (decide (x8 < x7)) (ifS (idxAddrV 1 x0 (V.int .i64 x8)) fun x10 => ifS (loadV S1 x10) fun x11 => ifP (appV S1 3 24 x3 x11) fun x14 S2 => setI (IntKind.i64.wrap (x8 + (1 : Int))) fun x15 => k1 x14 x15 S2) (K x3 S1)) V.nilSlice 0 S
abbrev topk_together_api_Hit.Ok (P : Program) (N : Nat → Nat) : Prop := Reads P (N Fn.topk_together_api_Hit) [(3, (.dt (.one (.int .i64))), [])] [] [[(3, (.one .any)), (8, (.one (.int .i64)))]] (fun A T (x0 : V) (S : St) (K : V → St → Prop) => wpT P (envP P) T (endT A.results [(.one .any)] K) (frT A [x0]) S) (fun x0 S K => topk_together_api_Hit.p P N x0 S K)
theorem topk_together_api_Hit.run {P : Program} {N : Nat → Nat} (hF : topk_together_api_Hit.Ok P N) {x0 : V} {S : St} {K : V → St → Prop} (h : topk_together_api_Hit.p P N x0 S K) : CallA P (N Fn.topk_together_api_Hit) [x0] S (retT [(.one .any)] K) := hF.run (fun q => q x0 S K) h rfl

def topk_hits_Len.p (P : Program) (N : Nat → Nat) (x0 : V) (S : St) (K : Int → St → Prop) : Prop :=
  ∃ x4 : Int, lenV S 2 x0 = some (V.int .i64 x4) ∧ K x4 S
abbrev topk_hits_Len.Ok (P : Program) (N : Nat → Nat) : Prop := Reads P (N Fn.topk_hits_Len) [(2, (.dt (.one (.int .i64))), [])] [] [] (fun A T (x0 : V) (S : St) (K : Int → St → Prop) => wpT P (envP P) T (endT A.results [(.one (.int .i64))] K) (frT A [x0]) S) (fun x0 S K => topk_hits_Len.p P N x0 S K)
theorem topk_hits_Len.run {P : Program} {N : Nat → Nat} (hF : topk_hits_Len.Ok P N) {x0 : V} {S : St} {K : Int → St → Prop} (h : topk_hits_Len.p P N x0 S K) : CallA P (N Fn.topk_hits_Len) [x0] S (retT [(.one (.int .i64))] K) := hF.run (fun q => q x0 S K) h rfl

def topk_hits_Less.p (P : Program) (N : Nat → Nat) (x0 : V) (x1 : Int) (x2 : Int) (S : St) (K : Bool → St → Prop) : Prop :=
  ifS (idxAddrV 3 x0 (V.int .i64 x2)) fun x9 => ∃ x10_a x10_b x10_c : Int, loadNV S 3 x9 = some (V.agg [(V.int .i64 x10_a), (V.int .u64 x10_b), (V.int .u64 x10_c)]) ∧ ifS (idxAddrV 3 x0 (V.int .i64 x1)) fun x13 => ∃ x14_a x14_b x14_c : Int, loadNV S 3 x13 = some (V.agg [(V.int .i64 x14_a), (V.int .u64 x14_b), (V.int .u64 x14_c)]) ∧ CallA P (N Fn.topk_Less) [(V.agg [(V.int .i64 x10_a), (V.int .u64 x10_b), (V.int .u64 x10_c)]), (V.agg [(V.int .i64 x14_a), (V.int .u64 x14_b), (V.int .u64 x14_c)])] S (retT [(.one .bool)] fun (x15 : Bool) (S1 : St) => K x15 S1)
abbrev topk_hits_Less.Ok (P : Program) (N : Nat → Nat) : Prop := Reads P (N Fn.topk_hits_Less) [(4, (.dt (.agg [(.int .i64), (.int .u64), (.int .u64)])), []), (3, (.dt (.agg [(.int .i64), (.int .u64), (.int .u64)])), []), (0, .no, [(.one .bool)])] [] [] (fun A T (x0 : V) (x1 : Int) (x2 : Int) (S : St) (K : Bool → St → Prop) => wpT P (envP P) T (endT A.results [(.one .bool)] K) (frT A [x0, (V.int .i64 x1), (V.int .i64 x2)]) S) (fun x0 x1 x2 S K => topk_hits_Less.p P N x0 x1 x2 S K)
theorem topk_hits_Less.run {P : Program} {N : Nat → Nat} (hF : topk_hits_Less.Ok P N) {x0 : V} {x1 : Int} {x2 : Int} {S : St} {K : Bool → St → Prop} (h : topk_hits_Less.p P N x0 x1 x2 S K) : CallA P (N Fn.topk_hits_Less) [x0, (V.int .i64 x1), (V.int .i64 x2)] S (retT [(.one .bool)] K) := hF.run (fun q => q x0 x1 x2 S K) h rfl

def topk_hits_Swap.p (P : Program) (N : Nat → Nat) (x0 : V) (x1 : Int) (x2 : Int) (S : St) (K : St → Prop) : Prop :=
  ifS (idxAddrV 3 x0 (V.int .i64 x2)) fun x12 => ∃ x13_a x13_b x13_c : Int, loadNV S 3 x12 = some (V.agg [(V.int .i64 x13_a), (V.int .u64 x13_b), (V.int .u64 x13_c)]) ∧ ifS (idxAddrV 3 x0 (V.int .i64 x1)) fun x16 => ∃ x17_a x17_b x17_c : Int, loadNV S 3 x16 = some (V.agg [(V.int .i64 x17_a), (V.int .u64 x17_b), (V.int .u64 x17_c)]) ∧ ifS (idxAddrV 3 x0 (V.int .i64 x1)) fun x18 => ifS (storeV S 3 x18 (V.agg [(V.int .i64 x13_a), (V.int .u64 x13_b), (V.int .u64 x13_c)])) fun S1 => ifS (idxAddrV 3 x0 (V.int .i64 x2)) fun x19 => ifS (storeV S1 3 x19 (V.agg [(V.int .i64 x17_a), (V.int .u64 x17_b), (V.int .u64 x17_c)])) fun S2 => K  S2
abbrev topk_hits_Swap.Ok (P : Program) (N : Nat → Nat) : Prop := Reads P (N Fn.topk_hits_Swap) [(7, (.dt (.agg [(.int .i64), (.int .u64), (.int .u64)])), []), (3, (.dt (.agg [(.int .i64), (.int .u64), (.int .u64)])), [])] [] [] (fun A T (x0 : V) (x1 : Int) (x2 : Int) (S : St) (K : St → Prop) => wpT P (envP P) T (endT A.results [] K) (frT A [x0, (V.int .i64 x1), (V.int .i64 x2)]) S) (fun x0 x1 x2 S K => topk_hits_Swap.p P N x0 x1 x2 S K)
theorem topk_hits_Swap.run {P : Program} {N : Nat → Nat} (hF : topk_hits_Swap.Ok P N) {x0 : V} {x1 : Int} {x2 : Int} {S : St} {K : St → Prop} (h : topk_hits_Swap.p P N x0 x1 x2 S K) : CallA P (N Fn.topk_hits_Swap) [x0, (V.int .i64 x1), (V.int .i64 x2)] S (retT [] K) := hF.run (fun q => q x0 x1 x2 S K) h rfl

def topk_hits_Push.p (P : Program) (N : Nat → Nat) (x0 : V) (x1 : V) (S : St) (K : St → Prop) : Prop :=
  ∃ x8a_a x8a_b x8a_c : Int, ∃ x8b : Bool, assertV (N Fn.ty_api_Hit) true (V.agg [(V.int .i64 0), (V.int .u64 0), (V.int .u64 0)]) x1 = some (V.tuple [(V.agg [(V.int .i64 x8a_a), (V.int .u64 x8a_b), (V.int .u64 x8a_c)]), (V.bool x8b)]) ∧ newS S (.cells [(V.int .i64 0), (V.int .u64 0), (V.int .u64 0)] true) fun S1 => ifS (storeV S1 3 (V.ptr S.next 0) (V.agg [(V.int .i64 x8a_a), (V.int .u64 x8a_b), (V.int .u64 x8a_c)])) fun S2 => ifC x8b (nilV x0 = some x0 ∧ ifS (loadV S2 x0) fun x15 => ∃ x16_a x16_b x16_c : Int, loadNV S2 3 (V.ptr S.next 0) = some (V.agg [(V.int .i64 x16_a), (V.int .u64 x16_b), (V.int .u64 x16_c)]) ∧ newS S2 (.cells [(V.int .i64 x16_a), (V.int .u64 x16_b), (V.int .u64 x16_c)] true) fun S3 => sameK (V.block x0 ++ []) S2 S3 (ifP (appV S3 3 24 x15 (V.slice S2.next 0 1 1 3 true)) fun x18 S4 => Same (S.next :: []) S3 S4 ∧ nilV x0 = some x0 ∧ ifS (storeV S4 1 x0 x18) fun S5 => K  S5)) (K  S2)
abbrev topk_hits_Push.Ok (P : Program) (N : Nat → Nat) : Prop := Reads P (N Fn.topk_hits_Push) [(1, (.tup [(.agg [(.int .i64), (.int .u64), (.int .u64)]), (.one .bool)]), []), (11, (.dt (.agg [(.int .i64), (.int .u64), (.int .u64)])), []), (0, (.dt (.agg [(.int .i64), (.int .u64), (.int .u64)])), [])] [] [] (fun A T (x0 : V) (x1 : V) (S : St) (K : St → Prop) => wpT P (envP P) T (endT A.results [] K) (frT A [x0, x1]) S) (fun x0 x1 S K => topk_hits_Push.p P N x0 x1 S K)
theorem topk_hits_Push.run {P : Program} {N : Nat → Nat} (hF : topk_hits_Push.Ok P N) {x0 : V} {x1 : V} {S : St} {K : St → Prop} (h : topk_hits_Push.p P N x0 x1 S K) : CallA P (N Fn.topk_hits_Push) [x0, x1] S (retT [] K) := hF.run (fun q => q x0 x1 S K) h rfl

end Go.Th.L
end

section
/- Functions of wide, read without frames (printed by tools/lib.py). -/
set_option linter.unusedVariables false
set_option maxRecDepth 100000
set_option maxHeartbeats 2000000
namespace Go.Th.L
open Go Go.Th

def wide_Cmp.p (P : Program) (N : Nat → Nat) (x0_a : Int) (x0_b : Int) (x1_a : Int) (x1_b : Int) (S : St) (K : Int → St → Prop) : Prop :=
  newS S (.cells [(V.int .u64 x0_a), (V.int .u64 x0_b)] true) fun S1 => newS S1 (.cells [(V.int .u64 x1_a), (V.int .u64 x1_b)] true) fun S2 => ∃ x6_a x6_b : Int, loadNV S2 2 (V.ptr S.next 0) = some (V.agg [(V.int .u64 x6_a), (V.int .u64 x6_b)]) ∧ ∃ x7_a x7_b : Int, loadNV S2 2 (V.ptr S1.next 0) = some (V.agg [(V.int .u64 x7_a), (V.int .u64 x7_b)]) ∧ ∃ x8 : Bool, eqV 6 [1, 1] (V.agg [(V.int .u64 x6_a), (V.int .u64 x6_b)]) (V.agg [(V.int .u64 x7_a), (V.int .u64 x7_b)]) = some x8 ∧ ifC x8 (K 0 S2) (∃ x11 : Int, loadV S2 (V.ptr S.next 0) = some (V.int .u64 x11) ∧ ∃ x13 : Int, loadV S2 (V.ptr S1.next 0) = some (V.int .u64 x13) ∧ ifC (decide (x11 < x13)) (K (-1) S2) (∃ x17 : Int, loadV S2 (V.ptr S.next 0) = some (V.int .u64 x17) ∧ ∃ x19 : Int, loadV S2 (V.ptr S1.next 0) = some (V.int .u64 x19) ∧ ifC (decide (x17 = x19)) (∃ x23 : Int, loadV S2 (V.ptr S.next 1) = some (V.int .u64 x23) ∧ ∃ x25 : Int, loadV S2 (V.ptr S1.next 1) = some (V.int .u64 x25) ∧ ifC (decide (x23 < x25)) (K (-1) S2) (K 1 S2)) (K 1 S2)))
abbrev wide_Cmp.Ok (P : Program) (N : Nat → Nat) : Prop := Reads P (N Fn.wide_Cmp) [(3, (.dt (.agg [(.int .u64), (.int .u64)])), []), (0, (.dt (.agg [(.int .u64), (.int .u64)])), []), (4, (.dt (.one (.int .u64))), []), (1, (.dt (.one (.int .u64))), []), (3, (.dt (.one (.int .u64))), []), (1, (.dt (.one (.int .u64))), []), (3, (.dt (.one (.int .u64))), []), (1, (.dt (.one (.int .u64))), [])] [] [] (fun A T (x0_a : Int) (x0_b : Int) (x1_a : Int) (x1_b : Int) (S : St) (K : Int → St → Prop) => wpT P (envP P) T (endT A.results [(.one (.int .i64))] K) (frT A [(V.agg [(V.int .u64 x0_a), (V.int .u64 x0_b)]), (V.agg [(V.int .u64 x1_a), (V.int .u64 x1_b)])]) S) (fun x0_a x0_b x1_a x1_b S K => wide_Cmp.p P N x0_a x0_b x1_a x1_b S K)
theorem wide_Cmp.run {P : Program} {N : Nat → Nat} (hF : wide_Cmp.Ok P N) {x0_a : Int} {x0_b : Int} {x1_a : Int} {x1_b : Int} {S : St} {K : Int → St → Prop} (h : wide_Cmp.p P N x0_a x0_b x1_a x1_b S K) : CallA P (N Fn.wide_Cmp) [(V.agg [(V.int .u64 x0_a), (V.int .u64 x0_b)]), (V.agg [(V.int .u64 x1_a), (V.int .u64 x1_b)])] S (retT [(.one (.int .i64))] K) := hF.run (fun q => q x0_a x0_b x1_a x1_b S K) h rfl

def wide_Sqrt.p (P : Program) (N : Nat → Nat) (x0_a : Int) (x0_b : Int) (S : St) (K : Int → St → Prop) : Prop :=
  newS S (.cells [(V.int .u64 x0_a), (V.int .u64 x0_b)] true) fun S1 => Loop2 (fun (k1 : Int → Int → St → Prop) (x3 : Int) (x4 : Int) (S2 : St) => Join1 (fun (k2 : Int → St → Prop) => setI (intBits .or .u64 x3 x4) fun x8 => ∃ x12_a x12_b : Int, loadNV S2 2 (V.ptr S.next 0) = some (V.agg [(V.int .u64 x12_a), (V.int .u64 x12_b)]) ∧ CallA P (N Fn.wide_Mul) [(V.int .u64 x8), (V.int .u64 x8)] S2 (retT [(.agg [(.int .u64), (.int .u64)])] fun (x11_a : Int) (x11_b : Int) (S4 : St) => Same (S.next :: []) S2 S4 ∧ CallA P (N Fn.wide_Cmp) [(V.agg [(V.int .u64 x11_a), (V.int .u64 x11_b)]), (V.agg [(V.int .u64 x12_a), (V.int .u64 x12_b)])] S4 (retT [(.one (.int .i64))] fun (x13 : Int) (S5 : St) => ifC (decide (x13 ≤ (0 : Int))) (k2 x8 S5) (k2 x3 S5)))) (fun (x3_1 : Int) (S3 : St) => ifC (decide (x4 = (1 : Int))) (K x3_1 S3) (0 ≤ (1 : Int) ∧ setI (Int.fdiv x4 (2 ^ (min (Int.toNat (1 : Int)) (IntKind.bits .u64)))) fun x19 => k1 x3_1 x19 S3))) 0 9223372036854775808 S1
abbrev wide_Sqrt.Ok (P : Program) (N : Nat → Nat) : Prop := Reads P (N Fn.wide_Sqrt) [(10, (.dt (.agg [(.int .u64), (.int .u64)])), []), (0, .no, [(.agg [(.int .u64), (.int .u64)])]), (0, .no, [(.one (.int .i64))])] [(5, [(3, (.one (.int .u64)))])] [[(3, (.one (.int .u64))), (4, (.one (.int .u64)))]] (fun A T (x0_a : Int) (x0_b : Int) (S : St) (K : Int → St → Prop) => wpT P (envP P) T (endT A.results [(.one (.int .u64))] K) (frT A [(V.agg [(V.int .u64 x0_a), (V.int .u64 x0_b)])]) S) (fun x0_a x0_b S K => wide_Sqrt.p P N x0_a x0_b S K)
theorem wide_Sqrt.run {P : Program} {N : Nat → Nat} (hF : wide_Sqrt.Ok P N) {x0_a : Int} {x0_b : Int} {S : St} {K : Int → St → Prop} (h : wide_Sqrt.p P N x0_a x0_b S K) : CallA P (N Fn.wide_Sqrt) [(V.agg [(V.int .u64 x0_a), (V.int .u64 x0_b)])] S (retT [(.one (.int .u64))] K) := hF.run (fun q => q x0_a x0_b S K) h rfl

def wide_Mul.p (P : Program) (N : Nat → Nat) (x0 : Int) (x1 : Int) (S : St) (K : Int → Int → St → Prop) : Prop :=
  newS S (.cells [(V.int .u64 0), (V.int .u64 0)] true) fun S1 => CallA P (N Fn.math_bits_Mul64) [(V.int .u64 x0), (V.int .u64 x1)] S1 (retT [(.one (.int .u64)), (.one (.int .u64))] fun (x10a : Int) (x10b : Int) (S2 : St) => ifS (storeV S2 2 (V.ptr S.next 0) (V.agg [(V.int .u64 x10a), (V.int .u64 x10b)])) fun S3 => ∃ xr_a xr_b : Int, cellNV S3 2 (V.ptr S.next 0) = some (V.agg [(V.int .u64 xr_a), (V.int .u64 xr_b)]) ∧ K xr_a xr_b S3)
abbrev wide_Mul.Ok (P : Program) (N : Nat → Nat) : Prop := Reads P (N Fn.wide_Mul) [(3, .no, [(.one (.int .u64)), (.one (.int .u64))]), (7, (.dt (.agg [(.int .u64), (.int .u64)])), [])] [] [] (fun A T (x0 : Int) (x1 : Int) (S : St) (K : Int → Int → St → Prop) => wpT P (envP P) T (endT A.results [(.agg [(.int .u64), (.int .u64)])] K) (frT A [(V.int .u64 x0), (V.int .u64 x1)]) S) (fun x0 x1 S K => wide_Mul.p P N x0 x1 S K)
theorem wide_Mul.run {P : Program} {N : Nat → Nat} (hF : wide_Mul.Ok P N) {x0 : Int} {x1 : Int} {S : St} {K : Int → Int → St → Prop} (h : wide_Mul.p P N x0 x1 S K) : CallA P (N Fn.wide_Mul) [(V.int .u64 x0), (V.int .u64 x1)] S (retT [(.agg [(.int .u64), (.int .u64)])] K) := hF.run (fun q => q x0 x1 S K) h rfl

def wide_Add.p (P : Program) (N : Nat → Nat) (x0_a : Int) (x0_b : Int) (x1_a : Int) (x1_b : Int) (S : St) (K : Int → Int → Int → St → Prop) : Prop :=
  newS S (.cells [(V.int .u64 x0_a), (V.int .u64 x0_b)] true) fun S1 => newS S1 (.cells [(V.int .u64 x1_a), (V.int .u64 x1_b)] true) fun S2 => newS S2 (.cells [(V.int .u64 0), (V.int .u64 0)] true) fun S3 => ∃ x11 : Int, loadV S3 (V.ptr S.next 1) = some (V.int .u64 x11) ∧ ∃ x13 : Int, loadV S3 (V.ptr S1.next 1) = some (V.int .u64 x13) ∧ ∃ x14a x14b : Int, extV 0 [(V.int .u64 x11), (V.int .u64 x13), (V.int .u64 0)] = some (V.tuple [(V.int .u64 x14a), (V.int .u64 x14b)]) ∧ ∃ x19 : Int, loadV S3 (V.ptr S.next 0) = some (V.int .u64 x19) ∧ ∃ x21 : Int, loadV S3 (V.ptr S1.next 0) = some (V.int .u64 x21) ∧ ∃ x23a x23b : Int, extV 0 [(V.int .u64 x19), (V.int .u64 x21), (V.int .u64 x14b)] = some (V.tuple [(V.int .u64 x23a), (V.int .u64 x23b)]) ∧ ifC (decide ((0 : Int) < x23b)) (ifS (storeV S3 2 (V.ptr S2.next 0) (V.agg [(V.int .u64 0), (V.int .u64 0)])) fun S4 => ∃ xr_a xr_b : Int, cellNV S4 2 (V.ptr S2.next 0) = some (V.agg [(V.int .u64 xr_a), (V.int .u64 xr_b)]) ∧ K xr_a xr_b 10 S4) (ifS (storeV S3 2 (V.ptr S2.next 0) (V.agg [(V.int .u64 x23a), (V.int .u64 x14a)])) fun S5 => ∃ xr_a_1 xr_b_1 : Int, cellNV S5 2 (V.ptr S2.next 0) = some (V.agg [(V.int .u64 xr_a_1), (V.int .u64 xr_b_1)]) ∧ K xr_a_1 xr_b_1 0 S5)
abbrev wide_Add.Ok (P : Program) (N : Nat → Nat) : Prop := Reads P (N Fn.wide_Add) [(5, (.dt (.one (.int .u64))), []), (1, (.dt (.one (.int .u64))), []), (0, (.tup [(.one (.int .u64)), (.one (.int .u64))]), []), (6, (.dt (.one (.int .u64))), []), (1, (.dt (.one (.int .u64))), []), (1, (.tup [(.one (.int .u64)), (.one (.int .u64))]), []), (7, (.dt (.agg [(.int .u64), (.int .u64)])), []), (4, (.dt (.agg [(.int .u64), (.int .u64)])), [])] [] [] (fun A T (x0_a : Int) (x0_b : Int) (x1_a : Int) (x1_b : Int) (S : St) (K : Int → Int → Int → St → Prop) => wpT P (envP P) T (endT A.results [(.agg [(.int .u64), (.int .u64)]), (.one (.int .i64))] K) (frT A [(V.agg [(V.int .u64 x0_a), (V.int .u64 x0_b)]), (V.agg [(V.int .u64 x1_a), (V.int .u64 x1_b)])]) S) (fun x0_a x0_b x1_a x1_b S K => wide_Add.p P N x0_a x0_b x1_a x1_b S K)
theorem wide_Add.run {P : Program} {N : Nat → Nat} (hF : wide_Add.Ok P N) {x0_a : Int} {x0_b : Int} {x1_a : Int} {x1_b : Int} {S : St} {K : Int → Int → Int → St → Prop} (h : wide_Add.p P N x0_a x0_b x1_a x1_b S K) : CallA P (N Fn.wide_Add) [(V.agg [(V.int .u64 x0_a), (V.int .u64 x0_b)]), (V.agg [(V.int .u64 x1_a), (V.int .u64 x1_b)])] S (retT [(.agg [(.int .u64), (.int .u64)]), (.one (.int .i64))] K) := hF.run (fun q => q x0_a x0_b x1_a x1_b S K) h rfl

end Go.Th.L
end
