/- What the row of one statement stands on: a store, abstract code, functions of the program and their laws (ThL, ThR3, ThR4). -/
import Derived.Test.YtilkmjbbdnnphaaGreatDoorThBK

section
/- Closed runs: an evaluator with fuel; calls that tell no place leave the store. -/
set_option linter.unusedSimpArgs false
set_option linter.unusedVariables false
namespace Go.Th
open Go.RowKit Go.Lib

mutual
def V.eqb : V → V → Bool
  | .bool a, .bool b => a == b
  | .int k a, .int l b => decide (k = l) && decide (a = b)
  | .str a, .str b => decide (a = b)
  | .nilPtr, .nilPtr => true
  | .ptr i o, .ptr j p => decide (i = j) && decide (o = p)
  | .nilSlice, .nilSlice => true
  | .slice i o l c k t, .slice i' o' l' c' k' t' => decide (i = i') && decide (o = o') && decide (l = l') && decide (c = c') && decide (k = k') && (t == t')
  | .nilMap, .nilMap => true
  | .map i, .map j => decide (i = j)
  | .nilFunc, .nilFunc => true
  | .nilIface, .nilIface => true
  | .agg a, .agg b => V.eqbs a b
  | .tuple a, .tuple b => V.eqbs a b
  | .func (.func f) a b, .func (.func g) c d => decide (f = g) && V.eqbs a c && V.eqbs b d
  | .iface t a, .iface u b => decide (t = u) && V.eqb a b
  | .glob i o, .glob j p => decide (i = j) && decide (o = p)
  | .junk, .junk => true
  | _, _ => false
def V.eqbs : List V → List V → Bool
  | [], [] => true
  | a :: as, b :: bs => V.eqb a b && V.eqbs as bs
  | _, _ => false
end

mutual
theorem V.eqb_eq : ∀ (a b : V), V.eqb a b = true → a = b
  | .bool a, b, h => by cases b <;> simp_all [V.eqb]
  | .int k a, b, h => by cases b <;> simp_all [V.eqb]
  | .str a, b, h => by cases b <;> simp_all [V.eqb]
  | .nilPtr, b, h => by cases b <;> simp_all [V.eqb]
  | .ptr i o, b, h => by cases b <;> simp_all [V.eqb]
  | .nilSlice, b, h => by cases b <;> simp_all [V.eqb]
  | .slice i o l c k t, b, h => by cases b <;> simp_all [V.eqb]
  | .nilMap, b, h => by cases b <;> simp_all [V.eqb]
  | .map i, b, h => by cases b <;> simp_all [V.eqb]
  | .nilFunc, b, h => by cases b <;> simp_all [V.eqb]
  | .nilIface, b, h => by cases b <;> simp_all [V.eqb]
  | .glob i o, b, h => by cases b <;> simp_all [V.eqb]
  | .junk, b, h => by cases b <;> simp_all [V.eqb]
  | .func f a b, .func g c d, h => by
    cases f <;> cases g <;> simp only [V.eqb, Bool.false_eq_true, Bool.and_eq_true, decide_eq_true_eq] at h
    rw [h.1.1, V.eqbs_eq a c h.1.2, V.eqbs_eq b d h.2]
  | .func f a b, .bool _, h | .func f a b, .int _ _, h | .func f a b, .str _, h | .func f a b, .nilPtr, h | .func f a b, .ptr _ _, h | .func f a b, .nilSlice, h | .func f a b, .slice .., h | .func f a b, .nilMap, h | .func f a b, .map _, h | .func f a b, .nilFunc, h | .func f a b, .iface .., h | .func f a b, .nilIface, h | .func f a b, .agg _, h | .func f a b, .tuple _, h | .func f a b, .glob .., h | .func f a b, .junk, h => by
    cases f <;> simp [V.eqb] at h
  | .iface t a, b, h => by
    cases b <;> simp only [V.eqb, Bool.false_eq_true, Bool.and_eq_true, decide_eq_true_eq] at h
    rename_i u b
    rw [h.1, V.eqb_eq a b h.2]
  | .agg a, b, h => by
    cases b <;> simp only [V.eqb, Bool.false_eq_true] at h
    rename_i b
    rw [V.eqbs_eq a b h]
  | .tuple a, b, h => by
    cases b <;> simp only [V.eqb, Bool.false_eq_true] at h
    rename_i b
    rw [V.eqbs_eq a b h]
theorem V.eqbs_eq : ∀ (a b : List V), V.eqbs a b = true → a = b
  | [], b, h => by cases b <;> simp_all [V.eqbs]
  | a :: as, b, h => by
    cases b with
    | nil => simp [V.eqbs] at h
    | cons b bs =>
      simp only [V.eqbs, Bool.and_eq_true] at h
      rw [V.eqb_eq a b h.1, V.eqbs_eq as bs h.2]
end

def blkB : Option Blk → Option Blk → Bool
  | none, none => true
  | some (.cells a o), some (.cells b p) => V.eqbs a b && (o == p)
  | some (.glob g a), some (.glob h b) => decide (g = h) && V.eqbs a b
  | _, _ => false

theorem blkB_eq {a b : Option Blk} (h : blkB a b = true) : a = b := by
  unfold blkB at h
  split at h
  · rfl
  · simp only [Bool.and_eq_true, beq_iff_eq] at h
    rw [V.eqbs_eq _ _ h.1, h.2]
  · simp only [Bool.and_eq_true, decide_eq_true_eq] at h
    rw [V.eqbs_eq _ _ h.2, h.1]
  · cases h

def sameB (R : List Nat) (S S' : St) : Bool := R.all fun i => blkB (S'.get i) (S.get i)

theorem sameB_same {R : List Nat} {S S' : St} (h : sameB R S S' = true) : Same R S S' := fun i hi => blkB_eq (List.all_eq_true.mp h i hi)

abbrev CallE := FuncId → List V → St → Option (Res × St)
abbrev LoopE := AC → List V → St → Option (AE × List V × St)

def evIs (ok : Env) (ce : CallE) : List AI → List V → St → Option (AE × List V × St)
  | [], fr, S => some (.normal, fr, S)
  | i :: r, fr, S =>
    match wantI i.guard fr with
    | some true =>
      match i.op.run ok fr S with
      | .val v S' => evIs ok ce r (put fr i.dst v) S'
      | .call f args => match ce f args S with
        | some (.ret v, S') => evIs ok ce r (put fr i.dst v) S'
        | some (.panic v, S') => some (.panic v, fr, S')
        | none => none
      | .panic v => some (.panic v, fr, S)
      | .any _ => none
      | .stuck => none
    | some false => evIs ok ce r (put fr i.dst .undef) S
    | none => none

def evD (ok : Env) (ce : CallE) : OT → RD → List V → St → Option (List V × St)
  | .done, _, fr, S => some (fr, S)
  | .both _ _, _, _, _ => none
  | .step n ds i r, R, fr, S =>
    match wantI i.guard fr with
    | some true =>
      match i.op.run ok fr S with
      | .val v S' => if i.op.quiet then evD ok ce r ((n, i.op.reads fr) :: R) (put fr i.dst v) S' else if sameB (outD ds R) S S' then evD ok ce r R (put fr i.dst v) S' else none
      | .call f args => match ce f args S with
        | some (.ret v, S') => if sameB (outD ds R) S S' then evD ok ce r R (put fr i.dst v) S' else none
        | _ => none
      | .panic _ => none
      | .any _ => none
      | .stuck => none
    | some false => evD ok ce r R (put fr i.dst .undef) S
    | none => none

def evC (ok : Env) (ce : CallE) (le : LoopE) : AC → List V → St → Option (AE × List V × St)
  | .skip, fr, S => some (.normal, fr, S)
  | .region l, fr, S => evIs ok ce l fr S
  | .draw l, fr, S => match evD ok ce l [] fr S with
    | some (fr', S') => some (.normal, fr', S')
    | none => none
  | .seq a b, fr, S => match evC ok ce le a fr S with
    | some (.normal, fr', S') => evC ok ce le b fr' S'
    | x => x
  | .cond x a b, fr, S => match x.ev fr with
    | .bool c => if c then evC ok ce le a fr S else evC ok ce le b fr S
    | _ => none
  | .block id a, fr, S => match evC ok ce le a fr S with
    | some (.exit j, fr', S') => if j = id then some (.normal, fr', S') else some (.exit j, fr', S')
    | x => x
  | .loop a, fr, S => le a fr S
  | .exit id, fr, S => some (.exit id, fr, S)
  | .ret, fr, S => some (.ret, fr, S)

mutual
def evF (ok : Env) (tab : Nat → Option AF) : Nat → CallE
  | 0, _, _, _ => none
  | n + 1, f, args, S =>
    match tab f with
    | none => none
    | some F => match evC ok (evF ok tab n) (evL ok tab n) F.body (args ++ List.replicate (F.nt - args.length) .undef) S with
      | some (.normal, fr, S') | some (.ret, fr, S') => match ARes.gets fr S' F.results with
        | some vs => some (.ret (tupled vs), S')
        | none => none
      | some (.panic v, _, S') => some (.panic v, S')
      | _ => none
def evL (ok : Env) (tab : Nat → Option AF) : Nat → LoopE
  | 0, _, _, _ => none
  | n + 1, a, fr, S =>
    match evC ok (evF ok tab n) (evL ok tab n) a fr S with
    | some (.normal, fr', S') => evL ok tab n a fr' S'
    | x => x
end

section
variable {ok : Env} {ce : CallE} {le : LoopE} {callH : FuncId → List V → St → Post → Prop} {loopH : AC → PostC → List V → St → Prop}
variable (hc : ∀ f args S r S' (Q : Post), ce f args S = some (r, S') → Q r S' → callH f args S Q)
variable (hl : ∀ ac fr S e fr' S' (Q : PostC), le ac fr S = some (e, fr', S') → Q e fr' S' → loopH ac Q fr S)
include hc

theorem evIs_ok : ∀ (l : List AI) (fr : List V) (S : St) (e : AE) (fr' : List V) (S' : St) (Q : PostC), evIs ok ce l fr S = some (e, fr', S') → Q e fr' S' → runIs ok callH Q l fr S
  | [], fr, S, e, fr', S', Q, h, hq => by
    simp only [evIs, Option.some.injEq, Prod.mk.injEq] at h
    obtain ⟨rfl, rfl, rfl⟩ := h
    exact hq
  | i :: r, fr, S, e, fr', S', Q, h, hq => by
    simp only [evIs] at h
    simp only [runIs]
    split at h
    · rename_i hw
      simp only [hw]
      split at h
      · rename_i v S1 hr
        simp only [hr]
        exact evIs_ok r _ _ _ _ _ Q h hq
      · rename_i f args hr
        simp only [hr]
        split at h
        · rename_i v S1 h1
          exact hc _ _ _ _ _ _ h1 (evIs_ok r _ _ _ _ _ Q h hq)
        · rename_i v S1 h1
          simp only [Option.some.injEq, Prod.mk.injEq] at h
          obtain ⟨rfl, rfl, rfl⟩ := h
          exact hc _ _ _ _ _ _ h1 hq
        · cases h
      · rename_i v hr
        simp only [hr]
        simp only [Option.some.injEq, Prod.mk.injEq] at h
        obtain ⟨rfl, rfl, rfl⟩ := h
        exact hq
      · cases h
      · cases h
    · rename_i hw
      simp only [hw]
      exact evIs_ok r _ _ _ _ _ Q h hq
    · cases h

theorem evD_ok : ∀ (l : OT) (R : RD) (fr : List V) (S : St) (fr' : List V) (S' : St) (Q : List V → St → Prop), evD ok ce l R fr S = some (fr', S') → Q fr' S' → runD ok callH Q l R fr S
  | .both _ _, R, fr, S, fr', S', Q, h, hq => by simp only [evD] at h; cases h
  | .done, R, fr, S, fr', S', Q, h, hq => by
    simp only [evD, Option.some.injEq, Prod.mk.injEq] at h
    obtain ⟨rfl, rfl⟩ := h
    exact hq
  | .step n ds i r, R, fr, S, fr', S', Q, h, hq => by
    simp only [evD] at h
    simp only [runD]
    split at h
    · rename_i hw
      simp only [hw]
      split at h
      · rename_i v S1 hr
        simp only [hr]
        split at h
        · rename_i hqt
          rw [if_pos hqt]
          exact evD_ok r _ _ _ _ _ Q h hq
        · rename_i hqt
          rw [if_neg hqt]
          split at h
          · rename_i hs
            exact ⟨sameB_same hs, evD_ok r _ _ _ _ _ Q h hq⟩
          · cases h
      · rename_i f args hr
        simp only [hr]
        split at h
        · rename_i v S1 h1
          split at h
          · rename_i hs
            exact hc _ _ _ _ _ _ h1 ⟨sameB_same hs, evD_ok r _ _ _ _ _ Q h hq⟩
          · cases h
        · cases h
      · cases h
      · cases h
      · cases h
    · rename_i hw
      simp only [hw]
      exact evD_ok r _ _ _ _ _ Q h hq
    · cases h

include hl
theorem evC_ok : ∀ (ac : AC) (fr : List V) (S : St) (e : AE) (fr' : List V) (S' : St) (Q : PostC), evC ok ce le ac fr S = some (e, fr', S') → Q e fr' S' → wpA ok callH loopH ac Q fr S
  | .skip, fr, S, e, fr', S', Q, h, hq => by
    simp only [evC, Option.some.injEq, Prod.mk.injEq] at h
    obtain ⟨rfl, rfl, rfl⟩ := h
    exact hq
  | .region l, fr, S, e, fr', S', Q, h, hq => evIs_ok hc l fr S e fr' S' Q h hq
  | .draw l, fr, S, e, fr', S', Q, h, hq => by
    simp only [evC] at h
    split at h
    · rename_i fr1 S1 h1
      simp only [Option.some.injEq, Prod.mk.injEq] at h
      obtain ⟨rfl, rfl, rfl⟩ := h
      exact evD_ok hc l [] fr S _ _ (Q .normal) h1 hq
    · cases h
  | .seq a b, fr, S, e, fr', S', Q, h, hq => by
    simp only [evC] at h
    simp only [wpA]
    split at h
    · rename_i fr1 S1 h1
      exact evC_ok a fr S _ _ _ _ h1 (evC_ok b fr1 S1 _ _ _ Q h hq)
    · rename_i hn
      refine evC_ok a fr S e fr' S' _ h ?_
      cases e with
      | normal => exact absurd h (hn _ _)
      | exit j => exact hq
      | ret => exact hq
      | panic v => exact hq
  | .cond x a b, fr, S, e, fr', S', Q, h, hq => by
    simp only [evC] at h
    simp only [wpA]
    split at h
    · rename_i c hx
      simp only [hx]
      cases c with
      | true => exact evC_ok a fr S e fr' S' Q (by simpa using h) hq
      | false => exact evC_ok b fr S e fr' S' Q (by simpa using h) hq
    · cases h
  | .block id a, fr, S, e, fr', S', Q, h, hq => by
    simp only [evC] at h
    simp only [wpA]
    split at h
    · rename_i j fr1 S1 h1
      refine evC_ok a fr S _ _ _ _ h1 ?_
      by_cases hj : j = id
      · rw [if_pos hj] at h
        simp only [Option.some.injEq, Prod.mk.injEq] at h
        obtain ⟨rfl, rfl, rfl⟩ := h
        simp only [if_pos hj]; exact hq
      · rw [if_neg hj] at h
        simp only [Option.some.injEq, Prod.mk.injEq] at h
        obtain ⟨rfl, rfl, rfl⟩ := h
        simp only [if_neg hj]; exact hq
    · rename_i hn
      refine evC_ok a fr S e fr' S' _ h ?_
      cases e with
      | normal => exact hq
      | exit j => exact absurd h (hn _ _ _)
      | ret => exact hq
      | panic v => exact hq
  | .loop a, fr, S, e, fr', S', Q, h, hq => hl a fr S e fr' S' Q h hq
  | .exit id, fr, S, e, fr', S', Q, h, hq => by
    simp only [evC, Option.some.injEq, Prod.mk.injEq] at h
    obtain ⟨rfl, rfl, rfl⟩ := h
    exact hq
  | .ret, fr, S, e, fr', S', Q, h, hq => by
    simp only [evC, Option.some.injEq, Prod.mk.injEq] at h
    obtain ⟨rfl, rfl, rfl⟩ := h
    exact hq
end

theorem ev_ok {P : Program} {ok : Env} (hok : EnvOk P ok) {tab : Nat → Option AF} (htab : ∀ f F, tab f = some F → afun P f = some F) : ∀ (n : Nat),
    (∀ f args S r S' (Q : Post), evF ok tab n f args S = some (r, S') → Q r S' → CallA P f args S Q) ∧
    (∀ ac fr S e fr' S' (Q : PostC), evL ok tab n ac fr S = some (e, fr', S') → Q e fr' S' → LoopA P ac Q fr S)
  | 0 => ⟨fun f args S r S' Q h _ => by simp [evF] at h, fun ac fr S e fr' S' Q h _ => by simp [evL] at h⟩
  | n + 1 => by
    obtain ⟨ihF, ihL⟩ := ev_ok hok htab n
    constructor
    · intro f args S r S' Q h hq
      simp only [evF] at h
      split at h
      · cases h
      · rename_i F hF
        refine CallA.of_body hok (htab f F hF) ?_
        split at h
        · rename_i fr S1 h1
          refine evC_ok ihF ihL _ _ _ _ _ _ _ h1 ?_
          simp only [endQ]
          split at h
          · rename_i vs hvs
            simp only [Option.some.injEq, Prod.mk.injEq] at h
            obtain ⟨rfl, rfl⟩ := h
            simp only [hvs]; exact hq
          · cases h
        · rename_i fr S1 h1
          refine evC_ok ihF ihL _ _ _ _ _ _ _ h1 ?_
          simp only [endQ]
          split at h
          · rename_i vs hvs
            simp only [Option.some.injEq, Prod.mk.injEq] at h
            obtain ⟨rfl, rfl⟩ := h
            simp only [hvs]; exact hq
          · cases h
        · rename_i v fr S1 h1
          simp only [Option.some.injEq, Prod.mk.injEq] at h
          obtain ⟨rfl, rfl⟩ := h
          exact evC_ok ihF ihL _ _ _ _ _ _ _ h1 hq
        · cases h
    · intro ac fr S e fr' S' Q h hq
      simp only [evL] at h
      refine LoopA.round hok ?_
      split at h
      · rename_i fr1 S1 h1
        exact evC_ok ihF ihL _ _ _ _ _ _ _ h1 (ihL _ _ _ _ _ _ Q h hq)
      · rename_i hn
        refine evC_ok ihF ihL _ _ _ _ _ _ _ h ?_
        cases e with
        | normal => exact absurd h (hn _ _)
        | exit j => exact hq
        | ret => exact hq
        | panic v => exact hq

mutual
def V.plain : V → Bool
  | .ptr _ _ | .slice _ _ _ _ _ _ | .map _ => false
  | .func _ a b => V.plains a && V.plains b
  | .iface _ v => V.plain v
  | .agg cs => V.plains cs
  | .tuple cs => V.plains cs
  | _ => true
def V.plains : List V → Bool
  | [] => true
  | v :: vs => V.plain v && V.plains vs
end

mutual
theorem VR.plain {m m' : LM} : ∀ (v : V) (u : Value), v.plain = true → VR m v u → VR m' v u
  | .bool _, _, _, r | .int _ _, _, _, r | .str _, _, _, r | .nilPtr, _, _, r | .nilSlice, _, _, r | .nilMap, _, _, r | .nilFunc, _, _, r | .nilIface, _, _, r | .glob _ _, _, _, r | .junk, _, _, r => by simpa only [VR] using r
  | .ptr _ _, _, h, _ | .slice _ _ _ _ _ _, _, h, _ | .map _, _, h, _ => by simp [V.plain] at h
  | .func _ fs cs, _, h, r => by
    simp only [V.plain, Bool.and_eq_true] at h
    simp only [VR] at r ⊢
    obtain ⟨fs', cs', rfl, h1, h2⟩ := r
    exact ⟨fs', cs', rfl, VRs.plain _ _ h.1 h1, VRs.plain _ _ h.2 h2⟩
  | .iface _ v, _, h, r => by
    simp only [V.plain] at h
    simp only [VR] at r ⊢
    obtain ⟨v', rfl, h1⟩ := r
    exact ⟨v', rfl, VR.plain _ _ h h1⟩
  | .agg cs, _, h, r => by
    simp only [V.plain] at h
    simp only [VR] at r ⊢
    obtain ⟨cs', rfl, h1⟩ := r
    exact ⟨cs', rfl, VRs.plain _ _ h h1⟩
  | .tuple cs, _, h, r => by
    simp only [V.plain] at h
    simp only [VR] at r ⊢
    obtain ⟨cs', rfl, h1⟩ := r
    exact ⟨cs', rfl, VRs.plain _ _ h h1⟩
theorem VRs.plain {m m' : LM} : ∀ (vs : List V) (us : List Value), V.plains vs = true → VRs m vs us → VRs m' vs us
  | [], _, _, r => by simpa only [VRs] using r
  | v :: vs, _, h, r => by
    simp only [V.plains, Bool.and_eq_true] at h
    simp only [VRs] at r ⊢
    obtain ⟨u, us', rfl, h1, h2⟩ := r
    exact ⟨u, us', rfl, VR.plain _ _ h.1 h1, VRs.plain _ _ h.2 h2⟩
end

def Res.plain : Res → Bool
  | .ret v | .panic v => v.plain

theorem ResR.plain {m m' : LM} {r : Res} {e : Ending} (h : r.plain = true) (hr : ResR m r e) : ResR m' r e := by
  cases r with
  | ret v =>
    obtain ⟨u, rfl, hu⟩ := hr
    exact ⟨u, rfl, VR.plain _ _ h hu⟩
  | panic v =>
    obtain ⟨u, rfl, hu⟩ := hr
    exact ⟨u, rfl, VR.plain _ _ h hu⟩

theorem CallA.gc {P : Program} {f : FuncId} {args : List V} {S : St} {Q : Post} (h : CallA P f args S.ro (fun r _ => r.plain = true ∧ Q r S)) : CallA P f args S Q := by
  intro m base w0 w args' hS hv
  refine (h m _ w w args' hS.ro hv).mono ?_
  rintro e w' ⟨r, S', m', ⟨hp, hq⟩, hx, hS', hr⟩
  exact ⟨r, S, m, hq, Ext.refl m, hS.later hS'.below, hr.plain hp⟩

theorem Sim.empty (w : World) : Sim (fun _ => none) St.empty w.heap.size w w :=
  ⟨Below.refl _ _, Nat.le_refl _, fun _ _ => rfl, fun _ _ => rfl, fun i b h => by simp at h, fun i j b b' L L' _ h => by simp at h⟩

theorem CallA.closed {P : Program} {f : FuncId} {args : List V} {S : St} {Q : Post} (ha : V.plains args = true) (h : CallA P f args St.empty (fun r _ => r.plain = true ∧ Q r S)) : CallA P f args S Q := by
  intro m base w0 w args' hS hv
  refine (h _ _ w w args' (Sim.empty w) (VRs.plain _ _ ha hv)).mono ?_
  rintro e w' ⟨r, S', m', ⟨hp, hq⟩, hx, hS', hr⟩
  exact ⟨r, S, m, hq, Ext.refl m, hS.later hS'.below, hr.plain hp⟩

theorem CallA.run {P : Program} {ok : Env} (hok : EnvOk P ok) {tab : Nat → Option AF} (htab : ∀ f F, tab f = some F → afun P f = some F) (n : Nat) {f : FuncId} {args : List V} {S : St} {Q : Post} (r : Res)
    (h : (match evF ok tab n f args St.empty with
      | some (.ret v, _) => v.eqb (match r with | .ret u => u | .panic u => u) && (match r with | .ret _ => true | .panic _ => false)
      | _ => false) = true) (ha : V.plains args = true) (hr : r.plain = true) (hq : Q r S) : CallA P f args S Q := by
  refine CallA.closed ha ?_
  split at h
  · rename_i v S1 h1
    simp only [Bool.and_eq_true] at h
    cases r with
    | ret u =>
      have := V.eqb_eq _ _ h.1
      subst this
      exact (ev_ok hok htab n).1 _ _ _ _ _ _ h1 ⟨hr, hq⟩
    | panic u => simp at h
  · cases h

end Go.Th
end

section
/- Closed runs with an oracle: library functions that are not read, told as plain functions over values. -/
set_option linter.unusedSimpArgs false
set_option linter.unusedVariables false
namespace Go.Th
open Go.RowKit Go.Lib

abbrev Orc := Nat → List V → St → Option (V × St)
def OrcOk (P : Program) (orc : Orc) : Prop := ∀ f args S v S' (Q : Post), orc f args S = some (v, S') → Q (.ret v) S' → CallA P f args S Q

mutual
def evFO (ok : Env) (orc : Orc) (tab : Nat → Option AF) : Nat → CallE
  | 0, _, _, _ => none
  | n + 1, f, args, S =>
    match tab f with
    | none => match orc f args S with
      | some (v, S') => some (.ret v, S')
      | none => none
    | some F => match evC ok (evFO ok orc tab n) (evLO ok orc tab n) F.body (args ++ List.replicate (F.nt - args.length) .undef) S with
      | some (.normal, fr, S') | some (.ret, fr, S') => match ARes.gets fr S' F.results with
        | some vs => some (.ret (tupled vs), S')
        | none => none
      | some (.panic v, _, S') => some (.panic v, S')
      | _ => none
def evLO (ok : Env) (orc : Orc) (tab : Nat → Option AF) : Nat → LoopE
  | 0, _, _, _ => none
  | n + 1, a, fr, S =>
    match evC ok (evFO ok orc tab n) (evLO ok orc tab n) a fr S with
    | some (.normal, fr', S') => evLO ok orc tab n a fr' S'
    | x => x
end

theorem evO_ok {P : Program} {ok : Env} (hok : EnvOk P ok) {orc : Orc} (horc : OrcOk P orc) {tab : Nat → Option AF} (htab : ∀ f F, tab f = some F → afun P f = some F) : ∀ (n : Nat),
    (∀ f args S r S' (Q : Post), evFO ok orc tab n f args S = some (r, S') → Q r S' → CallA P f args S Q) ∧
    (∀ ac fr S e fr' S' (Q : PostC), evLO ok orc tab n ac fr S = some (e, fr', S') → Q e fr' S' → LoopA P ac Q fr S)
  | 0 => ⟨fun f args S r S' Q h _ => by simp [evFO] at h, fun ac fr S e fr' S' Q h _ => by simp [evLO] at h⟩
  | n + 1 => by
    obtain ⟨ihF, ihL⟩ := evO_ok hok horc htab n
    constructor
    · intro f args S r S' Q h hq
      simp only [evFO] at h
      split at h
      · split at h
        · rename_i v S1 hv
          simp only [Option.some.injEq, Prod.mk.injEq] at h
          obtain ⟨rfl, rfl⟩ := h
          exact horc _ _ _ _ _ _ hv hq
        · cases h
      · rename_i F hF
        refine CallA.of_body hok (htab f F hF) ?_
        split at h
        · rename_i fr S1 h1
          refine evC_ok ihF ihL _ _ _ _ _ _ _ h1 ?_
          simp only [endQ]
          split at h
          · rename_i vs hvs
            simp only [Option.some.injEq, Prod.mk.injEq] at h
            obtain ⟨rfl, rfl⟩ := h
            simp only [hvs]; exact hq
          · cases h
        · rename_i fr S1 h1
          refine evC_ok ihF ihL _ _ _ _ _ _ _ h1 ?_
          simp only [endQ]
          split at h
          · rename_i vs hvs
            simp only [Option.some.injEq, Prod.mk.injEq] at h
            obtain ⟨rfl, rfl⟩ := h
            simp only [hvs]; exact hq
          · cases h
        · rename_i v fr S1 h1
          simp only [Option.some.injEq, Prod.mk.injEq] at h
          obtain ⟨rfl, rfl⟩ := h
          exact evC_ok ihF ihL _ _ _ _ _ _ _ h1 hq
        · cases h
    · intro ac fr S e fr' S' Q h hq
      simp only [evLO] at h
      refine LoopA.round hok ?_
      split at h
      · rename_i fr1 S1 h1
        exact evC_ok ihF ihL _ _ _ _ _ _ _ h1 (ihL _ _ _ _ _ _ Q h hq)
      · rename_i hn
        refine evC_ok ihF ihL _ _ _ _ _ _ _ h ?_
        cases e with
        | normal => exact absurd h (hn _ _)
        | exit j => exact hq
        | ret => exact hq
        | panic v => exact hq


theorem CallA.runO {P : Program} {ok : Env} (hok : EnvOk P ok) {orc : Orc} (horc : OrcOk P orc) {tab : Nat → Option AF} (htab : ∀ f F, tab f = some F → afun P f = some F) (n : Nat) {f : FuncId} {args : List V} {S : St} {Q : Post} (r : Res)
    (h : (match evFO ok orc tab n f args St.empty with
      | some (.ret v, _) => v.eqb (match r with | .ret u => u | .panic u => u) && (match r with | .ret _ => true | .panic _ => false)
      | _ => false) = true) (ha : V.plains args = true) (hr : r.plain = true) (hq : Q r S) : CallA P f args S Q := by
  refine CallA.closed ha ?_
  split at h
  · rename_i v S1 h1
    simp only [Bool.and_eq_true] at h
    cases r with
    | ret u =>
      have := V.eqb_eq _ _ h.1
      subst this
      exact (evO_ok hok horc htab n).1 _ _ _ _ _ _ h1 ⟨hr, hq⟩
    | panic u => simp at h
  · cases h

end Go.Th
end

section
/- Closed calls that read package variables. -/
set_option linter.unusedSimpArgs false
set_option linter.unusedVariables false
namespace Go.Th
open Go.RowKit Go.Lib

def St.one (g : Nat) (vs : List V) : St := St.put { St.empty with next := g + 1 } g (some (.glob g vs))
theorem St.one_get (g : Nat) (vs : List V) (i : Nat) : (St.one g vs).get i = if i = g then some (.glob g vs) else none := by
  unfold St.one
  rw [St.get_put]
  rfl

theorem plains_get : ∀ {vs : List V} {j : Nat} {v : V}, V.plains vs = true → vs[j]? = some v → v.plain = true
  | [], _, _, _, h => by simp at h
  | x :: xs, 0, v, hp, h => by
    simp only [V.plains, Bool.and_eq_true] at hp
    simp at h; subst h; exact hp.1
  | x :: xs, j + 1, v, hp, h => by
    simp only [V.plains, Bool.and_eq_true] at hp
    exact plains_get hp.2 (by simpa using h)

def GlobsIn (S0 S : St) : Prop := (∀ i, S0.next ≤ i → S0.get i = none) ∧ ∀ i b, S0.get i = some b → ∃ vs, b = .glob i vs ∧ V.plains vs = true ∧ S.get i = some (.glob i vs)

def St.globs (gs : List (Nat × List V)) : St := gs.foldl (fun S p => { St.put S p.1 (some (.glob p.1 p.2)) with next := max S.next (p.1 + 1) }) St.empty
theorem globs_step {S S0 : St} {g : Nat} {vs : List V} (h : GlobsIn S0 S) (hg : S.get g = some (.glob g vs)) (hp : V.plains vs = true) :
    GlobsIn { St.put S0 g (some (.glob g vs)) with next := max S0.next (g + 1) } S := by
  have hget : ∀ i, St.get { St.put S0 g (some (.glob g vs)) with next := max S0.next (g + 1) } i = (St.put S0 g (some (.glob g vs))).get i := fun _ => rfl
  refine ⟨fun i hi => ?_, fun i b hi => ?_⟩
  · rw [hget, St.get_put]
    have hi : max S0.next (g + 1) ≤ i := hi
    rw [if_neg (by omega)]
    exact h.1 i (by omega)
  · rw [hget, St.get_put] at hi
    split at hi
    · rename_i e; subst e
      cases hi
      exact ⟨vs, rfl, hp, hg⟩
    · exact h.2 i b hi
theorem globs_fold {S : St} : ∀ (gs : List (Nat × List V)) (S0 : St), GlobsIn S0 S → (∀ p ∈ gs, S.get p.1 = some (.glob p.1 p.2) ∧ V.plains p.2 = true) →
    GlobsIn (gs.foldl (fun S p => { St.put S p.1 (some (.glob p.1 p.2)) with next := max S.next (p.1 + 1) }) S0) S
  | [], S0, h, _ => h
  | p :: gs, S0, h, hp => globs_fold gs _ (globs_step h (hp p (by simp)).1 (hp p (by simp)).2) (fun q hq => hp q (by simp [hq]))
theorem globs_in {S : St} {gs : List (Nat × List V)} (hp : ∀ p ∈ gs, S.get p.1 = some (.glob p.1 p.2) ∧ V.plains p.2 = true) : GlobsIn (St.globs gs) S :=
  globs_fold gs _ ⟨fun _ _ => rfl, fun _ _ h => by cases h⟩ hp

theorem CallA.closedG {P : Program} {f : FuncId} {args : List V} {S S0 : St} {Q : Post} (hg : GlobsIn S0 S) (ha : V.plains args = true)
    (h : CallA P f args S0 (fun r _ => r.plain = true ∧ Q r S)) : CallA P f args S Q := by
  intro m base w0 w args' hS hv
  have hS0 : Sim (fun i => if (S0.get i).isSome then m i else none) S0 w.heap.size w w := by
    refine ⟨Below.refl _ _, Nat.le_refl _, hg.1, fun i hi => ?_, fun i b hi => ?_, fun i j b b' L1 L2 hij hi hj ho => ?_⟩
    · simp [hg.1 i hi]
    · obtain ⟨vs, rfl, hp, hs⟩ := hg.2 i b hi
      obtain ⟨L, hL, hb, _⟩ := hS.blk i _ hs
      obtain ⟨h0, h1, cs, t, fz, h2, h3⟩ := hb
      exact ⟨L, by simp [hi, hL], ⟨h0, h1, cs, t, fz, h2, VRs.plain _ _ hp h3⟩, fun ho => by cases ho⟩
    · obtain ⟨vs, rfl, _⟩ := hg.2 i b hi
      cases ho
  refine (h _ _ w w args' hS0 (VRs.plain _ _ ha hv)).mono ?_
  rintro e w' ⟨r, S', m', ⟨hp, hq⟩, hx, hS', hr⟩
  exact ⟨r, S, m, hq, Ext.refl m, hS.later hS'.below, hr.plain hp⟩

theorem CallA.runG {P : Program} {ok : Env} (hok : EnvOk P ok) {orc : Orc} (horc : OrcOk P orc) {tab : Nat → Option AF} (htab : ∀ f F, tab f = some F → afun P f = some F) (n : Nat) {f : FuncId} {args : List V} {S S0 : St} {Q : Post} (r : Res)
    (hg : GlobsIn S0 S)
    (h : (match evFO ok orc tab n f args S0 with
      | some (.ret v, _) => v.eqb (match r with | .ret u => u | .panic u => u) && (match r with | .ret _ => true | .panic _ => false)
      | _ => false) = true) (ha : V.plains args = true) (hr : r.plain = true) (hq : Q r S) : CallA P f args S Q := by
  refine CallA.closedG hg ha ?_
  split at h
  · rename_i v S1 h1
    simp only [Bool.and_eq_true] at h
    cases r with
    | ret u =>
      have := V.eqb_eq _ _ h.1
      subst this
      exact (evO_ok hok horc htab n).1 _ _ _ _ _ _ h1 ⟨hr, hq⟩
    | panic u => simp at h
  · cases h

end Go.Th
end
