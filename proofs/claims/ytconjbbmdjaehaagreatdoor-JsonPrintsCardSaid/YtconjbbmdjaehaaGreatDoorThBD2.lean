/- What the row of one statement stands on: a store, abstract code, functions of the program and their laws (ThD2). -/
import Derived.Test.YtconjbbmdjaehaaGreatDoorThBI
import Derived.Orders

section
/- Regions whose order the language leaves open: one order serves for all, where what is read stays. -/
set_option linter.unusedSimpArgs false
set_option linter.unusedVariables false
namespace Go.Th
open Go.RowKit Go.Lib

structure AI where
  dst : Option Nat
  guard : Option (Nat × Bool)
  op : AO

inductive Res where
  | ret (v : V)
  | panic (v : V)

abbrev Post := Res → St → Prop

def put (fr : List V) (d : Option Nat) (v : V) : List V :=
  match d with
  | some d => fr.set d v
  | none => fr

def wantI (g : Option (Nat × Bool)) (fr : List V) : Option Bool :=
  match g with
  | none => some true
  | some (t, want) => match fr.getD t .undef with
    | .bool b => some (b == want)
    | .tuple [] => some false
    | _ => none

def AX.use : AX → List Nat
  | .tmp i => [i]
  | _ => []

def AX.uses (xs : List AX) : List Nat := xs.flatMap AX.use

def AX.useo : Option AX → List Nat
  | some x => x.use
  | none => []

def AO.uses : AO → List Nat
  | .move x | .box x | .load1 x | .loadN _ x | .nilCheck x | .un _ x | .convInt _ x | .convStr x | .convBS x | .convSB x | .convBB x | .mkIface _ x | .fieldAddr _ x | .field _ _ x | .extract _ x | .len _ x | .cap x | .assert _ _ _ x | .rangeM x | .nextM x | .entryM x | .clearSl _ _ x | .panicV x => x.use
  | .pick c x y => c.use ++ x.use ++ y.use
  | .alloc _ | .allocT _ _ | .mkMap => []
  | .build _ ps | .buildSlice _ _ _ ps => ps.flatMap fun p => p.2.2.use
  | .store _ x y | .bin _ x y | .mkSlice _ _ _ x y | .idxAddr _ x y | .idxAddrArr _ _ x y | .idxStr x y | .idxArr _ _ _ x y | .app _ _ x y | .copy _ x y | .lookup _ _ _ x y | .delete _ x y | .eq _ _ _ x y | .lookupP _ _ x y => x.use ++ y.use
  | .mkFunc _ a b => AX.uses a ++ AX.uses b
  | .sliceStr x lo hi => x.use ++ AX.useo lo ++ AX.useo hi
  | .sliceSl _ x lo hi mx | .sliceArr _ _ x lo hi mx => x.use ++ AX.useo lo ++ AX.useo hi ++ AX.useo mx
  | .min xs | .max xs | .ext _ xs => AX.uses xs
  | .mapUpd _ x k y | .mapUpdP x k y => x.use ++ k.use ++ y.use
  | .callF _ xs => AX.uses xs
  | .callV x xs => x.use ++ AX.uses xs
  | .invoke _ x xs => x.use ++ AX.uses xs

def Alike (l : List Nat) (fr fr' : List V) : Prop := ∀ t ∈ l, fr.getD t .undef = fr'.getD t .undef

theorem Alike.left {a b : List Nat} {fr fr' : List V} (h : Alike (a ++ b) fr fr') : Alike a fr fr' := fun t ht => h t (List.mem_append_left _ ht)
theorem Alike.right {a b : List Nat} {fr fr' : List V} (h : Alike (a ++ b) fr fr') : Alike b fr fr' := fun t ht => h t (List.mem_append_right _ ht)

theorem AX.ev_alike {fr fr' : List V} {x : AX} (h : Alike x.use fr fr') : x.ev fr = x.ev fr' := by
  cases x with
  | tmp t => exact h t (by simp [AX.use])
  | con v => rfl
  | fn f => rfl

theorem AX.evs_alike {fr fr' : List V} : ∀ {xs : List AX}, Alike (AX.uses xs) fr fr' → (xs.map (·.ev fr) : List V) = xs.map (·.ev fr')
  | [], _ => rfl
  | x :: xs, h => by
    have h' : Alike (x.use ++ AX.uses xs) fr fr' := h
    simp only [List.map_cons, AX.ev_alike h'.left, AX.evs_alike h'.right]

theorem AX.evo_alike {fr fr' : List V} {x : Option AX} (h : Alike (AX.useo x) fr fr') : x.map (·.ev fr) = x.map (·.ev fr') := by
  cases x with
  | none => rfl
  | some x => simp only [Option.map_some]; rw [AX.ev_alike h]

theorem AX.evp_alike {fr fr' : List V} : ∀ {ps : List (Nat × Nat × AX)}, Alike (ps.flatMap fun p => p.2.2.use) fr fr' → (ps.map fun p => (p.1, p.2.1, p.2.2.ev fr)) = ps.map fun p => (p.1, p.2.1, p.2.2.ev fr')
  | [], _ => rfl
  | p :: ps, h => by
    have h' : Alike (p.2.2.use ++ ps.flatMap fun p => p.2.2.use) fr fr' := by simpa [List.flatMap_cons] using h
    simp only [List.map_cons, AX.ev_alike h'.left, AX.evp_alike h'.right]

theorem AO.run_alike {ok : Env} {o : AO} {fr fr' : List V} {S : St} (h : Alike o.uses fr fr') : o.run ok fr S = o.run ok fr' S := by
  cases o <;> simp only [AO.uses] at h <;> simp only [AO.run]
  case move => simp only [rMove, AX.ev_alike h]
  case pick => simp only [rPick, AX.ev_alike h.left.left, AX.ev_alike h.left.right, AX.ev_alike h.right]
  case alloc => rfl
  case allocT => rfl
  case box => simp only [rBox, AX.ev_alike h]
  case build => simp only [rBuild, AX.evp_alike h]
  case buildSlice => simp only [rBuildSlice, AX.evp_alike h]
  case load1 => simp only [rLoad1, AX.ev_alike h]
  case loadN => simp only [rLoadN, AX.ev_alike h]
  case store => simp only [rStore, AX.ev_alike h.left, AX.ev_alike h.right]
  case nilCheck => simp only [rNilCheck, AX.ev_alike h]
  case bin => simp only [rBin, AX.ev_alike h.left, AX.ev_alike h.right]
  case un => simp only [rUn, AX.ev_alike h]
  case convInt => simp only [rConvInt, AX.ev_alike h]
  case convStr => simp only [rConvStr, AX.ev_alike h]
  case convBS => simp only [rConvBS, AX.ev_alike h]
  case convSB => simp only [rConvSB, AX.ev_alike h]
  case convBB => simp only [rConvBB, AX.ev_alike h]
  case mkFunc => simp only [rMkFunc, AX.evs_alike h.left, AX.evs_alike h.right]
  case mkMap => rfl
  case mkIface => simp only [rMkIface, AX.ev_alike h]
  case mkSlice => simp only [rMkSlice, AX.ev_alike h.left, AX.ev_alike h.right]
  case fieldAddr => simp only [rFieldAddr, AX.ev_alike h]
  case idxAddr => simp only [rIdxAddr, AX.ev_alike h.left, AX.ev_alike h.right]
  case idxAddrArr => simp only [rIdxAddrArr, AX.ev_alike h.left, AX.ev_alike h.right]
  case field => simp only [rField, AX.ev_alike h]
  case idxStr => simp only [rIdxStr, AX.ev_alike h.left, AX.ev_alike h.right]
  case idxArr => simp only [rIdxArr, AX.ev_alike h.left, AX.ev_alike h.right]
  case extract => simp only [rExtract, AX.ev_alike h]
  case sliceStr => simp only [rSliceStr, AX.ev_alike h.left.left, AX.evo_alike h.left.right, AX.evo_alike h.right]
  case sliceSl => simp only [rSliceSl, AX.ev_alike h.left.left.left, AX.evo_alike h.left.left.right, AX.evo_alike h.left.right, AX.evo_alike h.right]
  case sliceArr => simp only [rSliceArr, AX.ev_alike h.left.left.left, AX.evo_alike h.left.left.right, AX.evo_alike h.left.right, AX.evo_alike h.right]
  case len => simp only [rLenK, AX.ev_alike h]
  case min => simp only [rMinMax, AX.evs_alike h]
  case max => simp only [rMinMax, AX.evs_alike h]
  case app => simp only [rApp, AX.ev_alike h.left, AX.ev_alike h.right]
  case copy => simp only [rCopy, AX.ev_alike h.left, AX.ev_alike h.right]
  case lookup => simp only [rLookup, AX.ev_alike h.left, AX.ev_alike h.right]
  case mapUpd => simp only [rMapUpd, AX.ev_alike h.left.left, AX.ev_alike h.left.right, AX.ev_alike h.right]
  case delete => simp only [rDelete, AX.ev_alike h.left, AX.ev_alike h.right]
  case callF => simp only [rCallF, AX.evs_alike h]
  case callV => simp only [rCallV, AX.ev_alike h.left, AX.evs_alike h.right]
  case ext => simp only [rExt, AX.evs_alike h]
  case eq => simp only [rEq, AX.ev_alike h.left, AX.ev_alike h.right]
  case cap => simp only [rCap, AX.ev_alike h]
  case assert => simp only [rAssert, AX.ev_alike h]
  case invoke => simp only [rInvoke, AX.ev_alike h.left, AX.evs_alike h.right]
  case rangeM => simp only [rRange, AX.ev_alike h]
  case nextM => simp only [rNext, AX.ev_alike h]
  case entryM => simp only [rEntry, AX.ev_alike h]
  case clearSl => simp only [rClear, AX.ev_alike h]
  case lookupP => simp only [rLookupP, AX.ev_alike h.left, AX.ev_alike h.right]
  case panicV => simp only [rPanicV, AX.ev_alike h]
  case mapUpdP => simp only [rMapUpdP, AX.ev_alike h.left.left, AX.ev_alike h.left.right, AX.ev_alike h.right]

def V.block : V → List Nat
  | .ptr i _ => [i]
  | .slice i _ _ _ _ _ => [i]
  | .map i => [i]
  | .glob g _ => [g]
  | _ => []

def AO.quiet : AO → Bool
  | .move _ | .pick _ _ _ | .build _ _ | .load1 _ | .loadN _ _ | .nilCheck _ | .bin _ _ _ | .un _ _ | .convInt _ _ | .convStr _ | .convBS _ | .mkFunc _ _ _ | .mkIface _ _
  | .fieldAddr _ _ | .idxAddr _ _ _ | .idxAddrArr _ _ _ _ | .field _ _ _ | .idxStr _ _ | .idxArr _ _ _ _ _ | .extract _ _ | .sliceStr _ _ _ | .sliceSl _ _ _ _ _ | .len _ _ | .min _ | .max _ | .lookup _ _ _ _ _ | .eq _ _ _ _ _ | .cap _ | .assert _ _ _ _ | .ext _ _ => true
  | _ => false

def AO.reads (fr : List V) : AO → List Nat
  | .load1 x | .loadN _ x | .convBS x | .len _ x | .lookup _ _ _ x _ => (x.ev fr).block
  | _ => []

def Same (R : List Nat) (S S' : St) : Prop := ∀ i ∈ R, S'.get i = S.get i

theorem AO.run_same {ok : Env} {o : AO} {fr : List V} {S S' : St} {v : V} {S1 : St} (hq : o.quiet = true) (h : Same (o.reads fr) S S') (hr : o.run ok fr S = .val v S1) : S1 = S ∧ o.run ok fr S' = .val v S' := by
  cases o <;> simp only [AO.quiet, Bool.false_eq_true] at hq <;> simp only [AO.run] at hr ⊢ <;> simp only [AO.reads] at h
  case load1 x =>
    simp only [rLoad1] at hr ⊢
    split at hr
    · rename_i i o he
      rw [he] at h
      have hg := h i (by simp [V.block])
      split at hr
      · rename_i w hw
        cases hr
        refine ⟨rfl, ?_⟩
        have : S'.load1 i o = some v := by unfold St.load1 at hw ⊢; rw [hg]; exact hw
        rw [this]
      · cases hr
    · rename_i i o he
      rw [he] at h
      have hg := h i (by simp [V.block])
      split at hr
      · rename_i w hw
        cases hr
        refine ⟨rfl, ?_⟩
        have : S'.gl1 i o = some v := by unfold St.gl1 at hw ⊢; rw [hg]; exact hw
        rw [this]
      · cases hr
    · cases hr
  case loadN n x =>
    simp only [rLoadN] at hr ⊢
    split at hr
    · rename_i i o he
      rw [he] at h
      have hg := h i (by simp [V.block])
      split at hr
      · rename_i w hw
        cases hr
        refine ⟨rfl, ?_⟩
        have : S'.loads i o n = some w := by unfold St.loads at hw ⊢; rw [hg]; exact hw
        rw [this]
      · cases hr
    · cases hr
  case convBS x =>
    simp only [rConvBS] at hr ⊢
    split at hr
    · cases hr; exact ⟨rfl, rfl⟩
    · rename_i i o l c t he
      rw [he] at h
      have hg := h i (by simp [V.block])
      split at hr
      · rename_i vs hvs
        have : S'.loads i o l = some vs := by unfold St.loads at hvs ⊢; rw [hg]; exact hvs
        rw [this]
        simp only
        split at hr
        · cases hr; exact ⟨rfl, rfl⟩
        · cases hr
      · cases hr
    · cases hr
  case len n x =>
    simp only [rLenK] at hr ⊢
    split at hr <;> first
      | (cases hr; exact ⟨rfl, rfl⟩)
      | (cases hr; done)
      | (rename_i i he
         rw [he] at h
         have hg := h i (by simp [V.block])
         rw [hg]
         split at hr
         · cases hr; exact ⟨rfl, rfl⟩
         · cases hr)
  case lookup kk z b x ix =>
    simp only [rLookup] at hr ⊢
    split at hr
    · rename_i hkf
      rw [if_pos hkf]
      split at hr
      · cases hr; exact ⟨rfl, rfl⟩
      · rename_i i he
        rw [he] at h
        have hg := h i (by simp [V.block])
        rw [hg]
        split at hr
        · split at hr
          · cases hr; refine ⟨rfl, ?_⟩; simp [*]
          · cases hr; refine ⟨rfl, ?_⟩; simp [*]
          · cases hr
        · cases hr
      · cases hr
    · cases hr
  all_goals
    simp only [rMove, rPick, rBuild, rNilCheck, rBin, rUn, rConvInt, rConvStr, rMkFunc, rMkIface, rFieldAddr, rIdxAddr, rIdxAddrArr, rField, rIdxStr, rIdxArr, rExtract, rSliceStr, rSliceSl, rMinMax, rEq, rCap, rAssert, rExt] at hr ⊢
    repeat' split at hr
    all_goals first
      | (cases hr; done)
      | (cases hr; exact ⟨rfl, rfl⟩)
      | (cases hr; refine ⟨rfl, ?_⟩; simp [*]; done)

theorem quiet_val {ok : Env} {o : AO} (hq : o.quiet = true) (fr : List V) (S : St) : (∃ v S', o.run ok fr S = .val v S') ∨ o.run ok fr S = .stuck := by
  cases o <;> simp only [AO.quiet, Bool.false_eq_true] at hq <;>
    simp only [AO.run, rMove, rPick, rBuild, rLoad1, rLoadN, rNilCheck, rBin, rUn, rConvInt, rConvStr, rConvBS, rMkFunc, rMkIface, rFieldAddr, rIdxAddr, rIdxAddrArr, rField, rIdxStr, rIdxArr, rExtract, rSliceStr, rSliceSl, rLenK, rMinMax, rLookup, rEq, rCap, rAssert, rExt] <;>
    (repeat' split) <;> first | exact .inl ⟨_, _, rfl⟩ | exact .inr rfl

def AI.of (P : Program) (ops : Array Oper) (o : Oper) : Option AI :=
  match o.guard with
  | none => obind (AO.of P o.op) fun ao => some ⟨o.dst, none, ao⟩
  | some (j, want) => obind ((ops[j]?).bind (·.dst)) fun t => obind (AO.of P o.op) fun ao => some ⟨o.dst, some (t, want), ao⟩

def AI.looks (i : AI) : List Nat := i.op.uses ++ (match i.guard with | some (t, _) => [t] | none => [])

def disj (d : Option Nat) (l : List Nat) : Bool :=
  match d with
  | some d => !l.contains d
  | none => true

def AI.apart (x y : AI) : Bool := disj x.dst y.looks && disj y.dst x.looks && (x.dst.isNone || x.dst != y.dst)

theorem getD_put {fr : List V} {d : Option Nat} {v : V} {t : Nat} (h : d ≠ some t) : (put fr d v).getD t .undef = fr.getD t .undef := by
  cases d with
  | none => rfl
  | some d =>
    have hne : d ≠ t := fun e => h (by rw [e])
    simp only [put, List.getD, List.getElem?_set_ne hne]

theorem alike_put {fr : List V} {d : Option Nat} {v : V} {l : List Nat} (h : disj d l = true) : Alike l (put fr d v) fr := by
  intro t ht
  refine getD_put ?_
  intro e
  subst e
  simp [disj] at h
  exact h ht

theorem put_comm {fr : List V} {d e : Option Nat} {v u : V} (h : d.isNone || d != e) : put (put fr d v) e u = put (put fr e u) d v := by
  cases d with
  | none => rfl
  | some d =>
    cases e with
    | none => rfl
    | some e =>
      have hne : d ≠ e := by simpa using h
      simp only [put]
      rw [List.set_comm _ _ hne]

theorem want_alike {g : Option (Nat × Bool)} {fr fr' : List V} (h : Alike (match g with | some (t, _) => [t] | none => []) fr fr') : wantI g fr = wantI g fr' := by
  cases g with
  | none => rfl
  | some p =>
    obtain ⟨t, b⟩ := p
    simp only [wantI]
    rw [h t (by simp)]

def stepD (ok : Env) (callH : FuncId → List V → St → Post → Prop) (KP : V → St → Prop) (i : AI) (K : List V → St → Prop) (fr : List V) (S : St) : Prop :=
  match wantI i.guard fr with
  | some true =>
    match i.op.run ok fr S with
    | .val v S' => K (put fr i.dst v) S'
    | .call f args => callH f args S fun res S' => match res with
      | .ret v => K (put fr i.dst v) S'
      | .panic v => KP v S'
    | .panic v => KP v S
    | .any p => ∀ v S', p v S' → K (put fr i.dst v) S'
    | .stuck => False
  | some false => K (put fr i.dst .undef) S
  | none => False

def CallMono (callH : FuncId → List V → St → Post → Prop) : Prop := ∀ f args S Q Q', (∀ r S', Q r S' → Q' r S') → callH f args S Q → callH f args S Q'

theorem stepD_mono {ok : Env} {callH : FuncId → List V → St → Post → Prop} {KP : V → St → Prop} (hc : CallMono callH) {i : AI} {K K' : List V → St → Prop} {fr : List V} {S : St} (hk : ∀ fr S, K fr S → K' fr S) (h : stepD ok callH KP i K fr S) : stepD ok callH KP i K' fr S := by
  unfold stepD at h ⊢
  split at h
  · split at h
    · exact hk _ _ h
    · refine hc _ _ _ _ _ ?_ h
      intro r S' hr
      cases r with
      | ret v => exact hk _ _ hr
      | panic v => exact hr
    · exact h
    · intro v S' hp; exact hk _ _ (h v S' hp)
    · exact h
  · exact hk _ _ h
  · exact h

def depB (ops : Array Oper) (j i : Nat) : Bool :=
  match ops[j]? with
  | some oj => oj.after.any fun e => Region.binds .any e && e.on == i
  | none => false

def reachB (ops : Array Oper) : Nat → Nat → Nat → Bool
  | 0, j, i => depB ops j i
  | f + 1, j, i => depB ops j i || (List.range ops.size).any fun m => depB ops j m && reachB ops f m i
theorem depB_reach {ops : Array Oper} {j i : Nat} (h : depB ops j i = true) : ∀ f, reachB ops f j i = true
  | 0 => h
  | f + 1 => by simp [reachB, h]
def ClosedL (ops : Array Oper) (listed : Array Bool) : Prop := ∀ m, listed.getD m false = true → ∀ i, depB ops m i = true → listed.getD i false = true
theorem reach_listed {ops : Array Oper} {listed : Array Bool} (hcl : ClosedL ops listed) {i : Nat} : ∀ (f m : Nat), (∀ i, depB ops m i = true → listed.getD i false = true) → reachB ops f m i = true → listed.getD i false = true
  | 0, m, hm, h => hm i h
  | f + 1, m, hm, h => by
    simp only [reachB, Bool.or_eq_true, List.any_eq_true, Bool.and_eq_true] at h
    rcases h with h | ⟨m', _, h1, h2⟩
    · exact hm i h
    · exact reach_listed hcl f m' (fun k hk => hcl m' (hm m' h1) k hk) h2
theorem ready_deps {ops : Array Oper} {listed : Array Bool} {j : Nat} (hj : j ∈ Region.ready .any ops listed) : ∀ i, depB ops j i = true → listed.getD i false = true := by
  obtain ⟨_, o, ho, hall⟩ := mem_ready.1 hj
  intro i h
  unfold depB at h
  rw [ho] at h
  simp only at h
  rw [Array.any_eq_true] at h
  obtain ⟨k, hk, h1⟩ := h
  simp only [Bool.and_eq_true, beq_iff_eq] at h1
  have := hall _ (Array.getElem_mem hk) h1.1
  rwa [h1.2] at this
theorem closed_set {ops : Array Oper} {listed : Array Bool} (hcl : ClosedL ops listed) {j : Nat} (hj : j ∈ Region.ready .any ops listed) : ClosedL ops (listed.setIfInBounds j true) := by
  intro m hm i hi
  refine getD_set_true ?_
  by_cases e : m = j
  · subst e; exact ready_deps hj i hi
  · rw [getD_set_ne false (Ne.symm e)] at hm
    exact hcl m hm i hi
theorem closed_none (ops : Array Oper) (n : Nat) : ClosedL ops (Array.replicate n false) := by
  intro m hm
  rw [Array.getD_eq_getD_getElem?] at hm
  rcases Nat.lt_or_ge m n with h | h
  · simp [h] at hm
  · simp [Nat.not_lt.2 h] at hm

def anyA (P : Program) (ok : Env) (callH : FuncId → List V → St → Post → Prop) (KP : V → St → Prop) (ops : Array Oper) (Q : List V → St → Prop) (C : Nat → St → St → Prop) : Nat → Array Bool → List V → St → Prop
  | 0, listed, fr, S => Region.ready .any ops listed = [] ∧ Q fr S
  | n + 1, listed, fr, S => (Region.ready .any ops listed = [] → Q fr S) ∧
    ∀ i ∈ Region.ready .any ops listed, ∃ o ai, ops[i]? = some o ∧ AI.of P ops o = some ai ∧ stepD ok callH KP ai (fun fr' S' => C i S S' ∧ anyA P ok callH KP ops Q C n (listed.setIfInBounds i true) fr' S') fr S

section
variable {P : Program} {ok : Env} {callH : FuncId → List V → St → Post → Prop} {KP : V → St → Prop} (hc : CallMono callH) {ops : Array Oper} {Q : List V → St → Prop}
include hc

theorem anyA_mono {C C' : Nat → St → St → Prop} (h : ∀ j S S', C j S S' → C' j S S') : ∀ (n : Nat) (listed : Array Bool) (fr : List V) (S : St), anyA P ok callH KP ops Q C n listed fr S → anyA P ok callH KP ops Q C' n listed fr S
  | 0, _, _, _, hh => hh
  | n + 1, listed, fr, S, hh => ⟨hh.1, fun i hi => by
      obtain ⟨o, ai, h1, h2, h3⟩ := hh.2 i hi
      exact ⟨o, ai, h1, h2, stepD_mono hc (fun fr S' h' => ⟨h i S S' h'.1, anyA_mono h n _ fr S' h'.2⟩) h3⟩⟩

def YieldsA (ok : Env) (R : List Nat) (i : AI) (v : V) (fr : List V) (S : St) : Prop :=
  (wantI i.guard fr = some true ∧ ∀ S2, Same R S S2 → i.op.run ok fr S2 = .val v S2) ∨ (wantI i.guard fr = some false ∧ v = .undef)

omit hc in
theorem YieldsA.step {R : List Nat} {i : AI} {v : V} {fr : List V} {S : St} (hy : YieldsA ok R i v fr S) {K : List V → St → Prop} (h : K (put fr i.dst v) S) : stepD ok callH KP i K fr S := by
  unfold stepD
  rcases hy with ⟨h1, h2⟩ | ⟨h1, rfl⟩
  · rw [h1]; simp only; rw [h2 S (fun _ _ => rfl)]; exact h
  · rw [h1]; exact h

omit hc in
theorem YieldsA.alike {R : List Nat} {i : AI} {v : V} {fr fr' : List V} {S : St} (hy : YieldsA ok R i v fr S) (h : Alike i.looks fr' fr) : YieldsA ok R i v fr' S := by
  unfold YieldsA at *
  rw [want_alike h.right]
  rcases hy with ⟨h1, h2⟩ | h1
  · exact .inl ⟨h1, fun S hS => by rw [AO.run_alike h.left]; exact h2 S hS⟩
  · exact .inr h1

omit hc in
theorem YieldsA.next {R : List Nat} {i : AI} {v : V} {fr : List V} {S S' : St} (hy : YieldsA ok R i v fr S) (h : Same R S S') : YieldsA ok R i v fr S' := by
  rcases hy with ⟨h1, h2⟩ | h1
  · exact .inl ⟨h1, fun S2 hS => h2 S2 fun q hq => (hS q hq).trans (h q hq)⟩
  · exact .inr h1

theorem stepD_put {R : List Nat} {i j : AI} {v : V} (hap : i.apart j = true) {K : List V → St → Prop} {fr : List V} {S : St} (hy : YieldsA ok R i v fr S) (h : stepD ok callH KP j K (put fr i.dst v) S) :
    stepD ok callH KP j (fun fr' S' => YieldsA ok R i v fr' S ∧ K (put fr' i.dst v) S') fr S := by
  simp only [AI.apart, Bool.and_eq_true] at hap
  obtain ⟨⟨h1, h2⟩, h3⟩ := hap
  have hal : Alike j.looks (put fr i.dst v) fr := alike_put h1
  have keep : ∀ u, YieldsA ok R i v (put fr j.dst u) S := fun u => hy.alike (alike_put h2)
  have hcm : ∀ u, put (put fr i.dst v) j.dst u = put (put fr j.dst u) i.dst v := fun u => put_comm h3
  unfold stepD at h ⊢
  rw [want_alike hal.right] at h
  split at h
  · rw [AO.run_alike hal.left] at h
    split at h
    · refine ⟨keep _, ?_⟩
      rw [← hcm]; exact h
    · refine hc _ _ _ _ _ ?_ h
      intro r S' hr
      cases r with
      | ret u => exact ⟨keep _, by rw [← hcm]; exact hr⟩
      | panic u => exact hr
    · exact h
    · intro u S' hp; exact ⟨keep _, by rw [← hcm]; exact h u S' hp⟩
    · exact h
  · refine ⟨keep _, ?_⟩
    rw [← hcm]; exact h
  · exact h

theorem anyA_first {C : Nat → St → St → Prop} {R : List Nat} {i : Nat} {oi : Oper} {ai : AI} {v : V} (hi : ops[i]? = some oi) (hai : AI.of P ops oi = some ai) (hself : ∀ S, C i S S)
    (hkeep : ∀ j oj, ops[j]? = some oj → reachB ops 3 j i = false → j ≠ i → ∀ S S', C j S S' → Same R S S') : ∀ (n : Nat) (listed : Array Bool) (fr : List V) (S : St), ClosedL ops listed →
    (∀ j oj aj, ops[j]? = some oj → AI.of P ops oj = some aj → j ≠ i → listed.getD j true = false → (∀ e ∈ oj.after, Region.binds .any e = true → e.on ≠ i) → ai.apart aj = true) →
    i ∈ Region.ready .any ops listed → YieldsA ok R ai v fr S → anyA P ok callH KP ops Q C n (listed.setIfInBounds i true) (put fr ai.dst v) S → anyA P ok callH KP ops Q C (n + 1) listed fr S := by
  intro n
  induction n with
  | zero =>
    intro listed fr S _ _ hr hy H
    refine ⟨fun h => (by rw [h] at hr; cases hr), fun j hj => ?_⟩
    by_cases hji : j = i
    · subst hji; exact ⟨oi, ai, hi, hai, hy.step ⟨hself S, H⟩⟩
    · have := ready_mono hj hji
      rw [H.1] at this
      cases this
  | succ n ih =>
    intro listed fr S hcl hfree hr hy H
    refine ⟨fun h => (by rw [h] at hr; cases hr), fun j hj => ?_⟩
    by_cases hji : j = i
    · subst hji; exact ⟨oi, ai, hi, hai, hy.step ⟨hself S, H⟩⟩
    · obtain ⟨oj, aj, hoj, haj, h1⟩ := H.2 j (ready_mono hj hji)
      obtain ⟨hjun, oj', hoj', hall⟩ := mem_ready.1 hj
      rw [hoj] at hoj'; cases hoj'
      have hnot : ∀ e ∈ oj.after, Region.binds .any e = true → e.on ≠ i := fun e he hb heq => by
        have h1 := hall e he hb
        have h0 := (mem_ready.1 hr).1
        rw [heq] at h1
        rcases Nat.lt_or_ge i listed.size with h' | h'
        · simp [h'] at h0 h1; rw [h0] at h1; cases h1
        · simp [Array.getElem?_eq_none h'] at h1
      have hnr : reachB ops 3 j i = false := by
        cases hx : reachB ops 3 j i with
        | false => rfl
        | true =>
          have h1 := reach_listed hcl 3 j (ready_deps hj) hx
          have h0 := (mem_ready.1 hr).1
          rcases Nat.lt_or_ge i listed.size with h' | h'
          · simp [h'] at h0 h1; rw [h0] at h1; cases h1
          · simp [Array.getElem?_eq_none h'] at h1
      have h2 := stepD_put hc (hfree j oj aj hoj haj hji hjun hnot) hy h1
      have hfree' : ∀ k ok_ ak, ops[k]? = some ok_ → AI.of P ops ok_ = some ak → k ≠ i → (listed.setIfInBounds j true).getD k true = false →
          (∀ e ∈ ok_.after, Region.binds .any e = true → e.on ≠ i) → ai.apart ak = true := fun k ok_ ak hk hak hki hun hno => by
        refine hfree k ok_ ak hk hak hki ?_ hno
        by_cases hjk : j = k
        · subst hjk; exact hjun
        · rw [getD_set_ne true hjk] at hun; exact hun
      refine ⟨oj, aj, hoj, haj, stepD_mono hc (fun fr' S' h3 => ⟨h3.2.1, ih (listed.setIfInBounds j true) fr' S' (closed_set hcl hj) hfree' (ready_mono hr (Ne.symm hji)) (h3.1.next (hkeep j oj hoj hnr hji S S' h3.2.1)) ?_⟩) h2⟩
      rw [Array.setIfInBounds_comm _ _ hji]
      exact h3.2.2
end

def freeA (P : Program) (ops : Array Oper) (listed : Array Bool) (i : Nat) (ai : AI) : Bool :=
  (List.range ops.size).all fun j => j == i || listed.getD j true || match ops[j]? with
    | some oj => oj.after.any (fun e => Region.binds .any e && e.on == i) || (match AI.of P ops oj with
      | some aj => ai.apart aj
      | none => false)
    | none => true

def pickQ (P : Program) (ops : Array Oper) (listed : Array Bool) : List Nat → Option (Nat × AI)
  | [] => none
  | i :: is => match obind (ops[i]?) (AI.of P ops) with
    | some ai => if ai.op.quiet && freeA P ops listed i ai then some (i, ai) else pickQ P ops listed is
    | none => pickQ P ops listed is

inductive OT where
  | done
  | step (n : Nat) (ds : List Nat) (i : AI) (t : OT)
  | both (t u : OT)

def allO (g : Nat → Option OT) : List Nat → Option OT
  | [] => none
  | [k] => g k
  | k :: ks => obind (g k) fun t => obind (allO g ks) fun u => some (.both t u)

def AO.reader : AO → Bool
  | .load1 _ | .loadN _ _ | .convBS _ | .len _ _ | .lookup _ _ _ _ _ => true
  | _ => false
def readerB (P : Program) (ops : Array Oper) (i : Nat) : Bool :=
  match obind (ops[i]?) (AI.of P ops) with
  | some ai => ai.op.reader
  | none => false
def appB (P : Program) (ops : Array Oper) (i : Nat) : Bool :=
  match obind (ops[i]?) (AI.of P ops) with
  | some ai => match ai.op with
    | .app _ _ _ _ => true
    | _ => false
  | none => false
def depsOf (P : Program) (ops : Array Oper) (j : Nat) : List Nat := (List.range ops.size).filter fun i => readerB P ops i && (depB ops j i || (appB P ops j && reachB ops 3 j i))

def canon (P : Program) (ops : Array Oper) : Nat → Array Bool → Option OT
  | 0, listed => if (Region.ready .any ops listed).isEmpty then some .done else none
  | n + 1, listed =>
    match Region.ready .any ops listed with
    | [] => some .done
    | i :: is =>
      match pickQ P ops listed (i :: is) with
      | some (j, aj) => obind (canon P ops n (listed.setIfInBounds j true)) fun t => some (.step j [] aj t)
      | none => allO (fun k => obind (obind (ops[k]?) (AI.of P ops)) fun ak => obind (canon P ops n (listed.setIfInBounds k true)) fun t => some (.step k (depsOf P ops k) ak t)) (i :: is)

def memN : List Nat → Nat → Bool
  | [], _ => false
  | x :: xs, n => match Nat.beq x n with
    | true => true
    | false => memN xs n

abbrev RD := List (Nat × List Nat)
def outD (ds : List Nat) : RD → List Nat
  | [] => []
  | p :: R => match memN ds p.1 with
    | true => outD ds R
    | false => p.2 ++ outD ds R

theorem memN_mem : ∀ {l : List Nat} {n : Nat}, memN l n = true → n ∈ l
  | x :: xs, n, h => by
    simp only [memN] at h
    split at h
    · rename_i hb; rw [Nat.eq_of_beq_eq_true hb]; exact List.mem_cons_self
    · exact List.mem_cons_of_mem _ (memN_mem h)

theorem outD_same {ds : List Nat} {S S' : St} : ∀ {R : RD}, Same (outD ds R) S S' → ∀ p ∈ R, memN ds p.1 = true ∨ Same p.2 S S'
  | p :: R, h, q, hq => by
    simp only [outD] at h
    cases hm : memN ds p.1 with
    | true =>
      rw [hm] at h
      rcases List.mem_cons.mp hq with rfl | hq
      · exact .inl hm
      · exact outD_same h q hq
    | false =>
      rw [hm] at h
      rcases List.mem_cons.mp hq with rfl | hq
      · exact .inr fun i hi => h i (List.mem_append_left _ hi)
      · exact outD_same (fun i hi => h i (List.mem_append_right _ hi)) q hq

def runD (ok : Env) (callH : FuncId → List V → St → Post → Prop) (KP : V → St → Prop) (Q : List V → St → Prop) : OT → RD → List V → St → Prop
  | .done, _, fr, S => Q fr S
  | .step n ds i r, R, fr, S =>
    match wantI i.guard fr with
    | some true =>
      match i.op.run ok fr S with
      | .val v S' => if i.op.quiet then runD ok callH KP Q r ((n, i.op.reads fr) :: R) (put fr i.dst v) S' else Same (outD ds R) S S' ∧ runD ok callH KP Q r R (put fr i.dst v) S'
      | .call f args => callH f args S fun res S' => match res with
        | .ret v => Same (outD ds R) S S' ∧ runD ok callH KP Q r R (put fr i.dst v) S'
        | .panic v => KP v S'
      | .panic v => KP v S
      | .any p => ∀ v S', p v S' → Same (outD ds R) S S' ∧ runD ok callH KP Q r R (put fr i.dst v) S'
      | .stuck => False
    | some false => runD ok callH KP Q r R (put fr i.dst .undef) S
    | none => False
  | .both t u, R, fr, S => runD ok callH KP Q t R fr S ∧ runD ok callH KP Q u R fr S

theorem allO_mem {ok : Env} {callH : FuncId → List V → St → Post → Prop} {KP : V → St → Prop} {Q : List V → St → Prop} {g : Nat → Option OT} {R : RD} {fr : List V} {S : St} : ∀ {l : List Nat} {t : OT}, allO g l = some t → runD ok callH KP Q t R fr S → ∀ k ∈ l, ∃ u, g k = some u ∧ runD ok callH KP Q u R fr S
  | [], t, h, hr, k, hk => by cases hk
  | [j], t, h, hr, k, hk => by
    have : k = j := by simpa using hk
    subst this
    exact ⟨t, h, hr⟩
  | j :: j2 :: ks, t, h, hr, k, hk => by
    simp only [allO] at h
    obtain ⟨t1, h1, h⟩ := obind_some h
    obtain ⟨u, h2, h⟩ := obind_some h
    cases h
    rcases List.mem_cons.mp hk with rfl | hk
    · exact ⟨t1, h1, hr.1⟩
    · exact allO_mem (l := j2 :: ks) h2 hr.2 k hk

theorem pickQ_some {P : Program} {ops : Array Oper} {listed : Array Bool} : ∀ {l : List Nat} {j : Nat} {aj : AI}, pickQ P ops listed l = some (j, aj) → j ∈ l ∧ ∃ oj, ops[j]? = some oj ∧ AI.of P ops oj = some aj ∧ aj.op.quiet = true ∧ freeA P ops listed j aj = true
  | [], _, _, h => by cases h
  | i :: is, j, aj, h => by
    simp only [pickQ] at h
    split at h
    · rename_i ai hai
      split at h
      · rename_i hq
        cases h
        obtain ⟨o, h1, h2⟩ := obind_some hai
        simp only [Bool.and_eq_true] at hq
        exact ⟨List.mem_cons_self, o, h1, h2, hq.1, hq.2⟩
      · obtain ⟨h1, h2⟩ := pickQ_some h
        exact ⟨List.mem_cons_of_mem _ h1, h2⟩
    · obtain ⟨h1, h2⟩ := pickQ_some h
      exact ⟨List.mem_cons_of_mem _ h1, h2⟩

theorem freeA_spec {P : Program} {ops : Array Oper} {listed : Array Bool} {i : Nat} {ai : AI} (h : freeA P ops listed i ai = true) (j : Nat) (oj : Oper) (aj : AI) (hj : ops[j]? = some oj) (haj : AI.of P ops oj = some aj) (hne : j ≠ i)
    (hun : listed.getD j true = false) (hno : ∀ e ∈ oj.after, Region.binds .any e = true → e.on ≠ i) : ai.apart aj = true := by
  simp only [freeA, List.all_eq_true, List.mem_range] at h
  have hjl : j < ops.size := (Array.getElem?_eq_some_iff.1 hj).1
  have := h j hjl
  rw [hj] at this
  simp only [haj, hun, Bool.or_false, Bool.or_eq_true, beq_iff_eq, hne, false_or] at this
  rcases this with h1 | h1
  · rw [Array.any_eq_true] at h1
    obtain ⟨k, hk, h1⟩ := h1
    simp only [Bool.and_eq_true, beq_iff_eq] at h1
    exact absurd h1.2 (hno _ (Array.getElem_mem hk) h1.1)
  · exact h1

def CR (ops : Array Oper) (R : RD) (j : Nat) (S S' : St) : Prop := ∀ p ∈ R, reachB ops 3 j p.1 = true ∨ Same p.2 S S'

theorem CR.refl {ops : Array Oper} {R : RD} {j : Nat} (S : St) : CR ops R j S S := fun _ _ => .inr fun _ _ => rfl

theorem canon_ok {P : Program} {ok : Env} {callH : FuncId → List V → St → Post → Prop} {KP : V → St → Prop} (hc : CallMono callH) {ops : Array Oper} {Q : List V → St → Prop} : ∀ (n : Nat) (listed : Array Bool) (t : OT), canon P ops n listed = some t → ClosedL ops listed →
    ∀ (R : RD) (fr : List V) (S : St), runD ok callH KP Q t R fr S → anyA P ok callH KP ops Q (CR ops R) n listed fr S
  | 0, listed, l, h, _, R, fr, S, hr => by
    simp only [canon] at h
    split at h
    · rename_i he
      cases h
      exact ⟨List.isEmpty_iff.mp he, hr⟩
    · cases h
  | n + 1, listed, l, h, hcl, R, fr, S, hr => by
    simp only [canon] at h
    split at h
    · rename_i hrd
      cases h
      exact ⟨fun _ => hr, by rw [hrd]; simp⟩
    · rename_i i is hrd
      split at h
      · rename_i j aj hp
        obtain ⟨l', hl', h⟩ := obind_some h
        cases h
        obtain ⟨hmem, oj, hoj, haj, hq, hfree⟩ := pickQ_some hp
        have hready : j ∈ Region.ready .any ops listed := by rw [hrd]; exact hmem
        have ih := canon_ok (ok := ok) (KP := KP) (Q := Q) hc n _ l' hl' (closed_set hcl hready)
        simp only [runD] at hr
        split at hr
        · rename_i hw
          split at hr
          · rename_i v S' hv
            rw [if_pos hq] at hr
            have hS1 := (AO.run_same hq (S' := S) (fun _ _ => rfl) hv).1
            subst hS1
            have h1 := ih ((j, aj.op.reads fr) :: R) _ _ hr
            refine anyA_mono hc (C := CR ops ((j, aj.op.reads fr) :: R)) (fun k S1 S2 h2 p hp => h2 p (List.mem_cons_of_mem _ hp)) _ _ _ _ ?_
            refine anyA_first hc (R := aj.op.reads fr) hoj haj (fun S => CR.refl S) (fun k ok_ hk hno _ S1 S2 hC => ?_) n listed fr S' hcl (fun k ok_ ak a b c d e => freeA_spec hfree k ok_ ak a b c d e) hready (.inl ⟨hw, fun S2 h2 => ?_⟩) h1
            · rcases hC _ List.mem_cons_self with h2 | h2
              · rw [hno] at h2; cases h2
              · exact h2
            · exact (AO.run_same hq h2 hv).2
          · rename_i f args hv
            exact absurd hv (by
              revert hq
              cases hop : aj.op <;> simp [AO.quiet] <;> intro hx <;>
              simp only [AO.run, rMove, rPick, rBuild, rLoad1, rLoadN, rNilCheck, rBin, rUn, rConvInt, rConvStr, rConvBS, rMkFunc, rMkIface, rFieldAddr, rIdxAddr, rIdxAddrArr, rField, rIdxStr, rIdxArr, rExtract, rSliceStr, rSliceSl, rLenK, rMinMax, rLookup, rEq, rCap, rAssert, rExt] at hx <;>
              (repeat' split at hx) <;> cases hx)
          · rename_i p hv
            rcases quiet_val (ok := ok) hq fr S with ⟨v, S', e⟩ | e <;> rw [e] at hv <;> cases hv
          · rename_i p hv
            rcases quiet_val (ok := ok) hq fr S with ⟨v, S', e⟩ | e <;> rw [e] at hv <;> cases hv
          · exact hr.elim
        · rename_i hw
          have h1 := ih R _ _ hr
          exact anyA_first hc (R := []) hoj haj (fun S => CR.refl S) (fun _ _ _ _ _ _ _ _ => fun _ hq => by cases hq) n listed fr S hcl (fun k ok_ ak a b c d e => freeA_spec hfree k ok_ ak a b c d e) hready (.inr ⟨hw, rfl⟩) h1
        · exact hr.elim
      · refine ⟨fun h0 => (by rw [hrd] at h0; cases h0), ?_⟩
        rw [hrd]
        intro k hk
        obtain ⟨u, hu, hr2⟩ := allO_mem h hr k hk
        clear hr
        have hr := hr2
        clear hr2
        obtain ⟨ai, hai, hu⟩ := obind_some hu
        obtain ⟨oi, hoi, hai2⟩ := obind_some hai
        obtain ⟨l', hl', hu⟩ := obind_some hu
        cases hu
        have ih := canon_ok (ok := ok) (KP := KP) (Q := Q) hc n _ l' hl' (closed_set hcl (by rw [hrd]; exact hk))
        refine ⟨oi, ai, hoi, hai2, ?_⟩
        simp only [runD] at hr
        unfold stepD
        have nxt : ∀ (fr' : List V) (S' : St), Same (outD (depsOf P ops k) R) S S' → runD ok callH KP Q l' R fr' S' → CR ops R k S S' ∧ anyA P ok callH KP ops Q (CR ops R) n (listed.setIfInBounds k true) fr' S' := by
          intro fr' S' hs hrun
          refine ⟨fun p hp => ?_, ih R fr' S' hrun⟩
          rcases outD_same hs p hp with h1 | h1
          · have := memN_mem h1
            simp only [depsOf, List.mem_filter, Bool.and_eq_true, Bool.or_eq_true] at this
            rcases this.2.2 with h2 | h2
            · exact .inl (depB_reach h2 3)
            · exact .inl h2.2
          · exact .inr h1
        split at hr
        · rename_i hw
          split at hr
          · rename_i v S' hv
            by_cases hq : ai.op.quiet = true
            · rw [if_pos hq] at hr
              have hS1 := (AO.run_same hq (S' := S) (fun _ _ => rfl) hv).1
              subst hS1
              refine ⟨CR.refl _, ?_⟩
              exact anyA_mono hc (fun k S1 S2 h2 p hp => h2 p (List.mem_cons_of_mem _ hp)) _ _ _ _ (ih ((k, ai.op.reads fr) :: R) _ _ hr)
            · rw [if_neg hq] at hr
              exact nxt _ _ hr.1 hr.2
          · refine hc _ _ _ _ _ ?_ hr
            intro r S' hres
            cases r with
            | ret v => exact nxt _ _ hres.1 hres.2
            | panic v => exact hres
          · exact hr
          · intro v S' hp; exact nxt _ _ (hr v S' hp).1 (hr v S' hp).2
          · exact hr
        · exact nxt _ _ (fun _ _ => rfl) hr
        · exact hr.elim

end Go.Th
end
