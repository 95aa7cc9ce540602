/- What the row of one statement stands on: a store, abstract code, functions of the program and their laws (ThK). -/
import Derived.Test.YtdpehfhhbmmhjaaThBTopkOrder13

section
/- Reasoning over the store: the rules by which code is stepped through. -/
set_option linter.unusedSimpArgs false
set_option linter.unusedVariables false
namespace Go.Th
open Go.RowKit Go.Lib

/-! ## words that are looked into only where they are decided
A continuation on which a later argument's type hangs is one that 'simp' leaves as it is. -/
structure Tag {α : Sort _} (k : α) : Type where

def ifSome {α : Type} (o : Option α) (k : α → Prop) (_t : Tag k) : Prop :=
  match o with
  | some a => k a
  | none => False

def ifB (b : Bool) (x y : Prop) (_t : Tag x) (_u : Tag y) : Prop :=
  match b with
  | true => x
  | false => y

/-- A value that is a bool. -/
def ifV (v : V) (k : Bool → Prop) (_t : Tag k) : Prop :=
  match v with
  | .bool b => k b
  | _ => False

/-- A guard: a bool, or what was not done. -/
def ifG (v : V) (w : Bool) (x y : Prop) (_t : Tag x) (_u : Tag y) : Prop :=
  match v with
  | .bool b => match b == w with
    | true => x
    | false => y
  | .tuple [] => y
  | _ => False
@[go_sem] theorem ifG_bool (b w : Bool) (x y : Prop) (t : Tag x) (u : Tag y) : ifG (.bool b) w x y t u = ifB (b == w) x y ⟨⟩ ⟨⟩ := by
  simp only [ifG, ifB]
@[go_sem] theorem ifG_undef (w : Bool) (x y : Prop) (t : Tag x) (u : Tag y) : ifG (.tuple []) w x y t u = y := (rfl)
@[go_sem] theorem ifG_undef' (w : Bool) (x y : Prop) (t : Tag x) (u : Tag y) : ifG .undef w x y t u = y := (rfl)
@[go_sem] theorem ifG_tt (x y : Prop) (t : Tag x) (u : Tag y) : ifG (.bool true) true x y t u = x := (rfl)
@[go_sem] theorem ifG_ff (x y : Prop) (t : Tag x) (u : Tag y) : ifG (.bool false) false x y t u = x := (rfl)
@[go_sem] theorem ifG_tf (x y : Prop) (t : Tag x) (u : Tag y) : ifG (.bool true) false x y t u = y := (rfl)
@[go_sem] theorem ifG_ft (x y : Prop) (t : Tag x) (u : Tag y) : ifG (.bool false) true x y t u = y := (rfl)

/-- A value that is worked out ahead of what follows. -/
def letV (v : V) (k : V → Prop) (_t : Tag k) : Prop := k v
@[go_sem] theorem letV_eq (v : V) (k : V → Prop) (t : Tag k) : letV v k t = k v := (rfl)

@[go_sem] theorem ifSome_some {α : Type} (a : α) (k : α → Prop) (t : Tag k) : ifSome (some a) k t = k a := (rfl)
@[go_sem] theorem ifSome_none {α : Type} (k : α → Prop) (t : Tag k) : ifSome none k t = False := (rfl)
@[go_sem] theorem ifB_true (x y : Prop) (t : Tag x) (u : Tag y) : ifB true x y t u = x := (rfl)
@[go_sem] theorem ifB_false (x y : Prop) (t : Tag x) (u : Tag y) : ifB false x y t u = y := (rfl)
@[go_sem] theorem ifV_bool (b : Bool) (k : Bool → Prop) (t : Tag k) : ifV (.bool b) k t = k b := (rfl)

theorem ifB_split {b : Bool} {x y : Prop} {t : Tag x} {u : Tag y} (h1 : b = true → x) (h2 : b = false → y) : ifB b x y t u := by
  cases b
  · exact h2 rfl
  · exact h1 rfl
theorem ifSome_mk {α : Type} {o : Option α} {k : α → Prop} {t : Tag k} {a : α} (h : o = some a) (hk : k a) : ifSome o k t := by rw [h]; exact hk

/-- What stands in a slot. -/
def G (fr : List V) (i : Nat) : V := fr.getD i .undef

@[go_sem] theorem G_cons0 (a : V) (l : List V) : G (a :: l) 0 = a := (rfl)
@[go_sem] theorem G_consS (a : V) (l : List V) (n : Nat) : G (a :: l) (n + 1) = G l n := (rfl)
@[go_sem] theorem frame_set0 (a b : V) (l : List V) : (a :: l).set 0 b = b :: l := (rfl)
@[go_sem] theorem frame_setS (a b : V) (l : List V) (n : Nat) : (a :: l).set (n + 1) b = a :: l.set n b := (rfl)
theorem G_set (fr : List V) (i j : Nat) (v : V) : G (fr.set i v) j = if i = j then (if i < fr.length then v else G fr j) else G fr j := by
  unfold G
  by_cases h : i = j
  · subst h
    rw [if_pos rfl]
    by_cases hl : i < fr.length
    · rw [if_pos hl]; simp [List.getD, List.getElem?_set_self hl]
    · rw [if_neg hl, List.set_eq_of_length_le (by omega)]
  · rw [if_neg h]; simp [List.getD, List.getElem?_set_ne h]
@[go_sem] theorem G_set_eq (fr : List V) (i : Nat) (v : V) (h : i < fr.length) : G (fr.set i v) i = v := by rw [G_set, if_pos rfl, if_pos h]
@[go_sem] theorem G_set_ne (fr : List V) (i j : Nat) (v : V) (h : (i == j) = false) : G (fr.set i v) j = G fr j := by rw [G_set, if_neg (by simpa using h)]
attribute [go_sem] Nat.reduceBEq List.getElem?_cons_zero List.getElem?_cons_succ
attribute [go_sem] List.length_set List.length_cons List.length_nil List.length_append List.length_replicate List.cons_append List.nil_append List.replicate_zero List.replicate_succ
  Nat.reduceAdd Nat.reduceSub Nat.reduceLT Nat.reduceLeDiff Nat.reduceEqDiff Nat.reduceMul Nat.zero_add List.map_cons List.map_nil if_true if_false reduceIte
@[go_sem] theorem ev_tmp (fr : List V) (i : Nat) : (AX.tmp i).ev fr = G fr i := (rfl)
@[go_sem] theorem ev_con (fr : List V) (v : V) : (AX.con v).ev fr = v := (rfl)
@[go_sem] theorem ev_fn (fr : List V) (f : Nat) : (AX.fn f).ev fr = .func (.func f) [] [] := (rfl)
@[go_sem] theorem put_some (fr : List V) (d : Nat) (v : V) : put fr (some d) v = fr.set d v := (rfl)
@[go_sem] theorem put_none (fr : List V) (v : V) : put fr none v = fr := (rfl)

/-! ## code -/
section code
variable (ok : Env) (callH : FuncId → List V → St → Post → Prop) (loopH : AC → PostC → List V → St → Prop) (Q : PostC) (fr : List V) (S : St)
@[go_sem ↓] theorem wpA_skip : wpA ok callH loopH .skip Q fr S = Q .normal fr S := (rfl)
@[go_sem ↓] theorem wpA_region (l) : wpA ok callH loopH (.region l) Q fr S = runIs ok callH Q l fr S := (rfl)
theorem wpA_draw (l) : wpA ok callH loopH (.draw l) Q fr S = runD ok callH (Q .normal) l [] fr S := rfl
/-- What stands behind a piece. -/
def thenQ (ok : Env) (callH : FuncId → List V → St → Post → Prop) (loopH : AC → PostC → List V → St → Prop) (b : AC) (Q : PostC) (_t : Tag b) (_u : Tag Q) : PostC := fun e fr S => match e with | .normal => wpA ok callH loopH b Q fr S | e => Q e fr S
def blockQ (id : Nat) (Q : PostC) (_t : Tag Q) : PostC := fun e fr S => match e with | .exit j => if j = id then Q .normal fr S else Q (.exit j) fr S | e => Q e fr S
@[go_sem ↓] theorem wpA_seq (a b) : wpA ok callH loopH (.seq a b) Q fr S = wpA ok callH loopH a (thenQ ok callH loopH b Q ⟨⟩ ⟨⟩) fr S := (rfl)
@[go_sem ↓] theorem wpA_block (id a) : wpA ok callH loopH (.block id a) Q fr S = wpA ok callH loopH a (blockQ id Q ⟨⟩) fr S := (rfl)
@[go_sem ↓] theorem wpA_loop (a) : wpA ok callH loopH (.loop a) Q fr S = loopH a Q fr S := (rfl)
@[go_sem ↓] theorem wpA_exit (id) : wpA ok callH loopH (.exit id) Q fr S = Q (.exit id) fr S := (rfl)
@[go_sem ↓] theorem wpA_ret : wpA ok callH loopH .ret Q fr S = Q .ret fr S := (rfl)
@[go_sem ↓] theorem wpA_cond (x a b) : wpA ok callH loopH (.cond x a b) Q fr S = ifV (x.ev fr) (fun c => ifB c (wpA ok callH loopH a Q fr S) (wpA ok callH loopH b Q fr S) ⟨⟩ ⟨⟩) ⟨⟩ := by
  simp only [wpA]
  cases x.ev fr <;> simp only [ifV]
  rename_i c
  cases c <;> rfl
@[go_sem] theorem thenQ_normal (b) (t u) : thenQ ok callH loopH b Q t u .normal fr S = wpA ok callH loopH b Q fr S := (rfl)
@[go_sem] theorem thenQ_exit (b j) (t u) : thenQ ok callH loopH b Q t u (.exit j) fr S = Q (.exit j) fr S := (rfl)
@[go_sem] theorem thenQ_ret (b) (t u) : thenQ ok callH loopH b Q t u .ret fr S = Q .ret fr S := (rfl)
@[go_sem] theorem thenQ_panic (b v) (t u) : thenQ ok callH loopH b Q t u (.panic v) fr S = Q (.panic v) fr S := (rfl)
@[go_sem] theorem blockQ_normal (id) (t) : blockQ id Q t .normal fr S = Q .normal fr S := (rfl)
@[go_sem] theorem blockQ_exit_same (id) (t) : blockQ id Q t (.exit id) fr S = Q .normal fr S := by simp [blockQ]
theorem blockQ_exit_other {id j : Nat} (h : j ≠ id) (t) : blockQ id Q t (.exit j) fr S = Q (.exit j) fr S := by simp [blockQ, h]
@[go_sem] theorem blockQ_exit (id j) (t) : blockQ id Q t (.exit j) fr S = if j = id then Q .normal fr S else Q (.exit j) fr S := (rfl)
@[go_sem] theorem blockQ_ret (id) (t) : blockQ id Q t .ret fr S = Q .ret fr S := (rfl)
@[go_sem] theorem blockQ_panic (id v) (t) : blockQ id Q t (.panic v) fr S = Q (.panic v) fr S := (rfl)
end code

@[go_sem] theorem endQ_normal (rs : List ARes) (Q : Post) (fr : List V) (S : St) : endQ rs Q .normal fr S = ifSome (ARes.gets fr S rs) (fun vs => Q (.ret (tupled vs)) S) ⟨⟩ := by
  simp only [endQ, ifSome]; cases ARes.gets fr S rs <;> rfl
@[go_sem] theorem endQ_ret (rs : List ARes) (Q : Post) (fr : List V) (S : St) : endQ rs Q .ret fr S = ifSome (ARes.gets fr S rs) (fun vs => Q (.ret (tupled vs)) S) ⟨⟩ := by
  simp only [endQ, ifSome]; cases ARes.gets fr S rs <;> rfl
@[go_sem] theorem endQ_panic (rs : List ARes) (Q : Post) (v : V) (fr : List V) (S : St) : endQ rs Q (.panic v) fr S = Q (.panic v) S := (rfl)
theorem gets_nil (fr : List V) (S : St) : ARes.gets fr S [] = some [] := rfl
theorem gets_tmp (fr : List V) (S : St) (t : Nat) (rs : List ARes) : ARes.gets fr S (.tmp t :: rs) = (ARes.gets fr S rs).map (G fr t :: ·) := by
  simp only [ARes.gets, ARes.get, obind, G]; cases ARes.gets fr S rs <;> rfl
def cell1V (S : St) (v : V) : Option V := match v with | .ptr i o => S.load1 i o | _ => none
def cellNV (S : St) (n : Nat) (v : V) : Option V := match v with | .ptr i o => (S.loads i o n).map .agg | _ => none
theorem gets_cell1 (fr : List V) (S : St) (t : Nat) (rs : List ARes) : ARes.gets fr S (.cell1 t :: rs) = (cell1V S (G fr t)).bind fun v => (ARes.gets fr S rs).map (v :: ·) := by
  have h : ARes.get fr S (.cell1 t) = cell1V S (G fr t) := rfl
  simp only [ARes.gets, h]
  cases cell1V S (G fr t) <;> cases ARes.gets fr S rs <;> rfl
theorem gets_cellN (fr : List V) (S : St) (t n : Nat) (rs : List ARes) : ARes.gets fr S (.cellN t n :: rs) = (cellNV S n (G fr t)).bind fun v => (ARes.gets fr S rs).map (v :: ·) := by
  have h : ARes.get fr S (.cellN t n) = cellNV S n (G fr t) := rfl
  simp only [ARes.gets, h]
  cases cellNV S n (G fr t) <;> cases ARes.gets fr S rs <;> rfl
@[go_sem] theorem cell1V_ptr (S : St) (i o : Nat) : cell1V S (.ptr i o) = S.load1 i o := (rfl)
@[go_sem] theorem cellNV_ptr (S : St) (n i o : Nat) : cellNV S n (.ptr i o) = (S.loads i o n).map .agg := (rfl)
attribute [go_sem] gets_nil gets_tmp gets_cell1 gets_cellN tupled Option.map_some Option.map_none Option.bind_some Option.bind_none

/-! ## operations, one by one -/
/-- What stands behind a call. -/
def resK (k : V → St → Prop) (p : V → St → Prop) (_t : Tag k) (_u : Tag p) : Post := fun r S => match r with | .ret v => k v S | .panic v => p v S
@[go_sem] theorem resK_ret (k p : V → St → Prop) (t u) (v : V) (S : St) : resK k p t u (.ret v) S = k v S := (rfl)
@[go_sem] theorem resK_panic (k p : V → St → Prop) (t u) (v : V) (S : St) : resK k p t u (.panic v) S = p v S := (rfl)

def pickV (c x y : V) : Option V := match c with | .bool b => some (if b then x else y) | _ => none
def loadV (S : St) (v : V) : Option V := match v with | .ptr i o => S.load1 i o | _ => none
def loadNV (S : St) (n : Nat) (v : V) : Option V := match v with | .ptr i o => (S.loads i o n).map .agg | _ => none
def storeV (S : St) (n : Nat) (p y : V) : Option St := match p with | .ptr i o => if y.cells.length = n then S.stores i o y.cells else none | _ => none
def nilV (v : V) : Option V := match v with | .ptr i o => some (.ptr i o) | .func (.func f) a b => some (.func (.func f) a b) | .iface t v => some (.iface t v) | _ => none
def convIntV (k : IntKind) (v : V) : Option V := match v with | .int _ n => some (.int k (k.wrap n)) | _ => none
def convStrV (v : V) : Option V := match v with | .str s => some (.str s) | _ => none
def convBSV (S : St) (v : V) : Option V := match v with
  | .nilSlice => some (.str [])
  | .slice i o l _ 1 _ => match S.loads i o l with
    | some vs => (bytesOf vs).map .str
    | none => none
  | _ => none
def convSBV (S : St) (v : V) : Option (V × St) := match v with | .str s => some (.slice S.next 0 s.length s.length 1 false, S.new (.cells (bytesV s) true)) | _ => none
def convBBV (S : St) (v : V) : Option V := match v with
  | .slice i o l c k t => match S.get i with
    | some (.cells _ true) => some (.slice i o l c k t)
    | _ => none
  | _ => none
def mkSliceV (S : St) (k bytes : Nat) (zs : List V) (l c : V) : Option (V × St) := match l, c with
  | .int _ l, .int _ c => if 0 ≤ l ∧ l ≤ c ∧ (bytes : Int) * c ≤ 281474976710656 ∧ c ≤ 9223372036854775807 then some (.slice S.next 0 l.toNat c.toNat k true, S.new (.cells (reps c.toNat zs) true)) else none
  | _, _ => none
def fieldAddrV (off : Nat) (v : V) : Option V := match v with | .ptr i o => some (.ptr i (o + off)) | _ => none
def idxAddrV (k : Nat) (x ix : V) : Option V := match x, ix with
  | .slice i o l _ k' _, .int _ n => if k' = k ∧ 0 ≤ n ∧ n < l then some (.ptr i (o + n.toNat * k)) else none
  | _, _ => none
def idxAddrArrV (len k : Nat) (x ix : V) : Option V := match x, ix with
  | .ptr i o, .int _ n => if 0 ≤ n ∧ n < len then some (.ptr i (o + n.toNat * k)) else none
  | _, _ => none
def fieldV (n : Option Nat) (off : Nat) (v : V) : Option V := match v with | .agg cs => partV n cs off | _ => none
def idxStrV (x ix : V) : Option V := match x, ix with
  | .str s, .int _ n => if 0 ≤ n then (s[n.toNat]?).map fun b => .int .u8 b.toNat else none
  | _, _ => none
def idxArrV (len k : Nat) (pn : Option Nat) (x ix : V) : Option V := match x, ix with
  | .agg cs, .int _ n => if 0 ≤ n ∧ n < len then partV pn cs (n.toNat * k) else none
  | _, _ => none
def extractV (n : Nat) (v : V) : Option V := match v with | .tuple vs => vs[n]? | _ => none
def sliceStrV (x : V) (lo hi : Option V) : Option V := match x with
  | .str s => (bnds s.length s.length lo hi none).map fun p => .str ((s.take p.2.1).drop p.1)
  | _ => none
def sliceSlV (k : Nat) (x : V) (lo hi mx : Option V) : Option V := match x with
  | .slice i o l c k' t => if k' = k then (bnds l c lo hi mx).map fun p => .slice i (o + p.1 * k) (p.2.1 - p.1) (p.2.2 - p.1) k (t || mx.isSome) else none
  | .nilSlice => (bnds 0 0 lo hi mx).map fun _ => .nilSlice
  | _ => none
def sliceArrV (S : St) (n k : Nat) (x : V) (lo hi mx : Option V) : Option V := match x with
  | .ptr i o => match S.cells i with
    | some vs => if o + n * k ≤ vs.length then (bnds n n lo hi mx).map fun p => .slice i (o + p.1 * k) (p.2.1 - p.1) (p.2.2 - p.1) k true else none
    | none => none
  | _ => none
def lenV (S : St) (n : Nat) (v : V) : Option V := match n, v with
  | 1, .str s => some (.int .i64 s.length)
  | 2, .slice _ _ l _ _ _ => some (.int .i64 l)
  | 2, .nilSlice => some (.int .i64 0)
  | 3, .nilMap => some (.int .i64 0)
  | 3, .map i => match S.get i with
    | some (.map es _) => some (.int .i64 es.length)
    | _ => none
  | _, _ => none
def minMaxV (f : Int → Int → Int) (xs : List V) : Option V := match xs with
  | .int k a :: r => (foldMM f a r).map (.int k)
  | _ => none
def appV (S : St) (k bytes : Nat) (x y : V) : Option (V × St) := match rApp k bytes (.con x) (.con y) [] S with | .val v S' => some (v, S') | _ => none
def copyV (S : St) (k : Nat) (x y : V) : Option (V × St) := match rCopy k (.con x) (.con y) [] S with | .val v S' => some (v, S') | _ => none
def lookupV (S : St) (kk : Nat) (zero : V) (b : Bool) (x ix : V) : Option V := match rLookup kk zero b (.con x) (.con ix) [] S with | .val v _ => some v | _ => none
def mapUpdV (S : St) (kk : Nat) (x ky y : V) : Option St := match rMapUpd kk (.con x) (.con ky) (.con y) [] S with | .val _ S' => some S' | _ => none
def deleteV (S : St) (kk : Nat) (x ky : V) : Option St := match rDelete kk (.con x) (.con ky) [] S with | .val _ S' => some S' | _ => none
def calleeV (ok : Env) (x : V) (args : List V) : Option (FuncId × List V) := match x with
  | .func (.func f) fs cs => if ok.can f then some (f, fs ++ args ++ cs) else none
  | _ => none

section ops
variable (ok : Env) (callH : FuncId → List V → St → Post → Prop) (Q : PostC) (d : Option Nat) (r : List AI) (fr : List V) (S : St)

@[go_sem ↓] theorem runIs_nil : runIs ok callH Q [] fr S = Q .normal fr S := (rfl)
@[go_sem ↓] theorem runIs_guard (t : Nat) (w : Bool) (op : AO) : runIs ok callH Q (⟨d, some (t, w), op⟩ :: r) fr S =
    ifG (G fr t) w (runIs ok callH Q (⟨d, none, op⟩ :: r) fr S) (runIs ok callH Q r (put fr d .undef) S) ⟨⟩ ⟨⟩ := by
  simp only [runIs, wantI]
  show _ = ifG (fr.getD t .undef) w _ _ _ _
  cases fr.getD t .undef <;> try rfl
  · rename_i b
    cases hb : b == w <;> simp only [ifG, hb]
  · rename_i l
    cases l <;> rfl
@[go_sem ↓] theorem runIs_move (x) : runIs ok callH Q (⟨d, none, .move x⟩ :: r) fr S = letV (x.ev fr) (fun v => runIs ok callH Q r (put fr d v) S) ⟨⟩ := (rfl)
@[go_sem ↓] theorem runIs_pick (c x y) : runIs ok callH Q (⟨d, none, .pick c x y⟩ :: r) fr S = ifSome (pickV (c.ev fr) (x.ev fr) (y.ev fr)) (fun v => runIs ok callH Q r (put fr d v) S) ⟨⟩ := by
  simp only [runIs, wantI, AO.run, rPick, pickV]; cases c.ev fr <;> rfl
@[go_sem ↓] theorem runIs_alloc (zs) : runIs ok callH Q (⟨d, none, .alloc zs⟩ :: r) fr S = runIs ok callH Q r (put fr d (.ptr S.next 0)) (S.new (.cells zs true)) := (rfl)
@[go_sem ↓] theorem runIs_box (x) : runIs ok callH Q (⟨d, none, .box x⟩ :: r) fr S = letV (x.ev fr) (fun v => runIs ok callH Q r (put fr d (.ptr S.next 0)) (S.new (.cells v.cells true))) ⟨⟩ := (rfl)
@[go_sem ↓] theorem runIs_build (zs ps) : runIs ok callH Q (⟨d, none, .build zs ps⟩ :: r) fr S = ifSome (fillV zs (ps.map fun p => (p.1, p.2.1, p.2.2.ev fr))) (fun cs => runIs ok callH Q r (put fr d (.agg cs)) S) ⟨⟩ := by
  simp only [runIs, wantI, AO.run, rBuild]; cases fillV zs (ps.map fun p => (p.1, p.2.1, p.2.2.ev fr)) <;> rfl
@[go_sem ↓] theorem runIs_buildSlice (k n zs ps) : runIs ok callH Q (⟨d, none, .buildSlice k n zs ps⟩ :: r) fr S = ifSome (fillV zs (ps.map fun p => (p.1, p.2.1, p.2.2.ev fr))) (fun cs => runIs ok callH Q r (put fr d (.slice S.next 0 n n k true)) (S.new (.cells cs true))) ⟨⟩ := by
  simp only [runIs, wantI, AO.run, rBuildSlice]; cases fillV zs (ps.map fun p => (p.1, p.2.1, p.2.2.ev fr)) <;> rfl
@[go_sem ↓] theorem runIs_load1 (x) : runIs ok callH Q (⟨d, none, .load1 x⟩ :: r) fr S = ifSome (loadV S (x.ev fr)) (fun v => runIs ok callH Q r (put fr d v) S) ⟨⟩ := by
  simp only [runIs, wantI, AO.run, rLoad1, loadV]; cases x.ev fr <;> try rfl
  rename_i i o
  simp only; cases S.load1 i o <;> rfl
@[go_sem ↓] theorem runIs_loadN (n x) : runIs ok callH Q (⟨d, none, .loadN n x⟩ :: r) fr S = ifSome (loadNV S n (x.ev fr)) (fun v => runIs ok callH Q r (put fr d v) S) ⟨⟩ := by
  simp only [runIs, wantI, AO.run, rLoadN, loadNV]; cases x.ev fr <;> try rfl
  rename_i i o
  simp only; cases S.loads i o n <;> rfl
@[go_sem ↓] theorem runIs_store (n x y) : runIs ok callH Q (⟨d, none, .store n x y⟩ :: r) fr S = ifSome (storeV S n (x.ev fr) (y.ev fr)) (fun S' => runIs ok callH Q r (put fr d .undef) S') ⟨⟩ := by
  simp only [runIs, wantI, AO.run, rStore, storeV]; cases x.ev fr <;> try rfl
  rename_i i o
  by_cases hc : (y.ev fr).cells.length = n
  · simp only [if_pos hc]; cases S.stores i o (y.ev fr).cells <;> rfl
  · simp only [if_neg hc]; rfl
@[go_sem ↓] theorem runIs_nilCheck (x) : runIs ok callH Q (⟨d, none, .nilCheck x⟩ :: r) fr S = ifSome (nilV (x.ev fr)) (fun v => runIs ok callH Q r (put fr d v) S) ⟨⟩ := by
  simp only [runIs, wantI, AO.run, rNilCheck, nilV]; cases x.ev fr <;> try rfl
  rename_i fn a b; cases fn <;> rfl
@[go_sem ↓] theorem runIs_bin (op x y) : runIs ok callH Q (⟨d, none, .bin op x y⟩ :: r) fr S = ifSome (binV op (x.ev fr) (y.ev fr)) (fun v => runIs ok callH Q r (put fr d v) S) ⟨⟩ := by
  simp only [runIs, wantI, AO.run, rBin]; cases binV op (x.ev fr) (y.ev fr) <;> rfl
@[go_sem ↓] theorem runIs_un (op x) : runIs ok callH Q (⟨d, none, .un op x⟩ :: r) fr S = ifSome (unV op (x.ev fr)) (fun v => runIs ok callH Q r (put fr d v) S) ⟨⟩ := by
  simp only [runIs, wantI, AO.run, rUn]; cases unV op (x.ev fr) <;> rfl
@[go_sem ↓] theorem runIs_convInt (k x) : runIs ok callH Q (⟨d, none, .convInt k x⟩ :: r) fr S = ifSome (convIntV k (x.ev fr)) (fun v => runIs ok callH Q r (put fr d v) S) ⟨⟩ := by
  simp only [runIs, wantI, AO.run, rConvInt, convIntV]; cases x.ev fr <;> rfl
@[go_sem ↓] theorem runIs_convStr (x) : runIs ok callH Q (⟨d, none, .convStr x⟩ :: r) fr S = ifSome (convStrV (x.ev fr)) (fun v => runIs ok callH Q r (put fr d v) S) ⟨⟩ := by
  simp only [runIs, wantI, AO.run, rConvStr, convStrV]; cases x.ev fr <;> rfl
theorem rConvBS_eq (x) : rConvBS x fr S = match convBSV S (x.ev fr) with | some v => .val v S | none => .stuck := by
  unfold rConvBS convBSV
  split
  · rename_i h; rw [h]
  · rename_i i o l c t h
    rw [h]
    simp only
    cases S.loads i o l with
    | none => rfl
    | some vs => simp only; cases bytesOf vs <;> rfl
  · rename_i h1 h2
    split
    · rename_i v hv
      split at hv
      · rename_i h; exact absurd h h1
      · rename_i h; exact absurd h (h2 _ _ _ _ _)
      · cases hv
    · rfl
@[go_sem ↓] theorem runIs_convBS (x) : runIs ok callH Q (⟨d, none, .convBS x⟩ :: r) fr S = ifSome (convBSV S (x.ev fr)) (fun v => runIs ok callH Q r (put fr d v) S) ⟨⟩ := by
  simp only [runIs, wantI, AO.run, rConvBS_eq]
  cases convBSV S (x.ev fr) <;> rfl
@[go_sem ↓] theorem runIs_convSB (x) : runIs ok callH Q (⟨d, none, .convSB x⟩ :: r) fr S = ifSome (convSBV S (x.ev fr)) (fun p => runIs ok callH Q r (put fr d p.1) p.2) ⟨⟩ := by
  simp only [runIs, wantI, AO.run, rConvSB, convSBV]; cases x.ev fr <;> rfl
@[go_sem ↓] theorem runIs_convBB (x) : runIs ok callH Q (⟨d, none, .convBB x⟩ :: r) fr S = ifSome (convBBV S (x.ev fr)) (fun v => runIs ok callH Q r (put fr d v) S) ⟨⟩ := by
  simp only [runIs, wantI, AO.run, rConvBB, convBBV]; cases x.ev fr <;> try rfl
  rename_i i o l c k t
  simp only
  cases S.get i with
  | none => rfl
  | some b => cases b with
    | cells vs own => cases own <;> rfl
    | map es own => rfl
@[go_sem ↓] theorem runIs_mkFunc (fn a b) : runIs ok callH Q (⟨d, none, .mkFunc fn a b⟩ :: r) fr S = letV (.func fn (a.map (·.ev fr)) (b.map (·.ev fr))) (fun v => runIs ok callH Q r (put fr d v) S) ⟨⟩ := (rfl)
@[go_sem ↓] theorem runIs_mkMap : runIs ok callH Q (⟨d, none, .mkMap⟩ :: r) fr S = runIs ok callH Q r (put fr d (.map S.next)) (S.new (.map [] true)) := (rfl)
@[go_sem ↓] theorem runIs_mkIface (t x) : runIs ok callH Q (⟨d, none, .mkIface t x⟩ :: r) fr S = letV (.iface t (x.ev fr)) (fun v => runIs ok callH Q r (put fr d v) S) ⟨⟩ := (rfl)
@[go_sem ↓] theorem runIs_mkSlice (k b zs l c) : runIs ok callH Q (⟨d, none, .mkSlice k b zs l c⟩ :: r) fr S = ifSome (mkSliceV S k b zs (l.ev fr) (c.ev fr)) (fun p => runIs ok callH Q r (put fr d p.1) p.2) ⟨⟩ := by
  simp only [runIs, wantI, AO.run, rMkSlice, mkSliceV]; cases l.ev fr <;> try rfl
  cases c.ev fr <;> try rfl
  rename_i _ l _ c
  by_cases hc : 0 ≤ l ∧ l ≤ c ∧ (b : Int) * c ≤ 281474976710656 ∧ c ≤ 9223372036854775807
  · simp only [if_pos hc]; rfl
  · simp only [if_neg hc]; rfl
@[go_sem ↓] theorem runIs_fieldAddr (off x) : runIs ok callH Q (⟨d, none, .fieldAddr off x⟩ :: r) fr S = ifSome (fieldAddrV off (x.ev fr)) (fun v => runIs ok callH Q r (put fr d v) S) ⟨⟩ := by
  simp only [runIs, wantI, AO.run, rFieldAddr, fieldAddrV]; cases x.ev fr <;> rfl
@[go_sem ↓] theorem runIs_idxAddr (k x i) : runIs ok callH Q (⟨d, none, .idxAddr k x i⟩ :: r) fr S = ifSome (idxAddrV k (x.ev fr) (i.ev fr)) (fun v => runIs ok callH Q r (put fr d v) S) ⟨⟩ := by
  simp only [runIs, wantI, AO.run, rIdxAddr, idxAddrV]; cases x.ev fr <;> try rfl
  cases i.ev fr <;> try rfl
  rename_i j o l c k' t _ n
  by_cases hc : k' = k ∧ 0 ≤ n ∧ n < (l : Int)
  · simp only [if_pos hc]; rfl
  · simp only [if_neg hc]; rfl
@[go_sem ↓] theorem runIs_idxAddrArr (n k x i) : runIs ok callH Q (⟨d, none, .idxAddrArr n k x i⟩ :: r) fr S = ifSome (idxAddrArrV n k (x.ev fr) (i.ev fr)) (fun v => runIs ok callH Q r (put fr d v) S) ⟨⟩ := by
  simp only [runIs, wantI, AO.run, rIdxAddrArr, idxAddrArrV]; cases x.ev fr <;> try rfl
  cases i.ev fr <;> try rfl
  rename_i j o _ m
  by_cases hc : 0 ≤ m ∧ m < (n : Int)
  · simp only [if_pos hc]; rfl
  · simp only [if_neg hc]; rfl
@[go_sem ↓] theorem runIs_field (n off x) : runIs ok callH Q (⟨d, none, .field n off x⟩ :: r) fr S = ifSome (fieldV n off (x.ev fr)) (fun v => runIs ok callH Q r (put fr d v) S) ⟨⟩ := by
  simp only [runIs, wantI, AO.run, rField, fieldV]; cases x.ev fr <;> try rfl
  rename_i cs
  simp only; cases partV n cs off <;> rfl
@[go_sem ↓] theorem runIs_idxStr (x i) : runIs ok callH Q (⟨d, none, .idxStr x i⟩ :: r) fr S = ifSome (idxStrV (x.ev fr) (i.ev fr)) (fun v => runIs ok callH Q r (put fr d v) S) ⟨⟩ := by
  simp only [runIs, wantI, AO.run, rIdxStr, idxStrV]; cases x.ev fr <;> try rfl
  cases i.ev fr <;> try rfl
  rename_i s k n
  by_cases hc : 0 ≤ n
  · simp only [if_pos hc]; cases s[n.toNat]? <;> rfl
  · simp only [if_neg hc]; rfl
@[go_sem ↓] theorem runIs_idxArr (n k pn x i) : runIs ok callH Q (⟨d, none, .idxArr n k pn x i⟩ :: r) fr S = ifSome (idxArrV n k pn (x.ev fr) (i.ev fr)) (fun v => runIs ok callH Q r (put fr d v) S) ⟨⟩ := by
  simp only [runIs, wantI, AO.run, rIdxArr, idxArrV]; cases x.ev fr <;> try rfl
  cases i.ev fr <;> try rfl
  rename_i cs kk m
  by_cases hc : 0 ≤ m ∧ m < (n : Int)
  · simp only [if_pos hc]; cases partV pn cs (m.toNat * k) <;> rfl
  · simp only [if_neg hc]; rfl
@[go_sem ↓] theorem runIs_extract (n x) : runIs ok callH Q (⟨d, none, .extract n x⟩ :: r) fr S = ifSome (extractV n (x.ev fr)) (fun v => runIs ok callH Q r (put fr d v) S) ⟨⟩ := by
  simp only [runIs, wantI, AO.run, rExtract, extractV]; cases x.ev fr <;> try rfl
  rename_i vs
  simp only; cases vs[n]? <;> rfl
@[go_sem ↓] theorem runIs_sliceStr (x lo hi) : runIs ok callH Q (⟨d, none, .sliceStr x lo hi⟩ :: r) fr S = ifSome (sliceStrV (x.ev fr) (lo.map (·.ev fr)) (hi.map (·.ev fr))) (fun v => runIs ok callH Q r (put fr d v) S) ⟨⟩ := by
  simp only [runIs, wantI, AO.run, rSliceStr, sliceStrV]; cases x.ev fr <;> try rfl
  rename_i s
  simp only; cases bnds s.length s.length (lo.map (·.ev fr)) (hi.map (·.ev fr)) none <;> rfl
@[go_sem ↓] theorem runIs_sliceSl (k x lo hi mx) : runIs ok callH Q (⟨d, none, .sliceSl k x lo hi mx⟩ :: r) fr S = ifSome (sliceSlV k (x.ev fr) (lo.map (·.ev fr)) (hi.map (·.ev fr)) (mx.map (·.ev fr))) (fun v => runIs ok callH Q r (put fr d v) S) ⟨⟩ := by
  simp only [runIs, wantI, AO.run, rSliceSl, sliceSlV]; cases x.ev fr <;> try rfl
  · simp only; cases bnds 0 0 (lo.map (·.ev fr)) (hi.map (·.ev fr)) (mx.map (·.ev fr)) <;> rfl
  · rename_i i o l c k' t
    by_cases hc : k' = k
    · simp only [if_pos hc]
      cases bnds l c (lo.map (·.ev fr)) (hi.map (·.ev fr)) (mx.map (·.ev fr))
      · rfl
      · simp only [Option.map_some, ifSome, Option.isSome_map]
    · simp only [if_neg hc]; rfl
@[go_sem ↓] theorem runIs_sliceArr (n k x lo hi mx) : runIs ok callH Q (⟨d, none, .sliceArr n k x lo hi mx⟩ :: r) fr S = ifSome (sliceArrV S n k (x.ev fr) (lo.map (·.ev fr)) (hi.map (·.ev fr)) (mx.map (·.ev fr))) (fun v => runIs ok callH Q r (put fr d v) S) ⟨⟩ := by
  simp only [runIs, wantI, AO.run, rSliceArr, sliceArrV]; cases x.ev fr <;> try rfl
  rename_i i o
  simp only
  cases S.cells i with
  | none => rfl
  | some vs =>
    by_cases hc : o + n * k ≤ vs.length
    · simp only [if_pos hc]; cases bnds n n (lo.map (·.ev fr)) (hi.map (·.ev fr)) (mx.map (·.ev fr)) <;> rfl
    · simp only [if_neg hc]; rfl
theorem rLenK_eq (n x) : rLenK n x fr S = match lenV S n (x.ev fr) with | some v => .val v S | none => .stuck := by
  unfold rLenK
  split
  · rename_i s h; rw [h]; rfl
  · rename_i i o l c k t h; rw [h]; rfl
  · rename_i h; rw [h]; rfl
  · rename_i h; rw [h]; rfl
  · rename_i i h
    rw [h]
    simp only [lenV]
    cases S.get i with
    | none => rfl
    | some b => cases b <;> rfl
  · rename_i h1 h2 h3 h4 h5
    split
    · rename_i v hv
      unfold lenV at hv
      split at hv
      · rename_i h; exact absurd h (h1 _ rfl)
      · rename_i h; exact absurd h (h2 _ _ _ _ _ _ rfl)
      · rename_i h; exact absurd h (h3 rfl)
      · rename_i h; exact absurd h (h4 rfl)
      · rename_i h; exact absurd h (h5 _ rfl)
      · cases hv
    · rfl
@[go_sem ↓] theorem runIs_len (n x) : runIs ok callH Q (⟨d, none, .len n x⟩ :: r) fr S = ifSome (lenV S n (x.ev fr)) (fun v => runIs ok callH Q r (put fr d v) S) ⟨⟩ := by
  simp only [runIs, wantI, AO.run, rLenK_eq]
  cases lenV S n (x.ev fr) <;> rfl
theorem rMinMax_eq (f xs) : rMinMax f xs fr S = match minMaxV f (xs.map (·.ev fr)) with | some v => .val v S | none => .stuck := by
  unfold rMinMax minMaxV
  generalize (xs.map (·.ev fr) : List V) = l
  split
  · rename_i k a l
    simp only
    cases foldMM f a l <;> rfl
  · rename_i h
    split
    · rename_i v hv
      split at hv
      · rename_i k a l; exact absurd rfl (h _ _ _)
      · cases hv
    · rfl
@[go_sem ↓] theorem runIs_min (xs) : runIs ok callH Q (⟨d, none, .min xs⟩ :: r) fr S = ifSome (minMaxV goMin (xs.map (·.ev fr))) (fun v => runIs ok callH Q r (put fr d v) S) ⟨⟩ := by
  simp only [runIs, wantI, AO.run, rMinMax_eq]
  cases minMaxV goMin (xs.map (·.ev fr)) <;> rfl
@[go_sem ↓] theorem runIs_max (xs) : runIs ok callH Q (⟨d, none, .max xs⟩ :: r) fr S = ifSome (minMaxV goMax (xs.map (·.ev fr))) (fun v => runIs ok callH Q r (put fr d v) S) ⟨⟩ := by
  simp only [runIs, wantI, AO.run, rMinMax_eq]
  cases minMaxV goMax (xs.map (·.ev fr)) <;> rfl


theorem rApp_ev (k b x y) : rApp k b x y fr S = rApp k b (.con (x.ev fr)) (.con (y.ev fr)) [] S := rfl
theorem rCopy_ev (k x y) : rCopy k x y fr S = rCopy k (.con (x.ev fr)) (.con (y.ev fr)) [] S := rfl
theorem rLookup_ev (kk z b x y) : rLookup kk z b x y fr S = rLookup kk z b (.con (x.ev fr)) (.con (y.ev fr)) [] S := rfl
theorem rMapUpd_ev (kk x y z) : rMapUpd kk x y z fr S = rMapUpd kk (.con (x.ev fr)) (.con (y.ev fr)) (.con (z.ev fr)) [] S := rfl
theorem rDelete_ev (kk x y) : rDelete kk x y fr S = rDelete kk (.con (x.ev fr)) (.con (y.ev fr)) [] S := rfl

theorem rApp_cases (k b x y) : (∃ v S', rApp k b x y fr S = .val v S') ∨ rApp k b x y fr S = .stuck := by
  unfold rApp
  repeat' split
  all_goals first | exact .inl ⟨_, _, rfl⟩ | exact .inr rfl
theorem rCopy_cases (k x y) : (∃ v S', rCopy k x y fr S = .val v S') ∨ rCopy k x y fr S = .stuck := by
  unfold rCopy
  repeat' split
  all_goals first | exact .inl ⟨_, _, rfl⟩ | exact .inr rfl
theorem rLookup_cases (kk z b x y) : (∃ v, rLookup kk z b x y fr S = .val v S) ∨ rLookup kk z b x y fr S = .stuck := by
  unfold rLookup
  repeat' split
  all_goals first | exact .inl ⟨_, rfl⟩ | exact .inr rfl
theorem rMapUpd_cases (kk x y z) : (∃ S', rMapUpd kk x y z fr S = .val .undef S') ∨ rMapUpd kk x y z fr S = .stuck := by
  unfold rMapUpd
  repeat' split
  all_goals first | exact .inl ⟨_, rfl⟩ | exact .inr rfl
theorem rDelete_cases (kk x y) : (∃ S', rDelete kk x y fr S = .val .undef S') ∨ rDelete kk x y fr S = .stuck := by
  unfold rDelete
  repeat' split
  all_goals first | exact .inl ⟨_, rfl⟩ | exact .inr rfl

@[go_sem ↓] theorem runIs_app (k b x y) : runIs ok callH Q (⟨d, none, .app k b x y⟩ :: r) fr S = ifSome (appV S k b (x.ev fr) (y.ev fr)) (fun p => runIs ok callH Q r (put fr d p.1) p.2) ⟨⟩ := by
  simp only [runIs, wantI, AO.run, appV, ← rApp_ev]
  rcases rApp_cases fr S k b x y with ⟨v, S', h⟩ | h <;> rw [h] <;> rfl
@[go_sem ↓] theorem runIs_copy (k x y) : runIs ok callH Q (⟨d, none, .copy k x y⟩ :: r) fr S = ifSome (copyV S k (x.ev fr) (y.ev fr)) (fun p => runIs ok callH Q r (put fr d p.1) p.2) ⟨⟩ := by
  simp only [runIs, wantI, AO.run, copyV, ← rCopy_ev]
  rcases rCopy_cases fr S k x y with ⟨v, S', h⟩ | h <;> rw [h] <;> rfl
@[go_sem ↓] theorem runIs_lookup (kk z b x y) : runIs ok callH Q (⟨d, none, .lookup kk z b x y⟩ :: r) fr S = ifSome (lookupV S kk z b (x.ev fr) (y.ev fr)) (fun v => runIs ok callH Q r (put fr d v) S) ⟨⟩ := by
  simp only [runIs, wantI, AO.run, lookupV, ← rLookup_ev]
  rcases rLookup_cases fr S kk z b x y with ⟨v, h⟩ | h <;> rw [h] <;> rfl
@[go_sem ↓] theorem runIs_mapUpd (kk x y z) : runIs ok callH Q (⟨d, none, .mapUpd kk x y z⟩ :: r) fr S = ifSome (mapUpdV S kk (x.ev fr) (y.ev fr) (z.ev fr)) (fun S' => runIs ok callH Q r (put fr d .undef) S') ⟨⟩ := by
  simp only [runIs, wantI, AO.run, mapUpdV, ← rMapUpd_ev]
  rcases rMapUpd_cases fr S kk x y z with ⟨S', h⟩ | h <;> rw [h] <;> rfl
@[go_sem ↓] theorem runIs_delete (kk x y) : runIs ok callH Q (⟨d, none, .delete kk x y⟩ :: r) fr S = ifSome (deleteV S kk (x.ev fr) (y.ev fr)) (fun S' => runIs ok callH Q r (put fr d .undef) S') ⟨⟩ := by
  simp only [runIs, wantI, AO.run, deleteV, ← rDelete_ev]
  rcases rDelete_cases fr S kk x y with ⟨S', h⟩ | h <;> rw [h] <;> rfl
@[go_sem ↓] theorem runIs_callF (f xs) : runIs ok callH Q (⟨d, none, .callF f xs⟩ :: r) fr S = callH f (xs.map (·.ev fr)) S (resK (fun v S' => runIs ok callH Q r (put fr d v) S') (fun v S' => Q (.panic v) fr S') ⟨⟩ ⟨⟩) := by
  simp only [runIs, wantI, AO.run, rCallF]
  rfl
@[go_sem ↓] theorem runIs_callV (x xs) : runIs ok callH Q (⟨d, none, .callV x xs⟩ :: r) fr S = ifSome (calleeV ok (x.ev fr) (xs.map (·.ev fr))) (fun p => callH p.1 p.2 S (resK (fun v S' => runIs ok callH Q r (put fr d v) S') (fun v S' => Q (.panic v) fr S') ⟨⟩ ⟨⟩)) ⟨⟩ := by
  simp only [runIs, wantI, AO.run, rCallV, calleeV]
  cases x.ev fr <;> try rfl
  rename_i fn a b
  cases fn <;> try rfl
  rename_i f
  by_cases hc : ok.can f = true
  · simp only [if_pos hc]; rfl
  · simp only [if_neg hc]; rfl
@[go_sem ↓] theorem runIs_eq (neg kk pl x y) : runIs ok callH Q (⟨d, none, .eq neg kk pl x y⟩ :: r) fr S = ifSome (eqV kk pl (x.ev fr) (y.ev fr)) (fun b => runIs ok callH Q r (put fr d (.bool (b != neg))) S) ⟨⟩ := by
  simp only [runIs, wantI, AO.run, rEq]; cases eqV kk pl (x.ev fr) (y.ev fr) <;> rfl
@[go_sem ↓] theorem runIs_ext (k xs) : runIs ok callH Q (⟨d, none, .ext k xs⟩ :: r) fr S = ifSome (extV k (xs.map (·.ev fr))) (fun v => runIs ok callH Q r (put fr d v) S) ⟨⟩ := by
  simp only [runIs, wantI, AO.run, rExt]; cases extV k (xs.map (·.ev fr)) <;> rfl
@[go_sem ↓] theorem runIs_cap (x) : runIs ok callH Q (⟨d, none, .cap x⟩ :: r) fr S = ifSome (capV (x.ev fr)) (fun v => runIs ok callH Q r (put fr d v) S) ⟨⟩ := by
  simp only [runIs, wantI, AO.run, rCap]; cases capV (x.ev fr) <;> rfl
@[go_sem ↓] theorem runIs_assert (t c z x) : runIs ok callH Q (⟨d, none, .assert t c z x⟩ :: r) fr S = ifSome (assertV t c z (x.ev fr)) (fun v => runIs ok callH Q r (put fr d v) S) ⟨⟩ := by
  simp only [runIs, wantI, AO.run, rAssert]; cases assertV t c z (x.ev fr) <;> rfl
@[go_sem ↓] theorem runIs_invoke (nm x xs) : runIs ok callH Q (⟨d, none, .invoke nm x xs⟩ :: r) fr S = ifSome (invokeV ok S nm (x.ev fr) (xs.map (·.ev fr))) (fun p => callH p.1 p.2 S (resK (fun v S' => runIs ok callH Q r (put fr d v) S') (fun v S' => Q (.panic v) fr S') ⟨⟩ ⟨⟩)) ⟨⟩ := by
  simp only [runIs, wantI, AO.run, rInvoke]
  cases invokeV ok S nm (x.ev fr) (xs.map (·.ev fr)) <;> rfl
end ops

/-! ## values of operations -/
@[go_sem] theorem pickV_bool (b : Bool) (x y : V) : pickV (.bool b) x y = some (if b then x else y) := (rfl)
@[go_sem] theorem loadV_ptr (S : St) (i o : Nat) : loadV S (.ptr i o) = S.load1 i o := (rfl)
@[go_sem] theorem loadNV_ptr (S : St) (n i o : Nat) : loadNV S n (.ptr i o) = (S.loads i o n).map .agg := (rfl)
@[go_sem] theorem nilV_ptr (i o : Nat) : nilV (.ptr i o) = some (.ptr i o) := (rfl)
@[go_sem] theorem nilV_func (f : Nat) (a b : List V) : nilV (.func (.func f) a b) = some (.func (.func f) a b) := (rfl)
@[go_sem] theorem nilV_iface (t : Nat) (v : V) : nilV (.iface t v) = some (.iface t v) := (rfl)
@[go_sem] theorem convIntV_int (k k' : IntKind) (n : Int) : convIntV k (.int k' n) = some (.int k (k.wrap n)) := (rfl)
@[go_sem] theorem convStrV_str (s : List UInt8) : convStrV (.str s) = some (.str s) := (rfl)
@[go_sem] theorem convSBV_str (S : St) (s : List UInt8) : convSBV S (.str s) = some (.slice S.next 0 s.length s.length 1 false, S.new (.cells (bytesV s) true)) := (rfl)
@[go_sem] theorem fieldAddrV_ptr (off i o : Nat) : fieldAddrV off (.ptr i o) = some (.ptr i (o + off)) := (rfl)
@[go_sem] theorem fieldV_agg (n : Option Nat) (off : Nat) (cs : List V) : fieldV n off (.agg cs) = partV n cs off := (rfl)
@[go_sem] theorem partV_none (cs : List V) (off : Nat) : partV none cs off = cs[off]? := (rfl)
@[go_sem] theorem extractV_tuple (n : Nat) (vs : List V) : extractV n (.tuple vs) = vs[n]? := (rfl)
@[go_sem] theorem lenV_str (S : St) (s : List UInt8) : lenV S 1 (.str s) = some (.int .i64 s.length) := (rfl)
@[go_sem] theorem lenV_slice (S : St) (i o l c k : Nat) (t : Bool) : lenV S 2 (.slice i o l c k t) = some (.int .i64 l) := (rfl)
@[go_sem] theorem lenV_nil (S : St) : lenV S 2 .nilSlice = some (.int .i64 0) := (rfl)
@[go_sem] theorem lenV_nilMap (S : St) : lenV S 3 .nilMap = some (.int .i64 0) := (rfl)
@[go_sem] theorem calleeV_func (ok : Env) (f : Nat) (a b args : List V) : calleeV ok (.func (.func f) a b) args = if ok.can f then some (f, a ++ args ++ b) else none := (rfl)
section bin
variable (k : IntKind) (a b : Int) (s t : List UInt8)
@[go_sem] theorem binV_add : binV .add (.int k a) (.int k b) = some (.int k (k.wrap (a + b))) := by simp [binV]
@[go_sem] theorem binV_sub : binV .sub (.int k a) (.int k b) = some (.int k (k.wrap (a - b))) := by simp [binV]
@[go_sem] theorem binV_mul : binV .mul (.int k a) (.int k b) = some (.int k (k.wrap (a * b))) := by simp [binV]
@[go_sem] theorem binV_quo : binV .quo (.int k a) (.int k b) = if b = 0 then none else some (.int k (k.wrap (a.tdiv b))) := by simp [binV]
@[go_sem] theorem binV_rem : binV .rem (.int k a) (.int k b) = if b = 0 then none else some (.int k (a.tmod b)) := by simp [binV]
@[go_sem] theorem binV_eql : binV .eql (.int k a) (.int k b) = some (.bool (decide (a = b))) := by simp [binV]
@[go_sem] theorem binV_neq : binV .neq (.int k a) (.int k b) = some (.bool (!decide (a = b))) := by simp [binV]
@[go_sem] theorem binV_lss : binV .lss (.int k a) (.int k b) = some (.bool (decide (a < b))) := by simp [binV]
@[go_sem] theorem binV_leq : binV .leq (.int k a) (.int k b) = some (.bool (decide (a ≤ b))) := by simp [binV]
@[go_sem] theorem binV_gtr : binV .gtr (.int k a) (.int k b) = some (.bool (decide (b < a))) := by simp [binV]
@[go_sem] theorem binV_geq : binV .geq (.int k a) (.int k b) = some (.bool (decide (b ≤ a))) := by simp [binV]
@[go_sem] theorem binV_and : binV .and (.int k a) (.int k b) = some (.int k (intBits .and k a b)) := by simp [binV]
@[go_sem] theorem binV_or : binV .or (.int k a) (.int k b) = some (.int k (intBits .or k a b)) := by simp [binV]
@[go_sem] theorem binV_xor : binV .xor (.int k a) (.int k b) = some (.int k (intBits .xor k a b)) := by simp [binV]
@[go_sem] theorem binV_andNot : binV .andNot (.int k a) (.int k b) = some (.int k (intBits .andNot k a b)) := by simp [binV]
@[go_sem] theorem binV_shl (k' : IntKind) : binV .shl (.int k a) (.int k' b) = if b < 0 then none else some (.int k (k.wrap (a * 2 ^ (min b.toNat k.bits)))) := by simp [binV]
@[go_sem] theorem binV_shr (k' : IntKind) : binV .shr (.int k a) (.int k' b) = if b < 0 then none else some (.int k (a.fdiv (2 ^ (min b.toNat k.bits)))) := by simp [binV]
@[go_sem] theorem binV_sadd : binV .add (.str s) (.str t) = if s.length + t.length < 2 ^ 62 then some (.str (s ++ t)) else none := (rfl)
@[go_sem] theorem binV_seql : binV .eql (.str s) (.str t) = some (.bool (decide (s = t))) := (rfl)
@[go_sem] theorem binV_sneq : binV .neq (.str s) (.str t) = some (.bool (!decide (s = t))) := (rfl)
@[go_sem] theorem unV_neg : unV .neg (.int k a) = some (.int k (k.wrap (0 - a))) := (rfl)
@[go_sem] theorem unV_xor : unV .xor (.int k a) = some (.int k (intBits .xor k (if k.signed then -1 else k.max) a)) := (rfl)
@[go_sem] theorem unV_not (b : Bool) : unV .not (.bool b) = some (.bool (!b)) := (rfl)
end bin
@[go_sem] theorem ite_bool (c : Prop) [Decidable c] (x y : Bool) : (if c then V.bool x else V.bool y) = V.bool (if c then x else y) := by split <;> rfl


theorem beq_true_ (b : Bool) : (b == true) = b := by cases b <;> rfl
theorem beq_false_ (b : Bool) : (b == false) = !b := by cases b <;> rfl
attribute [go_sem] decide_true decide_false Bool.true_and Bool.false_and Bool.and_true Bool.and_false Bool.true_or Bool.false_or Bool.or_true Bool.or_false Bool.not_true Bool.not_false beq_self_eq_true beq_true_ beq_false_
  decide_eq_true_eq Bool.not_not ite_self Bool.true_eq_false Bool.false_eq_true

/-! ## loops -/
/-- What is asked behind a round. -/
def roundQ (I : Nat → List V → St → Prop) (n : Nat) (Q : PostC) (_t : Tag I) (_u : Tag Q) : PostC := fun e fr S => match e with | .normal => ∃ k, k < n ∧ I k fr S | e => Q e fr S
section
variable (I : Nat → List V → St → Prop) (n : Nat) (Q : PostC) (t : Tag I) (u : Tag Q) (fr : List V) (S : St)
@[go_sem] theorem roundQ_normal : roundQ I n Q t u .normal fr S = ∃ k, k < n ∧ I k fr S := (rfl)
@[go_sem] theorem roundQ_exit (j) : roundQ I n Q t u (.exit j) fr S = Q (.exit j) fr S := (rfl)
@[go_sem] theorem roundQ_ret : roundQ I n Q t u .ret fr S = Q .ret fr S := (rfl)
@[go_sem] theorem roundQ_panic (v) : roundQ I n Q t u (.panic v) fr S = Q (.panic v) fr S := (rfl)
end

/-- A loop by what holds at its head, and a number that falls. -/
theorem LoopA.ind {P : Program} {ok : Env} (hok : EnvOk P ok) {ac : AC} {Q : PostC} (I : Nat → List V → St → Prop)
    (h : ∀ n fr S, I n fr S → wpA ok (CallA P) (LoopA P) ac (roundQ I n Q ⟨⟩ ⟨⟩) fr S) : ∀ (n : Nat) (fr : List V) (S : St), I n fr S → LoopA P ac Q fr S := by
  intro n
  induction n using Nat.strongRecOn with
  | _ n ih =>
    intro fr S hI
    refine LoopA.round hok ?_
    refine wpA_mono (fun f args S Q Q' hq h => h.mono hq) (fun ac Q Q' fr S hq h => h.mono hq) ac _ _ ?_ fr S (h n fr S hI)
    intro e fr' S' he
    cases e with
    | normal =>
      obtain ⟨k, hk, hI'⟩ := he
      exact ih k hk fr' S' hI'
    | exit j => exact he
    | ret => exact he
    | panic v => exact he

/-! ## slices -/
/-- The place of a slice's element, and of a field in it. -/
def eltV (k : Nat) (v : V) (m off : Nat) : V :=
  match v with
  | .slice i o _ _ _ _ => .ptr i (o + m * k + off)
  | _ => .nilPtr

/-- A slice of n elements of k cells each, that reads as these cells. -/
def SlAt (S : St) (k : Nat) (v : V) (n : Nat) (cs : List V) : Prop :=
  n ≤ 4611686018427387904 ∧ cs.length = n * k ∧ ((v = .nilSlice ∧ n = 0) ∨ ∃ i o c t, v = .slice i o n c k t ∧ n ≤ c ∧ S.loads i o (n * k) = some cs)

section
variable {S : St} {k : Nat} {v : V} {n : Nat} {cs : List V} (h : SlAt S k v n cs)
include h

theorem SlAt.le : n ≤ 4611686018427387904 := h.1

theorem SlAt.len : lenV S 2 v = some (.int .i64 n) := by
  rcases h.2.2 with ⟨rfl, rfl⟩ | ⟨i, o, c, t, rfl, _⟩ <;> rfl

theorem SlAt.idx {kk : IntKind} {m : Nat} (hm : m < n) : idxAddrV k v (.int kk m) = some (eltV k v m 0) := by
  rcases h.2.2 with ⟨rfl, rfl⟩ | ⟨i, o, c, t, rfl, _⟩
  · omega
  · simp only [idxAddrV, eltV]
    rw [if_pos ⟨trivial, by omega, by omega⟩]
    simp

theorem SlAt.fld {m off : Nat} (hm : m < n) (f : Nat) : fieldAddrV f (eltV k v m off) = some (eltV k v m (off + f)) := by
  rcases h.2.2 with ⟨rfl, rfl⟩ | ⟨i, o, c, t, rfl, _⟩
  · omega
  · simp [fieldAddrV, eltV, Nat.add_assoc]

theorem SlAt.load {m off : Nat} (hm : m < n) (ho : off < k) : loadV S (eltV k v m off) = cs[m * k + off]? := by
  rcases h.2.2 with ⟨rfl, rfl⟩ | ⟨i, o, c, t, rfl, _, hld⟩
  · omega
  · have hlt : m * k + off < n * k := by
      have : (m + 1) * k ≤ n * k := Nat.mul_le_mul_right _ hm
      rw [Nat.succ_mul] at this; omega
    obtain ⟨vs, own, hg, hl, hcs⟩ := St.loads_pos hld (by omega)
    simp only [loadV, eltV, St.load1, hg]
    rw [hcs, List.getElem?_take, if_pos hlt, List.getElem?_drop]
    congr 1; omega
end

/-! ## regions that draw, where nothing is changed -/
theorem AO.quiet_run {ok : Env} {o : AO} (hq : o.quiet = true) (fr : List V) (S : St) : (∃ v S', o.run ok fr S = .val v S') ∨ o.run ok fr S = .stuck := by
  cases o <;> simp only [AO.quiet, Bool.false_eq_true] at hq <;>
    simp only [AO.run, rMove, rPick, rBuild, rLoad1, rLoadN, rNilCheck, rBin, rUn, rConvInt, rConvStr, rConvBS, rMkFunc, rMkIface, rFieldAddr, rIdxAddr, rIdxAddrArr, rField, rIdxStr, rIdxArr, rExtract, rSliceStr, rSliceSl, rLenK, rMinMax, rLookup, rEq, rCap, rAssert, rExt] <;>
    (repeat' split) <;> first | exact .inl ⟨_, _, rfl⟩ | exact .inr rfl

attribute [go_sem] List.all_cons List.all_nil AO.quiet fillV V.cells over Nat.reduceEqDiff and_self and_true true_and

theorem wrap_nat {m : Nat} (h : m < 4611686018427387905) : IntKind.i64.wrap ((m : Int) + 1) = ((m + 1 : Nat) : Int) := by
  rw [IntKind.wrap_i64]; omega

end Go.Th
end
