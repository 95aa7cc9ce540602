/- What the row of one statement stands on: a store, abstract code, functions of the program and their laws (ThQ1). -/
import Derived.Test.YtdpehfhhbmmhjaaThBTopkOrder19

section
/- Typed values, rounds and joins by arity: the words in which code is read without frames. -/
set_option linter.unusedVariables false
namespace Go.Th
open Go.RowKit Go.Lib

/-! ## types -/
inductive Ty where
  | any
  | bool
  | int (k : IntKind)
  | str

@[reducible] def Ty.den : Ty → Type
  | .any => V
  | .bool => Bool
  | .int _ => Int
  | .str => List UInt8

def Ty.toV : (t : Ty) → t.den → V
  | .any, v => v
  | .bool, b => .bool b
  | .int k, n => .int k n
  | .str, s => .str s

@[reducible] def Dens : List Ty → Type
  | [] => Unit
  | t :: ts => t.den × Dens ts

def toVs : (ts : List Ty) → Dens ts → List V
  | [], _ => []
  | t :: ts, x => t.toV x.1 :: toVs ts x.2

theorem toVs_length : ∀ (ts : List Ty) (x : Dens ts), (toVs ts x).length = ts.length
  | [], _ => rfl
  | t :: ts, x => by simp only [toVs, List.length_cons, toVs_length ts x.2]

/-- A value of one cell's type, or a row of cells. -/
inductive DT where
  | one (t : Ty)
  | agg (ts : List Ty)

def DT.tys : DT → List Ty
  | .one t => [t]
  | .agg ts => ts

def flats : List DT → List Ty
  | [] => []
  | d :: ds => d.tys ++ flats ds

/-- What a slot is told to hold. -/
inductive Ann where
  | no
  | dt (d : DT)
  | tup (ds : List DT)

/-! ## words -/
def setI (e : Int) (k : Int → Prop) : Prop := k e
def ifC (b : Bool) (X Y : Prop) : Prop := (b = true → X) ∧ (b = false → Y)
def ifS {α : Type} (o : Option α) (k : α → Prop) : Prop :=
  match o with
  | some a => k a
  | none => False

theorem ifS_ok {α : Type} {o : Option α} {k : α → Prop} (h : ifS o k) : ∃ a, o = some a ∧ k a := by
  cases o with
  | none => exact h.elim
  | some a => exact ⟨a, rfl, h⟩
theorem ifS_mk {α : Type} {o : Option α} {k : α → Prop} {a : α} (h : o = some a) (hk : k a) : ifS o k := by rw [h]; exact hk
theorem setI_mk {e : Int} {k : Int → Prop} {n : Int} (h : e = n) (hk : k n) : setI e k := by unfold setI; rw [h]; exact hk
theorem setI_intro {e : Int} {k : Int → Prop} (h : ∀ n, n = e → k n) : setI e k := h e rfl
theorem ifC_ok {b : Bool} {X Y : Prop} (h : ifC b X Y) : match b with | true => X | false => Y := by
  cases b
  · exact h.2 rfl
  · exact h.1 rfl
theorem ifC_dec {p : Prop} [Decidable p] {X Y : Prop} (hx : p → X) (hy : ¬ p → Y) : ifC (decide p) X Y :=
  ⟨fun h => hx (of_decide_eq_true h), fun h => hy (of_decide_eq_false h)⟩
theorem ifC_ndec {p : Prop} [Decidable p] {X Y : Prop} (hx : ¬ p → X) (hy : p → Y) : ifC (!decide p) X Y :=
  ⟨fun h => hx (by simpa using h), fun h => hy (by simpa using h)⟩
theorem ifC_tt {b : Bool} {X Y : Prop} (h : b = true) (hx : X) : ifC b X Y := ⟨fun _ => hx, fun h' => by rw [h] at h'; cases h'⟩
theorem ifC_ff {b : Bool} {X Y : Prop} (h : b = false) (hy : Y) : ifC b X Y := ⟨fun h' => by (rw [h] at h'; cases h'), fun _ => hy⟩
theorem ifC_pos {p : Prop} [Decidable p] {X Y : Prop} (h : p) (hx : X) : ifC (decide p) X Y := ifC_tt (decide_eq_true h) hx
theorem ifC_neg {p : Prop} [Decidable p] {X Y : Prop} (h : ¬ p) (hy : Y) : ifC (decide p) X Y := ifC_ff (decide_eq_false h) hy
theorem ifC_npos {p : Prop} [Decidable p] {X Y : Prop} (h : p) (hy : Y) : ifC (!decide p) X Y := ifC_ff (by simp [h]) hy
theorem ifC_nneg {p : Prop} [Decidable p] {X Y : Prop} (h : ¬ p) (hx : X) : ifC (!decide p) X Y := ifC_tt (by simp [h]) hx

theorem ifC_tt_ff {b : Bool} {X Y : Prop} (hx : b = true → X) (hy : b = false → Y) : ifC b X Y := ⟨hx, hy⟩

def exTy : Ty → (V → Prop) → Prop
  | .any, k => ∃ v : V, k v
  | .bool, k => ∃ b : Bool, k (.bool b)
  | .int kk, k => ∃ n : Int, k (.int kk n)
  | .str, k => ∃ s : List UInt8, k (.str s)
def exTys : List Ty → (List V → Prop) → Prop
  | [], k => k []
  | t :: ts, k => exTy t fun v => exTys ts fun vs => k (v :: vs)
def exDT : DT → (V → Prop) → Prop
  | .one t, k => exTy t k
  | .agg ts, k => exTys ts fun vs => k (.agg vs)
def exDTs : List DT → (List V → Prop) → Prop
  | [], k => k []
  | d :: ds, k => exDT d fun v => exDTs ds fun vs => k (v :: vs)
def ifO (ann : Ann) (o : Option V) (k : V → Prop) : Prop :=
  match ann with
  | .no => ifS o k
  | .dt d => exDT d fun v => o = some v ∧ k v
  | .tup ds => exDTs ds fun vs => o = some (.tuple vs) ∧ k (.tuple vs)

theorem exTy_ok {t : Ty} {k : V → Prop} (h : exTy t k) : ∃ v, k v := by
  cases t with
  | any => exact h
  | bool => exact ⟨_, h.choose_spec⟩
  | int kk => exact ⟨_, h.choose_spec⟩
  | str => exact ⟨_, h.choose_spec⟩
theorem exTys_ok : ∀ {ts : List Ty} {k : List V → Prop}, exTys ts k → ∃ vs, k vs
  | [], k, h => ⟨[], h⟩
  | t :: ts, k, h => by
    obtain ⟨v, h⟩ := exTy_ok h
    obtain ⟨vs, h⟩ := exTys_ok h
    exact ⟨_, h⟩
theorem exDT_ok {d : DT} {k : V → Prop} (h : exDT d k) : ∃ v, k v := by
  cases d with
  | one t => exact exTy_ok h
  | agg ts => obtain ⟨vs, h⟩ := exTys_ok h; exact ⟨_, h⟩
theorem exDTs_ok : ∀ {ds : List DT} {k : List V → Prop}, exDTs ds k → ∃ vs, k vs
  | [], k, h => ⟨[], h⟩
  | d :: ds, k, h => by
    obtain ⟨v, h⟩ := exDT_ok h
    obtain ⟨vs, h⟩ := exDTs_ok h
    exact ⟨_, h⟩
theorem ifO_ok {ann : Ann} {o : Option V} {k : V → Prop} (h : ifO ann o k) : ∃ v, o = some v ∧ k v := by
  cases ann with
  | no => exact ifS_ok h
  | dt d => exact exDT_ok h
  | tup ds => obtain ⟨vs, h⟩ := exDTs_ok h; exact ⟨_, h⟩

/-! ## rounds and joins -/
def LoopU {α : Type} (body : (α → St → Prop) → α → St → Prop) (a : α) (S : St) : Prop :=
  ∃ J : Nat → α → St → Prop, (∃ n, J n a S) ∧ ∀ n a S, J n a S → body (fun a' S' => ∃ k, k < n ∧ J k a' S') a S
def JoinU {α : Type} (body : (α → St → Prop) → Prop) (rest : α → St → Prop) : Prop := ∃ M : α → St → Prop, body M ∧ ∀ a S, M a S → rest a S

def Loop0 (body : (St → Prop) → St → Prop)  (S : St) : Prop :=
  ∃ J : Nat → St → Prop, (∃ n, J n S) ∧ ∀ n S, J n S → body (fun S' => ∃ m, m < n ∧ J m S') S
theorem Loop0.ind {body : (St → Prop) → St → Prop}  {S : St} (J : Nat → St → Prop) (n : Nat) (h0 : J n S) (h : ∀ n S, J n S → body (fun S' => ∃ m, m < n ∧ J m S') S) : Loop0 body S := ⟨J, ⟨n, h0⟩, h⟩
def Join0 (body : (St → Prop) → Prop) (rest : St → Prop) : Prop := ∃ M : St → Prop, body M ∧ ∀ S, M S → rest S
theorem Join0.all {body : (St → Prop) → Prop} {rest : St → Prop} (h : body rest) : Join0 body rest := ⟨rest, h, fun S h => h⟩
theorem Join0.mid {body : (St → Prop) → Prop} {rest : St → Prop} (M : St → Prop) (h : body M) (k : ∀ S, M S → rest S) : Join0 body rest := ⟨M, h, k⟩
def Loop1 {t0 : Type} (body : (t0 → St → Prop) → t0 → St → Prop)  (a0 : t0) (S : St) : Prop :=
  ∃ J : Nat → t0 → St → Prop, (∃ n, J n a0 S) ∧ ∀ n a0 S, J n a0 S → body (fun a0' S' => ∃ m, m < n ∧ J m a0' S') a0 S
theorem Loop1.ind {t0 : Type} {body : (t0 → St → Prop) → t0 → St → Prop}  {a0 : t0} {S : St} (J : Nat → t0 → St → Prop) (n : Nat) (h0 : J n a0 S) (h : ∀ n a0 S, J n a0 S → body (fun a0' S' => ∃ m, m < n ∧ J m a0' S') a0 S) : Loop1 body a0 S := ⟨J, ⟨n, h0⟩, h⟩
def Join1 {t0 : Type} (body : (t0 → St → Prop) → Prop) (rest : t0 → St → Prop) : Prop := ∃ M : t0 → St → Prop, body M ∧ ∀ a0 S, M a0 S → rest a0 S
theorem Join1.all {t0 : Type} {body : (t0 → St → Prop) → Prop} {rest : t0 → St → Prop} (h : body rest) : Join1 body rest := ⟨rest, h, fun _ S h => h⟩
theorem Join1.mid {t0 : Type} {body : (t0 → St → Prop) → Prop} {rest : t0 → St → Prop} (M : t0 → St → Prop) (h : body M) (k : ∀ a0 S, M a0 S → rest a0 S) : Join1 body rest := ⟨M, h, k⟩
def Loop2 {t0 t1 : Type} (body : (t0 → t1 → St → Prop) → t0 → t1 → St → Prop)  (a0 : t0) (a1 : t1) (S : St) : Prop :=
  ∃ J : Nat → t0 → t1 → St → Prop, (∃ n, J n a0 a1 S) ∧ ∀ n a0 a1 S, J n a0 a1 S → body (fun a0' a1' S' => ∃ m, m < n ∧ J m a0' a1' S') a0 a1 S
theorem Loop2.ind {t0 t1 : Type} {body : (t0 → t1 → St → Prop) → t0 → t1 → St → Prop}  {a0 : t0} {a1 : t1} {S : St} (J : Nat → t0 → t1 → St → Prop) (n : Nat) (h0 : J n a0 a1 S) (h : ∀ n a0 a1 S, J n a0 a1 S → body (fun a0' a1' S' => ∃ m, m < n ∧ J m a0' a1' S') a0 a1 S) : Loop2 body a0 a1 S := ⟨J, ⟨n, h0⟩, h⟩
def Join2 {t0 t1 : Type} (body : (t0 → t1 → St → Prop) → Prop) (rest : t0 → t1 → St → Prop) : Prop := ∃ M : t0 → t1 → St → Prop, body M ∧ ∀ a0 a1 S, M a0 a1 S → rest a0 a1 S
theorem Join2.all {t0 t1 : Type} {body : (t0 → t1 → St → Prop) → Prop} {rest : t0 → t1 → St → Prop} (h : body rest) : Join2 body rest := ⟨rest, h, fun _ _ S h => h⟩
theorem Join2.mid {t0 t1 : Type} {body : (t0 → t1 → St → Prop) → Prop} {rest : t0 → t1 → St → Prop} (M : t0 → t1 → St → Prop) (h : body M) (k : ∀ a0 a1 S, M a0 a1 S → rest a0 a1 S) : Join2 body rest := ⟨M, h, k⟩
def Loop3 {t0 t1 t2 : Type} (body : (t0 → t1 → t2 → St → Prop) → t0 → t1 → t2 → St → Prop)  (a0 : t0) (a1 : t1) (a2 : t2) (S : St) : Prop :=
  ∃ J : Nat → t0 → t1 → t2 → St → Prop, (∃ n, J n a0 a1 a2 S) ∧ ∀ n a0 a1 a2 S, J n a0 a1 a2 S → body (fun a0' a1' a2' S' => ∃ m, m < n ∧ J m a0' a1' a2' S') a0 a1 a2 S
theorem Loop3.ind {t0 t1 t2 : Type} {body : (t0 → t1 → t2 → St → Prop) → t0 → t1 → t2 → St → Prop}  {a0 : t0} {a1 : t1} {a2 : t2} {S : St} (J : Nat → t0 → t1 → t2 → St → Prop) (n : Nat) (h0 : J n a0 a1 a2 S) (h : ∀ n a0 a1 a2 S, J n a0 a1 a2 S → body (fun a0' a1' a2' S' => ∃ m, m < n ∧ J m a0' a1' a2' S') a0 a1 a2 S) : Loop3 body a0 a1 a2 S := ⟨J, ⟨n, h0⟩, h⟩
def Join3 {t0 t1 t2 : Type} (body : (t0 → t1 → t2 → St → Prop) → Prop) (rest : t0 → t1 → t2 → St → Prop) : Prop := ∃ M : t0 → t1 → t2 → St → Prop, body M ∧ ∀ a0 a1 a2 S, M a0 a1 a2 S → rest a0 a1 a2 S
theorem Join3.all {t0 t1 t2 : Type} {body : (t0 → t1 → t2 → St → Prop) → Prop} {rest : t0 → t1 → t2 → St → Prop} (h : body rest) : Join3 body rest := ⟨rest, h, fun _ _ _ S h => h⟩
theorem Join3.mid {t0 t1 t2 : Type} {body : (t0 → t1 → t2 → St → Prop) → Prop} {rest : t0 → t1 → t2 → St → Prop} (M : t0 → t1 → t2 → St → Prop) (h : body M) (k : ∀ a0 a1 a2 S, M a0 a1 a2 S → rest a0 a1 a2 S) : Join3 body rest := ⟨M, h, k⟩
def Loop4 {t0 t1 t2 t3 : Type} (body : (t0 → t1 → t2 → t3 → St → Prop) → t0 → t1 → t2 → t3 → St → Prop)  (a0 : t0) (a1 : t1) (a2 : t2) (a3 : t3) (S : St) : Prop :=
  ∃ J : Nat → t0 → t1 → t2 → t3 → St → Prop, (∃ n, J n a0 a1 a2 a3 S) ∧ ∀ n a0 a1 a2 a3 S, J n a0 a1 a2 a3 S → body (fun a0' a1' a2' a3' S' => ∃ m, m < n ∧ J m a0' a1' a2' a3' S') a0 a1 a2 a3 S
theorem Loop4.ind {t0 t1 t2 t3 : Type} {body : (t0 → t1 → t2 → t3 → St → Prop) → t0 → t1 → t2 → t3 → St → Prop}  {a0 : t0} {a1 : t1} {a2 : t2} {a3 : t3} {S : St} (J : Nat → t0 → t1 → t2 → t3 → St → Prop) (n : Nat) (h0 : J n a0 a1 a2 a3 S) (h : ∀ n a0 a1 a2 a3 S, J n a0 a1 a2 a3 S → body (fun a0' a1' a2' a3' S' => ∃ m, m < n ∧ J m a0' a1' a2' a3' S') a0 a1 a2 a3 S) : Loop4 body a0 a1 a2 a3 S := ⟨J, ⟨n, h0⟩, h⟩
def Join4 {t0 t1 t2 t3 : Type} (body : (t0 → t1 → t2 → t3 → St → Prop) → Prop) (rest : t0 → t1 → t2 → t3 → St → Prop) : Prop := ∃ M : t0 → t1 → t2 → t3 → St → Prop, body M ∧ ∀ a0 a1 a2 a3 S, M a0 a1 a2 a3 S → rest a0 a1 a2 a3 S
theorem Join4.all {t0 t1 t2 t3 : Type} {body : (t0 → t1 → t2 → t3 → St → Prop) → Prop} {rest : t0 → t1 → t2 → t3 → St → Prop} (h : body rest) : Join4 body rest := ⟨rest, h, fun _ _ _ _ S h => h⟩
theorem Join4.mid {t0 t1 t2 t3 : Type} {body : (t0 → t1 → t2 → t3 → St → Prop) → Prop} {rest : t0 → t1 → t2 → t3 → St → Prop} (M : t0 → t1 → t2 → t3 → St → Prop) (h : body M) (k : ∀ a0 a1 a2 a3 S, M a0 a1 a2 a3 S → rest a0 a1 a2 a3 S) : Join4 body rest := ⟨M, h, k⟩
def Loop5 {t0 t1 t2 t3 t4 : Type} (body : (t0 → t1 → t2 → t3 → t4 → St → Prop) → t0 → t1 → t2 → t3 → t4 → St → Prop)  (a0 : t0) (a1 : t1) (a2 : t2) (a3 : t3) (a4 : t4) (S : St) : Prop :=
  ∃ J : Nat → t0 → t1 → t2 → t3 → t4 → St → Prop, (∃ n, J n a0 a1 a2 a3 a4 S) ∧ ∀ n a0 a1 a2 a3 a4 S, J n a0 a1 a2 a3 a4 S → body (fun a0' a1' a2' a3' a4' S' => ∃ m, m < n ∧ J m a0' a1' a2' a3' a4' S') a0 a1 a2 a3 a4 S
theorem Loop5.ind {t0 t1 t2 t3 t4 : Type} {body : (t0 → t1 → t2 → t3 → t4 → St → Prop) → t0 → t1 → t2 → t3 → t4 → St → Prop}  {a0 : t0} {a1 : t1} {a2 : t2} {a3 : t3} {a4 : t4} {S : St} (J : Nat → t0 → t1 → t2 → t3 → t4 → St → Prop) (n : Nat) (h0 : J n a0 a1 a2 a3 a4 S) (h : ∀ n a0 a1 a2 a3 a4 S, J n a0 a1 a2 a3 a4 S → body (fun a0' a1' a2' a3' a4' S' => ∃ m, m < n ∧ J m a0' a1' a2' a3' a4' S') a0 a1 a2 a3 a4 S) : Loop5 body a0 a1 a2 a3 a4 S := ⟨J, ⟨n, h0⟩, h⟩
def Join5 {t0 t1 t2 t3 t4 : Type} (body : (t0 → t1 → t2 → t3 → t4 → St → Prop) → Prop) (rest : t0 → t1 → t2 → t3 → t4 → St → Prop) : Prop := ∃ M : t0 → t1 → t2 → t3 → t4 → St → Prop, body M ∧ ∀ a0 a1 a2 a3 a4 S, M a0 a1 a2 a3 a4 S → rest a0 a1 a2 a3 a4 S
theorem Join5.all {t0 t1 t2 t3 t4 : Type} {body : (t0 → t1 → t2 → t3 → t4 → St → Prop) → Prop} {rest : t0 → t1 → t2 → t3 → t4 → St → Prop} (h : body rest) : Join5 body rest := ⟨rest, h, fun _ _ _ _ _ S h => h⟩
theorem Join5.mid {t0 t1 t2 t3 t4 : Type} {body : (t0 → t1 → t2 → t3 → t4 → St → Prop) → Prop} {rest : t0 → t1 → t2 → t3 → t4 → St → Prop} (M : t0 → t1 → t2 → t3 → t4 → St → Prop) (h : body M) (k : ∀ a0 a1 a2 a3 a4 S, M a0 a1 a2 a3 a4 S → rest a0 a1 a2 a3 a4 S) : Join5 body rest := ⟨M, h, k⟩
def Loop6 {t0 t1 t2 t3 t4 t5 : Type} (body : (t0 → t1 → t2 → t3 → t4 → t5 → St → Prop) → t0 → t1 → t2 → t3 → t4 → t5 → St → Prop)  (a0 : t0) (a1 : t1) (a2 : t2) (a3 : t3) (a4 : t4) (a5 : t5) (S : St) : Prop :=
  ∃ J : Nat → t0 → t1 → t2 → t3 → t4 → t5 → St → Prop, (∃ n, J n a0 a1 a2 a3 a4 a5 S) ∧ ∀ n a0 a1 a2 a3 a4 a5 S, J n a0 a1 a2 a3 a4 a5 S → body (fun a0' a1' a2' a3' a4' a5' S' => ∃ m, m < n ∧ J m a0' a1' a2' a3' a4' a5' S') a0 a1 a2 a3 a4 a5 S
theorem Loop6.ind {t0 t1 t2 t3 t4 t5 : Type} {body : (t0 → t1 → t2 → t3 → t4 → t5 → St → Prop) → t0 → t1 → t2 → t3 → t4 → t5 → St → Prop}  {a0 : t0} {a1 : t1} {a2 : t2} {a3 : t3} {a4 : t4} {a5 : t5} {S : St} (J : Nat → t0 → t1 → t2 → t3 → t4 → t5 → St → Prop) (n : Nat) (h0 : J n a0 a1 a2 a3 a4 a5 S) (h : ∀ n a0 a1 a2 a3 a4 a5 S, J n a0 a1 a2 a3 a4 a5 S → body (fun a0' a1' a2' a3' a4' a5' S' => ∃ m, m < n ∧ J m a0' a1' a2' a3' a4' a5' S') a0 a1 a2 a3 a4 a5 S) : Loop6 body a0 a1 a2 a3 a4 a5 S := ⟨J, ⟨n, h0⟩, h⟩
def Join6 {t0 t1 t2 t3 t4 t5 : Type} (body : (t0 → t1 → t2 → t3 → t4 → t5 → St → Prop) → Prop) (rest : t0 → t1 → t2 → t3 → t4 → t5 → St → Prop) : Prop := ∃ M : t0 → t1 → t2 → t3 → t4 → t5 → St → Prop, body M ∧ ∀ a0 a1 a2 a3 a4 a5 S, M a0 a1 a2 a3 a4 a5 S → rest a0 a1 a2 a3 a4 a5 S
theorem Join6.all {t0 t1 t2 t3 t4 t5 : Type} {body : (t0 → t1 → t2 → t3 → t4 → t5 → St → Prop) → Prop} {rest : t0 → t1 → t2 → t3 → t4 → t5 → St → Prop} (h : body rest) : Join6 body rest := ⟨rest, h, fun _ _ _ _ _ _ S h => h⟩
theorem Join6.mid {t0 t1 t2 t3 t4 t5 : Type} {body : (t0 → t1 → t2 → t3 → t4 → t5 → St → Prop) → Prop} {rest : t0 → t1 → t2 → t3 → t4 → t5 → St → Prop} (M : t0 → t1 → t2 → t3 → t4 → t5 → St → Prop) (h : body M) (k : ∀ a0 a1 a2 a3 a4 a5 S, M a0 a1 a2 a3 a4 a5 S → rest a0 a1 a2 a3 a4 a5 S) : Join6 body rest := ⟨M, h, k⟩
def Loop7 {t0 t1 t2 t3 t4 t5 t6 : Type} (body : (t0 → t1 → t2 → t3 → t4 → t5 → t6 → St → Prop) → t0 → t1 → t2 → t3 → t4 → t5 → t6 → St → Prop)  (a0 : t0) (a1 : t1) (a2 : t2) (a3 : t3) (a4 : t4) (a5 : t5) (a6 : t6) (S : St) : Prop :=
  ∃ J : Nat → t0 → t1 → t2 → t3 → t4 → t5 → t6 → St → Prop, (∃ n, J n a0 a1 a2 a3 a4 a5 a6 S) ∧ ∀ n a0 a1 a2 a3 a4 a5 a6 S, J n a0 a1 a2 a3 a4 a5 a6 S → body (fun a0' a1' a2' a3' a4' a5' a6' S' => ∃ m, m < n ∧ J m a0' a1' a2' a3' a4' a5' a6' S') a0 a1 a2 a3 a4 a5 a6 S
theorem Loop7.ind {t0 t1 t2 t3 t4 t5 t6 : Type} {body : (t0 → t1 → t2 → t3 → t4 → t5 → t6 → St → Prop) → t0 → t1 → t2 → t3 → t4 → t5 → t6 → St → Prop}  {a0 : t0} {a1 : t1} {a2 : t2} {a3 : t3} {a4 : t4} {a5 : t5} {a6 : t6} {S : St} (J : Nat → t0 → t1 → t2 → t3 → t4 → t5 → t6 → St → Prop) (n : Nat) (h0 : J n a0 a1 a2 a3 a4 a5 a6 S) (h : ∀ n a0 a1 a2 a3 a4 a5 a6 S, J n a0 a1 a2 a3 a4 a5 a6 S → body (fun a0' a1' a2' a3' a4' a5' a6' S' => ∃ m, m < n ∧ J m a0' a1' a2' a3' a4' a5' a6' S') a0 a1 a2 a3 a4 a5 a6 S) : Loop7 body a0 a1 a2 a3 a4 a5 a6 S := ⟨J, ⟨n, h0⟩, h⟩
def Join7 {t0 t1 t2 t3 t4 t5 t6 : Type} (body : (t0 → t1 → t2 → t3 → t4 → t5 → t6 → St → Prop) → Prop) (rest : t0 → t1 → t2 → t3 → t4 → t5 → t6 → St → Prop) : Prop := ∃ M : t0 → t1 → t2 → t3 → t4 → t5 → t6 → St → Prop, body M ∧ ∀ a0 a1 a2 a3 a4 a5 a6 S, M a0 a1 a2 a3 a4 a5 a6 S → rest a0 a1 a2 a3 a4 a5 a6 S
theorem Join7.all {t0 t1 t2 t3 t4 t5 t6 : Type} {body : (t0 → t1 → t2 → t3 → t4 → t5 → t6 → St → Prop) → Prop} {rest : t0 → t1 → t2 → t3 → t4 → t5 → t6 → St → Prop} (h : body rest) : Join7 body rest := ⟨rest, h, fun _ _ _ _ _ _ _ S h => h⟩
theorem Join7.mid {t0 t1 t2 t3 t4 t5 t6 : Type} {body : (t0 → t1 → t2 → t3 → t4 → t5 → t6 → St → Prop) → Prop} {rest : t0 → t1 → t2 → t3 → t4 → t5 → t6 → St → Prop} (M : t0 → t1 → t2 → t3 → t4 → t5 → t6 → St → Prop) (h : body M) (k : ∀ a0 a1 a2 a3 a4 a5 a6 S, M a0 a1 a2 a3 a4 a5 a6 S → rest a0 a1 a2 a3 a4 a5 a6 S) : Join7 body rest := ⟨M, h, k⟩
def Loop8 {t0 t1 t2 t3 t4 t5 t6 t7 : Type} (body : (t0 → t1 → t2 → t3 → t4 → t5 → t6 → t7 → St → Prop) → t0 → t1 → t2 → t3 → t4 → t5 → t6 → t7 → St → Prop)  (a0 : t0) (a1 : t1) (a2 : t2) (a3 : t3) (a4 : t4) (a5 : t5) (a6 : t6) (a7 : t7) (S : St) : Prop :=
  ∃ J : Nat → t0 → t1 → t2 → t3 → t4 → t5 → t6 → t7 → St → Prop, (∃ n, J n a0 a1 a2 a3 a4 a5 a6 a7 S) ∧ ∀ n a0 a1 a2 a3 a4 a5 a6 a7 S, J n a0 a1 a2 a3 a4 a5 a6 a7 S → body (fun a0' a1' a2' a3' a4' a5' a6' a7' S' => ∃ m, m < n ∧ J m a0' a1' a2' a3' a4' a5' a6' a7' S') a0 a1 a2 a3 a4 a5 a6 a7 S
theorem Loop8.ind {t0 t1 t2 t3 t4 t5 t6 t7 : Type} {body : (t0 → t1 → t2 → t3 → t4 → t5 → t6 → t7 → St → Prop) → t0 → t1 → t2 → t3 → t4 → t5 → t6 → t7 → St → Prop}  {a0 : t0} {a1 : t1} {a2 : t2} {a3 : t3} {a4 : t4} {a5 : t5} {a6 : t6} {a7 : t7} {S : St} (J : Nat → t0 → t1 → t2 → t3 → t4 → t5 → t6 → t7 → St → Prop) (n : Nat) (h0 : J n a0 a1 a2 a3 a4 a5 a6 a7 S) (h : ∀ n a0 a1 a2 a3 a4 a5 a6 a7 S, J n a0 a1 a2 a3 a4 a5 a6 a7 S → body (fun a0' a1' a2' a3' a4' a5' a6' a7' S' => ∃ m, m < n ∧ J m a0' a1' a2' a3' a4' a5' a6' a7' S') a0 a1 a2 a3 a4 a5 a6 a7 S) : Loop8 body a0 a1 a2 a3 a4 a5 a6 a7 S := ⟨J, ⟨n, h0⟩, h⟩
def Join8 {t0 t1 t2 t3 t4 t5 t6 t7 : Type} (body : (t0 → t1 → t2 → t3 → t4 → t5 → t6 → t7 → St → Prop) → Prop) (rest : t0 → t1 → t2 → t3 → t4 → t5 → t6 → t7 → St → Prop) : Prop := ∃ M : t0 → t1 → t2 → t3 → t4 → t5 → t6 → t7 → St → Prop, body M ∧ ∀ a0 a1 a2 a3 a4 a5 a6 a7 S, M a0 a1 a2 a3 a4 a5 a6 a7 S → rest a0 a1 a2 a3 a4 a5 a6 a7 S
theorem Join8.all {t0 t1 t2 t3 t4 t5 t6 t7 : Type} {body : (t0 → t1 → t2 → t3 → t4 → t5 → t6 → t7 → St → Prop) → Prop} {rest : t0 → t1 → t2 → t3 → t4 → t5 → t6 → t7 → St → Prop} (h : body rest) : Join8 body rest := ⟨rest, h, fun _ _ _ _ _ _ _ _ S h => h⟩
theorem Join8.mid {t0 t1 t2 t3 t4 t5 t6 t7 : Type} {body : (t0 → t1 → t2 → t3 → t4 → t5 → t6 → t7 → St → Prop) → Prop} {rest : t0 → t1 → t2 → t3 → t4 → t5 → t6 → t7 → St → Prop} (M : t0 → t1 → t2 → t3 → t4 → t5 → t6 → t7 → St → Prop) (h : body M) (k : ∀ a0 a1 a2 a3 a4 a5 a6 a7 S, M a0 a1 a2 a3 a4 a5 a6 a7 S → rest a0 a1 a2 a3 a4 a5 a6 a7 S) : Join8 body rest := ⟨M, h, k⟩
def Loop9 {t0 t1 t2 t3 t4 t5 t6 t7 t8 : Type} (body : (t0 → t1 → t2 → t3 → t4 → t5 → t6 → t7 → t8 → St → Prop) → t0 → t1 → t2 → t3 → t4 → t5 → t6 → t7 → t8 → St → Prop)  (a0 : t0) (a1 : t1) (a2 : t2) (a3 : t3) (a4 : t4) (a5 : t5) (a6 : t6) (a7 : t7) (a8 : t8) (S : St) : Prop :=
  ∃ J : Nat → t0 → t1 → t2 → t3 → t4 → t5 → t6 → t7 → t8 → St → Prop, (∃ n, J n a0 a1 a2 a3 a4 a5 a6 a7 a8 S) ∧ ∀ n a0 a1 a2 a3 a4 a5 a6 a7 a8 S, J n a0 a1 a2 a3 a4 a5 a6 a7 a8 S → body (fun a0' a1' a2' a3' a4' a5' a6' a7' a8' S' => ∃ m, m < n ∧ J m a0' a1' a2' a3' a4' a5' a6' a7' a8' S') a0 a1 a2 a3 a4 a5 a6 a7 a8 S
theorem Loop9.ind {t0 t1 t2 t3 t4 t5 t6 t7 t8 : Type} {body : (t0 → t1 → t2 → t3 → t4 → t5 → t6 → t7 → t8 → St → Prop) → t0 → t1 → t2 → t3 → t4 → t5 → t6 → t7 → t8 → St → Prop}  {a0 : t0} {a1 : t1} {a2 : t2} {a3 : t3} {a4 : t4} {a5 : t5} {a6 : t6} {a7 : t7} {a8 : t8} {S : St} (J : Nat → t0 → t1 → t2 → t3 → t4 → t5 → t6 → t7 → t8 → St → Prop) (n : Nat) (h0 : J n a0 a1 a2 a3 a4 a5 a6 a7 a8 S) (h : ∀ n a0 a1 a2 a3 a4 a5 a6 a7 a8 S, J n a0 a1 a2 a3 a4 a5 a6 a7 a8 S → body (fun a0' a1' a2' a3' a4' a5' a6' a7' a8' S' => ∃ m, m < n ∧ J m a0' a1' a2' a3' a4' a5' a6' a7' a8' S') a0 a1 a2 a3 a4 a5 a6 a7 a8 S) : Loop9 body a0 a1 a2 a3 a4 a5 a6 a7 a8 S := ⟨J, ⟨n, h0⟩, h⟩
def Join9 {t0 t1 t2 t3 t4 t5 t6 t7 t8 : Type} (body : (t0 → t1 → t2 → t3 → t4 → t5 → t6 → t7 → t8 → St → Prop) → Prop) (rest : t0 → t1 → t2 → t3 → t4 → t5 → t6 → t7 → t8 → St → Prop) : Prop := ∃ M : t0 → t1 → t2 → t3 → t4 → t5 → t6 → t7 → t8 → St → Prop, body M ∧ ∀ a0 a1 a2 a3 a4 a5 a6 a7 a8 S, M a0 a1 a2 a3 a4 a5 a6 a7 a8 S → rest a0 a1 a2 a3 a4 a5 a6 a7 a8 S
theorem Join9.all {t0 t1 t2 t3 t4 t5 t6 t7 t8 : Type} {body : (t0 → t1 → t2 → t3 → t4 → t5 → t6 → t7 → t8 → St → Prop) → Prop} {rest : t0 → t1 → t2 → t3 → t4 → t5 → t6 → t7 → t8 → St → Prop} (h : body rest) : Join9 body rest := ⟨rest, h, fun _ _ _ _ _ _ _ _ _ S h => h⟩
theorem Join9.mid {t0 t1 t2 t3 t4 t5 t6 t7 t8 : Type} {body : (t0 → t1 → t2 → t3 → t4 → t5 → t6 → t7 → t8 → St → Prop) → Prop} {rest : t0 → t1 → t2 → t3 → t4 → t5 → t6 → t7 → t8 → St → Prop} (M : t0 → t1 → t2 → t3 → t4 → t5 → t6 → t7 → t8 → St → Prop) (h : body M) (k : ∀ a0 a1 a2 a3 a4 a5 a6 a7 a8 S, M a0 a1 a2 a3 a4 a5 a6 a7 a8 S → rest a0 a1 a2 a3 a4 a5 a6 a7 a8 S) : Join9 body rest := ⟨M, h, k⟩
def Loop10 {t0 t1 t2 t3 t4 t5 t6 t7 t8 t9 : Type} (body : (t0 → t1 → t2 → t3 → t4 → t5 → t6 → t7 → t8 → t9 → St → Prop) → t0 → t1 → t2 → t3 → t4 → t5 → t6 → t7 → t8 → t9 → St → Prop)  (a0 : t0) (a1 : t1) (a2 : t2) (a3 : t3) (a4 : t4) (a5 : t5) (a6 : t6) (a7 : t7) (a8 : t8) (a9 : t9) (S : St) : Prop :=
  ∃ J : Nat → t0 → t1 → t2 → t3 → t4 → t5 → t6 → t7 → t8 → t9 → St → Prop, (∃ n, J n a0 a1 a2 a3 a4 a5 a6 a7 a8 a9 S) ∧ ∀ n a0 a1 a2 a3 a4 a5 a6 a7 a8 a9 S, J n a0 a1 a2 a3 a4 a5 a6 a7 a8 a9 S → body (fun a0' a1' a2' a3' a4' a5' a6' a7' a8' a9' S' => ∃ m, m < n ∧ J m a0' a1' a2' a3' a4' a5' a6' a7' a8' a9' S') a0 a1 a2 a3 a4 a5 a6 a7 a8 a9 S
theorem Loop10.ind {t0 t1 t2 t3 t4 t5 t6 t7 t8 t9 : Type} {body : (t0 → t1 → t2 → t3 → t4 → t5 → t6 → t7 → t8 → t9 → St → Prop) → t0 → t1 → t2 → t3 → t4 → t5 → t6 → t7 → t8 → t9 → St → Prop}  {a0 : t0} {a1 : t1} {a2 : t2} {a3 : t3} {a4 : t4} {a5 : t5} {a6 : t6} {a7 : t7} {a8 : t8} {a9 : t9} {S : St} (J : Nat → t0 → t1 → t2 → t3 → t4 → t5 → t6 → t7 → t8 → t9 → St → Prop) (n : Nat) (h0 : J n a0 a1 a2 a3 a4 a5 a6 a7 a8 a9 S) (h : ∀ n a0 a1 a2 a3 a4 a5 a6 a7 a8 a9 S, J n a0 a1 a2 a3 a4 a5 a6 a7 a8 a9 S → body (fun a0' a1' a2' a3' a4' a5' a6' a7' a8' a9' S' => ∃ m, m < n ∧ J m a0' a1' a2' a3' a4' a5' a6' a7' a8' a9' S') a0 a1 a2 a3 a4 a5 a6 a7 a8 a9 S) : Loop10 body a0 a1 a2 a3 a4 a5 a6 a7 a8 a9 S := ⟨J, ⟨n, h0⟩, h⟩
def Join10 {t0 t1 t2 t3 t4 t5 t6 t7 t8 t9 : Type} (body : (t0 → t1 → t2 → t3 → t4 → t5 → t6 → t7 → t8 → t9 → St → Prop) → Prop) (rest : t0 → t1 → t2 → t3 → t4 → t5 → t6 → t7 → t8 → t9 → St → Prop) : Prop := ∃ M : t0 → t1 → t2 → t3 → t4 → t5 → t6 → t7 → t8 → t9 → St → Prop, body M ∧ ∀ a0 a1 a2 a3 a4 a5 a6 a7 a8 a9 S, M a0 a1 a2 a3 a4 a5 a6 a7 a8 a9 S → rest a0 a1 a2 a3 a4 a5 a6 a7 a8 a9 S
theorem Join10.all {t0 t1 t2 t3 t4 t5 t6 t7 t8 t9 : Type} {body : (t0 → t1 → t2 → t3 → t4 → t5 → t6 → t7 → t8 → t9 → St → Prop) → Prop} {rest : t0 → t1 → t2 → t3 → t4 → t5 → t6 → t7 → t8 → t9 → St → Prop} (h : body rest) : Join10 body rest := ⟨rest, h, fun _ _ _ _ _ _ _ _ _ _ S h => h⟩
theorem Join10.mid {t0 t1 t2 t3 t4 t5 t6 t7 t8 t9 : Type} {body : (t0 → t1 → t2 → t3 → t4 → t5 → t6 → t7 → t8 → t9 → St → Prop) → Prop} {rest : t0 → t1 → t2 → t3 → t4 → t5 → t6 → t7 → t8 → t9 → St → Prop} (M : t0 → t1 → t2 → t3 → t4 → t5 → t6 → t7 → t8 → t9 → St → Prop) (h : body M) (k : ∀ a0 a1 a2 a3 a4 a5 a6 a7 a8 a9 S, M a0 a1 a2 a3 a4 a5 a6 a7 a8 a9 S → rest a0 a1 a2 a3 a4 a5 a6 a7 a8 a9 S) : Join10 body rest := ⟨M, h, k⟩
def Loop11 {t0 t1 t2 t3 t4 t5 t6 t7 t8 t9 t10 : Type} (body : (t0 → t1 → t2 → t3 → t4 → t5 → t6 → t7 → t8 → t9 → t10 → St → Prop) → t0 → t1 → t2 → t3 → t4 → t5 → t6 → t7 → t8 → t9 → t10 → St → Prop)  (a0 : t0) (a1 : t1) (a2 : t2) (a3 : t3) (a4 : t4) (a5 : t5) (a6 : t6) (a7 : t7) (a8 : t8) (a9 : t9) (a10 : t10) (S : St) : Prop :=
  ∃ J : Nat → t0 → t1 → t2 → t3 → t4 → t5 → t6 → t7 → t8 → t9 → t10 → St → Prop, (∃ n, J n a0 a1 a2 a3 a4 a5 a6 a7 a8 a9 a10 S) ∧ ∀ n a0 a1 a2 a3 a4 a5 a6 a7 a8 a9 a10 S, J n a0 a1 a2 a3 a4 a5 a6 a7 a8 a9 a10 S → body (fun a0' a1' a2' a3' a4' a5' a6' a7' a8' a9' a10' S' => ∃ m, m < n ∧ J m a0' a1' a2' a3' a4' a5' a6' a7' a8' a9' a10' S') a0 a1 a2 a3 a4 a5 a6 a7 a8 a9 a10 S
theorem Loop11.ind {t0 t1 t2 t3 t4 t5 t6 t7 t8 t9 t10 : Type} {body : (t0 → t1 → t2 → t3 → t4 → t5 → t6 → t7 → t8 → t9 → t10 → St → Prop) → t0 → t1 → t2 → t3 → t4 → t5 → t6 → t7 → t8 → t9 → t10 → St → Prop}  {a0 : t0} {a1 : t1} {a2 : t2} {a3 : t3} {a4 : t4} {a5 : t5} {a6 : t6} {a7 : t7} {a8 : t8} {a9 : t9} {a10 : t10} {S : St} (J : Nat → t0 → t1 → t2 → t3 → t4 → t5 → t6 → t7 → t8 → t9 → t10 → St → Prop) (n : Nat) (h0 : J n a0 a1 a2 a3 a4 a5 a6 a7 a8 a9 a10 S) (h : ∀ n a0 a1 a2 a3 a4 a5 a6 a7 a8 a9 a10 S, J n a0 a1 a2 a3 a4 a5 a6 a7 a8 a9 a10 S → body (fun a0' a1' a2' a3' a4' a5' a6' a7' a8' a9' a10' S' => ∃ m, m < n ∧ J m a0' a1' a2' a3' a4' a5' a6' a7' a8' a9' a10' S') a0 a1 a2 a3 a4 a5 a6 a7 a8 a9 a10 S) : Loop11 body a0 a1 a2 a3 a4 a5 a6 a7 a8 a9 a10 S := ⟨J, ⟨n, h0⟩, h⟩
def Join11 {t0 t1 t2 t3 t4 t5 t6 t7 t8 t9 t10 : Type} (body : (t0 → t1 → t2 → t3 → t4 → t5 → t6 → t7 → t8 → t9 → t10 → St → Prop) → Prop) (rest : t0 → t1 → t2 → t3 → t4 → t5 → t6 → t7 → t8 → t9 → t10 → St → Prop) : Prop := ∃ M : t0 → t1 → t2 → t3 → t4 → t5 → t6 → t7 → t8 → t9 → t10 → St → Prop, body M ∧ ∀ a0 a1 a2 a3 a4 a5 a6 a7 a8 a9 a10 S, M a0 a1 a2 a3 a4 a5 a6 a7 a8 a9 a10 S → rest a0 a1 a2 a3 a4 a5 a6 a7 a8 a9 a10 S
theorem Join11.all {t0 t1 t2 t3 t4 t5 t6 t7 t8 t9 t10 : Type} {body : (t0 → t1 → t2 → t3 → t4 → t5 → t6 → t7 → t8 → t9 → t10 → St → Prop) → Prop} {rest : t0 → t1 → t2 → t3 → t4 → t5 → t6 → t7 → t8 → t9 → t10 → St → Prop} (h : body rest) : Join11 body rest := ⟨rest, h, fun _ _ _ _ _ _ _ _ _ _ _ S h => h⟩
theorem Join11.mid {t0 t1 t2 t3 t4 t5 t6 t7 t8 t9 t10 : Type} {body : (t0 → t1 → t2 → t3 → t4 → t5 → t6 → t7 → t8 → t9 → t10 → St → Prop) → Prop} {rest : t0 → t1 → t2 → t3 → t4 → t5 → t6 → t7 → t8 → t9 → t10 → St → Prop} (M : t0 → t1 → t2 → t3 → t4 → t5 → t6 → t7 → t8 → t9 → t10 → St → Prop) (h : body M) (k : ∀ a0 a1 a2 a3 a4 a5 a6 a7 a8 a9 a10 S, M a0 a1 a2 a3 a4 a5 a6 a7 a8 a9 a10 S → rest a0 a1 a2 a3 a4 a5 a6 a7 a8 a9 a10 S) : Join11 body rest := ⟨M, h, k⟩
def Loop12 {t0 t1 t2 t3 t4 t5 t6 t7 t8 t9 t10 t11 : Type} (body : (t0 → t1 → t2 → t3 → t4 → t5 → t6 → t7 → t8 → t9 → t10 → t11 → St → Prop) → t0 → t1 → t2 → t3 → t4 → t5 → t6 → t7 → t8 → t9 → t10 → t11 → St → Prop)  (a0 : t0) (a1 : t1) (a2 : t2) (a3 : t3) (a4 : t4) (a5 : t5) (a6 : t6) (a7 : t7) (a8 : t8) (a9 : t9) (a10 : t10) (a11 : t11) (S : St) : Prop :=
  ∃ J : Nat → t0 → t1 → t2 → t3 → t4 → t5 → t6 → t7 → t8 → t9 → t10 → t11 → St → Prop, (∃ n, J n a0 a1 a2 a3 a4 a5 a6 a7 a8 a9 a10 a11 S) ∧ ∀ n a0 a1 a2 a3 a4 a5 a6 a7 a8 a9 a10 a11 S, J n a0 a1 a2 a3 a4 a5 a6 a7 a8 a9 a10 a11 S → body (fun a0' a1' a2' a3' a4' a5' a6' a7' a8' a9' a10' a11' S' => ∃ m, m < n ∧ J m a0' a1' a2' a3' a4' a5' a6' a7' a8' a9' a10' a11' S') a0 a1 a2 a3 a4 a5 a6 a7 a8 a9 a10 a11 S
theorem Loop12.ind {t0 t1 t2 t3 t4 t5 t6 t7 t8 t9 t10 t11 : Type} {body : (t0 → t1 → t2 → t3 → t4 → t5 → t6 → t7 → t8 → t9 → t10 → t11 → St → Prop) → t0 → t1 → t2 → t3 → t4 → t5 → t6 → t7 → t8 → t9 → t10 → t11 → St → Prop}  {a0 : t0} {a1 : t1} {a2 : t2} {a3 : t3} {a4 : t4} {a5 : t5} {a6 : t6} {a7 : t7} {a8 : t8} {a9 : t9} {a10 : t10} {a11 : t11} {S : St} (J : Nat → t0 → t1 → t2 → t3 → t4 → t5 → t6 → t7 → t8 → t9 → t10 → t11 → St → Prop) (n : Nat) (h0 : J n a0 a1 a2 a3 a4 a5 a6 a7 a8 a9 a10 a11 S) (h : ∀ n a0 a1 a2 a3 a4 a5 a6 a7 a8 a9 a10 a11 S, J n a0 a1 a2 a3 a4 a5 a6 a7 a8 a9 a10 a11 S → body (fun a0' a1' a2' a3' a4' a5' a6' a7' a8' a9' a10' a11' S' => ∃ m, m < n ∧ J m a0' a1' a2' a3' a4' a5' a6' a7' a8' a9' a10' a11' S') a0 a1 a2 a3 a4 a5 a6 a7 a8 a9 a10 a11 S) : Loop12 body a0 a1 a2 a3 a4 a5 a6 a7 a8 a9 a10 a11 S := ⟨J, ⟨n, h0⟩, h⟩
def Join12 {t0 t1 t2 t3 t4 t5 t6 t7 t8 t9 t10 t11 : Type} (body : (t0 → t1 → t2 → t3 → t4 → t5 → t6 → t7 → t8 → t9 → t10 → t11 → St → Prop) → Prop) (rest : t0 → t1 → t2 → t3 → t4 → t5 → t6 → t7 → t8 → t9 → t10 → t11 → St → Prop) : Prop := ∃ M : t0 → t1 → t2 → t3 → t4 → t5 → t6 → t7 → t8 → t9 → t10 → t11 → St → Prop, body M ∧ ∀ a0 a1 a2 a3 a4 a5 a6 a7 a8 a9 a10 a11 S, M a0 a1 a2 a3 a4 a5 a6 a7 a8 a9 a10 a11 S → rest a0 a1 a2 a3 a4 a5 a6 a7 a8 a9 a10 a11 S
theorem Join12.all {t0 t1 t2 t3 t4 t5 t6 t7 t8 t9 t10 t11 : Type} {body : (t0 → t1 → t2 → t3 → t4 → t5 → t6 → t7 → t8 → t9 → t10 → t11 → St → Prop) → Prop} {rest : t0 → t1 → t2 → t3 → t4 → t5 → t6 → t7 → t8 → t9 → t10 → t11 → St → Prop} (h : body rest) : Join12 body rest := ⟨rest, h, fun _ _ _ _ _ _ _ _ _ _ _ _ S h => h⟩
theorem Join12.mid {t0 t1 t2 t3 t4 t5 t6 t7 t8 t9 t10 t11 : Type} {body : (t0 → t1 → t2 → t3 → t4 → t5 → t6 → t7 → t8 → t9 → t10 → t11 → St → Prop) → Prop} {rest : t0 → t1 → t2 → t3 → t4 → t5 → t6 → t7 → t8 → t9 → t10 → t11 → St → Prop} (M : t0 → t1 → t2 → t3 → t4 → t5 → t6 → t7 → t8 → t9 → t10 → t11 → St → Prop) (h : body M) (k : ∀ a0 a1 a2 a3 a4 a5 a6 a7 a8 a9 a10 a11 S, M a0 a1 a2 a3 a4 a5 a6 a7 a8 a9 a10 a11 S → rest a0 a1 a2 a3 a4 a5 a6 a7 a8 a9 a10 a11 S) : Join12 body rest := ⟨M, h, k⟩
def Loop13 {t0 t1 t2 t3 t4 t5 t6 t7 t8 t9 t10 t11 t12 : Type} (body : (t0 → t1 → t2 → t3 → t4 → t5 → t6 → t7 → t8 → t9 → t10 → t11 → t12 → St → Prop) → t0 → t1 → t2 → t3 → t4 → t5 → t6 → t7 → t8 → t9 → t10 → t11 → t12 → St → Prop)  (a0 : t0) (a1 : t1) (a2 : t2) (a3 : t3) (a4 : t4) (a5 : t5) (a6 : t6) (a7 : t7) (a8 : t8) (a9 : t9) (a10 : t10) (a11 : t11) (a12 : t12) (S : St) : Prop :=
  ∃ J : Nat → t0 → t1 → t2 → t3 → t4 → t5 → t6 → t7 → t8 → t9 → t10 → t11 → t12 → St → Prop, (∃ n, J n a0 a1 a2 a3 a4 a5 a6 a7 a8 a9 a10 a11 a12 S) ∧ ∀ n a0 a1 a2 a3 a4 a5 a6 a7 a8 a9 a10 a11 a12 S, J n a0 a1 a2 a3 a4 a5 a6 a7 a8 a9 a10 a11 a12 S → body (fun a0' a1' a2' a3' a4' a5' a6' a7' a8' a9' a10' a11' a12' S' => ∃ m, m < n ∧ J m a0' a1' a2' a3' a4' a5' a6' a7' a8' a9' a10' a11' a12' S') a0 a1 a2 a3 a4 a5 a6 a7 a8 a9 a10 a11 a12 S
theorem Loop13.ind {t0 t1 t2 t3 t4 t5 t6 t7 t8 t9 t10 t11 t12 : Type} {body : (t0 → t1 → t2 → t3 → t4 → t5 → t6 → t7 → t8 → t9 → t10 → t11 → t12 → St → Prop) → t0 → t1 → t2 → t3 → t4 → t5 → t6 → t7 → t8 → t9 → t10 → t11 → t12 → St → Prop}  {a0 : t0} {a1 : t1} {a2 : t2} {a3 : t3} {a4 : t4} {a5 : t5} {a6 : t6} {a7 : t7} {a8 : t8} {a9 : t9} {a10 : t10} {a11 : t11} {a12 : t12} {S : St} (J : Nat → t0 → t1 → t2 → t3 → t4 → t5 → t6 → t7 → t8 → t9 → t10 → t11 → t12 → St → Prop) (n : Nat) (h0 : J n a0 a1 a2 a3 a4 a5 a6 a7 a8 a9 a10 a11 a12 S) (h : ∀ n a0 a1 a2 a3 a4 a5 a6 a7 a8 a9 a10 a11 a12 S, J n a0 a1 a2 a3 a4 a5 a6 a7 a8 a9 a10 a11 a12 S → body (fun a0' a1' a2' a3' a4' a5' a6' a7' a8' a9' a10' a11' a12' S' => ∃ m, m < n ∧ J m a0' a1' a2' a3' a4' a5' a6' a7' a8' a9' a10' a11' a12' S') a0 a1 a2 a3 a4 a5 a6 a7 a8 a9 a10 a11 a12 S) : Loop13 body a0 a1 a2 a3 a4 a5 a6 a7 a8 a9 a10 a11 a12 S := ⟨J, ⟨n, h0⟩, h⟩
def Join13 {t0 t1 t2 t3 t4 t5 t6 t7 t8 t9 t10 t11 t12 : Type} (body : (t0 → t1 → t2 → t3 → t4 → t5 → t6 → t7 → t8 → t9 → t10 → t11 → t12 → St → Prop) → Prop) (rest : t0 → t1 → t2 → t3 → t4 → t5 → t6 → t7 → t8 → t9 → t10 → t11 → t12 → St → Prop) : Prop := ∃ M : t0 → t1 → t2 → t3 → t4 → t5 → t6 → t7 → t8 → t9 → t10 → t11 → t12 → St → Prop, body M ∧ ∀ a0 a1 a2 a3 a4 a5 a6 a7 a8 a9 a10 a11 a12 S, M a0 a1 a2 a3 a4 a5 a6 a7 a8 a9 a10 a11 a12 S → rest a0 a1 a2 a3 a4 a5 a6 a7 a8 a9 a10 a11 a12 S
theorem Join13.all {t0 t1 t2 t3 t4 t5 t6 t7 t8 t9 t10 t11 t12 : Type} {body : (t0 → t1 → t2 → t3 → t4 → t5 → t6 → t7 → t8 → t9 → t10 → t11 → t12 → St → Prop) → Prop} {rest : t0 → t1 → t2 → t3 → t4 → t5 → t6 → t7 → t8 → t9 → t10 → t11 → t12 → St → Prop} (h : body rest) : Join13 body rest := ⟨rest, h, fun _ _ _ _ _ _ _ _ _ _ _ _ _ S h => h⟩
theorem Join13.mid {t0 t1 t2 t3 t4 t5 t6 t7 t8 t9 t10 t11 t12 : Type} {body : (t0 → t1 → t2 → t3 → t4 → t5 → t6 → t7 → t8 → t9 → t10 → t11 → t12 → St → Prop) → Prop} {rest : t0 → t1 → t2 → t3 → t4 → t5 → t6 → t7 → t8 → t9 → t10 → t11 → t12 → St → Prop} (M : t0 → t1 → t2 → t3 → t4 → t5 → t6 → t7 → t8 → t9 → t10 → t11 → t12 → St → Prop) (h : body M) (k : ∀ a0 a1 a2 a3 a4 a5 a6 a7 a8 a9 a10 a11 a12 S, M a0 a1 a2 a3 a4 a5 a6 a7 a8 a9 a10 a11 a12 S → rest a0 a1 a2 a3 a4 a5 a6 a7 a8 a9 a10 a11 a12 S) : Join13 body rest := ⟨M, h, k⟩
def Loop14 {t0 t1 t2 t3 t4 t5 t6 t7 t8 t9 t10 t11 t12 t13 : Type} (body : (t0 → t1 → t2 → t3 → t4 → t5 → t6 → t7 → t8 → t9 → t10 → t11 → t12 → t13 → St → Prop) → t0 → t1 → t2 → t3 → t4 → t5 → t6 → t7 → t8 → t9 → t10 → t11 → t12 → t13 → St → Prop)  (a0 : t0) (a1 : t1) (a2 : t2) (a3 : t3) (a4 : t4) (a5 : t5) (a6 : t6) (a7 : t7) (a8 : t8) (a9 : t9) (a10 : t10) (a11 : t11) (a12 : t12) (a13 : t13) (S : St) : Prop :=
  ∃ J : Nat → t0 → t1 → t2 → t3 → t4 → t5 → t6 → t7 → t8 → t9 → t10 → t11 → t12 → t13 → St → Prop, (∃ n, J n a0 a1 a2 a3 a4 a5 a6 a7 a8 a9 a10 a11 a12 a13 S) ∧ ∀ n a0 a1 a2 a3 a4 a5 a6 a7 a8 a9 a10 a11 a12 a13 S, J n a0 a1 a2 a3 a4 a5 a6 a7 a8 a9 a10 a11 a12 a13 S → body (fun a0' a1' a2' a3' a4' a5' a6' a7' a8' a9' a10' a11' a12' a13' S' => ∃ m, m < n ∧ J m a0' a1' a2' a3' a4' a5' a6' a7' a8' a9' a10' a11' a12' a13' S') a0 a1 a2 a3 a4 a5 a6 a7 a8 a9 a10 a11 a12 a13 S
theorem Loop14.ind {t0 t1 t2 t3 t4 t5 t6 t7 t8 t9 t10 t11 t12 t13 : Type} {body : (t0 → t1 → t2 → t3 → t4 → t5 → t6 → t7 → t8 → t9 → t10 → t11 → t12 → t13 → St → Prop) → t0 → t1 → t2 → t3 → t4 → t5 → t6 → t7 → t8 → t9 → t10 → t11 → t12 → t13 → St → Prop}  {a0 : t0} {a1 : t1} {a2 : t2} {a3 : t3} {a4 : t4} {a5 : t5} {a6 : t6} {a7 : t7} {a8 : t8} {a9 : t9} {a10 : t10} {a11 : t11} {a12 : t12} {a13 : t13} {S : St} (J : Nat → t0 → t1 → t2 → t3 → t4 → t5 → t6 → t7 → t8 → t9 → t10 → t11 → t12 → t13 → St → Prop) (n : Nat) (h0 : J n a0 a1 a2 a3 a4 a5 a6 a7 a8 a9 a10 a11 a12 a13 S) (h : ∀ n a0 a1 a2 a3 a4 a5 a6 a7 a8 a9 a10 a11 a12 a13 S, J n a0 a1 a2 a3 a4 a5 a6 a7 a8 a9 a10 a11 a12 a13 S → body (fun a0' a1' a2' a3' a4' a5' a6' a7' a8' a9' a10' a11' a12' a13' S' => ∃ m, m < n ∧ J m a0' a1' a2' a3' a4' a5' a6' a7' a8' a9' a10' a11' a12' a13' S') a0 a1 a2 a3 a4 a5 a6 a7 a8 a9 a10 a11 a12 a13 S) : Loop14 body a0 a1 a2 a3 a4 a5 a6 a7 a8 a9 a10 a11 a12 a13 S := ⟨J, ⟨n, h0⟩, h⟩
def Join14 {t0 t1 t2 t3 t4 t5 t6 t7 t8 t9 t10 t11 t12 t13 : Type} (body : (t0 → t1 → t2 → t3 → t4 → t5 → t6 → t7 → t8 → t9 → t10 → t11 → t12 → t13 → St → Prop) → Prop) (rest : t0 → t1 → t2 → t3 → t4 → t5 → t6 → t7 → t8 → t9 → t10 → t11 → t12 → t13 → St → Prop) : Prop := ∃ M : t0 → t1 → t2 → t3 → t4 → t5 → t6 → t7 → t8 → t9 → t10 → t11 → t12 → t13 → St → Prop, body M ∧ ∀ a0 a1 a2 a3 a4 a5 a6 a7 a8 a9 a10 a11 a12 a13 S, M a0 a1 a2 a3 a4 a5 a6 a7 a8 a9 a10 a11 a12 a13 S → rest a0 a1 a2 a3 a4 a5 a6 a7 a8 a9 a10 a11 a12 a13 S
theorem Join14.all {t0 t1 t2 t3 t4 t5 t6 t7 t8 t9 t10 t11 t12 t13 : Type} {body : (t0 → t1 → t2 → t3 → t4 → t5 → t6 → t7 → t8 → t9 → t10 → t11 → t12 → t13 → St → Prop) → Prop} {rest : t0 → t1 → t2 → t3 → t4 → t5 → t6 → t7 → t8 → t9 → t10 → t11 → t12 → t13 → St → Prop} (h : body rest) : Join14 body rest := ⟨rest, h, fun _ _ _ _ _ _ _ _ _ _ _ _ _ _ S h => h⟩
theorem Join14.mid {t0 t1 t2 t3 t4 t5 t6 t7 t8 t9 t10 t11 t12 t13 : Type} {body : (t0 → t1 → t2 → t3 → t4 → t5 → t6 → t7 → t8 → t9 → t10 → t11 → t12 → t13 → St → Prop) → Prop} {rest : t0 → t1 → t2 → t3 → t4 → t5 → t6 → t7 → t8 → t9 → t10 → t11 → t12 → t13 → St → Prop} (M : t0 → t1 → t2 → t3 → t4 → t5 → t6 → t7 → t8 → t9 → t10 → t11 → t12 → t13 → St → Prop) (h : body M) (k : ∀ a0 a1 a2 a3 a4 a5 a6 a7 a8 a9 a10 a11 a12 a13 S, M a0 a1 a2 a3 a4 a5 a6 a7 a8 a9 a10 a11 a12 a13 S → rest a0 a1 a2 a3 a4 a5 a6 a7 a8 a9 a10 a11 a12 a13 S) : Join14 body rest := ⟨M, h, k⟩

def loopN : (ts : List Ty) → ((Dens ts → St → Prop) → Dens ts → St → Prop) → Dens ts → St → Prop
  | [], body, x, S => Loop0 (fun cont  S => body (fun y S' => cont  S') (()) S)  S
  | [_], body, x, S => Loop1 (fun cont a0 S => body (fun y S' => cont y.1 S') (a0, ()) S) x.1 S
  | [_, _], body, x, S => Loop2 (fun cont a0 a1 S => body (fun y S' => cont y.1 y.2.1 S') (a0, a1, ()) S) x.1 x.2.1 S
  | [_, _, _], body, x, S => Loop3 (fun cont a0 a1 a2 S => body (fun y S' => cont y.1 y.2.1 y.2.2.1 S') (a0, a1, a2, ()) S) x.1 x.2.1 x.2.2.1 S
  | [_, _, _, _], body, x, S => Loop4 (fun cont a0 a1 a2 a3 S => body (fun y S' => cont y.1 y.2.1 y.2.2.1 y.2.2.2.1 S') (a0, a1, a2, a3, ()) S) x.1 x.2.1 x.2.2.1 x.2.2.2.1 S
  | [_, _, _, _, _], body, x, S => Loop5 (fun cont a0 a1 a2 a3 a4 S => body (fun y S' => cont y.1 y.2.1 y.2.2.1 y.2.2.2.1 y.2.2.2.2.1 S') (a0, a1, a2, a3, a4, ()) S) x.1 x.2.1 x.2.2.1 x.2.2.2.1 x.2.2.2.2.1 S
  | [_, _, _, _, _, _], body, x, S => Loop6 (fun cont a0 a1 a2 a3 a4 a5 S => body (fun y S' => cont y.1 y.2.1 y.2.2.1 y.2.2.2.1 y.2.2.2.2.1 y.2.2.2.2.2.1 S') (a0, a1, a2, a3, a4, a5, ()) S) x.1 x.2.1 x.2.2.1 x.2.2.2.1 x.2.2.2.2.1 x.2.2.2.2.2.1 S
  | [_, _, _, _, _, _, _], body, x, S => Loop7 (fun cont a0 a1 a2 a3 a4 a5 a6 S => body (fun y S' => cont y.1 y.2.1 y.2.2.1 y.2.2.2.1 y.2.2.2.2.1 y.2.2.2.2.2.1 y.2.2.2.2.2.2.1 S') (a0, a1, a2, a3, a4, a5, a6, ()) S) x.1 x.2.1 x.2.2.1 x.2.2.2.1 x.2.2.2.2.1 x.2.2.2.2.2.1 x.2.2.2.2.2.2.1 S
  | [_, _, _, _, _, _, _, _], body, x, S => Loop8 (fun cont a0 a1 a2 a3 a4 a5 a6 a7 S => body (fun y S' => cont y.1 y.2.1 y.2.2.1 y.2.2.2.1 y.2.2.2.2.1 y.2.2.2.2.2.1 y.2.2.2.2.2.2.1 y.2.2.2.2.2.2.2.1 S') (a0, a1, a2, a3, a4, a5, a6, a7, ()) S) x.1 x.2.1 x.2.2.1 x.2.2.2.1 x.2.2.2.2.1 x.2.2.2.2.2.1 x.2.2.2.2.2.2.1 x.2.2.2.2.2.2.2.1 S
  | [_, _, _, _, _, _, _, _, _], body, x, S => Loop9 (fun cont a0 a1 a2 a3 a4 a5 a6 a7 a8 S => body (fun y S' => cont y.1 y.2.1 y.2.2.1 y.2.2.2.1 y.2.2.2.2.1 y.2.2.2.2.2.1 y.2.2.2.2.2.2.1 y.2.2.2.2.2.2.2.1 y.2.2.2.2.2.2.2.2.1 S') (a0, a1, a2, a3, a4, a5, a6, a7, a8, ()) S) x.1 x.2.1 x.2.2.1 x.2.2.2.1 x.2.2.2.2.1 x.2.2.2.2.2.1 x.2.2.2.2.2.2.1 x.2.2.2.2.2.2.2.1 x.2.2.2.2.2.2.2.2.1 S
  | [_, _, _, _, _, _, _, _, _, _], body, x, S => Loop10 (fun cont a0 a1 a2 a3 a4 a5 a6 a7 a8 a9 S => body (fun y S' => cont y.1 y.2.1 y.2.2.1 y.2.2.2.1 y.2.2.2.2.1 y.2.2.2.2.2.1 y.2.2.2.2.2.2.1 y.2.2.2.2.2.2.2.1 y.2.2.2.2.2.2.2.2.1 y.2.2.2.2.2.2.2.2.2.1 S') (a0, a1, a2, a3, a4, a5, a6, a7, a8, a9, ()) S) x.1 x.2.1 x.2.2.1 x.2.2.2.1 x.2.2.2.2.1 x.2.2.2.2.2.1 x.2.2.2.2.2.2.1 x.2.2.2.2.2.2.2.1 x.2.2.2.2.2.2.2.2.1 x.2.2.2.2.2.2.2.2.2.1 S
  | [_, _, _, _, _, _, _, _, _, _, _], body, x, S => Loop11 (fun cont a0 a1 a2 a3 a4 a5 a6 a7 a8 a9 a10 S => body (fun y S' => cont y.1 y.2.1 y.2.2.1 y.2.2.2.1 y.2.2.2.2.1 y.2.2.2.2.2.1 y.2.2.2.2.2.2.1 y.2.2.2.2.2.2.2.1 y.2.2.2.2.2.2.2.2.1 y.2.2.2.2.2.2.2.2.2.1 y.2.2.2.2.2.2.2.2.2.2.1 S') (a0, a1, a2, a3, a4, a5, a6, a7, a8, a9, a10, ()) S) x.1 x.2.1 x.2.2.1 x.2.2.2.1 x.2.2.2.2.1 x.2.2.2.2.2.1 x.2.2.2.2.2.2.1 x.2.2.2.2.2.2.2.1 x.2.2.2.2.2.2.2.2.1 x.2.2.2.2.2.2.2.2.2.1 x.2.2.2.2.2.2.2.2.2.2.1 S
  | [_, _, _, _, _, _, _, _, _, _, _, _], body, x, S => Loop12 (fun cont a0 a1 a2 a3 a4 a5 a6 a7 a8 a9 a10 a11 S => body (fun y S' => cont y.1 y.2.1 y.2.2.1 y.2.2.2.1 y.2.2.2.2.1 y.2.2.2.2.2.1 y.2.2.2.2.2.2.1 y.2.2.2.2.2.2.2.1 y.2.2.2.2.2.2.2.2.1 y.2.2.2.2.2.2.2.2.2.1 y.2.2.2.2.2.2.2.2.2.2.1 y.2.2.2.2.2.2.2.2.2.2.2.1 S') (a0, a1, a2, a3, a4, a5, a6, a7, a8, a9, a10, a11, ()) S) x.1 x.2.1 x.2.2.1 x.2.2.2.1 x.2.2.2.2.1 x.2.2.2.2.2.1 x.2.2.2.2.2.2.1 x.2.2.2.2.2.2.2.1 x.2.2.2.2.2.2.2.2.1 x.2.2.2.2.2.2.2.2.2.1 x.2.2.2.2.2.2.2.2.2.2.1 x.2.2.2.2.2.2.2.2.2.2.2.1 S
  | [_, _, _, _, _, _, _, _, _, _, _, _, _], body, x, S => Loop13 (fun cont a0 a1 a2 a3 a4 a5 a6 a7 a8 a9 a10 a11 a12 S => body (fun y S' => cont y.1 y.2.1 y.2.2.1 y.2.2.2.1 y.2.2.2.2.1 y.2.2.2.2.2.1 y.2.2.2.2.2.2.1 y.2.2.2.2.2.2.2.1 y.2.2.2.2.2.2.2.2.1 y.2.2.2.2.2.2.2.2.2.1 y.2.2.2.2.2.2.2.2.2.2.1 y.2.2.2.2.2.2.2.2.2.2.2.1 y.2.2.2.2.2.2.2.2.2.2.2.2.1 S') (a0, a1, a2, a3, a4, a5, a6, a7, a8, a9, a10, a11, a12, ()) S) x.1 x.2.1 x.2.2.1 x.2.2.2.1 x.2.2.2.2.1 x.2.2.2.2.2.1 x.2.2.2.2.2.2.1 x.2.2.2.2.2.2.2.1 x.2.2.2.2.2.2.2.2.1 x.2.2.2.2.2.2.2.2.2.1 x.2.2.2.2.2.2.2.2.2.2.1 x.2.2.2.2.2.2.2.2.2.2.2.1 x.2.2.2.2.2.2.2.2.2.2.2.2.1 S
  | [_, _, _, _, _, _, _, _, _, _, _, _, _, _], body, x, S => Loop14 (fun cont a0 a1 a2 a3 a4 a5 a6 a7 a8 a9 a10 a11 a12 a13 S => body (fun y S' => cont y.1 y.2.1 y.2.2.1 y.2.2.2.1 y.2.2.2.2.1 y.2.2.2.2.2.1 y.2.2.2.2.2.2.1 y.2.2.2.2.2.2.2.1 y.2.2.2.2.2.2.2.2.1 y.2.2.2.2.2.2.2.2.2.1 y.2.2.2.2.2.2.2.2.2.2.1 y.2.2.2.2.2.2.2.2.2.2.2.1 y.2.2.2.2.2.2.2.2.2.2.2.2.1 y.2.2.2.2.2.2.2.2.2.2.2.2.2.1 S') (a0, a1, a2, a3, a4, a5, a6, a7, a8, a9, a10, a11, a12, a13, ()) S) x.1 x.2.1 x.2.2.1 x.2.2.2.1 x.2.2.2.2.1 x.2.2.2.2.2.1 x.2.2.2.2.2.2.1 x.2.2.2.2.2.2.2.1 x.2.2.2.2.2.2.2.2.1 x.2.2.2.2.2.2.2.2.2.1 x.2.2.2.2.2.2.2.2.2.2.1 x.2.2.2.2.2.2.2.2.2.2.2.1 x.2.2.2.2.2.2.2.2.2.2.2.2.1 x.2.2.2.2.2.2.2.2.2.2.2.2.2.1 S
  | _ :: _, body, x, S => LoopU body x S
def joinN : (ts : List Ty) → ((Dens ts → St → Prop) → Prop) → (Dens ts → St → Prop) → Prop
  | [], body, rest => Join0 (fun cont => body (fun y S' => cont  S')) (fun  S => rest (()) S)
  | [_], body, rest => Join1 (fun cont => body (fun y S' => cont y.1 S')) (fun a0 S => rest (a0, ()) S)
  | [_, _], body, rest => Join2 (fun cont => body (fun y S' => cont y.1 y.2.1 S')) (fun a0 a1 S => rest (a0, a1, ()) S)
  | [_, _, _], body, rest => Join3 (fun cont => body (fun y S' => cont y.1 y.2.1 y.2.2.1 S')) (fun a0 a1 a2 S => rest (a0, a1, a2, ()) S)
  | [_, _, _, _], body, rest => Join4 (fun cont => body (fun y S' => cont y.1 y.2.1 y.2.2.1 y.2.2.2.1 S')) (fun a0 a1 a2 a3 S => rest (a0, a1, a2, a3, ()) S)
  | [_, _, _, _, _], body, rest => Join5 (fun cont => body (fun y S' => cont y.1 y.2.1 y.2.2.1 y.2.2.2.1 y.2.2.2.2.1 S')) (fun a0 a1 a2 a3 a4 S => rest (a0, a1, a2, a3, a4, ()) S)
  | [_, _, _, _, _, _], body, rest => Join6 (fun cont => body (fun y S' => cont y.1 y.2.1 y.2.2.1 y.2.2.2.1 y.2.2.2.2.1 y.2.2.2.2.2.1 S')) (fun a0 a1 a2 a3 a4 a5 S => rest (a0, a1, a2, a3, a4, a5, ()) S)
  | [_, _, _, _, _, _, _], body, rest => Join7 (fun cont => body (fun y S' => cont y.1 y.2.1 y.2.2.1 y.2.2.2.1 y.2.2.2.2.1 y.2.2.2.2.2.1 y.2.2.2.2.2.2.1 S')) (fun a0 a1 a2 a3 a4 a5 a6 S => rest (a0, a1, a2, a3, a4, a5, a6, ()) S)
  | [_, _, _, _, _, _, _, _], body, rest => Join8 (fun cont => body (fun y S' => cont y.1 y.2.1 y.2.2.1 y.2.2.2.1 y.2.2.2.2.1 y.2.2.2.2.2.1 y.2.2.2.2.2.2.1 y.2.2.2.2.2.2.2.1 S')) (fun a0 a1 a2 a3 a4 a5 a6 a7 S => rest (a0, a1, a2, a3, a4, a5, a6, a7, ()) S)
  | [_, _, _, _, _, _, _, _, _], body, rest => Join9 (fun cont => body (fun y S' => cont y.1 y.2.1 y.2.2.1 y.2.2.2.1 y.2.2.2.2.1 y.2.2.2.2.2.1 y.2.2.2.2.2.2.1 y.2.2.2.2.2.2.2.1 y.2.2.2.2.2.2.2.2.1 S')) (fun a0 a1 a2 a3 a4 a5 a6 a7 a8 S => rest (a0, a1, a2, a3, a4, a5, a6, a7, a8, ()) S)
  | [_, _, _, _, _, _, _, _, _, _], body, rest => Join10 (fun cont => body (fun y S' => cont y.1 y.2.1 y.2.2.1 y.2.2.2.1 y.2.2.2.2.1 y.2.2.2.2.2.1 y.2.2.2.2.2.2.1 y.2.2.2.2.2.2.2.1 y.2.2.2.2.2.2.2.2.1 y.2.2.2.2.2.2.2.2.2.1 S')) (fun a0 a1 a2 a3 a4 a5 a6 a7 a8 a9 S => rest (a0, a1, a2, a3, a4, a5, a6, a7, a8, a9, ()) S)
  | [_, _, _, _, _, _, _, _, _, _, _], body, rest => Join11 (fun cont => body (fun y S' => cont y.1 y.2.1 y.2.2.1 y.2.2.2.1 y.2.2.2.2.1 y.2.2.2.2.2.1 y.2.2.2.2.2.2.1 y.2.2.2.2.2.2.2.1 y.2.2.2.2.2.2.2.2.1 y.2.2.2.2.2.2.2.2.2.1 y.2.2.2.2.2.2.2.2.2.2.1 S')) (fun a0 a1 a2 a3 a4 a5 a6 a7 a8 a9 a10 S => rest (a0, a1, a2, a3, a4, a5, a6, a7, a8, a9, a10, ()) S)
  | [_, _, _, _, _, _, _, _, _, _, _, _], body, rest => Join12 (fun cont => body (fun y S' => cont y.1 y.2.1 y.2.2.1 y.2.2.2.1 y.2.2.2.2.1 y.2.2.2.2.2.1 y.2.2.2.2.2.2.1 y.2.2.2.2.2.2.2.1 y.2.2.2.2.2.2.2.2.1 y.2.2.2.2.2.2.2.2.2.1 y.2.2.2.2.2.2.2.2.2.2.1 y.2.2.2.2.2.2.2.2.2.2.2.1 S')) (fun a0 a1 a2 a3 a4 a5 a6 a7 a8 a9 a10 a11 S => rest (a0, a1, a2, a3, a4, a5, a6, a7, a8, a9, a10, a11, ()) S)
  | [_, _, _, _, _, _, _, _, _, _, _, _, _], body, rest => Join13 (fun cont => body (fun y S' => cont y.1 y.2.1 y.2.2.1 y.2.2.2.1 y.2.2.2.2.1 y.2.2.2.2.2.1 y.2.2.2.2.2.2.1 y.2.2.2.2.2.2.2.1 y.2.2.2.2.2.2.2.2.1 y.2.2.2.2.2.2.2.2.2.1 y.2.2.2.2.2.2.2.2.2.2.1 y.2.2.2.2.2.2.2.2.2.2.2.1 y.2.2.2.2.2.2.2.2.2.2.2.2.1 S')) (fun a0 a1 a2 a3 a4 a5 a6 a7 a8 a9 a10 a11 a12 S => rest (a0, a1, a2, a3, a4, a5, a6, a7, a8, a9, a10, a11, a12, ()) S)
  | [_, _, _, _, _, _, _, _, _, _, _, _, _, _], body, rest => Join14 (fun cont => body (fun y S' => cont y.1 y.2.1 y.2.2.1 y.2.2.2.1 y.2.2.2.2.1 y.2.2.2.2.2.1 y.2.2.2.2.2.2.1 y.2.2.2.2.2.2.2.1 y.2.2.2.2.2.2.2.2.1 y.2.2.2.2.2.2.2.2.2.1 y.2.2.2.2.2.2.2.2.2.2.1 y.2.2.2.2.2.2.2.2.2.2.2.1 y.2.2.2.2.2.2.2.2.2.2.2.2.1 y.2.2.2.2.2.2.2.2.2.2.2.2.2.1 S')) (fun a0 a1 a2 a3 a4 a5 a6 a7 a8 a9 a10 a11 a12 a13 S => rest (a0, a1, a2, a3, a4, a5, a6, a7, a8, a9, a10, a11, a12, a13, ()) S)
  | _ :: _, body, rest => JoinU body rest
theorem loopN_ok : ∀ (ts : List Ty) (body : (Dens ts → St → Prop) → Dens ts → St → Prop) (x : Dens ts) (S : St), loopN ts body x S → LoopU body x S
  | [], body, x, S, ⟨J, h0, h⟩ => ⟨fun n x S => J n  S, h0, fun n x S hx => h n  S hx⟩
  | [_], body, x, S, ⟨J, h0, h⟩ => ⟨fun n x S => J n x.1 S, h0, fun n x S hx => h n x.1 S hx⟩
  | [_, _], body, x, S, ⟨J, h0, h⟩ => ⟨fun n x S => J n x.1 x.2.1 S, h0, fun n x S hx => h n x.1 x.2.1 S hx⟩
  | [_, _, _], body, x, S, ⟨J, h0, h⟩ => ⟨fun n x S => J n x.1 x.2.1 x.2.2.1 S, h0, fun n x S hx => h n x.1 x.2.1 x.2.2.1 S hx⟩
  | [_, _, _, _], body, x, S, ⟨J, h0, h⟩ => ⟨fun n x S => J n x.1 x.2.1 x.2.2.1 x.2.2.2.1 S, h0, fun n x S hx => h n x.1 x.2.1 x.2.2.1 x.2.2.2.1 S hx⟩
  | [_, _, _, _, _], body, x, S, ⟨J, h0, h⟩ => ⟨fun n x S => J n x.1 x.2.1 x.2.2.1 x.2.2.2.1 x.2.2.2.2.1 S, h0, fun n x S hx => h n x.1 x.2.1 x.2.2.1 x.2.2.2.1 x.2.2.2.2.1 S hx⟩
  | [_, _, _, _, _, _], body, x, S, ⟨J, h0, h⟩ => ⟨fun n x S => J n x.1 x.2.1 x.2.2.1 x.2.2.2.1 x.2.2.2.2.1 x.2.2.2.2.2.1 S, h0, fun n x S hx => h n x.1 x.2.1 x.2.2.1 x.2.2.2.1 x.2.2.2.2.1 x.2.2.2.2.2.1 S hx⟩
  | [_, _, _, _, _, _, _], body, x, S, ⟨J, h0, h⟩ => ⟨fun n x S => J n x.1 x.2.1 x.2.2.1 x.2.2.2.1 x.2.2.2.2.1 x.2.2.2.2.2.1 x.2.2.2.2.2.2.1 S, h0, fun n x S hx => h n x.1 x.2.1 x.2.2.1 x.2.2.2.1 x.2.2.2.2.1 x.2.2.2.2.2.1 x.2.2.2.2.2.2.1 S hx⟩
  | [_, _, _, _, _, _, _, _], body, x, S, ⟨J, h0, h⟩ => ⟨fun n x S => J n x.1 x.2.1 x.2.2.1 x.2.2.2.1 x.2.2.2.2.1 x.2.2.2.2.2.1 x.2.2.2.2.2.2.1 x.2.2.2.2.2.2.2.1 S, h0, fun n x S hx => h n x.1 x.2.1 x.2.2.1 x.2.2.2.1 x.2.2.2.2.1 x.2.2.2.2.2.1 x.2.2.2.2.2.2.1 x.2.2.2.2.2.2.2.1 S hx⟩
  | [_, _, _, _, _, _, _, _, _], body, x, S, ⟨J, h0, h⟩ => ⟨fun n x S => J n x.1 x.2.1 x.2.2.1 x.2.2.2.1 x.2.2.2.2.1 x.2.2.2.2.2.1 x.2.2.2.2.2.2.1 x.2.2.2.2.2.2.2.1 x.2.2.2.2.2.2.2.2.1 S, h0, fun n x S hx => h n x.1 x.2.1 x.2.2.1 x.2.2.2.1 x.2.2.2.2.1 x.2.2.2.2.2.1 x.2.2.2.2.2.2.1 x.2.2.2.2.2.2.2.1 x.2.2.2.2.2.2.2.2.1 S hx⟩
  | [_, _, _, _, _, _, _, _, _, _], body, x, S, ⟨J, h0, h⟩ => ⟨fun n x S => J n x.1 x.2.1 x.2.2.1 x.2.2.2.1 x.2.2.2.2.1 x.2.2.2.2.2.1 x.2.2.2.2.2.2.1 x.2.2.2.2.2.2.2.1 x.2.2.2.2.2.2.2.2.1 x.2.2.2.2.2.2.2.2.2.1 S, h0, fun n x S hx => h n x.1 x.2.1 x.2.2.1 x.2.2.2.1 x.2.2.2.2.1 x.2.2.2.2.2.1 x.2.2.2.2.2.2.1 x.2.2.2.2.2.2.2.1 x.2.2.2.2.2.2.2.2.1 x.2.2.2.2.2.2.2.2.2.1 S hx⟩
  | [_, _, _, _, _, _, _, _, _, _, _], body, x, S, ⟨J, h0, h⟩ => ⟨fun n x S => J n x.1 x.2.1 x.2.2.1 x.2.2.2.1 x.2.2.2.2.1 x.2.2.2.2.2.1 x.2.2.2.2.2.2.1 x.2.2.2.2.2.2.2.1 x.2.2.2.2.2.2.2.2.1 x.2.2.2.2.2.2.2.2.2.1 x.2.2.2.2.2.2.2.2.2.2.1 S, h0, fun n x S hx => h n x.1 x.2.1 x.2.2.1 x.2.2.2.1 x.2.2.2.2.1 x.2.2.2.2.2.1 x.2.2.2.2.2.2.1 x.2.2.2.2.2.2.2.1 x.2.2.2.2.2.2.2.2.1 x.2.2.2.2.2.2.2.2.2.1 x.2.2.2.2.2.2.2.2.2.2.1 S hx⟩
  | [_, _, _, _, _, _, _, _, _, _, _, _], body, x, S, ⟨J, h0, h⟩ => ⟨fun n x S => J n x.1 x.2.1 x.2.2.1 x.2.2.2.1 x.2.2.2.2.1 x.2.2.2.2.2.1 x.2.2.2.2.2.2.1 x.2.2.2.2.2.2.2.1 x.2.2.2.2.2.2.2.2.1 x.2.2.2.2.2.2.2.2.2.1 x.2.2.2.2.2.2.2.2.2.2.1 x.2.2.2.2.2.2.2.2.2.2.2.1 S, h0, fun n x S hx => h n x.1 x.2.1 x.2.2.1 x.2.2.2.1 x.2.2.2.2.1 x.2.2.2.2.2.1 x.2.2.2.2.2.2.1 x.2.2.2.2.2.2.2.1 x.2.2.2.2.2.2.2.2.1 x.2.2.2.2.2.2.2.2.2.1 x.2.2.2.2.2.2.2.2.2.2.1 x.2.2.2.2.2.2.2.2.2.2.2.1 S hx⟩
  | [_, _, _, _, _, _, _, _, _, _, _, _, _], body, x, S, ⟨J, h0, h⟩ => ⟨fun n x S => J n x.1 x.2.1 x.2.2.1 x.2.2.2.1 x.2.2.2.2.1 x.2.2.2.2.2.1 x.2.2.2.2.2.2.1 x.2.2.2.2.2.2.2.1 x.2.2.2.2.2.2.2.2.1 x.2.2.2.2.2.2.2.2.2.1 x.2.2.2.2.2.2.2.2.2.2.1 x.2.2.2.2.2.2.2.2.2.2.2.1 x.2.2.2.2.2.2.2.2.2.2.2.2.1 S, h0, fun n x S hx => h n x.1 x.2.1 x.2.2.1 x.2.2.2.1 x.2.2.2.2.1 x.2.2.2.2.2.1 x.2.2.2.2.2.2.1 x.2.2.2.2.2.2.2.1 x.2.2.2.2.2.2.2.2.1 x.2.2.2.2.2.2.2.2.2.1 x.2.2.2.2.2.2.2.2.2.2.1 x.2.2.2.2.2.2.2.2.2.2.2.1 x.2.2.2.2.2.2.2.2.2.2.2.2.1 S hx⟩
  | [_, _, _, _, _, _, _, _, _, _, _, _, _, _], body, x, S, ⟨J, h0, h⟩ => ⟨fun n x S => J n x.1 x.2.1 x.2.2.1 x.2.2.2.1 x.2.2.2.2.1 x.2.2.2.2.2.1 x.2.2.2.2.2.2.1 x.2.2.2.2.2.2.2.1 x.2.2.2.2.2.2.2.2.1 x.2.2.2.2.2.2.2.2.2.1 x.2.2.2.2.2.2.2.2.2.2.1 x.2.2.2.2.2.2.2.2.2.2.2.1 x.2.2.2.2.2.2.2.2.2.2.2.2.1 x.2.2.2.2.2.2.2.2.2.2.2.2.2.1 S, h0, fun n x S hx => h n x.1 x.2.1 x.2.2.1 x.2.2.2.1 x.2.2.2.2.1 x.2.2.2.2.2.1 x.2.2.2.2.2.2.1 x.2.2.2.2.2.2.2.1 x.2.2.2.2.2.2.2.2.1 x.2.2.2.2.2.2.2.2.2.1 x.2.2.2.2.2.2.2.2.2.2.1 x.2.2.2.2.2.2.2.2.2.2.2.1 x.2.2.2.2.2.2.2.2.2.2.2.2.1 x.2.2.2.2.2.2.2.2.2.2.2.2.2.1 S hx⟩
  | _ :: _ :: _ :: _ :: _ :: _ :: _ :: _ :: _ :: _ :: _ :: _ :: _ :: _ :: _ :: _, body, x, S, h => h
theorem joinN_ok : ∀ (ts : List Ty) (body : (Dens ts → St → Prop) → Prop) (rest : Dens ts → St → Prop), joinN ts body rest → JoinU body rest
  | [], body, rest, ⟨M, h0, h⟩ => ⟨fun x S => M  S, h0, fun x S hx => h  S hx⟩
  | [_], body, rest, ⟨M, h0, h⟩ => ⟨fun x S => M x.1 S, h0, fun x S hx => h x.1 S hx⟩
  | [_, _], body, rest, ⟨M, h0, h⟩ => ⟨fun x S => M x.1 x.2.1 S, h0, fun x S hx => h x.1 x.2.1 S hx⟩
  | [_, _, _], body, rest, ⟨M, h0, h⟩ => ⟨fun x S => M x.1 x.2.1 x.2.2.1 S, h0, fun x S hx => h x.1 x.2.1 x.2.2.1 S hx⟩
  | [_, _, _, _], body, rest, ⟨M, h0, h⟩ => ⟨fun x S => M x.1 x.2.1 x.2.2.1 x.2.2.2.1 S, h0, fun x S hx => h x.1 x.2.1 x.2.2.1 x.2.2.2.1 S hx⟩
  | [_, _, _, _, _], body, rest, ⟨M, h0, h⟩ => ⟨fun x S => M x.1 x.2.1 x.2.2.1 x.2.2.2.1 x.2.2.2.2.1 S, h0, fun x S hx => h x.1 x.2.1 x.2.2.1 x.2.2.2.1 x.2.2.2.2.1 S hx⟩
  | [_, _, _, _, _, _], body, rest, ⟨M, h0, h⟩ => ⟨fun x S => M x.1 x.2.1 x.2.2.1 x.2.2.2.1 x.2.2.2.2.1 x.2.2.2.2.2.1 S, h0, fun x S hx => h x.1 x.2.1 x.2.2.1 x.2.2.2.1 x.2.2.2.2.1 x.2.2.2.2.2.1 S hx⟩
  | [_, _, _, _, _, _, _], body, rest, ⟨M, h0, h⟩ => ⟨fun x S => M x.1 x.2.1 x.2.2.1 x.2.2.2.1 x.2.2.2.2.1 x.2.2.2.2.2.1 x.2.2.2.2.2.2.1 S, h0, fun x S hx => h x.1 x.2.1 x.2.2.1 x.2.2.2.1 x.2.2.2.2.1 x.2.2.2.2.2.1 x.2.2.2.2.2.2.1 S hx⟩
  | [_, _, _, _, _, _, _, _], body, rest, ⟨M, h0, h⟩ => ⟨fun x S => M x.1 x.2.1 x.2.2.1 x.2.2.2.1 x.2.2.2.2.1 x.2.2.2.2.2.1 x.2.2.2.2.2.2.1 x.2.2.2.2.2.2.2.1 S, h0, fun x S hx => h x.1 x.2.1 x.2.2.1 x.2.2.2.1 x.2.2.2.2.1 x.2.2.2.2.2.1 x.2.2.2.2.2.2.1 x.2.2.2.2.2.2.2.1 S hx⟩
  | [_, _, _, _, _, _, _, _, _], body, rest, ⟨M, h0, h⟩ => ⟨fun x S => M x.1 x.2.1 x.2.2.1 x.2.2.2.1 x.2.2.2.2.1 x.2.2.2.2.2.1 x.2.2.2.2.2.2.1 x.2.2.2.2.2.2.2.1 x.2.2.2.2.2.2.2.2.1 S, h0, fun x S hx => h x.1 x.2.1 x.2.2.1 x.2.2.2.1 x.2.2.2.2.1 x.2.2.2.2.2.1 x.2.2.2.2.2.2.1 x.2.2.2.2.2.2.2.1 x.2.2.2.2.2.2.2.2.1 S hx⟩
  | [_, _, _, _, _, _, _, _, _, _], body, rest, ⟨M, h0, h⟩ => ⟨fun x S => M x.1 x.2.1 x.2.2.1 x.2.2.2.1 x.2.2.2.2.1 x.2.2.2.2.2.1 x.2.2.2.2.2.2.1 x.2.2.2.2.2.2.2.1 x.2.2.2.2.2.2.2.2.1 x.2.2.2.2.2.2.2.2.2.1 S, h0, fun x S hx => h x.1 x.2.1 x.2.2.1 x.2.2.2.1 x.2.2.2.2.1 x.2.2.2.2.2.1 x.2.2.2.2.2.2.1 x.2.2.2.2.2.2.2.1 x.2.2.2.2.2.2.2.2.1 x.2.2.2.2.2.2.2.2.2.1 S hx⟩
  | [_, _, _, _, _, _, _, _, _, _, _], body, rest, ⟨M, h0, h⟩ => ⟨fun x S => M x.1 x.2.1 x.2.2.1 x.2.2.2.1 x.2.2.2.2.1 x.2.2.2.2.2.1 x.2.2.2.2.2.2.1 x.2.2.2.2.2.2.2.1 x.2.2.2.2.2.2.2.2.1 x.2.2.2.2.2.2.2.2.2.1 x.2.2.2.2.2.2.2.2.2.2.1 S, h0, fun x S hx => h x.1 x.2.1 x.2.2.1 x.2.2.2.1 x.2.2.2.2.1 x.2.2.2.2.2.1 x.2.2.2.2.2.2.1 x.2.2.2.2.2.2.2.1 x.2.2.2.2.2.2.2.2.1 x.2.2.2.2.2.2.2.2.2.1 x.2.2.2.2.2.2.2.2.2.2.1 S hx⟩
  | [_, _, _, _, _, _, _, _, _, _, _, _], body, rest, ⟨M, h0, h⟩ => ⟨fun x S => M x.1 x.2.1 x.2.2.1 x.2.2.2.1 x.2.2.2.2.1 x.2.2.2.2.2.1 x.2.2.2.2.2.2.1 x.2.2.2.2.2.2.2.1 x.2.2.2.2.2.2.2.2.1 x.2.2.2.2.2.2.2.2.2.1 x.2.2.2.2.2.2.2.2.2.2.1 x.2.2.2.2.2.2.2.2.2.2.2.1 S, h0, fun x S hx => h x.1 x.2.1 x.2.2.1 x.2.2.2.1 x.2.2.2.2.1 x.2.2.2.2.2.1 x.2.2.2.2.2.2.1 x.2.2.2.2.2.2.2.1 x.2.2.2.2.2.2.2.2.1 x.2.2.2.2.2.2.2.2.2.1 x.2.2.2.2.2.2.2.2.2.2.1 x.2.2.2.2.2.2.2.2.2.2.2.1 S hx⟩
  | [_, _, _, _, _, _, _, _, _, _, _, _, _], body, rest, ⟨M, h0, h⟩ => ⟨fun x S => M x.1 x.2.1 x.2.2.1 x.2.2.2.1 x.2.2.2.2.1 x.2.2.2.2.2.1 x.2.2.2.2.2.2.1 x.2.2.2.2.2.2.2.1 x.2.2.2.2.2.2.2.2.1 x.2.2.2.2.2.2.2.2.2.1 x.2.2.2.2.2.2.2.2.2.2.1 x.2.2.2.2.2.2.2.2.2.2.2.1 x.2.2.2.2.2.2.2.2.2.2.2.2.1 S, h0, fun x S hx => h x.1 x.2.1 x.2.2.1 x.2.2.2.1 x.2.2.2.2.1 x.2.2.2.2.2.1 x.2.2.2.2.2.2.1 x.2.2.2.2.2.2.2.1 x.2.2.2.2.2.2.2.2.1 x.2.2.2.2.2.2.2.2.2.1 x.2.2.2.2.2.2.2.2.2.2.1 x.2.2.2.2.2.2.2.2.2.2.2.1 x.2.2.2.2.2.2.2.2.2.2.2.2.1 S hx⟩
  | [_, _, _, _, _, _, _, _, _, _, _, _, _, _], body, rest, ⟨M, h0, h⟩ => ⟨fun x S => M x.1 x.2.1 x.2.2.1 x.2.2.2.1 x.2.2.2.2.1 x.2.2.2.2.2.1 x.2.2.2.2.2.2.1 x.2.2.2.2.2.2.2.1 x.2.2.2.2.2.2.2.2.1 x.2.2.2.2.2.2.2.2.2.1 x.2.2.2.2.2.2.2.2.2.2.1 x.2.2.2.2.2.2.2.2.2.2.2.1 x.2.2.2.2.2.2.2.2.2.2.2.2.1 x.2.2.2.2.2.2.2.2.2.2.2.2.2.1 S, h0, fun x S hx => h x.1 x.2.1 x.2.2.1 x.2.2.2.1 x.2.2.2.2.1 x.2.2.2.2.2.1 x.2.2.2.2.2.2.1 x.2.2.2.2.2.2.2.1 x.2.2.2.2.2.2.2.2.1 x.2.2.2.2.2.2.2.2.2.1 x.2.2.2.2.2.2.2.2.2.2.1 x.2.2.2.2.2.2.2.2.2.2.2.1 x.2.2.2.2.2.2.2.2.2.2.2.2.1 x.2.2.2.2.2.2.2.2.2.2.2.2.2.1 S hx⟩
  | _ :: _ :: _ :: _ :: _ :: _ :: _ :: _ :: _ :: _ :: _ :: _ :: _ :: _ :: _ :: _, body, rest, h => h

end Go.Th
end
