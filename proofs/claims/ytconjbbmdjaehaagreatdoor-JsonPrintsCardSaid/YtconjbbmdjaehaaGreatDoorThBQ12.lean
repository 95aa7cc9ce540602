/- What the row of one statement stands on: a store, abstract code, functions of the program and their laws (ThO, ThP, ThQ1, ThQ2, ThQ3, ThQ11, ThQ12). -/
import Derived.Test.YtconjbbmdjaehaaGreatDoorThBN
import Derived.WalkKit
import Derived.ProofKit
import Derived.OpenShut
import Derived.ShutString
import Derived.ChangeOld
import Derived.Carry

section
/- From what a law does over a store to what its row says. -/
set_option linter.unusedSimpArgs false
set_option linter.unusedVariables false
namespace Go.Th
open Go.RowKit Go.Lib Go.ChangeShapes Go.WideShapes Go.ChangeAt

def HasA (S : St) : Sh → V → Prop
  | .agg fs, a => ∃ cs, a = .agg cs ∧ HasF S fs cs
  | s, a => Has S s [a]

theorem HasA.keep {S S' : St} (g : Keep S S') {s : Sh} {a : V} (h : HasA S s a) : HasA S' s a := by
  cases s with
  | agg fs =>
    obtain ⟨cs, rfl, h⟩ := h
    exact ⟨cs, rfl, HasF.keep g fs cs h⟩
  | bool => exact Has.keep g _ _ h
  | int k => exact Has.keep g _ _ h
  | str => exact Has.keep g _ _ h
  | slice k b e => exact Has.keep g _ _ h

theorem okWide_cells {P : Program} {W : World} {base : Nat} {t : TypeId} {v : Value} (ht : P.underlying t = some .bool ∨ (∃ k, P.underlying t = some (.int k)) ∨ P.underlying t = some .string ∨ ∃ e, P.underlying t = some (.slice e)) (h : Value.okWide P W .any base t v) : v.cells = #[v] := by
  rcases ht with ht | ⟨k, ht⟩ | ht | ⟨e, ht⟩ <;> simp only [Value.okWide, ht, Cell.okWide] at h <;> cases v <;> simp_all [Cell.ok, Value.cells]

theorem okWide_agg {P : Program} {W : World} {base : Nat} {t : TypeId} {v : Value} {fs : Array Field} (ht : P.underlying t = some (.struct fs)) (h : Value.okWide P W .any base t v) : ∃ cs, v = .agg cs := by
  simp only [Value.okWide, ht] at h
  obtain ⟨cs, rfl, _⟩ := h
  exact ⟨cs, rfl⟩

section
variable {H : Type} {enc : TypeId × Value → H} {P : Program} {W : World}

theorem Below.trodAll (hl : laidOutB P = true) {W' : World} (hb : Below W.heap.size W W') : ∀ {ts : List TypeId} {args : List Value} {ds : List (DataW H)} {ps : List MemPlace},
    (ts.all fun t => P.readableRec t && decide (t < P.types.size)) = true → DataW.TrodAll enc P W 0 (fun _ => true) true ts args ds ps → DataW.TrodAll enc P W' 0 (fun b => decide (b < W.heap.size)) true ts args ds ps
  | [], args, ds, ps, _, h => by
    obtain ⟨rfl, rfl, rfl⟩ := trodAll_nil h
    exact trodAll_mk0
  | t :: ts, args, ds, ps, hr, h => by
    obtain ⟨v, vs, d, ds', p, q, rfl, rfl, rfl, h1, h2⟩ := trodAll_cons h
    simp only [List.all_cons, Bool.and_eq_true, decide_eq_true_eq] at hr
    refine trodAll_cons_mk (Below.trod hl hr.1.1 hr.1.2 h1 hb ?_) (Below.trodAll hl hb (by simpa using hr.2) h2)
    obtain ⟨m, hm⟩ := h1
    exact DataW.trod_lt m _ _ _ hm

end

end Go.Th
end

section
/- Plain words of numbers, bytes and checks. -/
set_option linter.unusedSimpArgs false
set_option linter.unusedVariables false
namespace Go.Th
open Go.RowKit Go.Lib

theorem u8_bits {n : Nat} (h : n < 256) : IntKind.u8.wrap (n : Int) = (n : Int) := by
  rw [IntKind.wrap_u8]; omega
theorem i64_int {n : Int} (h : -9223372036854775808 ≤ n) (h' : n < 9223372036854775808) : IntKind.i64.wrap n = n := by
  rw [IntKind.wrap_i64]; omega

theorem bytesV_length (bs : List UInt8) : (bytesV bs).length = bs.length := by simp [bytesV]
theorem bytesV_get {bs : List UInt8} {j : Nat} (h : j < bs.length) : (bytesV bs)[j]? = some (.int .u8 (bs[j].toNat : Nat)) := by
  simp [bytesV, List.getElem?_eq_getElem h]
theorem bytesV_append (a b : List UInt8) : bytesV (a ++ b) = bytesV a ++ bytesV b := by simp [bytesV]
theorem bytesOf_bytesV : ∀ (bs : List UInt8), bytesOf (bytesV bs) = some bs
  | [] => rfl
  | b :: bs => by
    have := bytesOf_bytesV bs
    simp only [bytesV, List.map_cons, bytesOf] at this ⊢
    rw [this]
    simp

def byteZ (v : Int) : UInt8 := UInt8.ofNat (v % 256).toNat

def le : Nat → Int → List UInt8
  | 0, _ => []
  | n + 1, v => byteZ v :: le n (v / 256)

def num : List UInt8 → Nat
  | [] => 0
  | b :: bs => b.toNat + 256 * num bs

end Go.Th
end

section
/- Typed values, rounds and joins by arity: the words in which code is read without frames. -/
set_option linter.unusedVariables false
namespace Go.Th
open Go.RowKit Go.Lib

inductive Ty where
  | any
  | bool
  | int (k : IntKind)
  | str

@[reducible] def Ty.den : Ty → Type
  | .any => V
  | .bool => Bool
  | .int _ => Int
  | .str => List UInt8

def Ty.toV : (t : Ty) → t.den → V
  | .any, v => v
  | .bool, b => .bool b
  | .int k, n => .int k n
  | .str, s => .str s

@[reducible] def Dens : List Ty → Type
  | [] => Unit
  | t :: ts => t.den × Dens ts

def toVs : (ts : List Ty) → Dens ts → List V
  | [], _ => []
  | t :: ts, x => t.toV x.1 :: toVs ts x.2

inductive DT where
  | one (t : Ty)
  | agg (ts : List Ty)

def DT.tys : DT → List Ty
  | .one t => [t]
  | .agg ts => ts

def flats : List DT → List Ty
  | [] => []
  | d :: ds => d.tys ++ flats ds

inductive Ann where
  | no
  | dt (d : DT)
  | tup (ds : List DT)

def setI (e : Int) (k : Int → Prop) : Prop := k e
def ifC (b : Bool) (X Y : Prop) : Prop := (b = true → X) ∧ (b = false → Y)
def ifS {α : Type} (o : Option α) (k : α → Prop) : Prop :=
  match o with
  | some a => k a
  | none => False

theorem ifS_ok {α : Type} {o : Option α} {k : α → Prop} (h : ifS o k) : ∃ a, o = some a ∧ k a := by
  cases o with
  | none => exact h.elim
  | some a => exact ⟨a, rfl, h⟩
theorem ifS_mk {α : Type} {o : Option α} {k : α → Prop} {a : α} (h : o = some a) (hk : k a) : ifS o k := by rw [h]; exact hk
theorem setI_mk {e : Int} {k : Int → Prop} {n : Int} (h : e = n) (hk : k n) : setI e k := by unfold setI; rw [h]; exact hk
theorem ifC_ok {b : Bool} {X Y : Prop} (h : ifC b X Y) : match b with | true => X | false => Y := by
  cases b
  · exact h.2 rfl
  · exact h.1 rfl
theorem ifC_dec {p : Prop} [Decidable p] {X Y : Prop} (hx : p → X) (hy : ¬ p → Y) : ifC (decide p) X Y :=
  ⟨fun h => hx (of_decide_eq_true h), fun h => hy (of_decide_eq_false h)⟩
theorem ifC_ndec {p : Prop} [Decidable p] {X Y : Prop} (hx : ¬ p → X) (hy : p → Y) : ifC (!decide p) X Y :=
  ⟨fun h => hx (by simpa using h), fun h => hy (by simpa using h)⟩
theorem ifC_tt {b : Bool} {X Y : Prop} (h : b = true) (hx : X) : ifC b X Y := ⟨fun _ => hx, fun h' => by rw [h] at h'; cases h'⟩
theorem ifC_ff {b : Bool} {X Y : Prop} (h : b = false) (hy : Y) : ifC b X Y := ⟨fun h' => by (rw [h] at h'; cases h'), fun _ => hy⟩
theorem ifC_tt_ff {b : Bool} {X Y : Prop} (hx : b = true → X) (hy : b = false → Y) : ifC b X Y := ⟨hx, hy⟩

def exTy : Ty → (V → Prop) → Prop
  | .any, k => ∃ v : V, k v
  | .bool, k => ∃ b : Bool, k (.bool b)
  | .int kk, k => ∃ n : Int, k (.int kk n)
  | .str, k => ∃ s : List UInt8, k (.str s)
def exTys : List Ty → (List V → Prop) → Prop
  | [], k => k []
  | t :: ts, k => exTy t fun v => exTys ts fun vs => k (v :: vs)
def exDT : DT → (V → Prop) → Prop
  | .one t, k => exTy t k
  | .agg ts, k => exTys ts fun vs => k (.agg vs)
def exDTs : List DT → (List V → Prop) → Prop
  | [], k => k []
  | d :: ds, k => exDT d fun v => exDTs ds fun vs => k (v :: vs)
def ifO (ann : Ann) (o : Option V) (k : V → Prop) : Prop :=
  match ann with
  | .no => ifS o k
  | .dt d => exDT d fun v => o = some v ∧ k v
  | .tup ds => exDTs ds fun vs => o = some (.tuple vs) ∧ k (.tuple vs)

theorem exTy_ok {t : Ty} {k : V → Prop} (h : exTy t k) : ∃ v, k v := by
  cases t with
  | any => exact h
  | bool => exact ⟨_, h.choose_spec⟩
  | int kk => exact ⟨_, h.choose_spec⟩
  | str => exact ⟨_, h.choose_spec⟩
theorem exTys_ok : ∀ {ts : List Ty} {k : List V → Prop}, exTys ts k → ∃ vs, k vs
  | [], k, h => ⟨[], h⟩
  | t :: ts, k, h => by
    obtain ⟨v, h⟩ := exTy_ok h
    obtain ⟨vs, h⟩ := exTys_ok h
    exact ⟨_, h⟩
theorem exDT_ok {d : DT} {k : V → Prop} (h : exDT d k) : ∃ v, k v := by
  cases d with
  | one t => exact exTy_ok h
  | agg ts => obtain ⟨vs, h⟩ := exTys_ok h; exact ⟨_, h⟩
theorem exDTs_ok : ∀ {ds : List DT} {k : List V → Prop}, exDTs ds k → ∃ vs, k vs
  | [], k, h => ⟨[], h⟩
  | d :: ds, k, h => by
    obtain ⟨v, h⟩ := exDT_ok h
    obtain ⟨vs, h⟩ := exDTs_ok h
    exact ⟨_, h⟩
theorem ifO_ok {ann : Ann} {o : Option V} {k : V → Prop} (h : ifO ann o k) : ∃ v, o = some v ∧ k v := by
  cases ann with
  | no => exact ifS_ok h
  | dt d => exact exDT_ok h
  | tup ds => obtain ⟨vs, h⟩ := exDTs_ok h; exact ⟨_, h⟩

def LoopU {α : Type} (body : (α → St → Prop) → α → St → Prop) (a : α) (S : St) : Prop :=
  ∃ J : Nat → α → St → Prop, (∃ n, J n a S) ∧ ∀ n a S, J n a S → body (fun a' S' => ∃ k, k < n ∧ J k a' S') a S
def JoinU {α : Type} (body : (α → St → Prop) → Prop) (rest : α → St → Prop) : Prop := ∃ M : α → St → Prop, body M ∧ ∀ a S, M a S → rest a S

def Loop0 (body : (St → Prop) → St → Prop)  (S : St) : Prop :=
  ∃ J : Nat → St → Prop, (∃ n, J n S) ∧ ∀ n S, J n S → body (fun S' => ∃ m, m < n ∧ J m S') S
theorem Loop0.ind {body : (St → Prop) → St → Prop}  {S : St} (J : Nat → St → Prop) (n : Nat) (h0 : J n S) (h : ∀ n S, J n S → body (fun S' => ∃ m, m < n ∧ J m S') S) : Loop0 body S := ⟨J, ⟨n, h0⟩, h⟩
def Join0 (body : (St → Prop) → Prop) (rest : St → Prop) : Prop := ∃ M : St → Prop, body M ∧ ∀ S, M S → rest S
theorem Join0.mid {body : (St → Prop) → Prop} {rest : St → Prop} (M : St → Prop) (h : body M) (k : ∀ S, M S → rest S) : Join0 body rest := ⟨M, h, k⟩
def Loop1 {t0 : Type} (body : (t0 → St → Prop) → t0 → St → Prop)  (a0 : t0) (S : St) : Prop :=
  ∃ J : Nat → t0 → St → Prop, (∃ n, J n a0 S) ∧ ∀ n a0 S, J n a0 S → body (fun a0' S' => ∃ m, m < n ∧ J m a0' S') a0 S
theorem Loop1.ind {t0 : Type} {body : (t0 → St → Prop) → t0 → St → Prop}  {a0 : t0} {S : St} (J : Nat → t0 → St → Prop) (n : Nat) (h0 : J n a0 S) (h : ∀ n a0 S, J n a0 S → body (fun a0' S' => ∃ m, m < n ∧ J m a0' S') a0 S) : Loop1 body a0 S := ⟨J, ⟨n, h0⟩, h⟩
def Join1 {t0 : Type} (body : (t0 → St → Prop) → Prop) (rest : t0 → St → Prop) : Prop := ∃ M : t0 → St → Prop, body M ∧ ∀ a0 S, M a0 S → rest a0 S
theorem Join1.mid {t0 : Type} {body : (t0 → St → Prop) → Prop} {rest : t0 → St → Prop} (M : t0 → St → Prop) (h : body M) (k : ∀ a0 S, M a0 S → rest a0 S) : Join1 body rest := ⟨M, h, k⟩
def Loop2 {t0 t1 : Type} (body : (t0 → t1 → St → Prop) → t0 → t1 → St → Prop)  (a0 : t0) (a1 : t1) (S : St) : Prop :=
  ∃ J : Nat → t0 → t1 → St → Prop, (∃ n, J n a0 a1 S) ∧ ∀ n a0 a1 S, J n a0 a1 S → body (fun a0' a1' S' => ∃ m, m < n ∧ J m a0' a1' S') a0 a1 S
theorem Loop2.ind {t0 t1 : Type} {body : (t0 → t1 → St → Prop) → t0 → t1 → St → Prop}  {a0 : t0} {a1 : t1} {S : St} (J : Nat → t0 → t1 → St → Prop) (n : Nat) (h0 : J n a0 a1 S) (h : ∀ n a0 a1 S, J n a0 a1 S → body (fun a0' a1' S' => ∃ m, m < n ∧ J m a0' a1' S') a0 a1 S) : Loop2 body a0 a1 S := ⟨J, ⟨n, h0⟩, h⟩
def Join2 {t0 t1 : Type} (body : (t0 → t1 → St → Prop) → Prop) (rest : t0 → t1 → St → Prop) : Prop := ∃ M : t0 → t1 → St → Prop, body M ∧ ∀ a0 a1 S, M a0 a1 S → rest a0 a1 S
theorem Join2.mid {t0 t1 : Type} {body : (t0 → t1 → St → Prop) → Prop} {rest : t0 → t1 → St → Prop} (M : t0 → t1 → St → Prop) (h : body M) (k : ∀ a0 a1 S, M a0 a1 S → rest a0 a1 S) : Join2 body rest := ⟨M, h, k⟩
def Loop3 {t0 t1 t2 : Type} (body : (t0 → t1 → t2 → St → Prop) → t0 → t1 → t2 → St → Prop)  (a0 : t0) (a1 : t1) (a2 : t2) (S : St) : Prop :=
  ∃ J : Nat → t0 → t1 → t2 → St → Prop, (∃ n, J n a0 a1 a2 S) ∧ ∀ n a0 a1 a2 S, J n a0 a1 a2 S → body (fun a0' a1' a2' S' => ∃ m, m < n ∧ J m a0' a1' a2' S') a0 a1 a2 S
theorem Loop3.ind {t0 t1 t2 : Type} {body : (t0 → t1 → t2 → St → Prop) → t0 → t1 → t2 → St → Prop}  {a0 : t0} {a1 : t1} {a2 : t2} {S : St} (J : Nat → t0 → t1 → t2 → St → Prop) (n : Nat) (h0 : J n a0 a1 a2 S) (h : ∀ n a0 a1 a2 S, J n a0 a1 a2 S → body (fun a0' a1' a2' S' => ∃ m, m < n ∧ J m a0' a1' a2' S') a0 a1 a2 S) : Loop3 body a0 a1 a2 S := ⟨J, ⟨n, h0⟩, h⟩
def Join3 {t0 t1 t2 : Type} (body : (t0 → t1 → t2 → St → Prop) → Prop) (rest : t0 → t1 → t2 → St → Prop) : Prop := ∃ M : t0 → t1 → t2 → St → Prop, body M ∧ ∀ a0 a1 a2 S, M a0 a1 a2 S → rest a0 a1 a2 S
def Loop4 {t0 t1 t2 t3 : Type} (body : (t0 → t1 → t2 → t3 → St → Prop) → t0 → t1 → t2 → t3 → St → Prop)  (a0 : t0) (a1 : t1) (a2 : t2) (a3 : t3) (S : St) : Prop :=
  ∃ J : Nat → t0 → t1 → t2 → t3 → St → Prop, (∃ n, J n a0 a1 a2 a3 S) ∧ ∀ n a0 a1 a2 a3 S, J n a0 a1 a2 a3 S → body (fun a0' a1' a2' a3' S' => ∃ m, m < n ∧ J m a0' a1' a2' a3' S') a0 a1 a2 a3 S
def Join4 {t0 t1 t2 t3 : Type} (body : (t0 → t1 → t2 → t3 → St → Prop) → Prop) (rest : t0 → t1 → t2 → t3 → St → Prop) : Prop := ∃ M : t0 → t1 → t2 → t3 → St → Prop, body M ∧ ∀ a0 a1 a2 a3 S, M a0 a1 a2 a3 S → rest a0 a1 a2 a3 S
def Loop5 {t0 t1 t2 t3 t4 : Type} (body : (t0 → t1 → t2 → t3 → t4 → St → Prop) → t0 → t1 → t2 → t3 → t4 → St → Prop)  (a0 : t0) (a1 : t1) (a2 : t2) (a3 : t3) (a4 : t4) (S : St) : Prop :=
  ∃ J : Nat → t0 → t1 → t2 → t3 → t4 → St → Prop, (∃ n, J n a0 a1 a2 a3 a4 S) ∧ ∀ n a0 a1 a2 a3 a4 S, J n a0 a1 a2 a3 a4 S → body (fun a0' a1' a2' a3' a4' S' => ∃ m, m < n ∧ J m a0' a1' a2' a3' a4' S') a0 a1 a2 a3 a4 S
def Join5 {t0 t1 t2 t3 t4 : Type} (body : (t0 → t1 → t2 → t3 → t4 → St → Prop) → Prop) (rest : t0 → t1 → t2 → t3 → t4 → St → Prop) : Prop := ∃ M : t0 → t1 → t2 → t3 → t4 → St → Prop, body M ∧ ∀ a0 a1 a2 a3 a4 S, M a0 a1 a2 a3 a4 S → rest a0 a1 a2 a3 a4 S
def Loop6 {t0 t1 t2 t3 t4 t5 : Type} (body : (t0 → t1 → t2 → t3 → t4 → t5 → St → Prop) → t0 → t1 → t2 → t3 → t4 → t5 → St → Prop)  (a0 : t0) (a1 : t1) (a2 : t2) (a3 : t3) (a4 : t4) (a5 : t5) (S : St) : Prop :=
  ∃ J : Nat → t0 → t1 → t2 → t3 → t4 → t5 → St → Prop, (∃ n, J n a0 a1 a2 a3 a4 a5 S) ∧ ∀ n a0 a1 a2 a3 a4 a5 S, J n a0 a1 a2 a3 a4 a5 S → body (fun a0' a1' a2' a3' a4' a5' S' => ∃ m, m < n ∧ J m a0' a1' a2' a3' a4' a5' S') a0 a1 a2 a3 a4 a5 S
def Join6 {t0 t1 t2 t3 t4 t5 : Type} (body : (t0 → t1 → t2 → t3 → t4 → t5 → St → Prop) → Prop) (rest : t0 → t1 → t2 → t3 → t4 → t5 → St → Prop) : Prop := ∃ M : t0 → t1 → t2 → t3 → t4 → t5 → St → Prop, body M ∧ ∀ a0 a1 a2 a3 a4 a5 S, M a0 a1 a2 a3 a4 a5 S → rest a0 a1 a2 a3 a4 a5 S
def Loop7 {t0 t1 t2 t3 t4 t5 t6 : Type} (body : (t0 → t1 → t2 → t3 → t4 → t5 → t6 → St → Prop) → t0 → t1 → t2 → t3 → t4 → t5 → t6 → St → Prop)  (a0 : t0) (a1 : t1) (a2 : t2) (a3 : t3) (a4 : t4) (a5 : t5) (a6 : t6) (S : St) : Prop :=
  ∃ J : Nat → t0 → t1 → t2 → t3 → t4 → t5 → t6 → St → Prop, (∃ n, J n a0 a1 a2 a3 a4 a5 a6 S) ∧ ∀ n a0 a1 a2 a3 a4 a5 a6 S, J n a0 a1 a2 a3 a4 a5 a6 S → body (fun a0' a1' a2' a3' a4' a5' a6' S' => ∃ m, m < n ∧ J m a0' a1' a2' a3' a4' a5' a6' S') a0 a1 a2 a3 a4 a5 a6 S
def Join7 {t0 t1 t2 t3 t4 t5 t6 : Type} (body : (t0 → t1 → t2 → t3 → t4 → t5 → t6 → St → Prop) → Prop) (rest : t0 → t1 → t2 → t3 → t4 → t5 → t6 → St → Prop) : Prop := ∃ M : t0 → t1 → t2 → t3 → t4 → t5 → t6 → St → Prop, body M ∧ ∀ a0 a1 a2 a3 a4 a5 a6 S, M a0 a1 a2 a3 a4 a5 a6 S → rest a0 a1 a2 a3 a4 a5 a6 S
def Loop8 {t0 t1 t2 t3 t4 t5 t6 t7 : Type} (body : (t0 → t1 → t2 → t3 → t4 → t5 → t6 → t7 → St → Prop) → t0 → t1 → t2 → t3 → t4 → t5 → t6 → t7 → St → Prop)  (a0 : t0) (a1 : t1) (a2 : t2) (a3 : t3) (a4 : t4) (a5 : t5) (a6 : t6) (a7 : t7) (S : St) : Prop :=
  ∃ J : Nat → t0 → t1 → t2 → t3 → t4 → t5 → t6 → t7 → St → Prop, (∃ n, J n a0 a1 a2 a3 a4 a5 a6 a7 S) ∧ ∀ n a0 a1 a2 a3 a4 a5 a6 a7 S, J n a0 a1 a2 a3 a4 a5 a6 a7 S → body (fun a0' a1' a2' a3' a4' a5' a6' a7' S' => ∃ m, m < n ∧ J m a0' a1' a2' a3' a4' a5' a6' a7' S') a0 a1 a2 a3 a4 a5 a6 a7 S
def Join8 {t0 t1 t2 t3 t4 t5 t6 t7 : Type} (body : (t0 → t1 → t2 → t3 → t4 → t5 → t6 → t7 → St → Prop) → Prop) (rest : t0 → t1 → t2 → t3 → t4 → t5 → t6 → t7 → St → Prop) : Prop := ∃ M : t0 → t1 → t2 → t3 → t4 → t5 → t6 → t7 → St → Prop, body M ∧ ∀ a0 a1 a2 a3 a4 a5 a6 a7 S, M a0 a1 a2 a3 a4 a5 a6 a7 S → rest a0 a1 a2 a3 a4 a5 a6 a7 S
def Loop9 {t0 t1 t2 t3 t4 t5 t6 t7 t8 : Type} (body : (t0 → t1 → t2 → t3 → t4 → t5 → t6 → t7 → t8 → St → Prop) → t0 → t1 → t2 → t3 → t4 → t5 → t6 → t7 → t8 → St → Prop)  (a0 : t0) (a1 : t1) (a2 : t2) (a3 : t3) (a4 : t4) (a5 : t5) (a6 : t6) (a7 : t7) (a8 : t8) (S : St) : Prop :=
  ∃ J : Nat → t0 → t1 → t2 → t3 → t4 → t5 → t6 → t7 → t8 → St → Prop, (∃ n, J n a0 a1 a2 a3 a4 a5 a6 a7 a8 S) ∧ ∀ n a0 a1 a2 a3 a4 a5 a6 a7 a8 S, J n a0 a1 a2 a3 a4 a5 a6 a7 a8 S → body (fun a0' a1' a2' a3' a4' a5' a6' a7' a8' S' => ∃ m, m < n ∧ J m a0' a1' a2' a3' a4' a5' a6' a7' a8' S') a0 a1 a2 a3 a4 a5 a6 a7 a8 S
def Join9 {t0 t1 t2 t3 t4 t5 t6 t7 t8 : Type} (body : (t0 → t1 → t2 → t3 → t4 → t5 → t6 → t7 → t8 → St → Prop) → Prop) (rest : t0 → t1 → t2 → t3 → t4 → t5 → t6 → t7 → t8 → St → Prop) : Prop := ∃ M : t0 → t1 → t2 → t3 → t4 → t5 → t6 → t7 → t8 → St → Prop, body M ∧ ∀ a0 a1 a2 a3 a4 a5 a6 a7 a8 S, M a0 a1 a2 a3 a4 a5 a6 a7 a8 S → rest a0 a1 a2 a3 a4 a5 a6 a7 a8 S
def Loop10 {t0 t1 t2 t3 t4 t5 t6 t7 t8 t9 : Type} (body : (t0 → t1 → t2 → t3 → t4 → t5 → t6 → t7 → t8 → t9 → St → Prop) → t0 → t1 → t2 → t3 → t4 → t5 → t6 → t7 → t8 → t9 → St → Prop)  (a0 : t0) (a1 : t1) (a2 : t2) (a3 : t3) (a4 : t4) (a5 : t5) (a6 : t6) (a7 : t7) (a8 : t8) (a9 : t9) (S : St) : Prop :=
  ∃ J : Nat → t0 → t1 → t2 → t3 → t4 → t5 → t6 → t7 → t8 → t9 → St → Prop, (∃ n, J n a0 a1 a2 a3 a4 a5 a6 a7 a8 a9 S) ∧ ∀ n a0 a1 a2 a3 a4 a5 a6 a7 a8 a9 S, J n a0 a1 a2 a3 a4 a5 a6 a7 a8 a9 S → body (fun a0' a1' a2' a3' a4' a5' a6' a7' a8' a9' S' => ∃ m, m < n ∧ J m a0' a1' a2' a3' a4' a5' a6' a7' a8' a9' S') a0 a1 a2 a3 a4 a5 a6 a7 a8 a9 S
def Join10 {t0 t1 t2 t3 t4 t5 t6 t7 t8 t9 : Type} (body : (t0 → t1 → t2 → t3 → t4 → t5 → t6 → t7 → t8 → t9 → St → Prop) → Prop) (rest : t0 → t1 → t2 → t3 → t4 → t5 → t6 → t7 → t8 → t9 → St → Prop) : Prop := ∃ M : t0 → t1 → t2 → t3 → t4 → t5 → t6 → t7 → t8 → t9 → St → Prop, body M ∧ ∀ a0 a1 a2 a3 a4 a5 a6 a7 a8 a9 S, M a0 a1 a2 a3 a4 a5 a6 a7 a8 a9 S → rest a0 a1 a2 a3 a4 a5 a6 a7 a8 a9 S
def Loop11 {t0 t1 t2 t3 t4 t5 t6 t7 t8 t9 t10 : Type} (body : (t0 → t1 → t2 → t3 → t4 → t5 → t6 → t7 → t8 → t9 → t10 → St → Prop) → t0 → t1 → t2 → t3 → t4 → t5 → t6 → t7 → t8 → t9 → t10 → St → Prop)  (a0 : t0) (a1 : t1) (a2 : t2) (a3 : t3) (a4 : t4) (a5 : t5) (a6 : t6) (a7 : t7) (a8 : t8) (a9 : t9) (a10 : t10) (S : St) : Prop :=
  ∃ J : Nat → t0 → t1 → t2 → t3 → t4 → t5 → t6 → t7 → t8 → t9 → t10 → St → Prop, (∃ n, J n a0 a1 a2 a3 a4 a5 a6 a7 a8 a9 a10 S) ∧ ∀ n a0 a1 a2 a3 a4 a5 a6 a7 a8 a9 a10 S, J n a0 a1 a2 a3 a4 a5 a6 a7 a8 a9 a10 S → body (fun a0' a1' a2' a3' a4' a5' a6' a7' a8' a9' a10' S' => ∃ m, m < n ∧ J m a0' a1' a2' a3' a4' a5' a6' a7' a8' a9' a10' S') a0 a1 a2 a3 a4 a5 a6 a7 a8 a9 a10 S
def Join11 {t0 t1 t2 t3 t4 t5 t6 t7 t8 t9 t10 : Type} (body : (t0 → t1 → t2 → t3 → t4 → t5 → t6 → t7 → t8 → t9 → t10 → St → Prop) → Prop) (rest : t0 → t1 → t2 → t3 → t4 → t5 → t6 → t7 → t8 → t9 → t10 → St → Prop) : Prop := ∃ M : t0 → t1 → t2 → t3 → t4 → t5 → t6 → t7 → t8 → t9 → t10 → St → Prop, body M ∧ ∀ a0 a1 a2 a3 a4 a5 a6 a7 a8 a9 a10 S, M a0 a1 a2 a3 a4 a5 a6 a7 a8 a9 a10 S → rest a0 a1 a2 a3 a4 a5 a6 a7 a8 a9 a10 S
def Loop12 {t0 t1 t2 t3 t4 t5 t6 t7 t8 t9 t10 t11 : Type} (body : (t0 → t1 → t2 → t3 → t4 → t5 → t6 → t7 → t8 → t9 → t10 → t11 → St → Prop) → t0 → t1 → t2 → t3 → t4 → t5 → t6 → t7 → t8 → t9 → t10 → t11 → St → Prop)  (a0 : t0) (a1 : t1) (a2 : t2) (a3 : t3) (a4 : t4) (a5 : t5) (a6 : t6) (a7 : t7) (a8 : t8) (a9 : t9) (a10 : t10) (a11 : t11) (S : St) : Prop :=
  ∃ J : Nat → t0 → t1 → t2 → t3 → t4 → t5 → t6 → t7 → t8 → t9 → t10 → t11 → St → Prop, (∃ n, J n a0 a1 a2 a3 a4 a5 a6 a7 a8 a9 a10 a11 S) ∧ ∀ n a0 a1 a2 a3 a4 a5 a6 a7 a8 a9 a10 a11 S, J n a0 a1 a2 a3 a4 a5 a6 a7 a8 a9 a10 a11 S → body (fun a0' a1' a2' a3' a4' a5' a6' a7' a8' a9' a10' a11' S' => ∃ m, m < n ∧ J m a0' a1' a2' a3' a4' a5' a6' a7' a8' a9' a10' a11' S') a0 a1 a2 a3 a4 a5 a6 a7 a8 a9 a10 a11 S
def Join12 {t0 t1 t2 t3 t4 t5 t6 t7 t8 t9 t10 t11 : Type} (body : (t0 → t1 → t2 → t3 → t4 → t5 → t6 → t7 → t8 → t9 → t10 → t11 → St → Prop) → Prop) (rest : t0 → t1 → t2 → t3 → t4 → t5 → t6 → t7 → t8 → t9 → t10 → t11 → St → Prop) : Prop := ∃ M : t0 → t1 → t2 → t3 → t4 → t5 → t6 → t7 → t8 → t9 → t10 → t11 → St → Prop, body M ∧ ∀ a0 a1 a2 a3 a4 a5 a6 a7 a8 a9 a10 a11 S, M a0 a1 a2 a3 a4 a5 a6 a7 a8 a9 a10 a11 S → rest a0 a1 a2 a3 a4 a5 a6 a7 a8 a9 a10 a11 S
def Loop13 {t0 t1 t2 t3 t4 t5 t6 t7 t8 t9 t10 t11 t12 : Type} (body : (t0 → t1 → t2 → t3 → t4 → t5 → t6 → t7 → t8 → t9 → t10 → t11 → t12 → St → Prop) → t0 → t1 → t2 → t3 → t4 → t5 → t6 → t7 → t8 → t9 → t10 → t11 → t12 → St → Prop)  (a0 : t0) (a1 : t1) (a2 : t2) (a3 : t3) (a4 : t4) (a5 : t5) (a6 : t6) (a7 : t7) (a8 : t8) (a9 : t9) (a10 : t10) (a11 : t11) (a12 : t12) (S : St) : Prop :=
  ∃ J : Nat → t0 → t1 → t2 → t3 → t4 → t5 → t6 → t7 → t8 → t9 → t10 → t11 → t12 → St → Prop, (∃ n, J n a0 a1 a2 a3 a4 a5 a6 a7 a8 a9 a10 a11 a12 S) ∧ ∀ n a0 a1 a2 a3 a4 a5 a6 a7 a8 a9 a10 a11 a12 S, J n a0 a1 a2 a3 a4 a5 a6 a7 a8 a9 a10 a11 a12 S → body (fun a0' a1' a2' a3' a4' a5' a6' a7' a8' a9' a10' a11' a12' S' => ∃ m, m < n ∧ J m a0' a1' a2' a3' a4' a5' a6' a7' a8' a9' a10' a11' a12' S') a0 a1 a2 a3 a4 a5 a6 a7 a8 a9 a10 a11 a12 S
def Join13 {t0 t1 t2 t3 t4 t5 t6 t7 t8 t9 t10 t11 t12 : Type} (body : (t0 → t1 → t2 → t3 → t4 → t5 → t6 → t7 → t8 → t9 → t10 → t11 → t12 → St → Prop) → Prop) (rest : t0 → t1 → t2 → t3 → t4 → t5 → t6 → t7 → t8 → t9 → t10 → t11 → t12 → St → Prop) : Prop := ∃ M : t0 → t1 → t2 → t3 → t4 → t5 → t6 → t7 → t8 → t9 → t10 → t11 → t12 → St → Prop, body M ∧ ∀ a0 a1 a2 a3 a4 a5 a6 a7 a8 a9 a10 a11 a12 S, M a0 a1 a2 a3 a4 a5 a6 a7 a8 a9 a10 a11 a12 S → rest a0 a1 a2 a3 a4 a5 a6 a7 a8 a9 a10 a11 a12 S
def Loop14 {t0 t1 t2 t3 t4 t5 t6 t7 t8 t9 t10 t11 t12 t13 : Type} (body : (t0 → t1 → t2 → t3 → t4 → t5 → t6 → t7 → t8 → t9 → t10 → t11 → t12 → t13 → St → Prop) → t0 → t1 → t2 → t3 → t4 → t5 → t6 → t7 → t8 → t9 → t10 → t11 → t12 → t13 → St → Prop)  (a0 : t0) (a1 : t1) (a2 : t2) (a3 : t3) (a4 : t4) (a5 : t5) (a6 : t6) (a7 : t7) (a8 : t8) (a9 : t9) (a10 : t10) (a11 : t11) (a12 : t12) (a13 : t13) (S : St) : Prop :=
  ∃ J : Nat → t0 → t1 → t2 → t3 → t4 → t5 → t6 → t7 → t8 → t9 → t10 → t11 → t12 → t13 → St → Prop, (∃ n, J n a0 a1 a2 a3 a4 a5 a6 a7 a8 a9 a10 a11 a12 a13 S) ∧ ∀ n a0 a1 a2 a3 a4 a5 a6 a7 a8 a9 a10 a11 a12 a13 S, J n a0 a1 a2 a3 a4 a5 a6 a7 a8 a9 a10 a11 a12 a13 S → body (fun a0' a1' a2' a3' a4' a5' a6' a7' a8' a9' a10' a11' a12' a13' S' => ∃ m, m < n ∧ J m a0' a1' a2' a3' a4' a5' a6' a7' a8' a9' a10' a11' a12' a13' S') a0 a1 a2 a3 a4 a5 a6 a7 a8 a9 a10 a11 a12 a13 S
def Join14 {t0 t1 t2 t3 t4 t5 t6 t7 t8 t9 t10 t11 t12 t13 : Type} (body : (t0 → t1 → t2 → t3 → t4 → t5 → t6 → t7 → t8 → t9 → t10 → t11 → t12 → t13 → St → Prop) → Prop) (rest : t0 → t1 → t2 → t3 → t4 → t5 → t6 → t7 → t8 → t9 → t10 → t11 → t12 → t13 → St → Prop) : Prop := ∃ M : t0 → t1 → t2 → t3 → t4 → t5 → t6 → t7 → t8 → t9 → t10 → t11 → t12 → t13 → St → Prop, body M ∧ ∀ a0 a1 a2 a3 a4 a5 a6 a7 a8 a9 a10 a11 a12 a13 S, M a0 a1 a2 a3 a4 a5 a6 a7 a8 a9 a10 a11 a12 a13 S → rest a0 a1 a2 a3 a4 a5 a6 a7 a8 a9 a10 a11 a12 a13 S
def loopN : (ts : List Ty) → ((Dens ts → St → Prop) → Dens ts → St → Prop) → Dens ts → St → Prop
  | [], body, x, S => Loop0 (fun cont  S => body (fun y S' => cont  S') (()) S)  S
  | [_], body, x, S => Loop1 (fun cont a0 S => body (fun y S' => cont y.1 S') (a0, ()) S) x.1 S
  | [_, _], body, x, S => Loop2 (fun cont a0 a1 S => body (fun y S' => cont y.1 y.2.1 S') (a0, a1, ()) S) x.1 x.2.1 S
  | [_, _, _], body, x, S => Loop3 (fun cont a0 a1 a2 S => body (fun y S' => cont y.1 y.2.1 y.2.2.1 S') (a0, a1, a2, ()) S) x.1 x.2.1 x.2.2.1 S
  | [_, _, _, _], body, x, S => Loop4 (fun cont a0 a1 a2 a3 S => body (fun y S' => cont y.1 y.2.1 y.2.2.1 y.2.2.2.1 S') (a0, a1, a2, a3, ()) S) x.1 x.2.1 x.2.2.1 x.2.2.2.1 S
  | [_, _, _, _, _], body, x, S => Loop5 (fun cont a0 a1 a2 a3 a4 S => body (fun y S' => cont y.1 y.2.1 y.2.2.1 y.2.2.2.1 y.2.2.2.2.1 S') (a0, a1, a2, a3, a4, ()) S) x.1 x.2.1 x.2.2.1 x.2.2.2.1 x.2.2.2.2.1 S
  | [_, _, _, _, _, _], body, x, S => Loop6 (fun cont a0 a1 a2 a3 a4 a5 S => body (fun y S' => cont y.1 y.2.1 y.2.2.1 y.2.2.2.1 y.2.2.2.2.1 y.2.2.2.2.2.1 S') (a0, a1, a2, a3, a4, a5, ()) S) x.1 x.2.1 x.2.2.1 x.2.2.2.1 x.2.2.2.2.1 x.2.2.2.2.2.1 S
  | [_, _, _, _, _, _, _], body, x, S => Loop7 (fun cont a0 a1 a2 a3 a4 a5 a6 S => body (fun y S' => cont y.1 y.2.1 y.2.2.1 y.2.2.2.1 y.2.2.2.2.1 y.2.2.2.2.2.1 y.2.2.2.2.2.2.1 S') (a0, a1, a2, a3, a4, a5, a6, ()) S) x.1 x.2.1 x.2.2.1 x.2.2.2.1 x.2.2.2.2.1 x.2.2.2.2.2.1 x.2.2.2.2.2.2.1 S
  | [_, _, _, _, _, _, _, _], body, x, S => Loop8 (fun cont a0 a1 a2 a3 a4 a5 a6 a7 S => body (fun y S' => cont y.1 y.2.1 y.2.2.1 y.2.2.2.1 y.2.2.2.2.1 y.2.2.2.2.2.1 y.2.2.2.2.2.2.1 y.2.2.2.2.2.2.2.1 S') (a0, a1, a2, a3, a4, a5, a6, a7, ()) S) x.1 x.2.1 x.2.2.1 x.2.2.2.1 x.2.2.2.2.1 x.2.2.2.2.2.1 x.2.2.2.2.2.2.1 x.2.2.2.2.2.2.2.1 S
  | [_, _, _, _, _, _, _, _, _], body, x, S => Loop9 (fun cont a0 a1 a2 a3 a4 a5 a6 a7 a8 S => body (fun y S' => cont y.1 y.2.1 y.2.2.1 y.2.2.2.1 y.2.2.2.2.1 y.2.2.2.2.2.1 y.2.2.2.2.2.2.1 y.2.2.2.2.2.2.2.1 y.2.2.2.2.2.2.2.2.1 S') (a0, a1, a2, a3, a4, a5, a6, a7, a8, ()) S) x.1 x.2.1 x.2.2.1 x.2.2.2.1 x.2.2.2.2.1 x.2.2.2.2.2.1 x.2.2.2.2.2.2.1 x.2.2.2.2.2.2.2.1 x.2.2.2.2.2.2.2.2.1 S
  | [_, _, _, _, _, _, _, _, _, _], body, x, S => Loop10 (fun cont a0 a1 a2 a3 a4 a5 a6 a7 a8 a9 S => body (fun y S' => cont y.1 y.2.1 y.2.2.1 y.2.2.2.1 y.2.2.2.2.1 y.2.2.2.2.2.1 y.2.2.2.2.2.2.1 y.2.2.2.2.2.2.2.1 y.2.2.2.2.2.2.2.2.1 y.2.2.2.2.2.2.2.2.2.1 S') (a0, a1, a2, a3, a4, a5, a6, a7, a8, a9, ()) S) x.1 x.2.1 x.2.2.1 x.2.2.2.1 x.2.2.2.2.1 x.2.2.2.2.2.1 x.2.2.2.2.2.2.1 x.2.2.2.2.2.2.2.1 x.2.2.2.2.2.2.2.2.1 x.2.2.2.2.2.2.2.2.2.1 S
  | [_, _, _, _, _, _, _, _, _, _, _], body, x, S => Loop11 (fun cont a0 a1 a2 a3 a4 a5 a6 a7 a8 a9 a10 S => body (fun y S' => cont y.1 y.2.1 y.2.2.1 y.2.2.2.1 y.2.2.2.2.1 y.2.2.2.2.2.1 y.2.2.2.2.2.2.1 y.2.2.2.2.2.2.2.1 y.2.2.2.2.2.2.2.2.1 y.2.2.2.2.2.2.2.2.2.1 y.2.2.2.2.2.2.2.2.2.2.1 S') (a0, a1, a2, a3, a4, a5, a6, a7, a8, a9, a10, ()) S) x.1 x.2.1 x.2.2.1 x.2.2.2.1 x.2.2.2.2.1 x.2.2.2.2.2.1 x.2.2.2.2.2.2.1 x.2.2.2.2.2.2.2.1 x.2.2.2.2.2.2.2.2.1 x.2.2.2.2.2.2.2.2.2.1 x.2.2.2.2.2.2.2.2.2.2.1 S
  | [_, _, _, _, _, _, _, _, _, _, _, _], body, x, S => Loop12 (fun cont a0 a1 a2 a3 a4 a5 a6 a7 a8 a9 a10 a11 S => body (fun y S' => cont y.1 y.2.1 y.2.2.1 y.2.2.2.1 y.2.2.2.2.1 y.2.2.2.2.2.1 y.2.2.2.2.2.2.1 y.2.2.2.2.2.2.2.1 y.2.2.2.2.2.2.2.2.1 y.2.2.2.2.2.2.2.2.2.1 y.2.2.2.2.2.2.2.2.2.2.1 y.2.2.2.2.2.2.2.2.2.2.2.1 S') (a0, a1, a2, a3, a4, a5, a6, a7, a8, a9, a10, a11, ()) S) x.1 x.2.1 x.2.2.1 x.2.2.2.1 x.2.2.2.2.1 x.2.2.2.2.2.1 x.2.2.2.2.2.2.1 x.2.2.2.2.2.2.2.1 x.2.2.2.2.2.2.2.2.1 x.2.2.2.2.2.2.2.2.2.1 x.2.2.2.2.2.2.2.2.2.2.1 x.2.2.2.2.2.2.2.2.2.2.2.1 S
  | [_, _, _, _, _, _, _, _, _, _, _, _, _], body, x, S => Loop13 (fun cont a0 a1 a2 a3 a4 a5 a6 a7 a8 a9 a10 a11 a12 S => body (fun y S' => cont y.1 y.2.1 y.2.2.1 y.2.2.2.1 y.2.2.2.2.1 y.2.2.2.2.2.1 y.2.2.2.2.2.2.1 y.2.2.2.2.2.2.2.1 y.2.2.2.2.2.2.2.2.1 y.2.2.2.2.2.2.2.2.2.1 y.2.2.2.2.2.2.2.2.2.2.1 y.2.2.2.2.2.2.2.2.2.2.2.1 y.2.2.2.2.2.2.2.2.2.2.2.2.1 S') (a0, a1, a2, a3, a4, a5, a6, a7, a8, a9, a10, a11, a12, ()) S) x.1 x.2.1 x.2.2.1 x.2.2.2.1 x.2.2.2.2.1 x.2.2.2.2.2.1 x.2.2.2.2.2.2.1 x.2.2.2.2.2.2.2.1 x.2.2.2.2.2.2.2.2.1 x.2.2.2.2.2.2.2.2.2.1 x.2.2.2.2.2.2.2.2.2.2.1 x.2.2.2.2.2.2.2.2.2.2.2.1 x.2.2.2.2.2.2.2.2.2.2.2.2.1 S
  | [_, _, _, _, _, _, _, _, _, _, _, _, _, _], body, x, S => Loop14 (fun cont a0 a1 a2 a3 a4 a5 a6 a7 a8 a9 a10 a11 a12 a13 S => body (fun y S' => cont y.1 y.2.1 y.2.2.1 y.2.2.2.1 y.2.2.2.2.1 y.2.2.2.2.2.1 y.2.2.2.2.2.2.1 y.2.2.2.2.2.2.2.1 y.2.2.2.2.2.2.2.2.1 y.2.2.2.2.2.2.2.2.2.1 y.2.2.2.2.2.2.2.2.2.2.1 y.2.2.2.2.2.2.2.2.2.2.2.1 y.2.2.2.2.2.2.2.2.2.2.2.2.1 y.2.2.2.2.2.2.2.2.2.2.2.2.2.1 S') (a0, a1, a2, a3, a4, a5, a6, a7, a8, a9, a10, a11, a12, a13, ()) S) x.1 x.2.1 x.2.2.1 x.2.2.2.1 x.2.2.2.2.1 x.2.2.2.2.2.1 x.2.2.2.2.2.2.1 x.2.2.2.2.2.2.2.1 x.2.2.2.2.2.2.2.2.1 x.2.2.2.2.2.2.2.2.2.1 x.2.2.2.2.2.2.2.2.2.2.1 x.2.2.2.2.2.2.2.2.2.2.2.1 x.2.2.2.2.2.2.2.2.2.2.2.2.1 x.2.2.2.2.2.2.2.2.2.2.2.2.2.1 S
  | _ :: _, body, x, S => LoopU body x S
def joinN : (ts : List Ty) → ((Dens ts → St → Prop) → Prop) → (Dens ts → St → Prop) → Prop
  | [], body, rest => Join0 (fun cont => body (fun y S' => cont  S')) (fun  S => rest (()) S)
  | [_], body, rest => Join1 (fun cont => body (fun y S' => cont y.1 S')) (fun a0 S => rest (a0, ()) S)
  | [_, _], body, rest => Join2 (fun cont => body (fun y S' => cont y.1 y.2.1 S')) (fun a0 a1 S => rest (a0, a1, ()) S)
  | [_, _, _], body, rest => Join3 (fun cont => body (fun y S' => cont y.1 y.2.1 y.2.2.1 S')) (fun a0 a1 a2 S => rest (a0, a1, a2, ()) S)
  | [_, _, _, _], body, rest => Join4 (fun cont => body (fun y S' => cont y.1 y.2.1 y.2.2.1 y.2.2.2.1 S')) (fun a0 a1 a2 a3 S => rest (a0, a1, a2, a3, ()) S)
  | [_, _, _, _, _], body, rest => Join5 (fun cont => body (fun y S' => cont y.1 y.2.1 y.2.2.1 y.2.2.2.1 y.2.2.2.2.1 S')) (fun a0 a1 a2 a3 a4 S => rest (a0, a1, a2, a3, a4, ()) S)
  | [_, _, _, _, _, _], body, rest => Join6 (fun cont => body (fun y S' => cont y.1 y.2.1 y.2.2.1 y.2.2.2.1 y.2.2.2.2.1 y.2.2.2.2.2.1 S')) (fun a0 a1 a2 a3 a4 a5 S => rest (a0, a1, a2, a3, a4, a5, ()) S)
  | [_, _, _, _, _, _, _], body, rest => Join7 (fun cont => body (fun y S' => cont y.1 y.2.1 y.2.2.1 y.2.2.2.1 y.2.2.2.2.1 y.2.2.2.2.2.1 y.2.2.2.2.2.2.1 S')) (fun a0 a1 a2 a3 a4 a5 a6 S => rest (a0, a1, a2, a3, a4, a5, a6, ()) S)
  | [_, _, _, _, _, _, _, _], body, rest => Join8 (fun cont => body (fun y S' => cont y.1 y.2.1 y.2.2.1 y.2.2.2.1 y.2.2.2.2.1 y.2.2.2.2.2.1 y.2.2.2.2.2.2.1 y.2.2.2.2.2.2.2.1 S')) (fun a0 a1 a2 a3 a4 a5 a6 a7 S => rest (a0, a1, a2, a3, a4, a5, a6, a7, ()) S)
  | [_, _, _, _, _, _, _, _, _], body, rest => Join9 (fun cont => body (fun y S' => cont y.1 y.2.1 y.2.2.1 y.2.2.2.1 y.2.2.2.2.1 y.2.2.2.2.2.1 y.2.2.2.2.2.2.1 y.2.2.2.2.2.2.2.1 y.2.2.2.2.2.2.2.2.1 S')) (fun a0 a1 a2 a3 a4 a5 a6 a7 a8 S => rest (a0, a1, a2, a3, a4, a5, a6, a7, a8, ()) S)
  | [_, _, _, _, _, _, _, _, _, _], body, rest => Join10 (fun cont => body (fun y S' => cont y.1 y.2.1 y.2.2.1 y.2.2.2.1 y.2.2.2.2.1 y.2.2.2.2.2.1 y.2.2.2.2.2.2.1 y.2.2.2.2.2.2.2.1 y.2.2.2.2.2.2.2.2.1 y.2.2.2.2.2.2.2.2.2.1 S')) (fun a0 a1 a2 a3 a4 a5 a6 a7 a8 a9 S => rest (a0, a1, a2, a3, a4, a5, a6, a7, a8, a9, ()) S)
  | [_, _, _, _, _, _, _, _, _, _, _], body, rest => Join11 (fun cont => body (fun y S' => cont y.1 y.2.1 y.2.2.1 y.2.2.2.1 y.2.2.2.2.1 y.2.2.2.2.2.1 y.2.2.2.2.2.2.1 y.2.2.2.2.2.2.2.1 y.2.2.2.2.2.2.2.2.1 y.2.2.2.2.2.2.2.2.2.1 y.2.2.2.2.2.2.2.2.2.2.1 S')) (fun a0 a1 a2 a3 a4 a5 a6 a7 a8 a9 a10 S => rest (a0, a1, a2, a3, a4, a5, a6, a7, a8, a9, a10, ()) S)
  | [_, _, _, _, _, _, _, _, _, _, _, _], body, rest => Join12 (fun cont => body (fun y S' => cont y.1 y.2.1 y.2.2.1 y.2.2.2.1 y.2.2.2.2.1 y.2.2.2.2.2.1 y.2.2.2.2.2.2.1 y.2.2.2.2.2.2.2.1 y.2.2.2.2.2.2.2.2.1 y.2.2.2.2.2.2.2.2.2.1 y.2.2.2.2.2.2.2.2.2.2.1 y.2.2.2.2.2.2.2.2.2.2.2.1 S')) (fun a0 a1 a2 a3 a4 a5 a6 a7 a8 a9 a10 a11 S => rest (a0, a1, a2, a3, a4, a5, a6, a7, a8, a9, a10, a11, ()) S)
  | [_, _, _, _, _, _, _, _, _, _, _, _, _], body, rest => Join13 (fun cont => body (fun y S' => cont y.1 y.2.1 y.2.2.1 y.2.2.2.1 y.2.2.2.2.1 y.2.2.2.2.2.1 y.2.2.2.2.2.2.1 y.2.2.2.2.2.2.2.1 y.2.2.2.2.2.2.2.2.1 y.2.2.2.2.2.2.2.2.2.1 y.2.2.2.2.2.2.2.2.2.2.1 y.2.2.2.2.2.2.2.2.2.2.2.1 y.2.2.2.2.2.2.2.2.2.2.2.2.1 S')) (fun a0 a1 a2 a3 a4 a5 a6 a7 a8 a9 a10 a11 a12 S => rest (a0, a1, a2, a3, a4, a5, a6, a7, a8, a9, a10, a11, a12, ()) S)
  | [_, _, _, _, _, _, _, _, _, _, _, _, _, _], body, rest => Join14 (fun cont => body (fun y S' => cont y.1 y.2.1 y.2.2.1 y.2.2.2.1 y.2.2.2.2.1 y.2.2.2.2.2.1 y.2.2.2.2.2.2.1 y.2.2.2.2.2.2.2.1 y.2.2.2.2.2.2.2.2.1 y.2.2.2.2.2.2.2.2.2.1 y.2.2.2.2.2.2.2.2.2.2.1 y.2.2.2.2.2.2.2.2.2.2.2.1 y.2.2.2.2.2.2.2.2.2.2.2.2.1 y.2.2.2.2.2.2.2.2.2.2.2.2.2.1 S')) (fun a0 a1 a2 a3 a4 a5 a6 a7 a8 a9 a10 a11 a12 a13 S => rest (a0, a1, a2, a3, a4, a5, a6, a7, a8, a9, a10, a11, a12, a13, ()) S)
  | _ :: _, body, rest => JoinU body rest
theorem loopN_ok : ∀ (ts : List Ty) (body : (Dens ts → St → Prop) → Dens ts → St → Prop) (x : Dens ts) (S : St), loopN ts body x S → LoopU body x S
  | [], body, x, S, ⟨J, h0, h⟩ => ⟨fun n x S => J n  S, h0, fun n x S hx => h n  S hx⟩
  | [_], body, x, S, ⟨J, h0, h⟩ => ⟨fun n x S => J n x.1 S, h0, fun n x S hx => h n x.1 S hx⟩
  | [_, _], body, x, S, ⟨J, h0, h⟩ => ⟨fun n x S => J n x.1 x.2.1 S, h0, fun n x S hx => h n x.1 x.2.1 S hx⟩
  | [_, _, _], body, x, S, ⟨J, h0, h⟩ => ⟨fun n x S => J n x.1 x.2.1 x.2.2.1 S, h0, fun n x S hx => h n x.1 x.2.1 x.2.2.1 S hx⟩
  | [_, _, _, _], body, x, S, ⟨J, h0, h⟩ => ⟨fun n x S => J n x.1 x.2.1 x.2.2.1 x.2.2.2.1 S, h0, fun n x S hx => h n x.1 x.2.1 x.2.2.1 x.2.2.2.1 S hx⟩
  | [_, _, _, _, _], body, x, S, ⟨J, h0, h⟩ => ⟨fun n x S => J n x.1 x.2.1 x.2.2.1 x.2.2.2.1 x.2.2.2.2.1 S, h0, fun n x S hx => h n x.1 x.2.1 x.2.2.1 x.2.2.2.1 x.2.2.2.2.1 S hx⟩
  | [_, _, _, _, _, _], body, x, S, ⟨J, h0, h⟩ => ⟨fun n x S => J n x.1 x.2.1 x.2.2.1 x.2.2.2.1 x.2.2.2.2.1 x.2.2.2.2.2.1 S, h0, fun n x S hx => h n x.1 x.2.1 x.2.2.1 x.2.2.2.1 x.2.2.2.2.1 x.2.2.2.2.2.1 S hx⟩
  | [_, _, _, _, _, _, _], body, x, S, ⟨J, h0, h⟩ => ⟨fun n x S => J n x.1 x.2.1 x.2.2.1 x.2.2.2.1 x.2.2.2.2.1 x.2.2.2.2.2.1 x.2.2.2.2.2.2.1 S, h0, fun n x S hx => h n x.1 x.2.1 x.2.2.1 x.2.2.2.1 x.2.2.2.2.1 x.2.2.2.2.2.1 x.2.2.2.2.2.2.1 S hx⟩
  | [_, _, _, _, _, _, _, _], body, x, S, ⟨J, h0, h⟩ => ⟨fun n x S => J n x.1 x.2.1 x.2.2.1 x.2.2.2.1 x.2.2.2.2.1 x.2.2.2.2.2.1 x.2.2.2.2.2.2.1 x.2.2.2.2.2.2.2.1 S, h0, fun n x S hx => h n x.1 x.2.1 x.2.2.1 x.2.2.2.1 x.2.2.2.2.1 x.2.2.2.2.2.1 x.2.2.2.2.2.2.1 x.2.2.2.2.2.2.2.1 S hx⟩
  | [_, _, _, _, _, _, _, _, _], body, x, S, ⟨J, h0, h⟩ => ⟨fun n x S => J n x.1 x.2.1 x.2.2.1 x.2.2.2.1 x.2.2.2.2.1 x.2.2.2.2.2.1 x.2.2.2.2.2.2.1 x.2.2.2.2.2.2.2.1 x.2.2.2.2.2.2.2.2.1 S, h0, fun n x S hx => h n x.1 x.2.1 x.2.2.1 x.2.2.2.1 x.2.2.2.2.1 x.2.2.2.2.2.1 x.2.2.2.2.2.2.1 x.2.2.2.2.2.2.2.1 x.2.2.2.2.2.2.2.2.1 S hx⟩
  | [_, _, _, _, _, _, _, _, _, _], body, x, S, ⟨J, h0, h⟩ => ⟨fun n x S => J n x.1 x.2.1 x.2.2.1 x.2.2.2.1 x.2.2.2.2.1 x.2.2.2.2.2.1 x.2.2.2.2.2.2.1 x.2.2.2.2.2.2.2.1 x.2.2.2.2.2.2.2.2.1 x.2.2.2.2.2.2.2.2.2.1 S, h0, fun n x S hx => h n x.1 x.2.1 x.2.2.1 x.2.2.2.1 x.2.2.2.2.1 x.2.2.2.2.2.1 x.2.2.2.2.2.2.1 x.2.2.2.2.2.2.2.1 x.2.2.2.2.2.2.2.2.1 x.2.2.2.2.2.2.2.2.2.1 S hx⟩
  | [_, _, _, _, _, _, _, _, _, _, _], body, x, S, ⟨J, h0, h⟩ => ⟨fun n x S => J n x.1 x.2.1 x.2.2.1 x.2.2.2.1 x.2.2.2.2.1 x.2.2.2.2.2.1 x.2.2.2.2.2.2.1 x.2.2.2.2.2.2.2.1 x.2.2.2.2.2.2.2.2.1 x.2.2.2.2.2.2.2.2.2.1 x.2.2.2.2.2.2.2.2.2.2.1 S, h0, fun n x S hx => h n x.1 x.2.1 x.2.2.1 x.2.2.2.1 x.2.2.2.2.1 x.2.2.2.2.2.1 x.2.2.2.2.2.2.1 x.2.2.2.2.2.2.2.1 x.2.2.2.2.2.2.2.2.1 x.2.2.2.2.2.2.2.2.2.1 x.2.2.2.2.2.2.2.2.2.2.1 S hx⟩
  | [_, _, _, _, _, _, _, _, _, _, _, _], body, x, S, ⟨J, h0, h⟩ => ⟨fun n x S => J n x.1 x.2.1 x.2.2.1 x.2.2.2.1 x.2.2.2.2.1 x.2.2.2.2.2.1 x.2.2.2.2.2.2.1 x.2.2.2.2.2.2.2.1 x.2.2.2.2.2.2.2.2.1 x.2.2.2.2.2.2.2.2.2.1 x.2.2.2.2.2.2.2.2.2.2.1 x.2.2.2.2.2.2.2.2.2.2.2.1 S, h0, fun n x S hx => h n x.1 x.2.1 x.2.2.1 x.2.2.2.1 x.2.2.2.2.1 x.2.2.2.2.2.1 x.2.2.2.2.2.2.1 x.2.2.2.2.2.2.2.1 x.2.2.2.2.2.2.2.2.1 x.2.2.2.2.2.2.2.2.2.1 x.2.2.2.2.2.2.2.2.2.2.1 x.2.2.2.2.2.2.2.2.2.2.2.1 S hx⟩
  | [_, _, _, _, _, _, _, _, _, _, _, _, _], body, x, S, ⟨J, h0, h⟩ => ⟨fun n x S => J n x.1 x.2.1 x.2.2.1 x.2.2.2.1 x.2.2.2.2.1 x.2.2.2.2.2.1 x.2.2.2.2.2.2.1 x.2.2.2.2.2.2.2.1 x.2.2.2.2.2.2.2.2.1 x.2.2.2.2.2.2.2.2.2.1 x.2.2.2.2.2.2.2.2.2.2.1 x.2.2.2.2.2.2.2.2.2.2.2.1 x.2.2.2.2.2.2.2.2.2.2.2.2.1 S, h0, fun n x S hx => h n x.1 x.2.1 x.2.2.1 x.2.2.2.1 x.2.2.2.2.1 x.2.2.2.2.2.1 x.2.2.2.2.2.2.1 x.2.2.2.2.2.2.2.1 x.2.2.2.2.2.2.2.2.1 x.2.2.2.2.2.2.2.2.2.1 x.2.2.2.2.2.2.2.2.2.2.1 x.2.2.2.2.2.2.2.2.2.2.2.1 x.2.2.2.2.2.2.2.2.2.2.2.2.1 S hx⟩
  | [_, _, _, _, _, _, _, _, _, _, _, _, _, _], body, x, S, ⟨J, h0, h⟩ => ⟨fun n x S => J n x.1 x.2.1 x.2.2.1 x.2.2.2.1 x.2.2.2.2.1 x.2.2.2.2.2.1 x.2.2.2.2.2.2.1 x.2.2.2.2.2.2.2.1 x.2.2.2.2.2.2.2.2.1 x.2.2.2.2.2.2.2.2.2.1 x.2.2.2.2.2.2.2.2.2.2.1 x.2.2.2.2.2.2.2.2.2.2.2.1 x.2.2.2.2.2.2.2.2.2.2.2.2.1 x.2.2.2.2.2.2.2.2.2.2.2.2.2.1 S, h0, fun n x S hx => h n x.1 x.2.1 x.2.2.1 x.2.2.2.1 x.2.2.2.2.1 x.2.2.2.2.2.1 x.2.2.2.2.2.2.1 x.2.2.2.2.2.2.2.1 x.2.2.2.2.2.2.2.2.1 x.2.2.2.2.2.2.2.2.2.1 x.2.2.2.2.2.2.2.2.2.2.1 x.2.2.2.2.2.2.2.2.2.2.2.1 x.2.2.2.2.2.2.2.2.2.2.2.2.1 x.2.2.2.2.2.2.2.2.2.2.2.2.2.1 S hx⟩
  | _ :: _ :: _ :: _ :: _ :: _ :: _ :: _ :: _ :: _ :: _ :: _ :: _ :: _ :: _ :: _, body, x, S, h => h
theorem joinN_ok : ∀ (ts : List Ty) (body : (Dens ts → St → Prop) → Prop) (rest : Dens ts → St → Prop), joinN ts body rest → JoinU body rest
  | [], body, rest, ⟨M, h0, h⟩ => ⟨fun x S => M  S, h0, fun x S hx => h  S hx⟩
  | [_], body, rest, ⟨M, h0, h⟩ => ⟨fun x S => M x.1 S, h0, fun x S hx => h x.1 S hx⟩
  | [_, _], body, rest, ⟨M, h0, h⟩ => ⟨fun x S => M x.1 x.2.1 S, h0, fun x S hx => h x.1 x.2.1 S hx⟩
  | [_, _, _], body, rest, ⟨M, h0, h⟩ => ⟨fun x S => M x.1 x.2.1 x.2.2.1 S, h0, fun x S hx => h x.1 x.2.1 x.2.2.1 S hx⟩
  | [_, _, _, _], body, rest, ⟨M, h0, h⟩ => ⟨fun x S => M x.1 x.2.1 x.2.2.1 x.2.2.2.1 S, h0, fun x S hx => h x.1 x.2.1 x.2.2.1 x.2.2.2.1 S hx⟩
  | [_, _, _, _, _], body, rest, ⟨M, h0, h⟩ => ⟨fun x S => M x.1 x.2.1 x.2.2.1 x.2.2.2.1 x.2.2.2.2.1 S, h0, fun x S hx => h x.1 x.2.1 x.2.2.1 x.2.2.2.1 x.2.2.2.2.1 S hx⟩
  | [_, _, _, _, _, _], body, rest, ⟨M, h0, h⟩ => ⟨fun x S => M x.1 x.2.1 x.2.2.1 x.2.2.2.1 x.2.2.2.2.1 x.2.2.2.2.2.1 S, h0, fun x S hx => h x.1 x.2.1 x.2.2.1 x.2.2.2.1 x.2.2.2.2.1 x.2.2.2.2.2.1 S hx⟩
  | [_, _, _, _, _, _, _], body, rest, ⟨M, h0, h⟩ => ⟨fun x S => M x.1 x.2.1 x.2.2.1 x.2.2.2.1 x.2.2.2.2.1 x.2.2.2.2.2.1 x.2.2.2.2.2.2.1 S, h0, fun x S hx => h x.1 x.2.1 x.2.2.1 x.2.2.2.1 x.2.2.2.2.1 x.2.2.2.2.2.1 x.2.2.2.2.2.2.1 S hx⟩
  | [_, _, _, _, _, _, _, _], body, rest, ⟨M, h0, h⟩ => ⟨fun x S => M x.1 x.2.1 x.2.2.1 x.2.2.2.1 x.2.2.2.2.1 x.2.2.2.2.2.1 x.2.2.2.2.2.2.1 x.2.2.2.2.2.2.2.1 S, h0, fun x S hx => h x.1 x.2.1 x.2.2.1 x.2.2.2.1 x.2.2.2.2.1 x.2.2.2.2.2.1 x.2.2.2.2.2.2.1 x.2.2.2.2.2.2.2.1 S hx⟩
  | [_, _, _, _, _, _, _, _, _], body, rest, ⟨M, h0, h⟩ => ⟨fun x S => M x.1 x.2.1 x.2.2.1 x.2.2.2.1 x.2.2.2.2.1 x.2.2.2.2.2.1 x.2.2.2.2.2.2.1 x.2.2.2.2.2.2.2.1 x.2.2.2.2.2.2.2.2.1 S, h0, fun x S hx => h x.1 x.2.1 x.2.2.1 x.2.2.2.1 x.2.2.2.2.1 x.2.2.2.2.2.1 x.2.2.2.2.2.2.1 x.2.2.2.2.2.2.2.1 x.2.2.2.2.2.2.2.2.1 S hx⟩
  | [_, _, _, _, _, _, _, _, _, _], body, rest, ⟨M, h0, h⟩ => ⟨fun x S => M x.1 x.2.1 x.2.2.1 x.2.2.2.1 x.2.2.2.2.1 x.2.2.2.2.2.1 x.2.2.2.2.2.2.1 x.2.2.2.2.2.2.2.1 x.2.2.2.2.2.2.2.2.1 x.2.2.2.2.2.2.2.2.2.1 S, h0, fun x S hx => h x.1 x.2.1 x.2.2.1 x.2.2.2.1 x.2.2.2.2.1 x.2.2.2.2.2.1 x.2.2.2.2.2.2.1 x.2.2.2.2.2.2.2.1 x.2.2.2.2.2.2.2.2.1 x.2.2.2.2.2.2.2.2.2.1 S hx⟩
  | [_, _, _, _, _, _, _, _, _, _, _], body, rest, ⟨M, h0, h⟩ => ⟨fun x S => M x.1 x.2.1 x.2.2.1 x.2.2.2.1 x.2.2.2.2.1 x.2.2.2.2.2.1 x.2.2.2.2.2.2.1 x.2.2.2.2.2.2.2.1 x.2.2.2.2.2.2.2.2.1 x.2.2.2.2.2.2.2.2.2.1 x.2.2.2.2.2.2.2.2.2.2.1 S, h0, fun x S hx => h x.1 x.2.1 x.2.2.1 x.2.2.2.1 x.2.2.2.2.1 x.2.2.2.2.2.1 x.2.2.2.2.2.2.1 x.2.2.2.2.2.2.2.1 x.2.2.2.2.2.2.2.2.1 x.2.2.2.2.2.2.2.2.2.1 x.2.2.2.2.2.2.2.2.2.2.1 S hx⟩
  | [_, _, _, _, _, _, _, _, _, _, _, _], body, rest, ⟨M, h0, h⟩ => ⟨fun x S => M x.1 x.2.1 x.2.2.1 x.2.2.2.1 x.2.2.2.2.1 x.2.2.2.2.2.1 x.2.2.2.2.2.2.1 x.2.2.2.2.2.2.2.1 x.2.2.2.2.2.2.2.2.1 x.2.2.2.2.2.2.2.2.2.1 x.2.2.2.2.2.2.2.2.2.2.1 x.2.2.2.2.2.2.2.2.2.2.2.1 S, h0, fun x S hx => h x.1 x.2.1 x.2.2.1 x.2.2.2.1 x.2.2.2.2.1 x.2.2.2.2.2.1 x.2.2.2.2.2.2.1 x.2.2.2.2.2.2.2.1 x.2.2.2.2.2.2.2.2.1 x.2.2.2.2.2.2.2.2.2.1 x.2.2.2.2.2.2.2.2.2.2.1 x.2.2.2.2.2.2.2.2.2.2.2.1 S hx⟩
  | [_, _, _, _, _, _, _, _, _, _, _, _, _], body, rest, ⟨M, h0, h⟩ => ⟨fun x S => M x.1 x.2.1 x.2.2.1 x.2.2.2.1 x.2.2.2.2.1 x.2.2.2.2.2.1 x.2.2.2.2.2.2.1 x.2.2.2.2.2.2.2.1 x.2.2.2.2.2.2.2.2.1 x.2.2.2.2.2.2.2.2.2.1 x.2.2.2.2.2.2.2.2.2.2.1 x.2.2.2.2.2.2.2.2.2.2.2.1 x.2.2.2.2.2.2.2.2.2.2.2.2.1 S, h0, fun x S hx => h x.1 x.2.1 x.2.2.1 x.2.2.2.1 x.2.2.2.2.1 x.2.2.2.2.2.1 x.2.2.2.2.2.2.1 x.2.2.2.2.2.2.2.1 x.2.2.2.2.2.2.2.2.1 x.2.2.2.2.2.2.2.2.2.1 x.2.2.2.2.2.2.2.2.2.2.1 x.2.2.2.2.2.2.2.2.2.2.2.1 x.2.2.2.2.2.2.2.2.2.2.2.2.1 S hx⟩
  | [_, _, _, _, _, _, _, _, _, _, _, _, _, _], body, rest, ⟨M, h0, h⟩ => ⟨fun x S => M x.1 x.2.1 x.2.2.1 x.2.2.2.1 x.2.2.2.2.1 x.2.2.2.2.2.1 x.2.2.2.2.2.2.1 x.2.2.2.2.2.2.2.1 x.2.2.2.2.2.2.2.2.1 x.2.2.2.2.2.2.2.2.2.1 x.2.2.2.2.2.2.2.2.2.2.1 x.2.2.2.2.2.2.2.2.2.2.2.1 x.2.2.2.2.2.2.2.2.2.2.2.2.1 x.2.2.2.2.2.2.2.2.2.2.2.2.2.1 S, h0, fun x S hx => h x.1 x.2.1 x.2.2.1 x.2.2.2.1 x.2.2.2.2.1 x.2.2.2.2.2.1 x.2.2.2.2.2.2.1 x.2.2.2.2.2.2.2.1 x.2.2.2.2.2.2.2.2.1 x.2.2.2.2.2.2.2.2.2.1 x.2.2.2.2.2.2.2.2.2.2.1 x.2.2.2.2.2.2.2.2.2.2.2.1 x.2.2.2.2.2.2.2.2.2.2.2.2.1 x.2.2.2.2.2.2.2.2.2.2.2.2.2.1 S hx⟩
  | _ :: _ :: _ :: _ :: _ :: _ :: _ :: _ :: _ :: _ :: _ :: _ :: _ :: _ :: _ :: _, body, rest, h => h

end Go.Th
end

section
/- Code read without frames: what it asks, in typed words. -/
set_option linter.unusedVariables false
set_option linter.unusedSimpArgs false
namespace Go.Th
open Go.RowKit Go.Lib

inductive Cell where
  | none
  | val (v : V)
  | tt
  | ff

abbrev SF := List Cell

def cellAt : SF → Nat → Cell
  | [], _ => .none
  | c :: _, 0 => c
  | _ :: F, n + 1 => cellAt F n

def need (c : Cell) (k : V → Prop) : Prop :=
  match c with
  | .none => False
  | .val v => k v
  | .tt => k (.bool true)
  | .ff => k (.bool false)

def Cell.Le : Cell → V → Prop
  | .none, _ => True
  | .val w, v => v = w
  | .tt, v => v = .bool true
  | .ff, v => v = .bool false

theorem Cell.le_val (v : V) : (Cell.val v).Le v := rfl
theorem Cell.le_tt : Cell.tt.Le (.bool true) := rfl
theorem Cell.le_ff : Cell.ff.Le (.bool false) := rfl

structure Le (F : SF) (fr : List V) : Prop where
  len : F.length = fr.length
  at_ : ∀ i, (cellAt F i).Le (G fr i)

def needX (F : SF) (x : AX) (k : V → Prop) : Prop :=
  match x with
  | .tmp i => need (cellAt F i) k
  | .con v => k v
  | .fn f => k (.func (.func f) [] [])
def needXs (F : SF) : List AX → (List V → Prop) → Prop
  | [], k => k []
  | x :: xs, k => needX F x fun v => needXs F xs fun vs => k (v :: vs)
def needXo (F : SF) (x : Option AX) (k : Option V → Prop) : Prop :=
  match x with
  | none => k none
  | some x => needX F x fun v => k (some v)
def needPs (F : SF) : List (Nat × Nat × AX) → (List (Nat × Nat × V) → Prop) → Prop
  | [], k => k []
  | p :: ps, k => needX F p.2.2 fun v => needPs F ps fun vs => k ((p.1, p.2.1, v) :: vs)

theorem need_ok {c : Cell} {k : V → Prop} {v : V} (hc : c.Le v) (h : need c k) : k v := by
  cases c with
  | none => exact h.elim
  | val w => simp only [Cell.Le] at hc; subst hc; exact h
  | tt => simp only [Cell.Le] at hc; subst hc; exact h
  | ff => simp only [Cell.Le] at hc; subst hc; exact h

theorem needX_ok {F : SF} {fr : List V} (hF : Le F fr) {x : AX} {k : V → Prop} (h : needX F x k) : k (x.ev fr) := by
  cases x with
  | tmp i => exact need_ok (hF.at_ i) h
  | con v => exact h
  | fn f => exact h

theorem needXs_ok {F : SF} {fr : List V} (hF : Le F fr) : ∀ {xs : List AX} {k : List V → Prop}, needXs F xs k → k (xs.map (·.ev fr))
  | [], k, h => h
  | x :: xs, k, h => needXs_ok hF (xs := xs) (k := fun vs => k (x.ev fr :: vs)) (needX_ok hF h)

theorem needXo_ok {F : SF} {fr : List V} (hF : Le F fr) {x : Option AX} {k : Option V → Prop} (h : needXo F x k) : k (x.map (·.ev fr)) := by
  cases x with
  | none => exact h
  | some x => exact needX_ok hF h

theorem needPs_ok {F : SF} {fr : List V} (hF : Le F fr) : ∀ {ps : List (Nat × Nat × AX)} {k : List (Nat × Nat × V) → Prop}, needPs F ps k → k (ps.map fun p => (p.1, p.2.1, p.2.2.ev fr))
  | [], k, h => h
  | p :: ps, k, h => needPs_ok hF (ps := ps) (k := fun vs => k ((p.1, p.2.1, p.2.2.ev fr) :: vs)) (needX_ok hF h)

theorem cellAt_set : ∀ (F : SF) (d i : Nat) (c : Cell), cellAt (F.set d c) i = if d = i ∧ d < F.length then c else cellAt F i
  | [], d, i, c => by simp [cellAt]
  | x :: F, 0, 0, c => by simp [cellAt]
  | x :: F, 0, i + 1, c => by simp [cellAt]
  | x :: F, d + 1, 0, c => by simp [cellAt]
  | x :: F, d + 1, i + 1, c => by simp [cellAt, cellAt_set F d i c]

theorem Le.set {F : SF} {fr : List V} (h : Le F fr) (d : Nat) {c : Cell} {v : V} (hc : c.Le v) : Le (F.set d c) (fr.set d v) := by
  refine ⟨by simp [h.len], fun i => ?_⟩
  rw [cellAt_set, G_set]
  by_cases e : d = i
  · subst e
    by_cases hl : d < fr.length
    · rw [if_pos ⟨rfl, by rw [h.len]; exact hl⟩, if_pos rfl, if_pos hl]; exact hc
    · rw [if_neg (fun h' => hl (by rw [← h.len]; exact h'.2)), if_pos rfl, if_neg hl]; exact h.at_ d
  · rw [if_neg (fun h' => e h'.1), if_neg e]; exact h.at_ i

theorem Le.refine {F : SF} {fr : List V} (h : Le F fr) (d : Nat) {c : Cell} (hc : c.Le (G fr d)) : Le (F.set d c) fr := by
  refine ⟨by simp [h.len], fun i => ?_⟩
  rw [cellAt_set]
  split
  · rename_i e; rw [← e.1]; exact hc
  · exact h.at_ i

def putT (F : SF) (d : Option Nat) (c : Cell) : SF :=
  match d with
  | some d => F.set d c
  | none => F

theorem Le.put {F : SF} {fr : List V} (h : Le F fr) (d : Option Nat) {c : Cell} {v : V} (hc : c.Le v) : Le (putT F d c) (Th.put fr d v) := by
  cases d with
  | none => exact h
  | some d => exact h.set d hc

def Stay (M : List Nat) (F F' : SF) : Prop := F'.length = F.length ∧ ∀ i, i ∉ M → cellAt F' i = cellAt F i
theorem Stay.refl (M : List Nat) (F : SF) : Stay M F F := ⟨rfl, fun _ _ => rfl⟩
theorem Stay.trans {M : List Nat} {F F' F2 : SF} (h : Stay M F F') (k : Stay M F' F2) : Stay M F F2 := ⟨k.1.trans h.1, fun i hi => (k.2 i hi).trans (h.2 i hi)⟩
theorem Stay.mono {M M' : List Nat} {F F' : SF} (h : Stay M F F') (hs : ∀ i ∈ M, i ∈ M') : Stay M' F F' := ⟨h.1, fun i hi => h.2 i fun hm => hi (hs i hm)⟩
theorem Stay.set {M : List Nat} (F : SF) {d : Nat} (c : Cell) (hd : d ∈ M) : Stay M F (F.set d c) := by
  refine ⟨by simp, fun i hi => ?_⟩
  rw [cellAt_set, if_neg]
  rintro ⟨rfl, _⟩
  exact hi hd

def binInt (op : BinOp) (kk : IntKind) (a b : Int) (k : V → Prop) : Prop :=
  match op with
  | .add => setI (kk.wrap (a + b)) fun n => k (.int kk n)
  | .sub => setI (kk.wrap (a - b)) fun n => k (.int kk n)
  | .mul => setI (kk.wrap (a * b)) fun n => k (.int kk n)
  | .quo => b ≠ 0 ∧ setI (kk.wrap (a.tdiv b)) fun n => k (.int kk n)
  | .rem => b ≠ 0 ∧ setI (a.tmod b) fun n => k (.int kk n)
  | .eql => k (.bool (decide (a = b)))
  | .neq => k (.bool (!decide (a = b)))
  | .lss => k (.bool (decide (a < b)))
  | .leq => k (.bool (decide (a ≤ b)))
  | .gtr => k (.bool (decide (b < a)))
  | .geq => k (.bool (decide (b ≤ a)))
  | .shl | .shr => False
  | op => setI (intBits op kk a b) fun n => k (.int kk n)

def binK (op : BinOp) (x y : V) (k : V → Prop) : Prop :=
  match x, y with
  | .int k1 a, .int k2 b =>
    match op with
    | .shl => 0 ≤ b ∧ setI (k1.wrap (a * 2 ^ (min b.toNat k1.bits))) fun n => k (.int k1 n)
    | .shr => 0 ≤ b ∧ setI (a.fdiv (2 ^ (min b.toNat k1.bits))) fun n => k (.int k1 n)
    | op => match decEq k1 k2 with
      | .isTrue _ => binInt op k1 a b k
      | .isFalse _ => False
  | .str s, .str t =>
    match op with
    | .add => s.length + t.length < 2 ^ 62 ∧ k (.str (s ++ t))
    | .eql => k (.bool (decide (s = t)))
    | .neq => k (.bool (!decide (s = t)))
    | .lss => k (.bool (Op.bytesLess s t))
    | .leq => k (.bool (Op.bytesLess s t || decide (s = t)))
    | .gtr => k (.bool (!(Op.bytesLess s t || decide (s = t))))
    | .geq => k (.bool (!Op.bytesLess s t))
    | op => ifS (binV op (.str s) (.str t)) k
  | x, y => ifS (binV op x y) k

theorem binK_ok {op : BinOp} {x y : V} {k : V → Prop} (h : binK op x y k) : ∃ v, binV op x y = some v ∧ k v := by
  unfold binK at h
  split at h
  · rename_i k1 a k2 b
    split at h
    · refine ⟨_, ?_, h.2⟩
      rw [binV_shl, if_neg (by omega)]
    · refine ⟨_, ?_, h.2⟩
      rw [binV_shr, if_neg (by omega)]
    · rename_i op' h1 h2
      split at h
      · rename_i he hd
        subst he
        cases op with
        | add => exact ⟨_, binV_add .., h⟩
        | sub => exact ⟨_, binV_sub .., h⟩
        | mul => exact ⟨_, binV_mul .., h⟩
        | quo => exact ⟨_, by rw [binV_quo, if_neg h.1], h.2⟩
        | rem => exact ⟨_, by rw [binV_rem, if_neg h.1], h.2⟩
        | eql => exact ⟨_, binV_eql .., h⟩
        | neq => exact ⟨_, binV_neq .., h⟩
        | lss => exact ⟨_, binV_lss .., h⟩
        | leq => exact ⟨_, binV_leq .., h⟩
        | gtr => exact ⟨_, binV_gtr .., h⟩
        | geq => exact ⟨_, binV_geq .., h⟩
        | and => exact ⟨_, binV_and .., h⟩
        | or => exact ⟨_, binV_or .., h⟩
        | xor => exact ⟨_, binV_xor .., h⟩
        | andNot => exact ⟨_, binV_andNot .., h⟩
        | shl => exact absurd rfl h1
        | shr => exact absurd rfl h2
      · exact h.elim
  · rename_i s t
    split at h
    · exact ⟨_, by rw [binV_sadd, if_pos h.1], h.2⟩
    · exact ⟨_, binV_seql .., h⟩
    · exact ⟨_, binV_sneq .., h⟩
    · exact ⟨_, rfl, h⟩
    · exact ⟨_, rfl, h⟩
    · exact ⟨_, rfl, h⟩
    · exact ⟨_, rfl, h⟩
    · exact ifS_ok h
  · exact ifS_ok h

def unK (op : UnOp) (x : V) (k : V → Prop) : Prop :=
  match op, x with
  | .neg, .int kk n => setI (kk.wrap (0 - n)) fun n => k (.int kk n)
  | .xor, .int kk n => setI (intBits .xor kk (if kk.signed then -1 else kk.max) n) fun n => k (.int kk n)
  | .not, .bool b => k (.bool (!b))
  | op, x => ifS (unV op x) k

theorem unK_ok {op : UnOp} {x : V} {k : V → Prop} (h : unK op x k) : ∃ v, unV op x = some v ∧ k v := by
  unfold unK at h
  split at h
  · exact ⟨_, unV_neg .., h⟩
  · exact ⟨_, unV_xor .., h⟩
  · exact ⟨_, unV_not .., h⟩
  · exact ifS_ok h

def pickK (b : Bool) (x y : V) (k : V → Prop) : Prop :=
  match x, y with
  | .bool p, .bool q => k (.bool (bif b then p else q))
  | .int k1 p, .int k2 q => match decEq k1 k2 with
    | .isTrue _ => k (.int k1 (bif b then p else q))
    | .isFalse _ => False
  | x, y => ifC b (k x) (k y)

theorem pickK_ok {b : Bool} {x y : V} {k : V → Prop} (h : pickK b x y k) : k (if b then x else y) := by
  unfold pickK at h
  split at h
  · cases b <;> exact h
  · split at h
    · rename_i he _; subst he; cases b <;> exact h
    · exact h.elim
  · have := ifC_ok h
    cases b <;> exact this

def cellX (F : SF) (x : AX) (k : Cell → Prop) : Prop :=
  match x with
  | .tmp i => match cellAt F i with
    | .none => False
    | .tt => k .tt
    | .ff => k .ff
    | .val v => k (.val v)
  | .con v => match v with
    | .bool b => match b with
      | true => k .tt
      | false => k .ff
    | v => k (.val v)
  | .fn f => k (.val (.func (.func f) [] []))

theorem cellX_ok {F : SF} {fr : List V} (hF : Le F fr) {x : AX} {k : Cell → Prop} (h : cellX F x k) : ∃ c : Cell, c.Le (x.ev fr) ∧ k c := by
  cases x with
  | tmp i =>
    have hi := hF.at_ i
    simp only [cellX] at h
    split at h
    · exact h.elim
    · rename_i hc; rw [hc] at hi; exact ⟨_, hi, h⟩
    · rename_i hc; rw [hc] at hi; exact ⟨_, hi, h⟩
    · rename_i hc; rw [hc] at hi; exact ⟨_, hi, h⟩
  | con v =>
    simp only [cellX] at h
    split at h
    · rename_i b
      cases b
      · exact ⟨_, Cell.le_ff, h⟩
      · exact ⟨_, Cell.le_tt, h⟩
    · exact ⟨.val v, Cell.le_val v, h⟩
  | fn f => exact ⟨_, Cell.le_val _, h⟩

def pickT (F : SF) (c x y : AX) (k : Cell → Prop) : Prop :=
  match c with
  | .tmp i => match cellAt F i with
    | .tt => cellX F x k
    | .ff => cellX F y k
    | .val (.bool b) => needX F x fun x => needX F y fun y => pickK b x y fun v => k (.val v)
    | _ => False
  | .con (.bool b) => match b with
    | true => cellX F x k
    | false => cellX F y k
  | _ => False

theorem pickT_ok {F : SF} {fr : List V} (hF : Le F fr) {c x y : AX} {k : Cell → Prop} (h : pickT F c x y k) : ∃ v, pickV (c.ev fr) (x.ev fr) (y.ev fr) = some v ∧ ∃ d : Cell, d.Le v ∧ k d := by
  unfold pickT at h
  split at h
  · rename_i i
    have hi := hF.at_ i
    split at h
    · rename_i hc; rw [hc] at hi; simp only [Cell.Le] at hi
      exact ⟨x.ev fr, by rw [ev_tmp, hi]; rfl, cellX_ok hF h⟩
    · rename_i hc; rw [hc] at hi; simp only [Cell.Le] at hi
      exact ⟨y.ev fr, by rw [ev_tmp, hi]; rfl, cellX_ok hF h⟩
    · rename_i b hc; rw [hc] at hi; simp only [Cell.Le] at hi
      exact ⟨if b then x.ev fr else y.ev fr, by rw [ev_tmp, hi]; rfl, _, Cell.le_val _, pickK_ok (k := fun v => k (.val v)) (needX_ok hF (needX_ok hF h))⟩
    · exact h.elim
  · rename_i b
    cases b
    · exact ⟨y.ev fr, rfl, cellX_ok hF h⟩
    · exact ⟨x.ev fr, rfl, cellX_ok hF h⟩
  · exact h.elim

def oneK (t : Option Ty) (v : V) (k : Prop) : Prop :=
  match t with
  | some (.int _) => match v with
    | .int _ _ => k
    | _ => False
  | some .bool => match v with
    | .bool _ => k
    | _ => False
  | some .str => match v with
    | .str _ => k
    | _ => False
  | _ => v.cells = [v] ∧ k

theorem oneK_ok {t : Option Ty} {v : V} {k : Prop} (h : oneK t v k) : v.cells = [v] ∧ k := by
  unfold oneK at h
  repeat' split at h
  all_goals first | exact ⟨rfl, h⟩ | exact h.elim | exact h

def ifD {p : Prop} (d : Decidable p) (k : Prop) : Prop :=
  match d with
  | .isTrue _ => k
  | .isFalse _ => False
theorem ifD_ok {p : Prop} {d : Decidable p} {k : Prop} (h : ifD d k) : p ∧ k := by
  cases d with
  | isTrue hp => exact ⟨hp, h⟩
  | isFalse _ => exact h.elim

def fillK (ts : List Ty) : List V → List (Nat × Nat × V) → (List V → Prop) → Prop
  | cs, [], k => k cs
  | cs, (off, size, v) :: r, k =>
    match size with
    | 1 => oneK ts[off]? v (ifD (Nat.decLe (off + 1) cs.length) (fillK ts (over cs off [v]) r k))
    | size => ifD (Nat.decEq v.cells.length size) (ifD (Nat.decLe (off + size) cs.length) (fillK ts (over cs off v.cells) r k))

theorem fillK_ok {ts : List Ty} : ∀ {ps : List (Nat × Nat × V)} {cs : List V} {k : List V → Prop}, fillK ts cs ps k → ∃ ds, fillV cs ps = some ds ∧ k ds
  | [], cs, k, h => ⟨cs, rfl, h⟩
  | (off, size, v) :: r, cs, k, h => by
    simp only [fillK] at h
    simp only [fillV]
    split at h
    · obtain ⟨h1, h⟩ := oneK_ok h
      obtain ⟨h2, h3⟩ := ifD_ok h
      rw [h1, if_pos ⟨rfl, h2⟩]
      exact fillK_ok h3
    · obtain ⟨h1, h⟩ := ifD_ok h
      obtain ⟨h2, h3⟩ := ifD_ok h
      rw [if_pos ⟨h1, h2⟩]
      exact fillK_ok h3

def Ann.tys : Ann → List Ty
  | .dt d => d.tys
  | _ => []

def newS (S : St) (b : Blk) (k : St → Prop) : Prop := ∀ S', S' = S.new b → k S'

def ifP (o : Option (V × St)) (k : V → St → Prop) : Prop :=
  match o with
  | some p => k p.1 p.2
  | none => False
theorem ifP_ok {o : Option (V × St)} {k : V → St → Prop} (h : ifP o k) : ∃ p, o = some p ∧ k p.1 p.2 := by
  cases o with
  | none => exact h.elim
  | some p => exact ⟨p, rfl, h⟩
theorem ifP_mk {o : Option (V × St)} {k : V → St → Prop} {v : V} {S : St} (h : o = some (v, S)) (hk : k v S) : ifP o k := by rw [h]; exact hk

def eqR (neg : Bool) (b : Bool) : Bool :=
  match neg with
  | true => !b
  | false => b
theorem eqR_eq (neg b : Bool) : (b != neg) = eqR neg b := by cases neg <;> cases b <;> rfl

def eqK (neg : Bool) (kk : Nat) (pl : List Nat) (x y : V) (k : V → Prop) : Prop :=
  match kk with
  | 0 => match x, y with
    | .bool a, .bool b => k (.bool (eqR neg (a == b)))
    | x, y => ∃ b : Bool, eqV 0 pl x y = some b ∧ k (.bool (eqR neg b))
  | kk => ∃ b : Bool, eqV kk pl x y = some b ∧ k (.bool (eqR neg b))
theorem eqK_ok {neg : Bool} {kk : Nat} {pl : List Nat} {x y : V} {k : V → Prop} (h : eqK neg kk pl x y k) : ∃ b : Bool, eqV kk pl x y = some b ∧ k (.bool (b != neg)) := by
  unfold eqK at h
  split at h
  · split at h
    · exact ⟨_, rfl, by rw [eqR_eq]; exact h⟩
    · obtain ⟨b, h1, h2⟩ := h; exact ⟨b, h1, by rw [eqR_eq]; exact h2⟩
  · obtain ⟨b, h1, h2⟩ := h; exact ⟨b, h1, by rw [eqR_eq]; exact h2⟩

theorem anyK_mono {o : Option (V → St → Prop)} {k k' : V → St → Prop} (hk : ∀ v S, k v S → k' v S) (h : anyK o k) : anyK o k' := by
  cases o with
  | none => exact h
  | some p => exact fun v S' hp => hk _ _ (h v S' hp)

def opV (o : AO) (ann : Ann) (F : SF) (S : St) (k : V → St → Prop) : Prop :=
  match o with
  | .move _ | .pick _ _ _ => False
  | .alloc zs => newS S (.cells zs true) fun S' => k (.ptr S.next 0) S'
  | .allocT t zs => newS S (.obj t zs.length zs) fun S' => k (.ptr S.next 0) S'
  | .box x => needX F x fun v => newS S (.cells v.cells true) fun S' => k (.ptr S.next 0) S'
  | .build zs ps => needPs F ps fun ps => fillK ann.tys zs ps fun cs => k (.agg cs) S
  | .buildSlice kk n zs ps => needPs F ps fun ps => fillK ann.tys zs ps fun cs => newS S (.cells cs true) fun S' => k (.slice S.next 0 n n kk true) S'
  | .load1 x => needX F x fun v => ifO ann (loadV S v) fun w => k w S
  | .loadN n x => needX F x fun v => ifO ann (loadNV S n v) fun w => k w S
  | .store n x y => needX F x fun p => needX F y fun v => ifS (storeV S n p v) fun S' => k .undef S'
  | .nilCheck x => needX F x fun v => nilV v = some v ∧ k v S
  | .bin op x y => needX F x fun v => needX F y fun w => match ann with
    | .no => binK op v w fun u => k u S
    | ann => ifO ann (binV op v w) fun u => k u S
  | .un op x => needX F x fun v => unK op v fun u => k u S
  | .convInt kk x => needX F x fun v => match v with
    | .int _ n => setI (kk.wrap n) fun n => k (.int kk n) S
    | v => ifS (convIntV kk v) fun u => k u S
  | .convStr x => needX F x fun v => ifO ann (convStrV v) fun w => k w S
  | .convBS x => needX F x fun v => ifO ann (convBSV S v) fun w => k w S
  | .convSB x => needX F x fun v => match v with
    | .str s => newS S (.cells (bytesV s) false) fun S' => k (.slice S.next 0 s.length s.length 1 false) S'
    | v => ifP (convSBV S v) k
  | .convBB x => needX F x fun v => ifO ann (convBBV S v) fun w => k w S
  | .mkFunc fn a b => needXs F a fun a => needXs F b fun b => k (.func fn a b) S
  | .mkMap => newS S (.map [] true) fun S' => k (.map S.next) S'
  | .mkIface t x => needX F x fun v => k (.iface t v) S
  | .mkSlice kk b zs l c => needX F l fun l => needX F c fun c => ifP (mkSliceV S kk b zs l c) k
  | .fieldAddr off x => needX F x fun v => ifO ann (fieldAddrV off v) fun w => k w S
  | .idxAddr kk x i => needX F x fun v => needX F i fun i => ifO ann (idxAddrV kk v i) fun w => k w S
  | .idxAddrArr n kk x i => needX F x fun v => needX F i fun i => ifO ann (idxAddrArrV n kk v i) fun w => k w S
  | .field n off x => needX F x fun v => ifO ann (fieldV n off v) fun w => k w S
  | .idxStr x i => needX F x fun v => needX F i fun i => ifO ann (idxStrV v i) fun w => k w S
  | .idxArr n kk pn x i => needX F x fun v => needX F i fun i => ifO ann (idxArrV n kk pn v i) fun w => k w S
  | .extract n x => needX F x fun v => ifO ann (extractV n v) fun w => k w S
  | .sliceStr x lo hi => needX F x fun v => needXo F lo fun lo => needXo F hi fun hi => ifO ann (sliceStrV v lo hi) fun w => k w S
  | .sliceSl kk x lo hi mx => needX F x fun v => needXo F lo fun lo => needXo F hi fun hi => needXo F mx fun mx => ifO ann (sliceSlV kk v lo hi mx) fun w => k w S
  | .sliceArr n kk x lo hi mx => needX F x fun v => needXo F lo fun lo => needXo F hi fun hi => needXo F mx fun mx => ifO ann (sliceArrV S n kk v lo hi mx) fun w => k w S
  | .len n x => needX F x fun v => ifO ann (lenV S n v) fun w => k w S
  | .min xs => needXs F xs fun vs => ifO ann (minMaxV goMin vs) fun w => k w S
  | .max xs => needXs F xs fun vs => ifO ann (minMaxV goMax vs) fun w => k w S
  | .app kk b x y => needX F x fun v => needX F y fun w => ifP (appV S kk b v w) k
  | .copy kk x y => needX F x fun v => needX F y fun w => ifP (copyV S kk v w) k
  | .lookup kk z b x i => needX F x fun v => needX F i fun i => ifO ann (lookupV S kk z b v i) fun w => k w S
  | .mapUpd kk x ky y => needX F x fun v => needX F ky fun ky => needX F y fun w => ifS (mapUpdV S kk v ky w) fun S' => k .undef S'
  | .delete kk x ky => needX F x fun v => needX F ky fun ky => ifS (deleteV S kk v ky) fun S' => k .undef S'
  | .callF _ _ => False
  | .callV _ _ => False
  | .eq neg kk pl x y => needX F x fun v => needX F y fun w => eqK neg kk pl v w fun u => k u S
  | .cap x => needX F x fun v => ifO ann (capV v) fun w => k w S
  | .assert t c z x => needX F x fun v => ifO ann (assertV t c z v) fun w => k w S
  | .invoke _ _ _ => False
  | .ext j xs => needXs F xs fun vs => ifO ann (extV j vs) fun w => k w S
  | .rangeM x => needX F x fun v => anyK (rangeP S v) k
  | .nextM x => needX F x fun v => anyK (nextP S v) k
  | .entryM x => needX F x fun v => ifO ann (entryV S v) fun w => k w S
  | .panicV _ => False
  | .clearSl kk zs x => needX F x fun v => ifS (clearV S kk zs v) fun S' => k .undef S'
  | .lookupP z b x i => needX F x fun v => needX F i fun i => ifO ann (lookupPV S z b v i) fun w => k w S
  | .mapUpdP x ky y => needX F x fun v => needX F ky fun ky => needX F y fun w => ifS (mapUpdPV S v ky w) fun S' => k .undef S'

def opT (o : AO) (ann : Ann) (F : SF) (S : St) (k : Cell → St → Prop) : Prop :=
  match o with
  | .move x => cellX F x fun c => k c S
  | .pick c x y => pickT F c x y fun c => k c S
  | o => opV o ann F S fun v S' => k (.val v) S'

theorem opV_ok {ok : Env} {callH : FuncId → List V → St → Post → Prop} {Q : PostC} {d : Option Nat} {r : List AI} {F : SF} {fr : List V} {S : St} (hF : Le F fr) {o : AO} {ann : Ann} {k : V → St → Prop} (h : opV o ann F S k)
    (hk : ∀ v S', k v S' → runIs ok callH Q r (put fr d v) S') : runIs ok callH Q (⟨d, none, o⟩ :: r) fr S := by
  cases o with
  | move x => exact h.elim
  | pick c x y => exact h.elim
  | alloc zs => rw [runIs_alloc]; exact hk _ _ (h _ rfl)
  | allocT t zs => rw [runIs_allocT]; exact hk _ _ (h _ rfl)
  | box x => rw [runIs_box]; exact hk _ _ (needX_ok hF h _ rfl)
  | build zs ps =>
    obtain ⟨cs, h1, h2⟩ := fillK_ok (needPs_ok hF h)
    rw [runIs_build, h1]; exact hk _ _ h2
  | buildSlice kk n zs ps =>
    obtain ⟨cs, h1, h2⟩ := fillK_ok (needPs_ok hF h)
    rw [runIs_buildSlice, h1]; exact hk _ _ (h2 _ rfl)
  | load1 x => obtain ⟨v, h1, h2⟩ := ifO_ok (needX_ok hF h); rw [runIs_load1, h1]; exact hk _ _ h2
  | loadN n x => obtain ⟨v, h1, h2⟩ := ifO_ok (needX_ok hF h); rw [runIs_loadN, h1]; exact hk _ _ h2
  | store n x y => obtain ⟨v, h1, h2⟩ := ifS_ok (needX_ok hF (needX_ok hF h)); rw [runIs_store, h1]; exact hk _ _ h2
  | nilCheck x =>
    have := needX_ok hF h
    rw [runIs_nilCheck, this.1]; exact hk _ _ this.2
  | bin op x y =>
    have := needX_ok hF (needX_ok hF h)
    rw [runIs_bin]
    cases ann with
    | no => obtain ⟨v, h1, h2⟩ := binK_ok this; rw [h1]; exact hk _ _ h2
    | dt d => obtain ⟨v, h1, h2⟩ := ifO_ok this; rw [h1]; exact hk _ _ h2
    | tup ds => obtain ⟨v, h1, h2⟩ := ifO_ok this; rw [h1]; exact hk _ _ h2
  | un op x => obtain ⟨v, h1, h2⟩ := unK_ok (needX_ok hF h); rw [runIs_un, h1]; exact hk _ _ h2
  | convInt kk x =>
    have := needX_ok hF h
    rw [runIs_convInt]
    cases hx : x.ev fr <;> rw [hx] at this <;> first | exact hk _ _ this | exact (ifS_ok this).elim (fun v h' => by cases h'.1)
  | convStr x => obtain ⟨v, h1, h2⟩ := ifO_ok (needX_ok hF h); rw [runIs_convStr, h1]; exact hk _ _ h2
  | convBS x => obtain ⟨v, h1, h2⟩ := ifO_ok (needX_ok hF h); rw [runIs_convBS, h1]; exact hk _ _ h2
  | convSB x =>
    have := needX_ok hF h
    rw [runIs_convSB]
    cases hx : x.ev fr <;> rw [hx] at this <;> first | exact hk _ _ (this _ rfl) | exact (ifP_ok this).elim (fun v h' => by cases h'.1)
  | convBB x => obtain ⟨v, h1, h2⟩ := ifO_ok (needX_ok hF h); rw [runIs_convBB, h1]; exact hk _ _ h2
  | mkFunc fn a b => rw [runIs_mkFunc]; exact hk _ _ (needXs_ok hF (needXs_ok hF h))
  | mkMap => rw [runIs_mkMap]; exact hk _ _ (h _ rfl)
  | mkIface t x => rw [runIs_mkIface]; exact hk _ _ (needX_ok hF h)
  | mkSlice kk b zs l c => obtain ⟨v, h1, h2⟩ := ifP_ok (needX_ok hF (needX_ok hF h)); rw [runIs_mkSlice, h1]; exact hk _ _ h2
  | fieldAddr off x => obtain ⟨v, h1, h2⟩ := ifO_ok (needX_ok hF h); rw [runIs_fieldAddr, h1]; exact hk _ _ h2
  | idxAddr kk x i => obtain ⟨v, h1, h2⟩ := ifO_ok (needX_ok hF (needX_ok hF h)); rw [runIs_idxAddr, h1]; exact hk _ _ h2
  | idxAddrArr n kk x i => obtain ⟨v, h1, h2⟩ := ifO_ok (needX_ok hF (needX_ok hF h)); rw [runIs_idxAddrArr, h1]; exact hk _ _ h2
  | field n off x => obtain ⟨v, h1, h2⟩ := ifO_ok (needX_ok hF h); rw [runIs_field, h1]; exact hk _ _ h2
  | idxStr x i => obtain ⟨v, h1, h2⟩ := ifO_ok (needX_ok hF (needX_ok hF h)); rw [runIs_idxStr, h1]; exact hk _ _ h2
  | idxArr n kk pn x i => obtain ⟨v, h1, h2⟩ := ifO_ok (needX_ok hF (needX_ok hF h)); rw [runIs_idxArr, h1]; exact hk _ _ h2
  | extract n x => obtain ⟨v, h1, h2⟩ := ifO_ok (needX_ok hF h); rw [runIs_extract, h1]; exact hk _ _ h2
  | sliceStr x lo hi => obtain ⟨v, h1, h2⟩ := ifO_ok (needXo_ok hF (needXo_ok hF (needX_ok hF h))); rw [runIs_sliceStr, h1]; exact hk _ _ h2
  | sliceSl kk x lo hi mx => obtain ⟨v, h1, h2⟩ := ifO_ok (needXo_ok hF (needXo_ok hF (needXo_ok hF (needX_ok hF h)))); rw [runIs_sliceSl, h1]; exact hk _ _ h2
  | sliceArr n kk x lo hi mx => obtain ⟨v, h1, h2⟩ := ifO_ok (needXo_ok hF (needXo_ok hF (needXo_ok hF (needX_ok hF h)))); rw [runIs_sliceArr, h1]; exact hk _ _ h2
  | len n x => obtain ⟨v, h1, h2⟩ := ifO_ok (needX_ok hF h); rw [runIs_len, h1]; exact hk _ _ h2
  | min xs => obtain ⟨v, h1, h2⟩ := ifO_ok (needXs_ok hF h); rw [runIs_min, h1]; exact hk _ _ h2
  | max xs => obtain ⟨v, h1, h2⟩ := ifO_ok (needXs_ok hF h); rw [runIs_max, h1]; exact hk _ _ h2
  | app kk b x y => obtain ⟨v, h1, h2⟩ := ifP_ok (needX_ok hF (needX_ok hF h)); rw [runIs_app, h1]; exact hk _ _ h2
  | copy kk x y => obtain ⟨v, h1, h2⟩ := ifP_ok (needX_ok hF (needX_ok hF h)); rw [runIs_copy, h1]; exact hk _ _ h2
  | lookup kk z b x i => obtain ⟨v, h1, h2⟩ := ifO_ok (needX_ok hF (needX_ok hF h)); rw [runIs_lookup, h1]; exact hk _ _ h2
  | mapUpd kk x ky y => obtain ⟨v, h1, h2⟩ := ifS_ok (needX_ok hF (needX_ok hF (needX_ok hF h))); rw [runIs_mapUpd, h1]; exact hk _ _ h2
  | delete kk x ky => obtain ⟨v, h1, h2⟩ := ifS_ok (needX_ok hF (needX_ok hF h)); rw [runIs_delete, h1]; exact hk _ _ h2
  | callF f xs => exact h.elim
  | callV x xs => exact h.elim
  | eq neg kk pl x y => obtain ⟨v, h1, h2⟩ := eqK_ok (needX_ok hF (needX_ok hF h)); rw [runIs_eq, h1]; exact hk _ _ h2
  | cap x => obtain ⟨v, h1, h2⟩ := ifO_ok (needX_ok hF h); rw [runIs_cap, h1]; exact hk _ _ h2
  | assert t c z x => obtain ⟨v, h1, h2⟩ := ifO_ok (needX_ok hF h); rw [runIs_assert, h1]; exact hk _ _ h2
  | invoke nm x xs => exact h.elim
  | ext j xs => obtain ⟨v, h1, h2⟩ := ifO_ok (needXs_ok hF h); rw [runIs_ext, h1]; exact hk _ _ h2
  | rangeM x =>
    have := needX_ok hF h
    rw [runIs_rangeM]
    exact anyK_mono (fun v S' => hk v S') this
  | nextM x =>
    have := needX_ok hF h
    rw [runIs_nextM]
    exact anyK_mono (fun v S' => hk v S') this
  | entryM x => obtain ⟨v, h1, h2⟩ := ifO_ok (needX_ok hF h); rw [runIs_entryM, h1]; exact hk _ _ h2
  | panicV x => exact h.elim
  | clearSl kk zs x => obtain ⟨v, h1, h2⟩ := ifS_ok (needX_ok hF h); rw [runIs_clearSl, h1]; exact hk _ _ h2
  | lookupP z b x i => obtain ⟨v, h1, h2⟩ := ifO_ok (needX_ok hF (needX_ok hF h)); rw [runIs_lookupP, h1]; exact hk _ _ h2
  | mapUpdP x ky y => obtain ⟨v, h1, h2⟩ := ifS_ok (needX_ok hF (needX_ok hF (needX_ok hF h))); rw [runIs_mapUpdP, h1]; exact hk _ _ h2

theorem opT_ok {ok : Env} {callH : FuncId → List V → St → Post → Prop} {Q : PostC} {d : Option Nat} {r : List AI} {F : SF} {fr : List V} {S : St} (hF : Le F fr) {o : AO} {ann : Ann} {k : Cell → St → Prop} (h : opT o ann F S k)
    (hk : ∀ c v S', c.Le v → k c S' → runIs ok callH Q r (put fr d v) S') : runIs ok callH Q (⟨d, none, o⟩ :: r) fr S := by
  cases o with
  | move x =>
    obtain ⟨c, h1, h2⟩ := cellX_ok hF (k := fun c => k c S) h
    rw [runIs_move]; exact hk _ _ _ h1 h2
  | pick c x y =>
    obtain ⟨v, h1, c, h2, h3⟩ := pickT_ok hF (k := fun c => k c S) h
    rw [runIs_pick, h1]; exact hk _ _ _ h2 h3
  | _ => exact opV_ok hF (ann := ann) (k := fun v S' => k (.val v) S') h fun v S' hv => hk _ _ _ (Cell.le_val v) hv

end Go.Th
end

section
/- Code read without frames: rounds, joins, calls; that this is the code's own reading. -/
set_option linter.unusedVariables false
set_option linter.unusedSimpArgs false
namespace Go.Th
open Go.RowKit Go.Lib

def group : List DT → List V → List V
  | [], _ => []
  | .one _ :: ds, vs => match vs with
    | v :: vs => v :: group ds vs
    | [] => []
  | .agg ts :: ds, vs => .agg (vs.take ts.length) :: group ds (vs.drop ts.length)

@[reducible] def Cur : List Ty → Type
  | [] => St → Prop
  | t :: ts => t.den → Cur ts

def Ret : (ts : List Ty) → (List V → V) → Cur ts → Res → St → Prop
  | [], mk, K, r, S => r = .ret (mk []) ∧ K S
  | t :: ts, mk, K, r, S => ∃ x : t.den, Ret ts (fun vs => mk (t.toV x :: vs)) (K x) r S

def retT (ds : List DT) (K : Cur (flats ds)) : Post := Ret (flats ds) (fun vs => tupled (group ds vs)) K

def curK : (ts : List Ty) → (List V → V) → (V → St → Prop) → Cur ts
  | [], mk, k => fun S => k (mk []) S
  | t :: ts, mk, k => fun x => curK ts (fun vs => mk (t.toV x :: vs)) k

theorem Ret_ok : ∀ {ts : List Ty} {mk : List V → V} {k : V → St → Prop} {r : Res} {S : St}, Ret ts mk (curK ts mk k) r S → ∃ v, r = .ret v ∧ k v S
  | [], mk, k, r, S, h => ⟨_, h.1, h.2⟩
  | t :: ts, mk, k, r, S, h => by
    obtain ⟨x, h⟩ := h
    exact Ret_ok (ts := ts) h

def callT (P : Program) (f : FuncId) (args : List V) (ds : List DT) (S : St) (k : V → St → Prop) : Prop :=
  CallA P f args S (retT ds (curK (flats ds) (fun vs => tupled (group ds vs)) k))

def retK (ds : List DT) (KP : V → St → Prop) (K : Cur (flats ds)) : Post := fun r S => Ret (flats ds) (fun vs => tupled (group ds vs)) K r S ∨ ∃ v, r = .panic v ∧ KP v S
abbrev CT := FuncId → List V → List DT → St → (V → St → Prop) → (V → St → Prop) → Prop
def callN (P : Program) : CT := fun f args ds S k _ => callT P f args ds S k
def callK (P : Program) : CT := fun f args ds S k kp => CallA P f args S (retK ds kp (curK (flats ds) (fun vs => tupled (group ds vs)) k))
def CTok (P : Program) (cT : CT) : Prop := ∀ f args ds S k kp (Q : Post), cT f args ds S k kp → (∀ v S', k v S' → Q (.ret v) S') → (∀ v S', kp v S' → Q (.panic v) S') → CallA P f args S Q
theorem callN_ok (P : Program) : CTok P (callN P) := fun f args ds S k kp Q h hk _ => CallA.mono h fun res S' hr => by
  obtain ⟨v, rfl, hv⟩ := Ret_ok hr
  exact hk v S' hv
theorem callK_ok (P : Program) : CTok P (callK P) := fun f args ds S k kp Q h hk hp => CallA.mono h fun res S' hr => by
  rcases hr with hr | ⟨v, rfl, hv⟩
  · obtain ⟨v, rfl, hv⟩ := Ret_ok hr
    exact hk v S' hv
  · exact hp v S' hv

def calleeK (ok : Env) (v : V) (vs : List V) (k : FuncId → List V → Prop) : Prop := ifS (calleeV ok v vs) fun p => k p.1 p.2

theorem calleeK_ok {ok : Env} {v : V} {vs : List V} {k : FuncId → List V → Prop} (h : calleeK ok v vs k) : ∃ p, calleeV ok v vs = some p ∧ k p.1 p.2 := ifS_ok h

theorem callee_mk {P : Program} {f : FuncId} {fs cs vs : List V} (h : canEnter P f = true) : calleeV (envP P) (.func (.func f) fs cs) vs = some (f, fs ++ vs ++ cs) := by
  rw [calleeV_func]; exact if_pos h

structure TI where
  i : AI
  ann : Ann
  ds : List DT

def guardT (g : Option (Nat × Bool)) (F : SF) (a b : SF → Prop) : Prop :=
  match g with
  | none => a F
  | some (t, w) => match cellAt F t with
    | .tt => match w with
      | true => a F
      | false => b F
    | .ff => match w with
      | true => b F
      | false => a F
    | .val (.bool x) => match w with
      | true => ifC x (a (F.set t .tt)) (b (F.set t .ff))
      | false => ifC x (b (F.set t .tt)) (a (F.set t .ff))
    | .val (.tuple []) => b F
    | _ => False

def stepG (cT : CT) (kp : V → St → Prop) (ok : Env) (t : TI) (F : SF) (S : St) (k : Cell → St → Prop) : Prop :=
  match t.i.op with
  | .callF f xs => needXs F xs fun vs => cT f vs t.ds S (fun v S' => k (.val v) S') kp
  | .callV x xs => needX F x fun v => needXs F xs fun vs => calleeK ok v vs fun f vs => cT f vs t.ds S (fun v S' => k (.val v) S') kp
  | .invoke nm x xs => needX F x fun v => needXs F xs fun vs => ifS (invokeV ok S nm v vs) fun p => cT p.1 p.2 t.ds S (fun v S' => k (.val v) S') kp
  | .panicV x => needX F x fun v => match v with
    | .iface ty u => kp (.iface ty u) S
    | _ => False
  | o => opT o t.ann F S k

def runG (cT : CT) (KP : V → SF → St → Prop) (ok : Env) : List TI → SF → St → (SF → St → Prop) → Prop
  | [], F, S, k => k F S
  | t :: r, F, S, k => guardT t.i.guard F (fun F => stepG cT (fun v S' => KP v F S') ok t F S fun c S' => runG cT KP ok r (putT F t.i.dst c) S' k) (fun F => runG cT KP ok r (putT F t.i.dst (.val .undef)) S k)

def gslots : Option (Nat × Bool) → List Nat
  | none => []
  | some (t, _) => [t]
def dslots : Option Nat → List Nat
  | none => []
  | some d => [d]
def modsI : List TI → List Nat
  | [] => []
  | t :: r => gslots t.i.guard ++ (dslots t.i.dst ++ modsI r)

theorem guardT_ok {g : Option (Nat × Bool)} {F : SF} {fr : List V} {a b : SF → Prop} (hF : Le F fr) (h : guardT g F a b) :
    (∃ F', Le F' fr ∧ Stay (gslots g) F F' ∧ wantI g fr = some true ∧ a F') ∨ ∃ F', Le F' fr ∧ Stay (gslots g) F F' ∧ wantI g fr = some false ∧ b F' := by
  unfold guardT at h
  split at h
  · exact .inl ⟨F, hF, Stay.refl _ _, rfl, h⟩
  · rename_i t w
    have ht := hF.at_ t
    split at h
    · rename_i hc
      rw [hc] at ht; simp only [Cell.Le, G] at ht
      cases w with
      | true => exact .inl ⟨F, hF, Stay.refl _ _, by simp only [wantI, ht]; rfl, h⟩
      | false => exact .inr ⟨F, hF, Stay.refl _ _, by simp only [wantI, ht]; rfl, h⟩
    · rename_i hc
      rw [hc] at ht; simp only [Cell.Le, G] at ht
      cases w with
      | true => exact .inr ⟨F, hF, Stay.refl _ _, by simp only [wantI, ht]; rfl, h⟩
      | false => exact .inl ⟨F, hF, Stay.refl _ _, by simp only [wantI, ht]; rfl, h⟩
    · rename_i x hc
      rw [hc] at ht; simp only [Cell.Le] at ht
      have ht' : fr.getD t .undef = .bool x := ht
      cases w with
      | true =>
        have hb := ifC_ok h
        cases x with
        | true => exact .inl ⟨_, hF.refine t (c := .tt) ht, Stay.set F _ (by simp [gslots]), by simp only [wantI, ht']; rfl, hb⟩
        | false => exact .inr ⟨_, hF.refine t (c := .ff) ht, Stay.set F _ (by simp [gslots]), by simp only [wantI, ht']; rfl, hb⟩
      | false =>
        have hb := ifC_ok h
        cases x with
        | true => exact .inr ⟨_, hF.refine t (c := .tt) ht, Stay.set F _ (by simp [gslots]), by simp only [wantI, ht']; rfl, hb⟩
        | false => exact .inl ⟨_, hF.refine t (c := .ff) ht, Stay.set F _ (by simp [gslots]), by simp only [wantI, ht']; rfl, hb⟩
    · rename_i hc
      rw [hc] at ht; simp only [Cell.Le, G] at ht
      exact .inr ⟨F, hF, Stay.refl _ _, by simp only [wantI, ht], h⟩
    · exact h.elim

theorem Stay.put {M : List Nat} (F : SF) (d : Option Nat) (v : Cell) (h : ∀ i ∈ dslots d, i ∈ M) : Stay M F (putT F d v) := by
  cases d with
  | none => exact Stay.refl _ _
  | some d => exact Stay.set F _ (h d (by simp [dslots]))

theorem stepG_ok {P : Program} {cT : CT} {kp : V → St → Prop} (hcT : CTok P cT) {ok : Env} {Q : PostC} {t : TI} {r : List AI} {F : SF} {fr : List V} {S : St} {k : Cell → St → Prop} (hP : ∀ v S, kp v S → Q (.panic v) fr S) (hF : Le F fr) (h : stepG cT kp ok t F S k)
    (hk : ∀ c v S', c.Le v → k c S' → runIs ok (CallA P) Q r (put fr t.i.dst v) S') : runIs ok (CallA P) Q (⟨t.i.dst, none, t.i.op⟩ :: r) fr S := by
  unfold stepG at h
  split at h
  · rename_i f xs ho
    have := needXs_ok hF h
    rw [ho, runIs_callF]
    exact hcT _ _ _ _ _ _ _ this (fun v S' hv => hk _ _ _ (Cell.le_val _) hv) fun v S' hv => hP v S' hv
  · rename_i x xs ho
    obtain ⟨p, h1, h2⟩ := calleeK_ok (needXs_ok hF (needX_ok hF h))
    rw [ho, runIs_callV, h1]
    exact hcT _ _ _ _ _ _ _ h2 (fun v S' hv => hk _ _ _ (Cell.le_val _) hv) fun v S' hv => hP v S' hv
  · rename_i nm x xs ho
    obtain ⟨p, h1, h2⟩ := ifS_ok (needXs_ok hF (needX_ok hF h))
    rw [ho, runIs_invoke, h1]
    exact hcT _ _ _ _ _ _ _ h2 (fun v S' hv => hk _ _ _ (Cell.le_val _) hv) fun v S' hv => hP v S' hv
  · rename_i x ho
    have := needX_ok hF h
    rw [ho, runIs_panicV]
    split at this
    · rename_i ty u hu
      rw [hu]
      exact hP _ _ this
    · exact this.elim
  · exact opT_ok hF h hk

theorem runG_ok {P : Program} {cT : CT} {KP : V → SF → St → Prop} (hcT : CTok P cT) {ok : Env} {Q : PostC} : ∀ (l : List TI) {F : SF} {fr : List V} {S : St} {k : SF → St → Prop}, Le F fr → runG cT KP ok l F S k →
    (∀ F' fr' S', Le F' fr' → Stay (modsI l) F F' → k F' S' → Q .normal fr' S') → (∀ v F' fr' S', Le F' fr' → Stay (modsI l) F F' → KP v F' S' → Q (.panic v) fr' S') → runIs ok (CallA P) Q (l.map (·.i)) fr S
  | [], F, fr, S, k, hF, h, hk, _ => hk F fr S hF (Stay.refl _ _) h
  | t :: r, F, fr, S, k, hF, h, hk, hP => by
    simp only [runG] at h
    rw [List.map_cons]
    have hg : ∀ i ∈ gslots t.i.guard, i ∈ modsI (t :: r) := fun i hi => by simp only [modsI]; exact List.mem_append_left _ hi
    have hd : ∀ i ∈ dslots t.i.dst, i ∈ modsI (t :: r) := fun i hi => by simp only [modsI]; exact List.mem_append_right _ (List.mem_append_left _ hi)
    have hr : ∀ i ∈ modsI r, i ∈ modsI (t :: r) := fun i hi => by simp only [modsI]; exact List.mem_append_right _ (List.mem_append_right _ hi)
    rcases guardT_ok hF h with ⟨F1, hF1, hs1, hw, h1⟩ | ⟨F1, hF1, hs1, hw, h1⟩
    · have hstep : runIs ok (CallA P) Q (⟨t.i.dst, none, t.i.op⟩ :: r.map (·.i)) fr S := by
        refine stepG_ok hcT (fun v S' hv => hP v F1 fr S' hF1 (hs1.mono hg) hv) hF1 h1 ?_
        intro c v S' hc hv
        refine runG_ok hcT r (hF1.put t.i.dst hc) hv ?_ fun v F2 fr2 S2 hF2 hs2 hk2 => hP v F2 fr2 S2 hF2 (((hs1.mono hg).trans (Stay.put F1 _ c hd)).trans (hs2.mono hr)) hk2
        intro F2 fr2 S2 hF2 hs2 hk2
        exact hk F2 fr2 S2 hF2 (((hs1.mono hg).trans (Stay.put F1 _ c hd)).trans (hs2.mono hr)) hk2
      have e : runIs ok (CallA P) Q (t.i :: r.map (·.i)) fr S = runIs ok (CallA P) Q (⟨t.i.dst, none, t.i.op⟩ :: r.map (·.i)) fr S := by
        simp only [runIs, hw]; rfl
      rw [e]; exact hstep
    · have e : runIs ok (CallA P) Q (t.i :: r.map (·.i)) fr S = runIs ok (CallA P) Q (r.map (·.i)) (put fr t.i.dst .undef) S := by
        simp only [runIs, hw]
      rw [e]
      refine runG_ok hcT r (hF1.put t.i.dst (Cell.le_val .undef)) h1 ?_ fun v F2 fr2 S2 hF2 hs2 hk2 => hP v F2 fr2 S2 hF2 (((hs1.mono hg).trans (Stay.put F1 _ _ hd)).trans (hs2.mono hr)) hk2
      intro F2 fr2 S2 hF2 hs2 hk2
      exact hk F2 fr2 S2 hF2 (((hs1.mono hg).trans (Stay.put F1 _ _ hd)).trans (hs2.mono hr)) hk2

def readsK (F : SF) (o : AO) (k : List Nat → Prop) : Prop :=
  match o with
  | .load1 x | .loadN _ x | .convBS x | .len _ x | .lookup _ _ _ x _ => needX F x fun v => k v.block
  | _ => k []

theorem readsK_ok {F : SF} {fr : List V} {o : AO} {k : List Nat → Prop} (hF : Le F fr) (h : readsK F o k) : k (o.reads fr) := by
  cases o <;> first | exact needX_ok hF h | exact h

def sameK (R : List Nat) (S S' : St) (k : Prop) : Prop :=
  match R with
  | [] => k
  | R => Same R S S' ∧ k

theorem sameK_ok {R : List Nat} {S S' : St} {k : Prop} (h : sameK R S S' k) : Same R S S' ∧ k := by
  cases R with
  | nil => exact ⟨fun i hi => by simp at hi, h⟩
  | cons i R => exact h

inductive TT where
  | done
  | step (n : Nat) (ds : List Nat) (t : TI) (r : TT)
  | both (a b : TT)

def TT.erase : TT → OT
  | .done => .done
  | .step n ds t r => .step n ds t.i r.erase
  | .both a b => .both a.erase b.erase
def modsT : TT → List Nat
  | .done => []
  | .step _ _ t r => gslots t.i.guard ++ (dslots t.i.dst ++ modsT r)
  | .both a b => modsT a ++ modsT b

def drawG (cT : CT) (KP : V → St → Prop) (ok : Env) : TT → RD → SF → St → (SF → St → Prop) → Prop
  | .done, _, F, S, k => k F S
  | .both a b, R, F, S, k => drawG cT KP ok a R F S k ∧ drawG cT KP ok b R F S k
  | .step n ds t r, R, F, S, k => guardT t.i.guard F
      (fun F => match t.i.op.quiet with
        | true => readsK F t.i.op fun R' => stepG cT KP ok t F S fun c S' => drawG cT KP ok r ((n, R') :: R) (putT F t.i.dst c) S' k
        | false => stepG cT KP ok t F S fun c S' => sameK (outD ds R) S S' (drawG cT KP ok r R (putT F t.i.dst c) S' k))
      (fun F => drawG cT KP ok r R (putT F t.i.dst (.val .undef)) S k)

theorem runD_one {ok : Env} {callH : FuncId → List V → St → Post → Prop} (hc : CallMono callH) {KP : V → St → Prop} {Q : List V → St → Prop} {n : Nat} {ds : List Nat} {i : AI} {r : OT} {R : RD} {fr : List V} {S : St} (hw : wantI i.guard fr = some true) (hq : i.op.quiet = false)
    (h : runIs ok callH (fun e fr' S' => (e = .normal ∧ Same (outD ds R) S S' ∧ runD ok callH KP Q r R fr' S') ∨ ∃ v, e = .panic v ∧ KP v S') [⟨i.dst, none, i.op⟩] fr S) : runD ok callH KP Q (.step n ds i r) R fr S := by
  simp only [runD, hw]
  simp only [runIs, wantI] at h
  cases hr : i.op.run ok fr S with
  | val v S' =>
    rw [hr] at h; simp only [hq, Bool.false_eq_true, if_false]
    rcases h with h | ⟨_, h, _⟩
    · exact h.2
    · cases h
  | call f args =>
    rw [hr] at h
    simp only at h ⊢
    refine hc _ _ _ _ _ ?_ h
    intro res S' hres
    cases res with
    | ret v =>
      rcases hres with h | ⟨_, h, _⟩
      · exact h.2
      · cases h
    | panic v =>
      rcases hres with h | ⟨_, h1, h2⟩
      · cases h.1
      · cases h1; exact h2
  | panic v =>
    rw [hr] at h
    rcases h with h | ⟨_, h1, h2⟩
    · cases h.1
    · cases h1; exact h2
  | any p =>
    rw [hr] at h
    intro v S' hp
    rcases h v S' hp with h | ⟨_, h, _⟩
    · exact h.2
    · cases h
  | stuck => rw [hr] at h; exact h

theorem runD_quiet_one {ok : Env} {callH : FuncId → List V → St → Post → Prop} {KP : V → St → Prop} {Q : List V → St → Prop} {n : Nat} {ds : List Nat} {i : AI} {r : OT} {R : RD} {fr : List V} {S : St} (hw : wantI i.guard fr = some true) (hq : i.op.quiet = true)
    (h : runIs ok callH (fun e fr' S' => (e = .normal ∧ runD ok callH KP Q r ((n, i.op.reads fr) :: R) fr' S') ∨ ∃ v, e = .panic v ∧ KP v S') [⟨i.dst, none, i.op⟩] fr S) : runD ok callH KP Q (.step n ds i r) R fr S := by
  simp only [runD, hw]
  simp only [runIs, wantI] at h
  rcases AO.quiet_run (ok := ok) hq fr S with ⟨v, S', hr⟩ | hr
  · rw [hr] at h ⊢; simp only [hq, if_true]
    rcases h with h | ⟨_, h, _⟩
    · exact h.2
    · cases h
  · rw [hr] at h; exact h.elim

theorem drawG_ok {P : Program} {cT : CT} {KP : V → St → Prop} (hcT : CTok P cT) {ok : Env} {KP' : V → St → Prop} (hP : ∀ v S, KP v S → KP' v S) {Q : List V → St → Prop} : ∀ (l : TT) {R : RD} {F : SF} {fr : List V} {S : St} {k : SF → St → Prop}, Le F fr → drawG cT KP ok l R F S k →
    (∀ F' fr' S', Le F' fr' → Stay (modsT l) F F' → k F' S' → Q fr' S') → runD ok (CallA P) KP' Q l.erase R fr S
  | .done, R, F, fr, S, k, hF, h, hk => hk F fr S hF (Stay.refl _ _) h
  | .both a b, R, F, fr, S, k, hF, h, hk =>
    ⟨drawG_ok hcT hP a hF h.1 fun F' fr' S' h1 h2 h3 => hk F' fr' S' h1 (h2.mono fun i hi => by simp only [modsT]; exact List.mem_append_left _ hi) h3,
     drawG_ok hcT hP b hF h.2 fun F' fr' S' h1 h2 h3 => hk F' fr' S' h1 (h2.mono fun i hi => by simp only [modsT]; exact List.mem_append_right _ hi) h3⟩
  | .step n ds t r, R, F, fr, S, k, hF, h, hk => by
    simp only [drawG] at h
    simp only [TT.erase]
    have hg : ∀ i ∈ gslots t.i.guard, i ∈ modsT (.step n ds t r) := fun i hi => by simp only [modsT]; exact List.mem_append_left _ hi
    have hd : ∀ i ∈ dslots t.i.dst, i ∈ modsT (.step n ds t r) := fun i hi => by simp only [modsT]; exact List.mem_append_right _ (List.mem_append_left _ hi)
    have hr : ∀ i ∈ modsT r, i ∈ modsT (.step n ds t r) := fun i hi => by simp only [modsT]; exact List.mem_append_right _ (List.mem_append_right _ hi)
    rcases guardT_ok hF h with ⟨F1, hF1, hs1, hw, h1⟩ | ⟨F1, hF1, hs1, hw, h1⟩
    · cases hq : t.i.op.quiet with
      | true =>
        rw [hq] at h1
        refine runD_quiet_one hw hq ?_
        refine stepG_ok hcT (r := []) (fun v S hv => .inr ⟨v, rfl, hP v S hv⟩) hF1 (readsK_ok hF1 h1) ?_
        intro c v S' hc hv
        refine .inl ⟨rfl, drawG_ok hcT hP r (hF1.put t.i.dst hc) hv ?_⟩
        intro F2 fr2 S2 hF2 hs2 hk2
        exact hk F2 fr2 S2 hF2 (((hs1.mono hg).trans (Stay.put F1 _ c hd)).trans (hs2.mono hr)) hk2
      | false =>
        rw [hq] at h1
        refine runD_one (callH := CallA P) (fun f args S Q Q' hq h => CallA.mono h hq) hw hq ?_
        refine stepG_ok hcT (r := []) (fun v S hv => .inr ⟨v, rfl, hP v S hv⟩) hF1 h1 ?_
        intro c v S' hc hv
        obtain ⟨hsm, hv⟩ := sameK_ok hv
        refine .inl ⟨rfl, hsm, drawG_ok hcT hP r (hF1.put t.i.dst hc) hv ?_⟩
        intro F2 fr2 S2 hF2 hs2 hk2
        exact hk F2 fr2 S2 hF2 (((hs1.mono hg).trans (Stay.put F1 _ c hd)).trans (hs2.mono hr)) hk2
    · have e : runD ok (CallA P) KP' Q (.step n ds t.i r.erase) R fr S = runD ok (CallA P) KP' Q r.erase R (put fr t.i.dst .undef) S := by
        simp only [runD, hw]
      rw [e]
      refine drawG_ok hcT hP r (hF1.put t.i.dst (Cell.le_val .undef)) h1 ?_
      intro F2 fr2 S2 hF2 hs2 hk2
      exact hk F2 fr2 S2 hF2 (((hs1.mono hg).trans (Stay.put F1 _ _ hd)).trans (hs2.mono hr)) hk2

inductive TC where
  | skip
  | region (l : List TI)
  | draw (t : TT)
  | seq (a b : TC)
  | join (live : List (Nat × DT)) (a b : TC)
  | cond (x : AX) (a b : TC)
  | block (id : Nat) (a : TC)
  | loop (live : List (Nat × DT)) (a : TC)
  | exit (id : Nat)
  | ret

def erI : List TI → List AI
  | [] => []
  | t :: r => t.i :: erI r
theorem erI_eq : ∀ (l : List TI), erI l = l.map (·.i)
  | [] => rfl
  | t :: r => by simp only [erI, List.map_cons, erI_eq r]

def TC.erase : TC → AC
  | .skip => .skip
  | .region l => .region (erI l)
  | .draw t => .draw t.erase
  | .seq a b => .seq a.erase b.erase
  | .join _ a b => .seq a.erase b.erase
  | .cond x a b => .cond x a.erase b.erase
  | .block id a => .block id a.erase
  | .loop _ a => .loop a.erase
  | .exit id => .exit id
  | .ret => .ret

def xslots : AX → List Nat
  | .tmp i => [i]
  | _ => []
def TC.mods : TC → List Nat
  | .skip => []
  | .region l => modsI l
  | .draw t => modsT t
  | .seq a b => a.mods ++ b.mods
  | .join _ a b => a.mods ++ b.mods
  | .cond x a b => xslots x ++ (a.mods ++ b.mods)
  | .block _ a => a.mods
  | .loop _ a => a.mods
  | .exit _ => []
  | .ret => []

def tysOf : List (Nat × DT) → List Ty
  | [] => []
  | p :: l => p.2.tys ++ tysOf l

def unTy : (t : Ty) → V → (t.den → Prop) → Prop
  | .any, v, k => k v
  | .bool, v, k => match v with
    | .bool b => k b
    | _ => False
  | .int kk, v, k => match v with
    | .int k' n => match decEq k' kk with
      | .isTrue _ => k n
      | .isFalse _ => False
    | _ => False
  | .str, v, k => match v with
    | .str s => k s
    | _ => False

theorem unTy_ok : ∀ {t : Ty} {v : V} {k : t.den → Prop}, unTy t v k → ∃ x, v = t.toV x ∧ k x
  | .any, v, k, h => ⟨v, rfl, h⟩
  | .bool, v, k, h => by
    simp only [unTy] at h
    split at h
    · exact ⟨_, rfl, h⟩
    · exact h.elim
  | .int kk, v, k, h => by
    simp only [unTy] at h
    split at h
    · split at h
      · rename_i he _; subst he; exact ⟨_, rfl, h⟩
      · exact h.elim
    · exact h.elim
  | .str, v, k, h => by
    simp only [unTy] at h
    split at h
    · exact ⟨_, rfl, h⟩
    · exact h.elim

def unVs : (ts : List Ty) → List V → (Dens ts → Prop) → Prop
  | [], vs, k => match vs with
    | [] => k ()
    | _ :: _ => False
  | t :: ts, vs, k => match vs with
    | [] => False
    | v :: vs => unTy t v fun x => unVs ts vs fun y => k (x, y)

theorem unVs_ok : ∀ {ts : List Ty} {vs : List V} {k : Dens ts → Prop}, unVs ts vs k → ∃ x, vs = toVs ts x ∧ k x
  | [], vs, k, h => by
    cases vs with
    | nil => exact ⟨(), rfl, h⟩
    | cons v vs => exact h.elim
  | t :: ts, vs, k, h => by
    cases vs with
    | nil => exact h.elim
    | cons v vs =>
      obtain ⟨x, hx, h⟩ := unTy_ok h
      obtain ⟨y, hy, h⟩ := unVs_ok h
      exact ⟨(x, y), by simp only [toVs, ← hx, ← hy], h⟩

def getLive (F : SF) : List (Nat × DT) → (List V → Prop) → Prop
  | [], k => k []
  | (i, d) :: l, k => need (cellAt F i) fun v => match d with
    | .one _ => getLive F l fun vs => k (v :: vs)
    | .agg ts => match v with
      | .agg cs => ifD (Nat.decEq cs.length ts.length) (getLive F l fun vs => k (cs ++ vs))
      | _ => False

def setLive : List (Nat × DT) → List V → SF → SF
  | [], _, F => F
  | (i, .one _) :: l, vs, F => match vs with
    | v :: vs => setLive l vs (F.set i (.val v))
    | [] => F
  | (i, .agg ts) :: l, vs, F => setLive l (vs.drop ts.length) (F.set i (.val (.agg (vs.take ts.length))))

theorem getLive_ok {F : SF} {fr : List V} (hF : Le F fr) : ∀ {l : List (Nat × DT)} {k : List V → Prop}, getLive F l k → ∃ vs, k vs ∧ ∀ F0, Le F0 fr → Le (setLive l vs F0) fr
  | [], k, h => ⟨[], h, fun F0 h0 => h0⟩
  | (i, .one t) :: l, k, h => by
    have hv := need_ok (hF.at_ i) h
    obtain ⟨vs, h1, h2⟩ := getLive_ok hF hv
    refine ⟨_, h1, fun F0 h0 => ?_⟩
    simp only [setLive]
    exact h2 _ (h0.refine i rfl)
  | (i, .agg ts) :: l, k, h => by
    have hv := need_ok (hF.at_ i) h
    simp only at hv
    split at hv
    · rename_i cs hg
      obtain ⟨hl, hv⟩ := ifD_ok hv
      obtain ⟨vs, h1, h2⟩ := getLive_ok hF hv
      refine ⟨_, h1, fun F0 h0 => ?_⟩
      simp only [setLive]
      rw [List.drop_left' hl, List.take_left' hl]
      exact h2 _ (h0.refine i hg)
    · exact hv.elim

def unLive (l : List (Nat × DT)) (F : SF) (k : Dens (tysOf l) → Prop) : Prop := getLive F l fun vs => unVs (tysOf l) vs k

def clearT : List Nat → SF → SF
  | [], F => F
  | i :: l, F => clearT l (F.set i .none)

theorem clearT_le {F F' : SF} {fr : List V} {M : List Nat} (hF : Le F' fr) (hs : F'.length = F.length ∧ ∀ i, i ∉ M → cellAt F' i = cellAt F i) : Le (clearT M F) fr := by
  have key : ∀ (M : List Nat) (F : SF), F'.length = F.length → (∀ i, i ∉ M → cellAt F' i = cellAt F i ∨ cellAt F i = .none) → Le (clearT M F) fr := by
    intro M
    induction M with
    | nil =>
      intro F hl h
      refine ⟨by simp only [clearT]; rw [← hl]; exact hF.len, fun i => ?_⟩
      simp only [clearT]
      rcases h i (by simp) with h | h
      · rw [← h]; exact hF.at_ i
      · rw [h]; trivial
    | cons j M ih =>
      intro F hl h
      simp only [clearT]
      refine ih _ (by simpa using hl) fun i hi => ?_
      rw [cellAt_set]
      by_cases e : j = i
      · subst e
        by_cases hjl : j < F.length
        · rw [if_pos ⟨rfl, hjl⟩]; exact .inr rfl
        · right
          rw [if_neg (fun h' => hjl h'.2)]
          have : ∀ (F : SF) (j : Nat), ¬ j < F.length → cellAt F j = .none := by
            intro F
            induction F with
            | nil => intro j _; rfl
            | cons c F ih => intro j hj; cases j with
              | zero => simp at hj
              | succ j => exact ih j (by simpa using hj)
          exact this F j hjl
      · rw [if_neg (fun h' => e h'.1)]
        exact h i (by simp only [List.mem_cons, not_or]; exact ⟨fun h' => e h'.symm, hi⟩)
  exact key M F hs.1 fun i hi => .inl (hs.2 i hi)

abbrev PostT := AE → SF → St → Prop

def condT (x : AX) (F : SF) (a b : SF → Prop) : Prop :=
  match x with
  | .tmp i => match cellAt F i with
    | .tt => a F
    | .ff => b F
    | .val (.bool c) => ifC c (a (F.set i .tt)) (b (F.set i .ff))
    | _ => False
  | .con (.bool c) => match c with
    | true => a F
    | false => b F
  | _ => False

def afterT (k : SF → St → Prop) (Q : PostT) : PostT := fun e F S =>
  match e with
  | .normal => k F S
  | e => Q e F S

def blockT (id : Nat) (Q : PostT) : PostT := fun e F S =>
  match e with
  | .exit j => match Nat.decEq j id with
    | .isTrue _ => Q .normal F S
    | .isFalse _ => Q (.exit j) F S
  | e => Q e F S

def wpG (cT : CT) (KP : V → SF → St → Prop) (KD : V → St → Prop) (ok : Env) : TC → PostT → SF → St → Prop
  | .skip, Q, F, S => Q .normal F S
  | .region l, Q, F, S => runG cT KP ok l F S (Q .normal)
  | .draw l, Q, F, S => drawG cT KD ok l [] F S (Q .normal)
  | .seq a b, Q, F, S => wpG cT KP KD ok a (afterT (fun F S => wpG cT KP KD ok b Q F S) Q) F S
  | .join live a b, Q, F, S => joinN (tysOf live) (fun k => wpG cT KP KD ok a (afterT (fun F' S' => unLive live F' fun x => k x S') Q) F S) (fun x S' => wpG cT KP KD ok b Q (setLive live (toVs (tysOf live) x) (clearT a.mods F)) S')
  | .cond x a b, Q, F, S => condT x F (fun F => wpG cT KP KD ok a Q F S) (fun F => wpG cT KP KD ok b Q F S)
  | .block id a, Q, F, S => wpG cT KP KD ok a (blockT id Q) F S
  | .loop live a, Q, F, S => unLive live F fun x0 => loopN (tysOf live) (fun cont x S' => wpG cT KP KD ok a (afterT (fun F' S'' => unLive live F' fun x' => cont x' S'') Q) (setLive live (toVs (tysOf live) x) (clearT a.mods F)) S') x0 S
  | .exit id, Q, F, S => Q (.exit id) F S
  | .ret, Q, F, S => Q .ret F S

def wpT (P : Program) (ok : Env) : TC → PostT → SF → St → Prop := wpG (callN P) (fun _ _ _ => False) (fun _ _ => False) ok
def wpK (P : Program) (KP : V → St → Prop) (ok : Env) : TC → PostT → SF → St → Prop := wpG (callK P) (fun v _ S => KP v S) KP ok

def Down (KD : V → St → Prop) (M : List Nat) (F : SF) (Q : PostT) : PostC := fun e fr' S' => (∃ F', Le F' fr' ∧ Stay M F F' ∧ Q e F' S') ∨ ∃ v, e = .panic v ∧ KD v S'

theorem unLive_ok {l : List (Nat × DT)} {F : SF} {fr : List V} (hF : Le F fr) {k : Dens (tysOf l) → Prop} (h : unLive l F k) : ∃ x, k x ∧ ∀ F0, Le F0 fr → Le (setLive l (toVs (tysOf l) x) F0) fr := by
  obtain ⟨vs, h1, h2⟩ := getLive_ok hF h
  obtain ⟨x, rfl, h3⟩ := unVs_ok h1
  exact ⟨x, h3, h2⟩

theorem setLive_stay : ∀ (l : List (Nat × DT)) (vs : List V) (F : SF), (setLive l vs F).length = F.length
  | [], _, F => rfl
  | (i, .one _) :: l, vs, F => by
    cases vs with
    | nil => rfl
    | cons v vs => simp only [setLive]; rw [setLive_stay]; simp
  | (i, .agg ts) :: l, vs, F => by simp only [setLive]; rw [setLive_stay]; simp

theorem clearT_len : ∀ (M : List Nat) (F : SF), (clearT M F).length = F.length
  | [], _ => rfl
  | i :: M, F => by simp only [clearT]; rw [clearT_len]; simp

def slotsL : List (Nat × DT) → List Nat
  | [] => []
  | p :: l => p.1 :: slotsL l

theorem setLive_at : ∀ (l : List (Nat × DT)) (vs : List V) (F : SF) (i : Nat), i ∉ slotsL l → cellAt (setLive l vs F) i = cellAt F i
  | [], _, F, i, _ => rfl
  | (j, .one _) :: l, vs, F, i, h => by
    simp only [slotsL, List.mem_cons, not_or] at h
    cases vs with
    | nil => rfl
    | cons v vs =>
      simp only [setLive]
      rw [setLive_at l vs _ i h.2, cellAt_set, if_neg (fun e => h.1 e.1.symm)]
  | (j, .agg ts) :: l, vs, F, i, h => by
    simp only [slotsL, List.mem_cons, not_or] at h
    simp only [setLive]
    rw [setLive_at l _ _ i h.2, cellAt_set, if_neg (fun e => h.1 e.1.symm)]

theorem clearT_at : ∀ (M : List Nat) (F : SF) (i : Nat), i ∉ M → cellAt (clearT M F) i = cellAt F i
  | [], F, i, _ => rfl
  | j :: M, F, i, h => by
    simp only [List.mem_cons, not_or] at h
    simp only [clearT]
    rw [clearT_at M _ i h.2, cellAt_set, if_neg (fun e => h.1 e.1.symm)]

def liveIn (l : List (Nat × DT)) (M : List Nat) : Bool := (slotsL l).all fun i => M.contains i
def TC.okL : TC → Bool
  | .seq a b => a.okL && b.okL
  | .join l a b => liveIn l a.mods && (a.okL && b.okL)
  | .cond _ a b => a.okL && b.okL
  | .block _ a => a.okL
  | .loop l a => liveIn l a.mods && a.okL
  | _ => true

theorem headStay {l : List (Nat × DT)} {M : List Nat} (hl : liveIn l M = true) (vs : List V) (F : SF) : Stay M F (setLive l vs (clearT M F)) := by
  refine ⟨by rw [setLive_stay, clearT_len], fun i hi => ?_⟩
  have hn : i ∉ slotsL l := fun hm => by
    simp only [liveIn, List.all_eq_true] at hl
    have := hl i hm
    simp only [List.contains_iff_mem] at this
    exact hi this
  rw [setLive_at l vs _ i hn, clearT_at M F i hi]

theorem wpG_ok {P : Program} {cT : CT} {KP : V → SF → St → Prop} {KD : V → St → Prop} (hcT : CTok P cT) {ok : Env} (hok : EnvOk P ok) : ∀ (tc : TC), tc.okL = true → ∀ (Q : PostT), (∀ v F S, KP v F S → Q (.panic v) F S) → ∀ (F : SF) (fr : List V) (S : St), Le F fr → wpG cT KP KD ok tc Q F S →
    wpA ok (CallA P) (LoopA P) tc.erase (Down KD tc.mods F Q) fr S := by
  have mono : ∀ (ac : AC) (Q Q' : PostC), (∀ e fr S, Q e fr S → Q' e fr S) → ∀ (fr : List V) (S : St), wpA ok (CallA P) (LoopA P) ac Q fr S → wpA ok (CallA P) (LoopA P) ac Q' fr S :=
    wpA_mono (fun f args S Q Q' hq h => h.mono hq) (fun ac Q Q' fr S hq h => h.mono hq)
  intro tc
  induction tc with
  | skip => intro _ Q hQ F fr S hF h; exact .inl ⟨F, hF, Stay.refl _ _, h⟩
  | region l =>
    intro _ Q hQ F fr S hF h
    simp only [TC.erase, wpA, erI_eq]
    exact runG_ok hcT l hF h (fun F' fr' S' h1 h2 h3 => .inl ⟨F', h1, h2, h3⟩) fun v F' fr' S' h1 h2 h3 => .inl ⟨F', h1, h2, hQ _ _ _ h3⟩
  | draw l =>
    intro _ Q hQ F fr S hF h
    simp only [TC.erase, wpA]
    exact drawG_ok hcT (fun v S hp fr' => .inr ⟨v, rfl, hp⟩) l hF h fun F' fr' S' h1 h2 h3 => .inl ⟨F', h1, h2, h3⟩
  | seq a b iha ihb =>
    intro hk Q hQ F fr S hF h
    simp only [TC.okL, Bool.and_eq_true] at hk
    simp only [TC.erase, wpA]
    refine mono _ _ _ ?_ _ _ (iha hk.1 _ (by intro v F S h; exact hQ v F S h) F fr S hF h)
    rintro e fr' S' (⟨F', h1, h2, h3⟩ | ⟨v, rfl, hp⟩)
    rotate_left
    · exact .inr ⟨v, rfl, hp⟩
    have s1 : Stay (TC.seq a b).mods F F' := h2.mono fun i hi => by simp only [TC.mods]; exact List.mem_append_left _ hi
    cases e with
    | normal =>
      refine mono _ _ _ ?_ _ _ (ihb hk.2 _ (by intro v F S h; exact hQ v F S h) F' fr' S' h1 h3)
      rintro e fr2 S2 (⟨F2, g1, g2, g3⟩ | ⟨v, rfl, hp⟩)
      rotate_left
      · exact .inr ⟨v, rfl, hp⟩
      exact .inl ⟨F2, g1, s1.trans (g2.mono fun i hi => by simp only [TC.mods]; exact List.mem_append_right _ hi), g3⟩
    | exit j => exact .inl ⟨F', h1, s1, h3⟩
    | ret => exact .inl ⟨F', h1, s1, h3⟩
    | panic v => exact .inl ⟨F', h1, s1, h3⟩
  | join l a b iha ihb =>
    intro hk Q hQ F fr S hF h
    simp only [TC.okL, Bool.and_eq_true] at hk
    simp only [TC.erase, wpA]
    obtain ⟨M, hM, hr⟩ := joinN_ok _ _ _ h
    refine mono _ _ _ ?_ _ _ (iha hk.2.1 _ (by intro v F S h; exact hQ v F S h) F fr S hF hM)
    rintro e fr' S' (⟨F', h1, h2, h3⟩ | ⟨v, rfl, hp⟩)
    rotate_left
    · exact .inr ⟨v, rfl, hp⟩
    have s1 : Stay (TC.join l a b).mods F F' := h2.mono fun i hi => by simp only [TC.mods]; exact List.mem_append_left _ hi
    cases e with
    | normal =>
      obtain ⟨x, hx, hl⟩ := unLive_ok h1 h3
      have hF2 := hl _ (clearT_le h1 h2)
      have s2 : Stay (TC.join l a b).mods F (setLive l (toVs (tysOf l) x) (clearT a.mods F)) := (headStay hk.1 _ F).mono fun i hi => by simp only [TC.mods]; exact List.mem_append_left _ hi
      refine mono _ _ _ ?_ _ _ (ihb hk.2.2 _ (by intro v F S h; exact hQ v F S h) _ fr' S' hF2 (hr x S' hx))
      rintro e fr2 S2 (⟨F2, g1, g2, g3⟩ | ⟨v, rfl, hp⟩)
      rotate_left
      · exact .inr ⟨v, rfl, hp⟩
      exact .inl ⟨F2, g1, s2.trans (g2.mono fun i hi => by simp only [TC.mods]; exact List.mem_append_right _ hi), g3⟩
    | exit j => exact .inl ⟨F', h1, s1, h3⟩
    | ret => exact .inl ⟨F', h1, s1, h3⟩
    | panic v => exact .inl ⟨F', h1, s1, h3⟩
  | cond x a b iha ihb =>
    intro hk Q hQ F fr S hF h
    simp only [TC.okL, Bool.and_eq_true] at hk
    have ma : ∀ i ∈ a.mods, i ∈ (TC.cond x a b).mods := fun i hi => by simp only [TC.mods]; exact List.mem_append_right _ (List.mem_append_left _ hi)
    have mb : ∀ i ∈ b.mods, i ∈ (TC.cond x a b).mods := fun i hi => by simp only [TC.mods]; exact List.mem_append_right _ (List.mem_append_right _ hi)
    have up : ∀ {M : List Nat} {F1 : SF} (hs : Stay (TC.cond x a b).mods F F1) (hm : ∀ i ∈ M, i ∈ (TC.cond x a b).mods) e fr' S', Down KD M F1 Q e fr' S' → Down KD (TC.cond x a b).mods F Q e fr' S' := by
      rintro M F1 hs hm e fr' S' (⟨F2, g1, g2, g3⟩ | ⟨v, rfl, hp⟩)
      rotate_left
      · exact .inr ⟨v, rfl, hp⟩
      exact .inl ⟨F2, g1, hs.trans (g2.mono hm), g3⟩
    have goA : ∀ F1, Le F1 fr → Stay (TC.cond x a b).mods F F1 → x.ev fr = .bool true → wpG cT KP KD ok a Q F1 S → wpA ok (CallA P) (LoopA P) (TC.cond x a b).erase (Down KD (TC.cond x a b).mods F Q) fr S := by
      intro F1 hF1 hs hx hw
      simp only [TC.erase, wpA, hx, if_true]
      exact mono _ _ _ (up hs ma) _ _ (iha hk.1 _ (by intro v F S h; exact hQ v F S h) _ fr S hF1 hw)
    have goB : ∀ F1, Le F1 fr → Stay (TC.cond x a b).mods F F1 → x.ev fr = .bool false → wpG cT KP KD ok b Q F1 S → wpA ok (CallA P) (LoopA P) (TC.cond x a b).erase (Down KD (TC.cond x a b).mods F Q) fr S := by
      intro F1 hF1 hs hx hw
      simp only [TC.erase, wpA, hx, Bool.false_eq_true, if_false]
      exact mono _ _ _ (up hs mb) _ _ (ihb hk.2 _ (by intro v F S h; exact hQ v F S h) _ fr S hF1 hw)
    simp only [wpG, condT] at h
    split at h
    · rename_i i
      have hi := hF.at_ i
      have mi : i ∈ (TC.cond (.tmp i) a b).mods := by simp [TC.mods, xslots]
      split at h
      · rename_i hc; rw [hc] at hi
        exact goA F hF (Stay.refl _ _) hi h
      · rename_i hc; rw [hc] at hi
        exact goB F hF (Stay.refl _ _) hi h
      · rename_i c hc; rw [hc] at hi; simp only [Cell.Le] at hi
        have hb := ifC_ok h
        cases c with
        | true => exact goA _ (hF.refine i (c := .tt) hi) (Stay.set F _ mi) hi hb
        | false => exact goB _ (hF.refine i (c := .ff) hi) (Stay.set F _ mi) hi hb
      · exact h.elim
    · rename_i c
      cases c with
      | true => exact goA F hF (Stay.refl _ _) rfl h
      | false => exact goB F hF (Stay.refl _ _) rfl h
    · exact h.elim
  | block id a iha =>
    intro hk Q hQ F fr S hF h
    simp only [TC.okL] at hk
    simp only [TC.erase, wpA]
    refine mono _ _ _ ?_ _ _ (iha hk _ (by intro v F S h; exact hQ v F S h) F fr S hF h)
    rintro e fr' S' (⟨F', h1, h2, h3⟩ | ⟨v, rfl, hp⟩)
    rotate_left
    · exact .inr ⟨v, rfl, hp⟩
    cases e with
    | normal => exact .inl ⟨F', h1, h2, h3⟩
    | exit j =>
      simp only [blockT] at h3
      simp only
      split at h3
      · rename_i hj _; rw [if_pos hj]; exact .inl ⟨F', h1, h2, h3⟩
      · rename_i hj _; rw [if_neg hj]; exact .inl ⟨F', h1, h2, h3⟩
    | ret => exact .inl ⟨F', h1, h2, h3⟩
    | panic v => exact .inl ⟨F', h1, h2, h3⟩
  | loop l a iha =>
    intro hk Q hQ F fr S hF h
    simp only [TC.okL, Bool.and_eq_true] at hk
    simp only [TC.erase, wpA]
    obtain ⟨x0, h0, hl0⟩ := unLive_ok hF h
    obtain ⟨J, ⟨n, hn⟩, hJ⟩ := loopN_ok _ _ _ _ h0
    have hs0 : Le (setLive l (toVs (tysOf l) x0) (clearT a.mods F)) fr := hl0 _ (clearT_le hF ⟨rfl, fun _ _ => rfl⟩)
    refine LoopA.ind hok (fun n fr' S' => ∃ x, J n x S' ∧ Le (setLive l (toVs (tysOf l) x) (clearT a.mods F)) fr') ?_ n fr S ⟨x0, hn, hs0⟩
    rintro n fr' S' ⟨x, hx, hF'⟩
    have hbody := hJ n x S' hx
    refine mono _ _ _ ?_ _ _ (iha hk.2 _ (by intro v F S h; exact hQ v F S h) _ fr' S' hF' hbody)
    rintro e fr2 S2 (⟨F2, h1, h2, h3⟩ | ⟨v, rfl, hp⟩)
    rotate_left
    · exact .inr ⟨v, rfl, hp⟩
    have hst : Stay a.mods F F2 := (headStay hk.1 _ F).trans h2
    cases e with
    | normal =>
      obtain ⟨x', ⟨k, hkn, hx'⟩, hl'⟩ := unLive_ok h1 h3
      exact ⟨k, hkn, x', hx', hl' _ (clearT_le h1 hst)⟩
    | exit j => exact .inl ⟨F2, h1, hst, h3⟩
    | ret => exact .inl ⟨F2, h1, hst, h3⟩
    | panic v => exact .inl ⟨F2, h1, hst, h3⟩
  | exit id => intro _ Q hQ F fr S hF h; exact .inl ⟨F, hF, Stay.refl _ _, h⟩
  | ret => intro _ Q hQ F fr S hF h; exact .inl ⟨F, hF, Stay.refl _ _, h⟩

def unC : (ts : List Ty) → List V → Cur ts → St → Prop
  | [], vs, K, S => match vs with
    | [] => K S
    | _ :: _ => False
  | t :: ts, vs, K, S => match vs with
    | [] => False
    | v :: vs => unTy t v fun x => unC ts vs (K x) S

theorem unC_ok : ∀ {ts : List Ty} {vs : List V} {K : Cur ts} {S : St} {mk : List V → V}, unC ts vs K S → Ret ts mk K (.ret (mk vs)) S
  | [], vs, K, S, mk, h => by
    cases vs with
    | nil => exact ⟨rfl, h⟩
    | cons v vs => exact h.elim
  | t :: ts, vs, K, S, mk, h => by
    cases vs with
    | nil => exact h.elim
    | cons v vs =>
      have h' : unTy t v (fun x => unC ts vs (K x) S) := h
      obtain ⟨x, rfl, h2⟩ := unTy_ok h'
      exact ⟨x, unC_ok (mk := fun vs => mk (t.toV x :: vs)) h2⟩

def resT (F : SF) (S : St) : List ARes → List DT → (List V → Prop) → Prop
  | [], [], k => k []
  | .tmp t :: rs, .one _ :: ds, k => need (cellAt F t) fun v => resT F S rs ds fun vs => k (v :: vs)
  | .tmp t :: rs, .agg ts :: ds, k => need (cellAt F t) fun v => match v with
    | .agg cs => ifD (Nat.decEq cs.length ts.length) (resT F S rs ds fun vs => k (cs ++ vs))
    | _ => False
  | .cell1 t :: rs, .one ty :: ds, k => need (cellAt F t) fun p => exTy ty fun v => cell1V S p = some v ∧ resT F S rs ds fun vs => k (v :: vs)
  | .cellN t n :: rs, .agg ts :: ds, k => need (cellAt F t) fun p => exTys ts fun cs => cellNV S n p = some (.agg cs) ∧ ifD (Nat.decEq cs.length ts.length) (resT F S rs ds fun vs => k (cs ++ vs))
  | _, _, _ => False

theorem resT_ok {F : SF} {fr : List V} {S : St} (hF : Le F fr) : ∀ {rs : List ARes} {ds : List DT} {k : List V → Prop}, resT F S rs ds k → ∃ us vs, ARes.gets fr S rs = some us ∧ us = group ds vs ∧ k vs
  | [], [], k, h => ⟨[], [], rfl, rfl, h⟩
  | .tmp t :: rs, .one ty :: ds, k, h => by
    have h1 := need_ok (hF.at_ t) h
    obtain ⟨us, vs, h2, h3, h4⟩ := resT_ok hF h1
    exact ⟨_, _, by rw [gets_tmp, h2]; rfl, by simp only [group, ← h3], h4⟩
  | .tmp t :: rs, .agg ts :: ds, k, h => by
    have h1 := need_ok (hF.at_ t) h
    split at h1
    · rename_i cs hg
      obtain ⟨hl, h1⟩ := ifD_ok h1
      obtain ⟨us, vs, h2, h3, h4⟩ := resT_ok hF h1
      refine ⟨_, _, by rw [gets_tmp, h2]; rfl, ?_, h4⟩
      simp only [group]
      rw [List.take_left' hl, List.drop_left' hl, ← h3, hg]
    · exact h1.elim
  | .cell1 t :: rs, .one ty :: ds, k, h => by
    obtain ⟨v, h1, h5⟩ := exTy_ok (need_ok (hF.at_ t) h)
    obtain ⟨us, vs, h2, h3, h4⟩ := resT_ok hF h5
    exact ⟨_, _, by rw [gets_cell1, h1, h2]; rfl, by simp only [group, ← h3], h4⟩
  | .cellN t n :: rs, .agg ts :: ds, k, h => by
    obtain ⟨cs, h1, h5⟩ := exTys_ok (need_ok (hF.at_ t) h)
    obtain ⟨hl, h5⟩ := ifD_ok h5
    obtain ⟨us, vs, h2, h3, h4⟩ := resT_ok hF h5
    refine ⟨_, _, by rw [gets_cellN, h1, h2]; rfl, ?_, h4⟩
    simp only [group]
    rw [List.take_left' hl, List.drop_left' hl, ← h3]
  | [], _ :: _, k, h => h.elim
  | .tmp _ :: _, [], k, h => h.elim
  | .cell1 _ :: _, [], k, h => h.elim
  | .cellN _ _ :: _, [], k, h => h.elim
  | .cell1 _ :: _, .agg _ :: _, k, h => h.elim
  | .cellN _ _ :: _, .one _ :: _, k, h => h.elim

def endT (rs : List ARes) (ds : List DT) (K : Cur (flats ds)) : PostT := fun e F S =>
  match e with
  | .normal => resT F S rs ds fun vs => unC (flats ds) vs K S
  | .ret => resT F S rs ds fun vs => unC (flats ds) vs K S
  | _ => False

def startT : List V → List Cell
  | [] => []
  | v :: vs => .val v :: startT vs

theorem startT_le {args : List V} {n : Nat} : Le (startT args ++ List.replicate n .none) (args ++ List.replicate n .undef) := by
  induction args with
  | nil =>
    refine ⟨by simp [startT], fun i => ?_⟩
    have : ∀ (n i : Nat), cellAt (List.replicate n Cell.none) i = .none := by
      intro n
      induction n with
      | zero => intro i; rfl
      | succ n ih => intro i; cases i with
        | zero => rfl
        | succ i => exact ih i
    simp only [startT, List.nil_append, this]
    trivial
  | cons v vs ih =>
    refine ⟨by simpa [startT] using ih.len, fun i => ?_⟩
    cases i with
    | zero => rfl
    | succ i => exact ih.at_ i

def endK (rs : List ARes) (ds : List DT) (KP : V → St → Prop) (K : Cur (flats ds)) : PostT := fun e F S =>
  match e with
  | .normal => resT F S rs ds fun vs => unC (flats ds) vs K S
  | .ret => resT F S rs ds fun vs => unC (flats ds) vs K S
  | .panic v => KP v S
  | _ => False
theorem CallA.of_T {P : Program} {ok : Env} (hok : EnvOk P ok) {f : FuncId} {A : AF} (hA : afun P f = some A) {tc : TC} (ht : tc.erase = A.body) (hl : tc.okL = true) {args : List V} {S : St}
    {ds : List DT} {K : Cur (flats ds)} (h : wpT P ok tc (endT A.results ds K) (startT args ++ List.replicate (A.nt - args.length) .none) S) : CallA P f args S (retT ds K) := by
  refine CallA.of_body hok hA ?_
  rw [← ht]
  refine wpA_mono (fun f args S Q Q' hq h => h.mono hq) (fun ac Q Q' fr S hq h => h.mono hq) _ _ _ ?_ _ _ (wpG_ok (callN_ok P) hok tc hl _ (fun _ _ _ h => h.elim) _ _ S startT_le h)
  rintro e fr' S' (⟨F', h1, h2, h3⟩ | ⟨v, rfl, hp⟩)
  rotate_left
  · exact hp.elim
  cases e with
  | normal =>
    obtain ⟨us, vs, g1, g2, g3⟩ := resT_ok h1 h3
    rw [endQ_normal, g1, g2]
    exact unC_ok (mk := fun vs => tupled (group ds vs)) g3
  | ret =>
    obtain ⟨us, vs, g1, g2, g3⟩ := resT_ok h1 h3
    rw [endQ_ret, g1, g2]
    exact unC_ok (mk := fun vs => tupled (group ds vs)) g3
  | exit j => exact h3.elim
  | panic v => exact h3.elim

theorem CallA.of_K {P : Program} {ok : Env} (hok : EnvOk P ok) {f : FuncId} {A : AF} (hA : afun P f = some A) {tc : TC} (ht : tc.erase = A.body) (hl : tc.okL = true) {args : List V} {S : St}
    {ds : List DT} {KP : V → St → Prop} {K : Cur (flats ds)} (h : wpK P KP ok tc (endK A.results ds KP K) (startT args ++ List.replicate (A.nt - args.length) .none) S) : CallA P f args S (retK ds KP K) := by
  refine CallA.of_body hok hA ?_
  rw [← ht]
  refine wpA_mono (fun f args S Q Q' hq h => h.mono hq) (fun ac Q Q' fr S hq h => h.mono hq) _ _ _ ?_ _ _ (wpG_ok (callK_ok P) hok tc hl (endK A.results ds KP K) (fun _ _ _ h => h) _ _ S startT_le h)
  rintro e fr' S' (⟨F', h1, h2, h3⟩ | ⟨v, rfl, hp⟩)
  rotate_left
  · exact .inr ⟨v, rfl, hp⟩
  cases e with
  | normal =>
    obtain ⟨us, vs, g1, g2, g3⟩ := resT_ok h1 h3
    rw [endQ_normal, g1, g2]
    exact .inl (unC_ok (mk := fun vs => tupled (group ds vs)) g3)
  | ret =>
    obtain ⟨us, vs, g1, g2, g3⟩ := resT_ok h1 h3
    rw [endQ_ret, g1, g2]
    exact .inl (unC_ok (mk := fun vs => tupled (group ds vs)) g3)
  | exit j => exact h3.elim
  | panic v => exact .inr ⟨v, rfl, h3⟩

theorem CallA.of_TP {P : Program} {f : FuncId} {A : AF} (hA : afun P f = some A) {tc : TC} (ht : tc.erase = A.body) (hl : tc.okL = true) {args : List V} {S : St}
    {ds : List DT} {K : Cur (flats ds)} (h : wpT P (envP P) tc (endT A.results ds K) (startT args ++ List.replicate (A.nt - args.length) .none) S) : CallA P f args S (retT ds K) :=
  CallA.of_T (envP_ok P) hA ht hl h

end Go.Th
end

section
/- Types and live slots laid over a function's abstract code, out of a short list; what a printed reading of a function says of the program. -/
set_option linter.unusedVariables false
namespace Go.Th
open Go

abbrev ItL := List (Nat × Ann × List DT)
abbrev JtL := List (Nat × List (Nat × DT))
abbrev LtL := List (List (Nat × DT))

def annI : List AI → ItL → List TI × ItL
  | [], s => ([], s)
  | i :: r, s =>
    match s with
    | [] => let q := annI r []; (⟨i, .no, []⟩ :: q.1, q.2)
    | (0, a, ds) :: s => let q := annI r s; (⟨i, a, ds⟩ :: q.1, q.2)
    | (n + 1, a, ds) :: s => let q := annI r ((n, a, ds) :: s); (⟨i, .no, []⟩ :: q.1, q.2)
def annO : OT → ItL → TT × ItL
  | .done, s => (.done, s)
  | .step n ds i r, s =>
    match s with
    | [] => let q := annO r []; (.step n ds ⟨i, .no, []⟩ q.1, q.2)
    | (0, a, d) :: s => let q := annO r s; (.step n ds ⟨i, a, d⟩ q.1, q.2)
    | (k + 1, a, d) :: s => let q := annO r ((k, a, d) :: s); (.step n ds ⟨i, .no, []⟩ q.1, q.2)
  | .both a b, s => let q := annO a s; let w := annO b q.2; (.both q.1 w.1, w.2)
def annC : AC → ItL → JtL → LtL → TC × ItL × JtL × LtL
  | .skip, s, j, l => (.skip, s, j, l)
  | .region r, s, j, l => let q := annI r s; (.region q.1, q.2, j, l)
  | .draw t, s, j, l => let q := annO t s; (.draw q.1, q.2, j, l)
  | .seq a b, s, j, l =>
    match j with
    | [] => let q := annC a s [] l; let w := annC b q.2.1 q.2.2.1 q.2.2.2; (.seq q.1 w.1, w.2)
    | (0, lv) :: j => let q := annC a s j l; let w := annC b q.2.1 q.2.2.1 q.2.2.2; (.join lv q.1 w.1, w.2)
    | (n + 1, lv) :: j => let q := annC a s ((n, lv) :: j) l; let w := annC b q.2.1 q.2.2.1 q.2.2.2; (.seq q.1 w.1, w.2)
  | .cond x a b, s, j, l => let q := annC a s j l; let w := annC b q.2.1 q.2.2.1 q.2.2.2; (.cond x q.1 w.1, w.2)
  | .block i a, s, j, l => let q := annC a s j l; (.block i q.1, q.2)
  | .loop a, s, j, l => let q := annC a s j l.tail; (.loop (l.headD []) q.1, q.2)
  | .exit i, s, j, l => (.exit i, s, j, l)
  | .ret, s, j, l => (.ret, s, j, l)

theorem annI_er : ∀ (l : List AI) (s : ItL), erI (annI l s).1 = l
  | [], _ => rfl
  | i :: r, s => by
    unfold annI
    split <;> simp only [erI, annI_er r]
theorem annO_er : ∀ (t : OT) (s : ItL), (annO t s).1.erase = t
  | .done, _ => rfl
  | .step n ds i r, s => by
    unfold annO
    split <;> simp only [TT.erase, annO_er r]
  | .both a b, s => by simp only [annO, TT.erase, annO_er a, annO_er b]
theorem annC_er : ∀ (c : AC) (s : ItL) (j : JtL) (l : LtL), (annC c s j l).1.erase = c
  | .skip, _, _, _ | .exit _, _, _, _ | .ret, _, _, _ => rfl
  | .region r, s, _, _ => by simp only [annC, TC.erase, annI_er]
  | .draw t, s, _, _ => by simp only [annC, TC.erase, annO_er]
  | .seq a b, s, j, l => by
    unfold annC
    split <;> simp only [TC.erase, annC_er a, annC_er b]
  | .cond x a b, s, j, l => by simp only [annC, TC.erase, annC_er a, annC_er b]
  | .block i a, s, j, l => by simp only [annC, TC.erase, annC_er a]
  | .loop a, s, j, l => by simp only [annC, TC.erase, annC_er a]

def tcOf (A : AF) (s : ItL) (j : JtL) (l : LtL) : TC := (annC A.body s j l).1
def afn (P : Program) (f : FuncId) : AF := (afun P f).getD ⟨0, [], .skip⟩
def frT (A : AF) (args : List V) : SF := startT args ++ List.replicate (A.nt - args.length) .none

theorem afn_ok {P : Program} {f : FuncId} (h : (afun P f).isSome = true) : afun P f = some (afn P f) := by
  unfold afn
  cases ha : afun P f with
  | none => rw [ha] at h; cases h
  | some A => rfl

def Reads (P : Program) (f : FuncId) (s : ItL) (j : JtL) (l : LtL) {α : Type} (W : AF → TC → α) (p : α) : Prop :=
  ((afun P f).isSome, (tcOf (afn P f) s j l).okL, W (afn P f) (tcOf (afn P f) s j l)) = (true, true, p)

theorem Reads.of {P : Program} {f : FuncId} {s : ItL} {j : JtL} {l : LtL} {α : Type} {W : AF → TC → α} {p : α} (h : ((afun P f).isSome, (tcOf (afn P f) s j l).okL, W (afn P f) (tcOf (afn P f) s j l)) = (true, true, p)) : Reads P f s j l W p := h

theorem Reads.run {P : Program} {f : FuncId} {s : ItL} {j : JtL} {l : LtL} {α : Type} {W : AF → TC → α} {p : α} (h : Reads P f s j l W p) {args : List V} {S : St} {ds : List DT} {K : Cur (flats ds)} (ap : α → Prop)
    (hp : ap p) (he : ap (W (afn P f) (tcOf (afn P f) s j l)) = wpT P (envP P) (tcOf (afn P f) s j l) (endT (afn P f).results ds K) (frT (afn P f) args) S) : CallA P f args S (retT ds K) := by
  unfold Reads at h
  rw [Prod.mk.injEq, Prod.mk.injEq] at h
  refine CallA.of_TP (afn_ok h.1) (annC_er _ _ _ _) h.2.1 ?_
  rw [← h.2.2] at hp
  exact Eq.mp he hp

end Go.Th
end

section
/- Maps whose keys are texts; ranges over maps. -/
set_option linter.unusedSimpArgs false
set_option linter.unusedVariables false
namespace Go.Th
open Go

abbrev Nm := List UInt8
def entS (es : List (Nm × V)) : List (V × V) := es.map fun e => (.str e.1, e.2)
def dropK {β : Type} (l : List (Nm × β)) (n : Nm) : List (Nm × β) := l.filter fun p => !decide (p.1 = n)
def lkK {β : Type} (l : List (Nm × β)) (n : Nm) : Option β := (l.find? fun p => decide (p.1 = n)).map (·.2)
abbrev NodK {β : Type} (l : List (Nm × β)) : Prop := (l.map (·.1)).Nodup

theorem findV_str (n : Nm) : ∀ (es : List (Nm × V)) (i : Nat), findV (.str n) (entS es) i = some ((es.findIdx? fun e => decide (e.1 = n)).map fun j => (i + j, (es.getD j ([], .nilPtr)).2))
  | [], i => rfl
  | e :: es, i => by
    have ih := findV_str n es (i + 1)
    simp only [entS, List.map_cons] at ih ⊢
    simp only [findV, sameV, List.findIdx?_cons]
    by_cases h : n = e.1
    · simp [h]
    · have h' : ¬ e.1 = n := fun e' => h e'.symm
      simp only [h, h', decide_false, Bool.false_eq_true, if_false]
      rw [ih]
      cases List.findIdx? (fun e => decide (e.1 = n)) es with
      | none => rfl
      | some j => simp; omega

structure NamesAt (S : St) (i : Nat) (l : List (Nm × V)) (own : Bool := true) : Prop where
  ex : ∃ es, es.Perm l ∧ S.get i = some (.map (entS es) own)
  nod : NodK l

theorem NamesAt.new {S S' : St} {i : Nat} (h : S'.get i = some (.map [] true)) : NamesAt S' i [] := ⟨⟨[], List.Perm.refl _, h⟩, List.nodup_nil⟩

section plain
variable {β : Type}
theorem lkK_cons (p : Nm × β) (l : List (Nm × β)) (n : Nm) : lkK (p :: l) n = if p.1 = n then some p.2 else lkK l n := by
  unfold lkK
  by_cases h : p.1 = n
  · simp [h]
  · simp [h]
theorem lkK_none {l : List (Nm × β)} {n : Nm} : lkK l n = none ↔ ∀ p ∈ l, p.1 ≠ n := by
  unfold lkK
  simp [List.find?_eq_none]
theorem lkK_some {l : List (Nm × β)} (hl : NodK l) {n : Nm} {x : β} : lkK l n = some x ↔ (n, x) ∈ l := by
  induction l with
  | nil => simp [lkK]
  | cons p l ih =>
    rw [NodK, List.map_cons, List.nodup_cons] at hl
    rw [lkK_cons]
    by_cases h : p.1 = n
    · rw [if_pos h]
      subst h
      constructor
      · intro e; cases e; simp
      · intro hm
        rcases List.mem_cons.mp hm with e | hm
        · rw [← e]
        · exact absurd (List.mem_map_of_mem (f := (·.1)) hm) hl.1
    · rw [if_neg h, ih hl.2]
      constructor
      · exact fun h => List.mem_cons_of_mem _ h
      · intro hm
        rcases List.mem_cons.mp hm with e | hm
        · exact absurd (by rw [← e]) h
        · exact hm
theorem lkK_perm {l l' : List (Nm × β)} (hl : NodK l) (p : l.Perm l') (n : Nm) : lkK l n = lkK l' n := by
  have hl' : NodK l' := (p.map _).nodup_iff.1 hl
  cases h : lkK l' n with
  | none =>
    rw [lkK_none] at h ⊢
    exact fun q hq => h q (p.mem_iff.1 hq)
  | some x =>
    rw [lkK_some hl'] at h
    rw [lkK_some hl]; exact p.mem_iff.2 h
theorem dropK_perm {l l' : List (Nm × β)} (p : l.Perm l') (n : Nm) : (dropK l n).Perm (dropK l' n) := p.filter _
theorem dropK_nod {l : List (Nm × β)} (h : NodK l) (n : Nm) : NodK (dropK l n) := by
  refine List.Nodup.sublist ?_ h
  exact (List.filter_sublist (l := l)).map _
theorem dropK_not (l : List (Nm × β)) (n : Nm) : ∀ p ∈ dropK l n, p.1 ≠ n := fun p hp => by
  have := (List.mem_filter.1 hp).2
  simpa using this
theorem cons_nod {l : List (Nm × β)} (h : NodK l) (n : Nm) (x : β) : NodK ((n, x) :: dropK l n) := by
  rw [NodK, List.map_cons, List.nodup_cons]
  refine ⟨fun hm => ?_, dropK_nod h n⟩
  obtain ⟨p, hp, e⟩ := List.mem_map.1 hm
  exact dropK_not l n p hp e
theorem dropK_id {l : List (Nm × β)} {n : Nm} (h : ∀ p ∈ l, p.1 ≠ n) : dropK l n = l := by
  unfold dropK
  rw [List.filter_eq_self]
  intro p hp; simpa using h p hp
theorem erase_drop {l : List (Nm × β)} (hl : NodK l) {n : Nm} {j : Nat} (hj : l.findIdx? (fun e => decide (e.1 = n)) = some j) : l.eraseIdx j = dropK l n := by
  induction l generalizing j with
  | nil => simp at hj
  | cons p l ih =>
    rw [NodK, List.map_cons, List.nodup_cons] at hl
    rw [List.findIdx?_cons] at hj
    by_cases h : p.1 = n
    · simp only [h, decide_true, if_true, Option.some.injEq] at hj
      subst hj
      rw [List.eraseIdx_zero, List.tail_cons, dropK, List.filter_cons_of_neg (by simp [h])]
      refine (dropK_id fun q hq e => hl.1 ?_).symm
      rw [h, ← e]; exact List.mem_map_of_mem hq
    · simp only [h, decide_false, Bool.false_eq_true, if_false] at hj
      cases hf : l.findIdx? (fun e => decide (e.1 = n)) with
      | none => rw [hf] at hj; cases hj
      | some i =>
        rw [hf] at hj
        simp only [Option.map_some, Option.some.injEq] at hj
        subst hj
        rw [List.eraseIdx_cons_succ, ih hl.2 hf, dropK, dropK, List.filter_cons_of_pos (by simp [h])]
theorem set_drop {l : List (Nm × β)} (hl : NodK l) {n : Nm} {x : β} {j : Nat} (hj : l.findIdx? (fun e => decide (e.1 = n)) = some j) : (l.set j (n, x)).Perm ((n, x) :: dropK l n) := by
  have hlt : j < l.length := by
    rw [List.findIdx?_eq_some_iff_getElem] at hj; exact hj.1
  rw [← erase_drop hl hj, List.set_eq_take_append_cons_drop, if_pos hlt, List.eraseIdx_eq_take_drop_succ]
  exact List.perm_middle
theorem idx_lk {l : List (Nm × V)} {n : Nm} : (l.findIdx? fun e => decide (e.1 = n)) = none ↔ lkK l n = none := by
  rw [List.findIdx?_eq_none_iff, lkK_none]; simp
end plain

theorem names_lookup {S : St} {i : Nat} {l : List (Nm × V)} {own : Bool} (h : NamesAt S i l own) (z : V) (ok : Bool) (n : Nm) : lookupV S 2 z ok (.map i) (.str n) = some (match lkK l n with
    | some v => lookOut ok v true
    | none => lookOut ok z false) := by
  obtain ⟨es, h1, h2⟩ := h.ex
  have hn : NodK es := (h1.map _).nodup_iff.2 h.nod
  have hf : keyFit 2 (.str n) = true := by unfold keyFit; rfl
  rw [← lkK_perm hn h1]
  simp only [lookupV, rLookup, AX.ev, hf, if_true, h2, findV_str]
  cases hi : es.findIdx? (fun e => decide (e.1 = n)) with
  | none => rw [idx_lk.1 hi]; rfl
  | some j =>
    obtain ⟨hlt, hp, hbefore⟩ := List.findIdx?_eq_some_iff_getElem.mp hi
    have : lkK es n = some es[j].2 := by
      rw [lkK_some hn]
      have hp' : es[j].1 = n := by simpa using hp
      rw [← hp']; exact List.getElem_mem hlt
    simp [this, lookOut, hlt]

theorem names_upd {S : St} (hw : S.Wf) {i : Nat} {l : List (Nm × V)} (h : NamesAt S i l) (n : Nm) (v : V) {k : St → Prop}
    (hk : ∀ S', NamesAt S' i ((n, v) :: dropK l n) → Upd [i] S S' → S'.next = S.next → k S') : ifS (mapUpdV S 2 (.map i) (.str n) v) k := by
  obtain ⟨es, h1, h2⟩ := h.ex
  have hn : NodK es := (h1.map _).nodup_iff.2 h.nod
  have hf : keyFit 2 (.str n) = true := by unfold keyFit; rfl
  have hi := hw.lt h2
  cases hx : es.findIdx? (fun e => decide (e.1 = n)) with
  | none =>
    refine ifS_mk (a := S.put i (some (.map (entS (es ++ [(n, v)])) true))) ?_ (hk _ ⟨⟨es ++ [(n, v)], ?_, by simp⟩, cons_nod h.nod n v⟩ ((Upd.refl hw [i]).put hi (.inr (by simp)) _) rfl)
    · have hfv := findV_str n es 0
      rw [hx] at hfv
      simp only [mapUpdV, rMapUpd, AX.ev, hf, if_true, h2, hfv, Option.map_none]
      simp [entS]
    · have : dropK es n = es := dropK_id (lkK_none.1 (idx_lk.1 hx))
      have h3 := dropK_perm h1 n
      rw [this] at h3
      exact (List.perm_append_comm.trans (List.Perm.refl _)).trans (h3.cons _)
  | some j =>
    refine ifS_mk (a := S.put i (some (.map (entS (es.set j (n, v))) true))) ?_ (hk _ ⟨⟨es.set j (n, v), ?_, by simp⟩, cons_nod h.nod n v⟩ ((Upd.refl hw [i]).put hi (.inr (by simp)) _) rfl)
    · have hfv := findV_str n es 0
      rw [hx] at hfv
      simp only [mapUpdV, rMapUpd, AX.ev, hf, if_true, h2, hfv, Option.map_some, Nat.zero_add]
      simp [entS, List.map_set]
    · exact (set_drop hn hx).trans ((dropK_perm h1 n).cons _)

end Go.Th
end
