/- What the row of one statement stands on: a store, abstract code, functions of the program and their laws (ThQ2). -/
import Derived.Test.YtdpehfhhbmmhjaaThBTopkOrder20

section
/- Code read without frames: what it asks, in typed words. -/
set_option linter.unusedVariables false
set_option linter.unusedSimpArgs false
namespace Go.Th
open Go.RowKit Go.Lib

/-! ## what is known of the slots -/
inductive Cell where
  | none
  | val (v : V)
  | tt
  | ff

abbrev SF := List Cell

def cellAt : SF → Nat → Cell
  | [], _ => .none
  | c :: _, 0 => c
  | _ :: F, n + 1 => cellAt F n

def need (c : Cell) (k : V → Prop) : Prop :=
  match c with
  | .none => False
  | .val v => k v
  | .tt => k (.bool true)
  | .ff => k (.bool false)

def Cell.Le : Cell → V → Prop
  | .none, _ => True
  | .val w, v => v = w
  | .tt, v => v = .bool true
  | .ff, v => v = .bool false

theorem Cell.le_val (v : V) : (Cell.val v).Le v := rfl
theorem Cell.le_tt : Cell.tt.Le (.bool true) := rfl
theorem Cell.le_ff : Cell.ff.Le (.bool false) := rfl

structure Le (F : SF) (fr : List V) : Prop where
  len : F.length = fr.length
  at_ : ∀ i, (cellAt F i).Le (G fr i)

def needX (F : SF) (x : AX) (k : V → Prop) : Prop :=
  match x with
  | .tmp i => need (cellAt F i) k
  | .con v => k v
  | .fn f => k (.func (.func f) [] [])
def needXs (F : SF) : List AX → (List V → Prop) → Prop
  | [], k => k []
  | x :: xs, k => needX F x fun v => needXs F xs fun vs => k (v :: vs)
def needXo (F : SF) (x : Option AX) (k : Option V → Prop) : Prop :=
  match x with
  | none => k none
  | some x => needX F x fun v => k (some v)
def needPs (F : SF) : List (Nat × Nat × AX) → (List (Nat × Nat × V) → Prop) → Prop
  | [], k => k []
  | p :: ps, k => needX F p.2.2 fun v => needPs F ps fun vs => k ((p.1, p.2.1, v) :: vs)

theorem need_ok {c : Cell} {k : V → Prop} {v : V} (hc : c.Le v) (h : need c k) : k v := by
  cases c with
  | none => exact h.elim
  | val w => simp only [Cell.Le] at hc; subst hc; exact h
  | tt => simp only [Cell.Le] at hc; subst hc; exact h
  | ff => simp only [Cell.Le] at hc; subst hc; exact h

theorem needX_ok {F : SF} {fr : List V} (hF : Le F fr) {x : AX} {k : V → Prop} (h : needX F x k) : k (x.ev fr) := by
  cases x with
  | tmp i => exact need_ok (hF.at_ i) h
  | con v => exact h
  | fn f => exact h

theorem needXs_ok {F : SF} {fr : List V} (hF : Le F fr) : ∀ {xs : List AX} {k : List V → Prop}, needXs F xs k → k (xs.map (·.ev fr))
  | [], k, h => h
  | x :: xs, k, h => needXs_ok hF (xs := xs) (k := fun vs => k (x.ev fr :: vs)) (needX_ok hF h)

theorem needXo_ok {F : SF} {fr : List V} (hF : Le F fr) {x : Option AX} {k : Option V → Prop} (h : needXo F x k) : k (x.map (·.ev fr)) := by
  cases x with
  | none => exact h
  | some x => exact needX_ok hF h

theorem needPs_ok {F : SF} {fr : List V} (hF : Le F fr) : ∀ {ps : List (Nat × Nat × AX)} {k : List (Nat × Nat × V) → Prop}, needPs F ps k → k (ps.map fun p => (p.1, p.2.1, p.2.2.ev fr))
  | [], k, h => h
  | p :: ps, k, h => needPs_ok hF (ps := ps) (k := fun vs => k ((p.1, p.2.1, p.2.2.ev fr) :: vs)) (needX_ok hF h)

theorem cellAt_set : ∀ (F : SF) (d i : Nat) (c : Cell), cellAt (F.set d c) i = if d = i ∧ d < F.length then c else cellAt F i
  | [], d, i, c => by simp [cellAt]
  | x :: F, 0, 0, c => by simp [cellAt]
  | x :: F, 0, i + 1, c => by simp [cellAt]
  | x :: F, d + 1, 0, c => by simp [cellAt]
  | x :: F, d + 1, i + 1, c => by simp [cellAt, cellAt_set F d i c]

theorem Le.set {F : SF} {fr : List V} (h : Le F fr) (d : Nat) {c : Cell} {v : V} (hc : c.Le v) : Le (F.set d c) (fr.set d v) := by
  refine ⟨by simp [h.len], fun i => ?_⟩
  rw [cellAt_set, G_set]
  by_cases e : d = i
  · subst e
    by_cases hl : d < fr.length
    · rw [if_pos ⟨rfl, by rw [h.len]; exact hl⟩, if_pos rfl, if_pos hl]; exact hc
    · rw [if_neg (fun h' => hl (by rw [← h.len]; exact h'.2)), if_pos rfl, if_neg hl]; exact h.at_ d
  · rw [if_neg (fun h' => e h'.1), if_neg e]; exact h.at_ i

theorem Le.refine {F : SF} {fr : List V} (h : Le F fr) (d : Nat) {c : Cell} (hc : c.Le (G fr d)) : Le (F.set d c) fr := by
  refine ⟨by simp [h.len], fun i => ?_⟩
  rw [cellAt_set]
  split
  · rename_i e; rw [← e.1]; exact hc
  · exact h.at_ i

def putT (F : SF) (d : Option Nat) (c : Cell) : SF :=
  match d with
  | some d => F.set d c
  | none => F

theorem Le.put {F : SF} {fr : List V} (h : Le F fr) (d : Option Nat) {c : Cell} {v : V} (hc : c.Le v) : Le (putT F d c) (Th.put fr d v) := by
  cases d with
  | none => exact h
  | some d => exact h.set d hc

/-! ## what stays -/
def Stay (M : List Nat) (F F' : SF) : Prop := F'.length = F.length ∧ ∀ i, i ∉ M → cellAt F' i = cellAt F i
theorem Stay.refl (M : List Nat) (F : SF) : Stay M F F := ⟨rfl, fun _ _ => rfl⟩
theorem Stay.trans {M : List Nat} {F F' F2 : SF} (h : Stay M F F') (k : Stay M F' F2) : Stay M F F2 := ⟨k.1.trans h.1, fun i hi => (k.2 i hi).trans (h.2 i hi)⟩
theorem Stay.mono {M M' : List Nat} {F F' : SF} (h : Stay M F F') (hs : ∀ i ∈ M, i ∈ M') : Stay M' F F' := ⟨h.1, fun i hi => h.2 i fun hm => hi (hs i hm)⟩
theorem Stay.set {M : List Nat} (F : SF) {d : Nat} (c : Cell) (hd : d ∈ M) : Stay M F (F.set d c) := by
  refine ⟨by simp, fun i hi => ?_⟩
  rw [cellAt_set, if_neg]
  rintro ⟨rfl, _⟩
  exact hi hd

/-! ## operations -/
def binInt (op : BinOp) (kk : IntKind) (a b : Int) (k : V → Prop) : Prop :=
  match op with
  | .add => setI (kk.wrap (a + b)) fun n => k (.int kk n)
  | .sub => setI (kk.wrap (a - b)) fun n => k (.int kk n)
  | .mul => setI (kk.wrap (a * b)) fun n => k (.int kk n)
  | .quo => b ≠ 0 ∧ setI (kk.wrap (a.tdiv b)) fun n => k (.int kk n)
  | .rem => b ≠ 0 ∧ setI (a.tmod b) fun n => k (.int kk n)
  | .eql => k (.bool (decide (a = b)))
  | .neq => k (.bool (!decide (a = b)))
  | .lss => k (.bool (decide (a < b)))
  | .leq => k (.bool (decide (a ≤ b)))
  | .gtr => k (.bool (decide (b < a)))
  | .geq => k (.bool (decide (b ≤ a)))
  | .shl | .shr => False
  | op => setI (intBits op kk a b) fun n => k (.int kk n)

def binK (op : BinOp) (x y : V) (k : V → Prop) : Prop :=
  match x, y with
  | .int k1 a, .int k2 b =>
    match op with
    | .shl => 0 ≤ b ∧ setI (k1.wrap (a * 2 ^ (min b.toNat k1.bits))) fun n => k (.int k1 n)
    | .shr => 0 ≤ b ∧ setI (a.fdiv (2 ^ (min b.toNat k1.bits))) fun n => k (.int k1 n)
    | op => match decEq k1 k2 with
      | .isTrue _ => binInt op k1 a b k
      | .isFalse _ => False
  | .str s, .str t =>
    match op with
    | .add => s.length + t.length < 2 ^ 62 ∧ k (.str (s ++ t))
    | .eql => k (.bool (decide (s = t)))
    | .neq => k (.bool (!decide (s = t)))
    | op => ifS (binV op (.str s) (.str t)) k
  | x, y => ifS (binV op x y) k

theorem binK_ok {op : BinOp} {x y : V} {k : V → Prop} (h : binK op x y k) : ∃ v, binV op x y = some v ∧ k v := by
  unfold binK at h
  split at h
  · rename_i k1 a k2 b
    split at h
    · refine ⟨_, ?_, h.2⟩
      rw [binV_shl, if_neg (by omega)]
    · refine ⟨_, ?_, h.2⟩
      rw [binV_shr, if_neg (by omega)]
    · rename_i op' h1 h2
      split at h
      · rename_i he hd
        subst he
        cases op with
        | add => exact ⟨_, binV_add .., h⟩
        | sub => exact ⟨_, binV_sub .., h⟩
        | mul => exact ⟨_, binV_mul .., h⟩
        | quo => exact ⟨_, by rw [binV_quo, if_neg h.1], h.2⟩
        | rem => exact ⟨_, by rw [binV_rem, if_neg h.1], h.2⟩
        | eql => exact ⟨_, binV_eql .., h⟩
        | neq => exact ⟨_, binV_neq .., h⟩
        | lss => exact ⟨_, binV_lss .., h⟩
        | leq => exact ⟨_, binV_leq .., h⟩
        | gtr => exact ⟨_, binV_gtr .., h⟩
        | geq => exact ⟨_, binV_geq .., h⟩
        | and => exact ⟨_, binV_and .., h⟩
        | or => exact ⟨_, binV_or .., h⟩
        | xor => exact ⟨_, binV_xor .., h⟩
        | andNot => exact ⟨_, binV_andNot .., h⟩
        | shl => exact absurd rfl h1
        | shr => exact absurd rfl h2
      · exact h.elim
  · rename_i s t
    split at h
    · exact ⟨_, by rw [binV_sadd, if_pos h.1], h.2⟩
    · exact ⟨_, binV_seql .., h⟩
    · exact ⟨_, binV_sneq .., h⟩
    · exact ifS_ok h
  · exact ifS_ok h

def unK (op : UnOp) (x : V) (k : V → Prop) : Prop :=
  match op, x with
  | .neg, .int kk n => setI (kk.wrap (0 - n)) fun n => k (.int kk n)
  | .xor, .int kk n => setI (intBits .xor kk (if kk.signed then -1 else kk.max) n) fun n => k (.int kk n)
  | .not, .bool b => k (.bool (!b))
  | op, x => ifS (unV op x) k

theorem unK_ok {op : UnOp} {x : V} {k : V → Prop} (h : unK op x k) : ∃ v, unV op x = some v ∧ k v := by
  unfold unK at h
  split at h
  · exact ⟨_, unV_neg .., h⟩
  · exact ⟨_, unV_xor .., h⟩
  · exact ⟨_, unV_not .., h⟩
  · exact ifS_ok h

def pickK (b : Bool) (x y : V) (k : V → Prop) : Prop :=
  match x, y with
  | .bool p, .bool q => k (.bool (bif b then p else q))
  | .int k1 p, .int k2 q => match decEq k1 k2 with
    | .isTrue _ => k (.int k1 (bif b then p else q))
    | .isFalse _ => False
  | x, y => ifC b (k x) (k y)

theorem pickK_ok {b : Bool} {x y : V} {k : V → Prop} (h : pickK b x y k) : k (if b then x else y) := by
  unfold pickK at h
  split at h
  · cases b <;> exact h
  · split at h
    · rename_i he _; subst he; cases b <;> exact h
    · exact h.elim
  · have := ifC_ok h
    cases b <;> exact this

/-- What a slot is told by an operand. -/
def cellX (F : SF) (x : AX) (k : Cell → Prop) : Prop :=
  match x with
  | .tmp i => match cellAt F i with
    | .none => False
    | .tt => k .tt
    | .ff => k .ff
    | .val v => k (.val v)
  | .con v => match v with
    | .bool b => match b with
      | true => k .tt
      | false => k .ff
    | v => k (.val v)
  | .fn f => k (.val (.func (.func f) [] []))

theorem cellX_ok {F : SF} {fr : List V} (hF : Le F fr) {x : AX} {k : Cell → Prop} (h : cellX F x k) : ∃ c : Cell, c.Le (x.ev fr) ∧ k c := by
  cases x with
  | tmp i =>
    have hi := hF.at_ i
    simp only [cellX] at h
    split at h
    · exact h.elim
    · rename_i hc; rw [hc] at hi; exact ⟨_, hi, h⟩
    · rename_i hc; rw [hc] at hi; exact ⟨_, hi, h⟩
    · rename_i hc; rw [hc] at hi; exact ⟨_, hi, h⟩
  | con v =>
    simp only [cellX] at h
    split at h
    · rename_i b
      cases b
      · exact ⟨_, Cell.le_ff, h⟩
      · exact ⟨_, Cell.le_tt, h⟩
    · exact ⟨.val v, Cell.le_val v, h⟩
  | fn f => exact ⟨_, Cell.le_val _, h⟩

def pickT (F : SF) (c x y : AX) (k : Cell → Prop) : Prop :=
  match c with
  | .tmp i => match cellAt F i with
    | .tt => cellX F x k
    | .ff => cellX F y k
    | .val (.bool b) => needX F x fun x => needX F y fun y => pickK b x y fun v => k (.val v)
    | _ => False
  | .con (.bool b) => match b with
    | true => cellX F x k
    | false => cellX F y k
  | _ => False

theorem pickT_ok {F : SF} {fr : List V} (hF : Le F fr) {c x y : AX} {k : Cell → Prop} (h : pickT F c x y k) : ∃ v, pickV (c.ev fr) (x.ev fr) (y.ev fr) = some v ∧ ∃ d : Cell, d.Le v ∧ k d := by
  unfold pickT at h
  split at h
  · rename_i i
    have hi := hF.at_ i
    split at h
    · rename_i hc; rw [hc] at hi; simp only [Cell.Le] at hi
      exact ⟨x.ev fr, by rw [ev_tmp, hi]; rfl, cellX_ok hF h⟩
    · rename_i hc; rw [hc] at hi; simp only [Cell.Le] at hi
      exact ⟨y.ev fr, by rw [ev_tmp, hi]; rfl, cellX_ok hF h⟩
    · rename_i b hc; rw [hc] at hi; simp only [Cell.Le] at hi
      exact ⟨if b then x.ev fr else y.ev fr, by rw [ev_tmp, hi]; rfl, _, Cell.le_val _, pickK_ok (k := fun v => k (.val v)) (needX_ok hF (needX_ok hF h))⟩
    · exact h.elim
  · rename_i b
    cases b
    · exact ⟨y.ev fr, rfl, cellX_ok hF h⟩
    · exact ⟨x.ev fr, rfl, cellX_ok hF h⟩
  · exact h.elim

/-- A value that is one cell: by its type, or to be shown. -/
def oneK (t : Option Ty) (v : V) (k : Prop) : Prop :=
  match t with
  | some (.int _) => match v with
    | .int _ _ => k
    | _ => False
  | some .bool => match v with
    | .bool _ => k
    | _ => False
  | some .str => match v with
    | .str _ => k
    | _ => False
  | _ => v.cells = [v] ∧ k

theorem oneK_ok {t : Option Ty} {v : V} {k : Prop} (h : oneK t v k) : v.cells = [v] ∧ k := by
  unfold oneK at h
  repeat' split at h
  all_goals first | exact ⟨rfl, h⟩ | exact h.elim | exact h

def ifD {p : Prop} (d : Decidable p) (k : Prop) : Prop :=
  match d with
  | .isTrue _ => k
  | .isFalse _ => False
theorem ifD_ok {p : Prop} {d : Decidable p} {k : Prop} (h : ifD d k) : p ∧ k := by
  cases d with
  | isTrue hp => exact ⟨hp, h⟩
  | isFalse _ => exact h.elim

/-- The cells that parts fill. -/
def fillK (ts : List Ty) : List V → List (Nat × Nat × V) → (List V → Prop) → Prop
  | cs, [], k => k cs
  | cs, (off, size, v) :: r, k =>
    match size with
    | 1 => oneK ts[off]? v (ifD (Nat.decLe (off + 1) cs.length) (fillK ts (over cs off [v]) r k))
    | size => ifD (Nat.decEq v.cells.length size) (ifD (Nat.decLe (off + size) cs.length) (fillK ts (over cs off v.cells) r k))

theorem fillK_ok {ts : List Ty} : ∀ {ps : List (Nat × Nat × V)} {cs : List V} {k : List V → Prop}, fillK ts cs ps k → ∃ ds, fillV cs ps = some ds ∧ k ds
  | [], cs, k, h => ⟨cs, rfl, h⟩
  | (off, size, v) :: r, cs, k, h => by
    simp only [fillK] at h
    simp only [fillV]
    split at h
    · obtain ⟨h1, h⟩ := oneK_ok h
      obtain ⟨h2, h3⟩ := ifD_ok h
      rw [h1, if_pos ⟨rfl, h2⟩]
      exact fillK_ok h3
    · obtain ⟨h1, h⟩ := ifD_ok h
      obtain ⟨h2, h3⟩ := ifD_ok h
      rw [if_pos ⟨h1, h2⟩]
      exact fillK_ok h3

def Ann.tys : Ann → List Ty
  | .dt d => d.tys
  | _ => []

def newS (S : St) (b : Blk) (k : St → Prop) : Prop := ∀ S', S' = S.new b → k S'

def ifP (o : Option (V × St)) (k : V → St → Prop) : Prop :=
  match o with
  | some p => k p.1 p.2
  | none => False
theorem ifP_ok {o : Option (V × St)} {k : V → St → Prop} (h : ifP o k) : ∃ p, o = some p ∧ k p.1 p.2 := by
  cases o with
  | none => exact h.elim
  | some p => exact ⟨p, rfl, h⟩
theorem ifP_mk {o : Option (V × St)} {k : V → St → Prop} {v : V} {S : St} (h : o = some (v, S)) (hk : k v S) : ifP o k := by rw [h]; exact hk

def eqR (neg : Bool) (b : Bool) : Bool :=
  match neg with
  | true => !b
  | false => b
theorem eqR_eq (neg b : Bool) : (b != neg) = eqR neg b := by cases neg <;> cases b <;> rfl

def eqK (neg : Bool) (kk : Nat) (pl : List Nat) (x y : V) (k : V → Prop) : Prop :=
  match kk with
  | 0 => match x, y with
    | .bool a, .bool b => k (.bool (eqR neg (a == b)))
    | x, y => ∃ b : Bool, eqV 0 pl x y = some b ∧ k (.bool (eqR neg b))
  | kk => ∃ b : Bool, eqV kk pl x y = some b ∧ k (.bool (eqR neg b))
theorem eqK_ok {neg : Bool} {kk : Nat} {pl : List Nat} {x y : V} {k : V → Prop} (h : eqK neg kk pl x y k) : ∃ b : Bool, eqV kk pl x y = some b ∧ k (.bool (b != neg)) := by
  unfold eqK at h
  split at h
  · split at h
    · exact ⟨_, rfl, by rw [eqR_eq]; exact h⟩
    · obtain ⟨b, h1, h2⟩ := h; exact ⟨b, h1, by rw [eqR_eq]; exact h2⟩
  · obtain ⟨b, h1, h2⟩ := h; exact ⟨b, h1, by rw [eqR_eq]; exact h2⟩

/-- An operation that computes a value. -/
def opV (o : AO) (ann : Ann) (F : SF) (S : St) (k : V → St → Prop) : Prop :=
  match o with
  | .move _ | .pick _ _ _ => False
  | .alloc zs => newS S (.cells zs true) fun S' => k (.ptr S.next 0) S'
  | .box x => needX F x fun v => newS S (.cells v.cells true) fun S' => k (.ptr S.next 0) S'
  | .build zs ps => needPs F ps fun ps => fillK ann.tys zs ps fun cs => k (.agg cs) S
  | .buildSlice kk n zs ps => needPs F ps fun ps => fillK ann.tys zs ps fun cs => newS S (.cells cs true) fun S' => k (.slice S.next 0 n n kk true) S'
  | .load1 x => needX F x fun v => ifO ann (loadV S v) fun w => k w S
  | .loadN n x => needX F x fun v => ifO ann (loadNV S n v) fun w => k w S
  | .store n x y => needX F x fun p => needX F y fun v => ifS (storeV S n p v) fun S' => k .undef S'
  | .nilCheck x => needX F x fun v => nilV v = some v ∧ k v S
  | .bin op x y => needX F x fun v => needX F y fun w => match ann with
    | .no => binK op v w fun u => k u S
    | ann => ifO ann (binV op v w) fun u => k u S
  | .un op x => needX F x fun v => unK op v fun u => k u S
  | .convInt kk x => needX F x fun v => match v with
    | .int _ n => setI (kk.wrap n) fun n => k (.int kk n) S
    | v => ifS (convIntV kk v) fun u => k u S
  | .convStr x => needX F x fun v => ifO ann (convStrV v) fun w => k w S
  | .convBS x => needX F x fun v => ifO ann (convBSV S v) fun w => k w S
  | .convSB x => needX F x fun v => match v with
    | .str s => newS S (.cells (bytesV s) true) fun S' => k (.slice S.next 0 s.length s.length 1 false) S'
    | v => ifP (convSBV S v) k
  | .convBB x => needX F x fun v => ifO ann (convBBV S v) fun w => k w S
  | .mkFunc fn a b => needXs F a fun a => needXs F b fun b => k (.func fn a b) S
  | .mkMap => newS S (.map [] true) fun S' => k (.map S.next) S'
  | .mkIface t x => needX F x fun v => k (.iface t v) S
  | .mkSlice kk b zs l c => needX F l fun l => needX F c fun c => ifP (mkSliceV S kk b zs l c) k
  | .fieldAddr off x => needX F x fun v => ifO ann (fieldAddrV off v) fun w => k w S
  | .idxAddr kk x i => needX F x fun v => needX F i fun i => ifO ann (idxAddrV kk v i) fun w => k w S
  | .idxAddrArr n kk x i => needX F x fun v => needX F i fun i => ifO ann (idxAddrArrV n kk v i) fun w => k w S
  | .field n off x => needX F x fun v => ifO ann (fieldV n off v) fun w => k w S
  | .idxStr x i => needX F x fun v => needX F i fun i => ifO ann (idxStrV v i) fun w => k w S
  | .idxArr n kk pn x i => needX F x fun v => needX F i fun i => ifO ann (idxArrV n kk pn v i) fun w => k w S
  | .extract n x => needX F x fun v => ifO ann (extractV n v) fun w => k w S
  | .sliceStr x lo hi => needX F x fun v => needXo F lo fun lo => needXo F hi fun hi => ifO ann (sliceStrV v lo hi) fun w => k w S
  | .sliceSl kk x lo hi mx => needX F x fun v => needXo F lo fun lo => needXo F hi fun hi => needXo F mx fun mx => ifO ann (sliceSlV kk v lo hi mx) fun w => k w S
  | .sliceArr n kk x lo hi mx => needX F x fun v => needXo F lo fun lo => needXo F hi fun hi => needXo F mx fun mx => ifO ann (sliceArrV S n kk v lo hi mx) fun w => k w S
  | .len n x => needX F x fun v => ifO ann (lenV S n v) fun w => k w S
  | .min xs => needXs F xs fun vs => ifO ann (minMaxV goMin vs) fun w => k w S
  | .max xs => needXs F xs fun vs => ifO ann (minMaxV goMax vs) fun w => k w S
  | .app kk b x y => needX F x fun v => needX F y fun w => ifP (appV S kk b v w) k
  | .copy kk x y => needX F x fun v => needX F y fun w => ifP (copyV S kk v w) k
  | .lookup kk z b x i => needX F x fun v => needX F i fun i => ifO ann (lookupV S kk z b v i) fun w => k w S
  | .mapUpd kk x ky y => needX F x fun v => needX F ky fun ky => needX F y fun w => ifS (mapUpdV S kk v ky w) fun S' => k .undef S'
  | .delete kk x ky => needX F x fun v => needX F ky fun ky => ifS (deleteV S kk v ky) fun S' => k .undef S'
  | .callF _ _ => False
  | .callV _ _ => False
  | .eq neg kk pl x y => needX F x fun v => needX F y fun w => eqK neg kk pl v w fun u => k u S
  | .cap x => needX F x fun v => ifO ann (capV v) fun w => k w S
  | .assert t c z x => needX F x fun v => ifO ann (assertV t c z v) fun w => k w S
  | .invoke _ _ _ => False
  | .ext j xs => needXs F xs fun vs => ifO ann (extV j vs) fun w => k w S

/-- An operation: what the slot is told, and the store. -/
def opT (o : AO) (ann : Ann) (F : SF) (S : St) (k : Cell → St → Prop) : Prop :=
  match o with
  | .move x => cellX F x fun c => k c S
  | .pick c x y => pickT F c x y fun c => k c S
  | o => opV o ann F S fun v S' => k (.val v) S'

theorem opV_ok {ok : Env} {callH : FuncId → List V → St → Post → Prop} {Q : PostC} {d : Option Nat} {r : List AI} {F : SF} {fr : List V} {S : St} (hF : Le F fr) {o : AO} {ann : Ann} {k : V → St → Prop} (h : opV o ann F S k)
    (hk : ∀ v S', k v S' → runIs ok callH Q r (put fr d v) S') : runIs ok callH Q (⟨d, none, o⟩ :: r) fr S := by
  cases o with
  | move x => exact h.elim
  | pick c x y => exact h.elim
  | alloc zs => rw [runIs_alloc]; exact hk _ _ (h _ rfl)
  | box x => rw [runIs_box]; exact hk _ _ (needX_ok hF h _ rfl)
  | build zs ps =>
    obtain ⟨cs, h1, h2⟩ := fillK_ok (needPs_ok hF h)
    rw [runIs_build, h1]; exact hk _ _ h2
  | buildSlice kk n zs ps =>
    obtain ⟨cs, h1, h2⟩ := fillK_ok (needPs_ok hF h)
    rw [runIs_buildSlice, h1]; exact hk _ _ (h2 _ rfl)
  | load1 x => obtain ⟨v, h1, h2⟩ := ifO_ok (needX_ok hF h); rw [runIs_load1, h1]; exact hk _ _ h2
  | loadN n x => obtain ⟨v, h1, h2⟩ := ifO_ok (needX_ok hF h); rw [runIs_loadN, h1]; exact hk _ _ h2
  | store n x y => obtain ⟨v, h1, h2⟩ := ifS_ok (needX_ok hF (needX_ok hF h)); rw [runIs_store, h1]; exact hk _ _ h2
  | nilCheck x =>
    have := needX_ok hF h
    rw [runIs_nilCheck, this.1]; exact hk _ _ this.2
  | bin op x y =>
    have := needX_ok hF (needX_ok hF h)
    rw [runIs_bin]
    cases ann with
    | no => obtain ⟨v, h1, h2⟩ := binK_ok this; rw [h1]; exact hk _ _ h2
    | dt d => obtain ⟨v, h1, h2⟩ := ifO_ok this; rw [h1]; exact hk _ _ h2
    | tup ds => obtain ⟨v, h1, h2⟩ := ifO_ok this; rw [h1]; exact hk _ _ h2
  | un op x => obtain ⟨v, h1, h2⟩ := unK_ok (needX_ok hF h); rw [runIs_un, h1]; exact hk _ _ h2
  | convInt kk x =>
    have := needX_ok hF h
    rw [runIs_convInt]
    cases hx : x.ev fr <;> rw [hx] at this <;> first | exact hk _ _ this | exact (ifS_ok this).elim (fun v h' => by cases h'.1)
  | convStr x => obtain ⟨v, h1, h2⟩ := ifO_ok (needX_ok hF h); rw [runIs_convStr, h1]; exact hk _ _ h2
  | convBS x => obtain ⟨v, h1, h2⟩ := ifO_ok (needX_ok hF h); rw [runIs_convBS, h1]; exact hk _ _ h2
  | convSB x =>
    have := needX_ok hF h
    rw [runIs_convSB]
    cases hx : x.ev fr <;> rw [hx] at this <;> first | exact hk _ _ (this _ rfl) | exact (ifP_ok this).elim (fun v h' => by cases h'.1)
  | convBB x => obtain ⟨v, h1, h2⟩ := ifO_ok (needX_ok hF h); rw [runIs_convBB, h1]; exact hk _ _ h2
  | mkFunc fn a b => rw [runIs_mkFunc]; exact hk _ _ (needXs_ok hF (needXs_ok hF h))
  | mkMap => rw [runIs_mkMap]; exact hk _ _ (h _ rfl)
  | mkIface t x => rw [runIs_mkIface]; exact hk _ _ (needX_ok hF h)
  | mkSlice kk b zs l c => obtain ⟨v, h1, h2⟩ := ifP_ok (needX_ok hF (needX_ok hF h)); rw [runIs_mkSlice, h1]; exact hk _ _ h2
  | fieldAddr off x => obtain ⟨v, h1, h2⟩ := ifO_ok (needX_ok hF h); rw [runIs_fieldAddr, h1]; exact hk _ _ h2
  | idxAddr kk x i => obtain ⟨v, h1, h2⟩ := ifO_ok (needX_ok hF (needX_ok hF h)); rw [runIs_idxAddr, h1]; exact hk _ _ h2
  | idxAddrArr n kk x i => obtain ⟨v, h1, h2⟩ := ifO_ok (needX_ok hF (needX_ok hF h)); rw [runIs_idxAddrArr, h1]; exact hk _ _ h2
  | field n off x => obtain ⟨v, h1, h2⟩ := ifO_ok (needX_ok hF h); rw [runIs_field, h1]; exact hk _ _ h2
  | idxStr x i => obtain ⟨v, h1, h2⟩ := ifO_ok (needX_ok hF (needX_ok hF h)); rw [runIs_idxStr, h1]; exact hk _ _ h2
  | idxArr n kk pn x i => obtain ⟨v, h1, h2⟩ := ifO_ok (needX_ok hF (needX_ok hF h)); rw [runIs_idxArr, h1]; exact hk _ _ h2
  | extract n x => obtain ⟨v, h1, h2⟩ := ifO_ok (needX_ok hF h); rw [runIs_extract, h1]; exact hk _ _ h2
  | sliceStr x lo hi => obtain ⟨v, h1, h2⟩ := ifO_ok (needXo_ok hF (needXo_ok hF (needX_ok hF h))); rw [runIs_sliceStr, h1]; exact hk _ _ h2
  | sliceSl kk x lo hi mx => obtain ⟨v, h1, h2⟩ := ifO_ok (needXo_ok hF (needXo_ok hF (needXo_ok hF (needX_ok hF h)))); rw [runIs_sliceSl, h1]; exact hk _ _ h2
  | sliceArr n kk x lo hi mx => obtain ⟨v, h1, h2⟩ := ifO_ok (needXo_ok hF (needXo_ok hF (needXo_ok hF (needX_ok hF h)))); rw [runIs_sliceArr, h1]; exact hk _ _ h2
  | len n x => obtain ⟨v, h1, h2⟩ := ifO_ok (needX_ok hF h); rw [runIs_len, h1]; exact hk _ _ h2
  | min xs => obtain ⟨v, h1, h2⟩ := ifO_ok (needXs_ok hF h); rw [runIs_min, h1]; exact hk _ _ h2
  | max xs => obtain ⟨v, h1, h2⟩ := ifO_ok (needXs_ok hF h); rw [runIs_max, h1]; exact hk _ _ h2
  | app kk b x y => obtain ⟨v, h1, h2⟩ := ifP_ok (needX_ok hF (needX_ok hF h)); rw [runIs_app, h1]; exact hk _ _ h2
  | copy kk x y => obtain ⟨v, h1, h2⟩ := ifP_ok (needX_ok hF (needX_ok hF h)); rw [runIs_copy, h1]; exact hk _ _ h2
  | lookup kk z b x i => obtain ⟨v, h1, h2⟩ := ifO_ok (needX_ok hF (needX_ok hF h)); rw [runIs_lookup, h1]; exact hk _ _ h2
  | mapUpd kk x ky y => obtain ⟨v, h1, h2⟩ := ifS_ok (needX_ok hF (needX_ok hF (needX_ok hF h))); rw [runIs_mapUpd, h1]; exact hk _ _ h2
  | delete kk x ky => obtain ⟨v, h1, h2⟩ := ifS_ok (needX_ok hF (needX_ok hF h)); rw [runIs_delete, h1]; exact hk _ _ h2
  | callF f xs => exact h.elim
  | callV x xs => exact h.elim
  | eq neg kk pl x y => obtain ⟨v, h1, h2⟩ := eqK_ok (needX_ok hF (needX_ok hF h)); rw [runIs_eq, h1]; exact hk _ _ h2
  | cap x => obtain ⟨v, h1, h2⟩ := ifO_ok (needX_ok hF h); rw [runIs_cap, h1]; exact hk _ _ h2
  | assert t c z x => obtain ⟨v, h1, h2⟩ := ifO_ok (needX_ok hF h); rw [runIs_assert, h1]; exact hk _ _ h2
  | invoke nm x xs => exact h.elim
  | ext j xs => obtain ⟨v, h1, h2⟩ := ifO_ok (needXs_ok hF h); rw [runIs_ext, h1]; exact hk _ _ h2

theorem opT_ok {ok : Env} {callH : FuncId → List V → St → Post → Prop} {Q : PostC} {d : Option Nat} {r : List AI} {F : SF} {fr : List V} {S : St} (hF : Le F fr) {o : AO} {ann : Ann} {k : Cell → St → Prop} (h : opT o ann F S k)
    (hk : ∀ c v S', c.Le v → k c S' → runIs ok callH Q r (put fr d v) S') : runIs ok callH Q (⟨d, none, o⟩ :: r) fr S := by
  cases o with
  | move x =>
    obtain ⟨c, h1, h2⟩ := cellX_ok hF (k := fun c => k c S) h
    rw [runIs_move]; exact hk _ _ _ h1 h2
  | pick c x y =>
    obtain ⟨v, h1, c, h2, h3⟩ := pickT_ok hF (k := fun c => k c S) h
    rw [runIs_pick, h1]; exact hk _ _ _ h2 h3
  | _ => exact opV_ok hF (ann := ann) (k := fun v S' => k (.val v) S') h fun v S' hv => hk _ _ _ (Cell.le_val v) hv

end Go.Th
end
