/- What the row of one statement stands on: a store, abstract code, functions of the program and their laws (ThD3). -/
import Derived.Test.YtconjbbmdjaehaaGreatDoorThBH
import Derived.Laws.StructEq
import Derived.ChangeKeysEq
import Derived.Laws.Pointers
import Derived.Laws.Cover3
import Derived.WalkSpells
import Derived.WideLaws

section
/- Comparing: bools, what may be nil, structs and arrays of plain cells. -/
set_option linter.unusedSimpArgs false
set_option linter.unusedVariables false
namespace Go.Th
open Go.RowKit

def eqT : Nat → V → V → Option Bool
  | 0, .bool a, .bool b => some (a == b)
  | 1, .int k a, .int k' b => if k = k' then some (decide (a = b)) else none
  | 2, .str a, .str b => some (decide (a = b))
  | _, _, _ => none
def eqL : List Nat → List V → List V → Option Bool
  | [], [], [] => some true
  | t :: ts, x :: xs, y :: ys => match eqT t x y with
    | some a => match eqL ts xs ys with
      | some b => some (a && b)
      | none => none
    | none => none
  | _, _, _ => none

theorem eqL_append : ∀ {a b : List Nat} {xs ys : List V} {r : Bool}, eqL (a ++ b) xs ys = some r → ∃ p q, eqL a (xs.take a.length) (ys.take a.length) = some p ∧ eqL b (xs.drop a.length) (ys.drop a.length) = some q ∧ r = (p && q)
  | [], b, xs, ys, r, h => ⟨true, r, by simp [eqL], by simpa using h, by simp⟩
  | t :: a, b, [], ys, r, h => by simp [eqL] at h
  | t :: a, b, x :: xs, [], r, h => by simp [eqL] at h
  | t :: a, b, x :: xs, y :: ys, r, h => by
    simp only [List.cons_append, eqL] at h
    split at h
    · rename_i p hp
      split at h
      · rename_i q hq
        cases h
        obtain ⟨p', q', h1, h2, rfl⟩ := eqL_append hq
        exact ⟨p && p', q', by simp only [List.length_cons, List.take_succ_cons, eqL, hp, h1], by simpa using h2, by rw [Bool.and_assoc]⟩
      · cases h
    · cases h

theorem eqL_length : ∀ {a : List Nat} {xs ys : List V} {r : Bool}, eqL a xs ys = some r → xs.length = a.length ∧ ys.length = a.length
  | [], [], [], _, _ => ⟨rfl, rfl⟩
  | [], [], _ :: _, _, h => by simp [eqL] at h
  | [], _ :: _, _, _, h => by simp [eqL] at h
  | t :: a, [], ys, r, h => by simp [eqL] at h
  | t :: a, x :: xs, [], r, h => by simp [eqL] at h
  | t :: a, x :: xs, y :: ys, r, h => by
    simp only [eqL] at h
    split at h
    · split at h
      · rename_i hq
        have := eqL_length hq
        simp [this.1, this.2]
      · cases h
    · cases h

def sizeOk (P : Program) (t : TypeId) (l : List Nat) : Option (List Nat) :=
  match P.info? t with
  | some i => if i.size = l.length then some l else none
  | none => none
theorem sizeOk_some {P : Program} {t : TypeId} {l l' : List Nat} (h : sizeOk P t l = some l') : l' = l ∧ ∃ i, P.info? t = some i ∧ i.size = l.length := by
  unfold sizeOk at h
  split at h
  · rename_i i hi
    split at h
    · cases h; exact ⟨rfl, i, hi, by assumption⟩
    · cases h
  · cases h

def obindE {α β : Type} (x : Option α) (f : α → Option β) : Option β :=
  match x with
  | some a => f a
  | none => none
theorem obindE_some {α β : Type} {x : Option α} {f : α → Option β} {b : β} (h : obindE x f = some b) : ∃ a, x = some a ∧ f a = some b := by
  cases x with
  | none => cases h
  | some a => exact ⟨a, rfl, h⟩

def eqPlanF (g : TypeId → Option (List Nat)) : Nat → List Field → Option (List Nat)
  | _, [] => some []
  | off, f :: fs => if f.name ≠ "_" ∧ f.offset = off then obindE (g f.type) fun l => obindE (eqPlanF g (off + l.length) fs) fun r => some (l ++ r) else none

def eqPlan (P : Program) : Nat → TypeId → Option (List Nat)
  | 0, _ => none
  | d + 1, t => match P.underlying t with
    | some .bool => some [0]
    | some (.int _) => some [1]
    | some .string => some [2]
    | some (.array n e) => obindE (eqPlan P d e) fun l => if l.length = P.cellsOf e then sizeOk P t (List.replicate n l).flatten else none
    | some (.struct fs) => if P.stoodInHeld t then none else obindE (eqPlanF (eqPlan P d) 0 fs.toList) fun l => sizeOk P t l
    | _ => none

def EqOk (P : Program) (m : LM) (dd : Nat) (t : TypeId) (l : List Nat) : Prop :=
  (∀ d, P.underlying t = some d → isAggD d = true → (∃ i, P.info? t = some i ∧ i.size = l.length) ∧ ∀ (w : World) (xs ys : Array Value) (vs us : List V) (b : Bool), VRs m vs xs.toList → VRs m us ys.toList → eqL l vs us = some b → (Op.equalIn dd t (.agg xs) (.agg ys)).run P w = .ok b w) ∧
  (∀ d, P.underlying t = some d → isAggD d = false → (∃ i, P.info? t = some i) ∧ l.length = 1 ∧ ∀ (w : World) (x y : Value) (v u : V) (b : Bool), VR m v x → VR m u y → eqL l [v] [u] = some b → (Op.equalIn dd t x y).run P w = .ok b w)

section
variable {P : Program} {m : LM}

theorem run_part_eq {dd : Nat} {t : TypeId} {l : List Nat} (he : EqOk P m dd t l) {d : TypeDesc} (hd : P.underlying t = some d) (w : World) {xs ys : Array Value} {vs us : List V} (hx : VRs m vs xs.toList) (hy : VRs m us ys.toList) {off : Nat} {b : Bool}
    (h : eqL l ((vs.drop off).take l.length) ((us.drop off).take l.length) = some b) : ∃ a c, (part t xs off).run P w = .ok a w ∧ (part t ys off).run P w = .ok c w ∧ ∀ w, (Op.equalIn dd t a c).run P w = .ok b w := by
  have hlen := eqL_length h
  by_cases ha : isAggD d = true
  · obtain ⟨⟨i, hi, hs⟩, h1⟩ := he.1 d hd ha
    have hp : partInfo P t = some (some l.length) := by simp only [partInfo, hd, hi, ha, if_true, hs]
    have hl1 : off + l.length ≤ vs.length ∨ l.length = 0 := by
      have := hlen.1; rw [List.length_take, List.length_drop] at this; omega
    have hl2 : off + l.length ≤ us.length ∨ l.length = 0 := by
      have := hlen.2; rw [List.length_take, List.length_drop] at this; omega
    by_cases hz : off + l.length ≤ vs.length ∧ off + l.length ≤ us.length
    · obtain ⟨a, ra, va⟩ := partV_rel (n := some l.length) (off := off) (v := .agg ((vs.drop off).take l.length)) hp hx (by simp only [partV, if_pos hz.1]) w
      obtain ⟨c, rc, vc⟩ := partV_rel (n := some l.length) (off := off) (v := .agg ((us.drop off).take l.length)) hp hy (by simp only [partV, if_pos hz.2]) w
      obtain ⟨as, ea, va2⟩ := va.agg_inv
      obtain ⟨cs, ec, vc2⟩ := vc.agg_inv
      rw [ea] at ra
      rw [ec] at rc
      exact ⟨_, _, ra, rc, fun w => h1 w as cs _ _ b va2 vc2 h⟩
    · have h0 : l.length = 0 := by omega
      -- nothing to compare
      have hr : ∀ (zs : Array Value), (part t zs off).run P w = .ok (.agg (zs.extract off (off + i.size))) w := by
        intro zs
        simp [part, run_isAgg hd, ha, sizeOf, typeInfo, hi]
      have hi0 : i.size = 0 := by omega
      refine ⟨_, _, hr xs, hr ys, fun w => h1 w _ _ [] [] b ?_ ?_ ?_⟩
      · simp [hi0, VRs]
      · simp [hi0, VRs]
      · rw [h0, List.take_zero, List.take_zero] at h; exact h
  · have ha' : isAggD d = false := by simpa using ha
    obtain ⟨⟨i, hi⟩, hl1, h1⟩ := he.2 d hd ha'
    have hp : partInfo P t = some none := by simp only [partInfo, hd, hi, ha', Bool.false_eq_true, if_false]
    rw [hl1] at h hlen
    have g1 : off < vs.length := by have := hlen.1; rw [List.length_take, List.length_drop] at this; omega
    have g2 : off < us.length := by have := hlen.2; rw [List.length_take, List.length_drop] at this; omega
    obtain ⟨a, ra, va⟩ := partV_rel (n := none) (off := off) (v := vs[off]) hp hx (by simp only [partV, List.getElem?_eq_getElem g1]) w
    obtain ⟨c, rc, vc⟩ := partV_rel (n := none) (off := off) (v := us[off]) hp hy (by simp only [partV, List.getElem?_eq_getElem g2]) w
    have e1 : (vs.drop off).take 1 = [vs[off]] := by rw [List.drop_eq_getElem_cons g1]; rfl
    have e2 : (us.drop off).take 1 = [us[off]] := by rw [List.drop_eq_getElem_cons g2]; rfl
    rw [e1, e2] at h
    exact ⟨a, c, ra, rc, fun w => h1 w a c _ _ b va vc h⟩

theorem run_eqFields_plan {dd : Nat} {g : TypeId → Option (List Nat)} (hg : ∀ t l, g t = some l → (∃ d, P.underlying t = some d) ∧ EqOk P m dd t l) (w : World) {xs ys : Array Value} {vs us : List V} (hx : VRs m vs xs.toList) (hy : VRs m us ys.toList) :
    ∀ (fs : List Field) (off : Nat) (l : List Nat) (b : Bool), eqPlanF g off fs = some l → eqL l (vs.drop off) (us.drop off) = some b → (Op.eqFields dd xs ys fs).run P w = .ok b w
  | [], off, l, b, h, he => by
    simp only [eqPlanF, Option.some.injEq] at h; subst h
    have := eqL_length he
    have e1 : vs.drop off = [] := List.length_eq_zero_iff.mp this.1
    have e2 : us.drop off = [] := List.length_eq_zero_iff.mp this.2
    rw [e1, e2] at he
    simp only [eqL, Option.some.injEq] at he; subst he
    simp [Op.eqFields]
  | f :: fs, off, l, b, h, he => by
    simp only [eqPlanF] at h
    split at h
    · rename_i hn
      obtain ⟨l1, h1, h⟩ := obindE_some h
      obtain ⟨l2, h2, h⟩ := obindE_some h
      cases h
      obtain ⟨p, q, e1, e2, rfl⟩ := eqL_append he
      obtain ⟨⟨d, hd⟩, hok⟩ := hg _ _ h1
      rw [← hn.2] at e1
      obtain ⟨a, c, r1, r2, r3⟩ := run_part_eq hok hd w hx hy e1
      have ih := run_eqFields_plan hg w hx hy fs (off + l1.length) l2 q h2 (by rw [← List.drop_drop, ← List.drop_drop]; exact e2)
      simp only [Op.eqFields, if_pos hn.1, Sem.run_bind, r1, r2, r3, Result.andThen_ok]
      cases p
      · simp
      · simpa using ih
    · cases h

theorem run_eqItems_plan {dd : Nat} {e : TypeId} {l : List Nat} {d : TypeDesc} (hd : P.underlying e = some d) (hok : EqOk P m dd e l) (w : World) {xs ys : Array Value} {vs us : List V} (hx : VRs m vs xs.toList) (hy : VRs m us ys.toList) :
    ∀ (n k : Nat) (b : Bool), eqL (List.replicate n l).flatten (vs.drop (k * l.length)) (us.drop (k * l.length)) = some b → (Op.eqItems dd e l.length xs ys ((List.range n).map (k + ·))).run P w = .ok b w
  | 0, k, b, h => by
    have := eqL_length h
    simp only [List.replicate_zero, List.flatten_nil, List.length_nil] at this
    have e1 : vs.drop (k * l.length) = [] := List.length_eq_zero_iff.mp this.1
    have e2 : us.drop (k * l.length) = [] := List.length_eq_zero_iff.mp this.2
    rw [e1, e2] at h
    simp only [List.replicate_zero, List.flatten_nil, eqL, Option.some.injEq] at h; subst h
    simp [Op.eqItems]
  | n + 1, k, b, h => by
    simp only [List.replicate_succ, List.flatten_cons] at h
    obtain ⟨p, q, e1, e2, rfl⟩ := eqL_append h
    obtain ⟨a, c, r1, r2, r3⟩ := run_part_eq hok hd w hx hy e1
    have ih := run_eqItems_plan hd hok w hx hy n (k + 1) q (by
      rw [List.drop_drop, List.drop_drop] at e2
      rw [Nat.add_mul, Nat.one_mul]; exact e2)
    have hr : (List.range (n + 1)).map (k + ·) = k :: (List.range n).map (k + 1 + ·) := by
      rw [List.range_succ_eq_map, List.map_cons, List.map_map]
      congr 1
      apply List.map_congr_left
      intro x _
      simp; omega
    rw [hr]
    simp only [Op.eqItems, Sem.run_bind, r1, r2, r3, Result.andThen_ok]
    cases p
    · simp
    · simpa using ih

theorem eqL_one {k : Nat} {v u : V} {b : Bool} (h : eqL [k] [v] [u] = some b) : eqT k v u = some b := by
  simp only [eqL] at h
  split at h
  · rename_i a ha
    simp only [Option.some.injEq, Bool.and_true] at h
    rw [ha, h]
  · cases h

theorem eqT0 {v u : V} {b : Bool} (h : eqT 0 v u = some b) : ∃ a c, v = .bool a ∧ u = .bool c ∧ b = (a == c) := by
  cases v <;> cases u <;> simp only [eqT] at h <;> first | cases h | skip
  exact ⟨_, _, rfl, rfl, rfl⟩
theorem eqT1 {v u : V} {b : Bool} (h : eqT 1 v u = some b) : ∃ k a c, v = .int k a ∧ u = .int k c ∧ b = decide (a = c) := by
  cases v <;> cases u <;> simp only [eqT] at h <;> first | cases h | skip
  split at h
  · rename_i hk; subst hk; cases h; exact ⟨_, _, _, rfl, rfl, rfl⟩
  · cases h
theorem eqT2 {v u : V} {b : Bool} (h : eqT 2 v u = some b) : ∃ a c, v = .str a ∧ u = .str c ∧ b = decide (a = c) := by
  cases v <;> cases u <;> simp only [eqT] at h <;> first | cases h | skip
  exact ⟨_, _, rfl, rfl, rfl⟩

theorem info_under {t : TypeId} {d : TypeDesc} (h : P.underlying t = some d) : ∃ i, P.info? t = some i := info_of_underlying h

theorem eqPlan_ok : ∀ (n d : Nat) (t : TypeId) (l : List Nat), eqPlan P n t = some l → (∃ d, P.underlying t = some d) ∧ EqOk P m (d + n) t l
  | 0, d, t, l, h => by simp [eqPlan] at h
  | n + 1, d, t, l, h => by
    simp only [eqPlan] at h
    split at h
    · rename_i hu
      cases h
      refine ⟨⟨_, hu⟩, fun d' hd ha => ?_, fun d' hd ha => ⟨info_under hu, rfl, fun w x y v u b hx hy he => ?_⟩⟩
      · rw [hu] at hd; cases hd; cases ha
      · obtain ⟨a, c, rfl, rfl, rfl⟩ := eqT0 (eqL_one he)
        rw [hx.bool_inv, hy.bool_inv]
        exact run_equalIn_bool w (d + n) t _ _ hu
    · rename_i k hu
      cases h
      refine ⟨⟨_, hu⟩, fun d' hd ha => ?_, fun d' hd ha => ⟨info_under hu, rfl, fun w x y v u b hx hy he => ?_⟩⟩
      · rw [hu] at hd; cases hd; cases ha
      · obtain ⟨q, a, c, rfl, rfl, rfl⟩ := eqT1 (eqL_one he)
        rw [hx.int_inv, hy.int_inv]
        rw [show d + (n + 1) = (d + n) + 1 from rfl, run_equalIn_int w (d + n) t _ _ _ _ hu]
        rfl
    · rename_i hu
      cases h
      refine ⟨⟨_, hu⟩, fun d' hd ha => ?_, fun d' hd ha => ⟨info_under hu, rfl, fun w x y v u b hx hy he => ?_⟩⟩
      · rw [hu] at hd; cases hd; cases ha
      · obtain ⟨a, c, rfl, rfl, rfl⟩ := eqT2 (eqL_one he)
        rw [hx.str_inv, hy.str_inv]
        rw [show d + (n + 1) = (d + n) + 1 from rfl, run_equalIn_string w (d + n) t _ _ hu]
        rw [toList_mk, toList_mk, beq_dec]
    · rename_i k e hu
      obtain ⟨l0, h0, h⟩ := obindE_some h
      split at h
      · rename_i hlen
        obtain ⟨rfl, i, hi, hs⟩ := sizeOk_some h
        obtain ⟨⟨de, hde⟩, hok⟩ := eqPlan_ok n d e l0 h0
        obtain ⟨ie, hie⟩ := info_under hde
        refine ⟨⟨_, hu⟩, fun d' hd ha => ⟨⟨i, hi, hs⟩, fun w xs ys vs us b hx hy he => ?_⟩, fun d' hd ha => ?_⟩
        · rw [show d + (n + 1) = (d + n) + 1 from rfl, run_equalIn_array w (d + n) xs ys hu hie, ← hlen]
          have := run_eqItems_plan hde hok w hx hy k 0 b (by simpa using he)
          simpa using this
        · rw [hu] at hd; cases hd; cases ha
      · cases h
    · rename_i fs hu
      split at h
      · cases h
      · rename_i hst
        obtain ⟨l0, h0, h⟩ := obindE_some h
        obtain ⟨rfl, i, hi, hs⟩ := sizeOk_some h
        have hfs : P.fieldsOf t = fs := by simp [Program.fieldsOf, hu]
        refine ⟨⟨_, hu⟩, fun d' hd ha => ⟨⟨i, hi, hs⟩, fun w xs ys vs us b hx hy he => ?_⟩, fun d' hd ha => ?_⟩
        · rw [show d + (n + 1) = (d + n) + 1 from rfl, run_equalIn_struct w (d + n) t xs ys (by rw [hfs]; exact hu) (by simpa using hst), hfs]
          exact run_eqFields_plan (fun t l hl => eqPlan_ok n d t l hl) w hx hy fs.toList 0 _ b h0 (by simpa using he)
        · rw [hu] at hd; cases hd; cases ha
    · cases h

end
end Go.Th

namespace Go.Th
open Go.RowKit

def eqB (x y : V) : Option Bool := match x, y with | .bool a, .bool b => some (a == b) | _, _ => none
def eqP (x y : V) : Option Bool := match x, y with | .nilPtr, .nilPtr => some true | .nilPtr, .ptr _ _ => some false | .ptr _ _, .nilPtr => some false | _, _ => none
def eqS (x y : V) : Option Bool := match x, y with | .nilSlice, .nilSlice => some true | .nilSlice, .slice _ _ _ _ _ _ => some false | .slice _ _ _ _ _ _, .nilSlice => some false | _, _ => none
def eqM (x y : V) : Option Bool := match x, y with | .nilMap, .nilMap => some true | .nilMap, .map _ => some false | .map _, .nilMap => some false | _, _ => none
def eqF (x y : V) : Option Bool := match x, y with | .nilFunc, .nilFunc => some true | .nilFunc, .func _ _ _ => some false | .func _ _ _, .nilFunc => some false | _, _ => none
def eqI (x y : V) : Option Bool := match x, y with | .nilIface, .nilIface => some true | .nilIface, .iface _ _ => some false | .iface _ _, .nilIface => some false | _, _ => none
def eqA (plan : List Nat) (x y : V) : Option Bool := match x, y with | .agg xs, .agg ys => eqL plan xs ys | _, _ => none

def eqV (kk : Nat) (plan : List Nat) (x y : V) : Option Bool :=
  match kk with
  | 0 => eqB x y
  | 1 => eqP x y
  | 2 => eqS x y
  | 3 => eqM x y
  | 4 => eqF x y
  | 5 => eqI x y
  | 6 => eqA plan x y
  | _ => none

def isCon : Operand → Bool
  | .const _ => true
  | _ => false

def eqKind (P : Program) (t : TypeId) (x y : Operand) : Option (Nat × List Nat) :=
  match P.underlying t with
  | some .bool => some (0, [])
  | some (.pointer _) => some (1, [])
  | some (.slice _) => some (2, [])
  | some (.map _ _) => some (3, [])
  | some (.func _ _ _) => some (4, [])
  | some (.interface _) => if isCon x || isCon y then some (5, []) else none
  | some (.struct _) | some (.array _ _) => if P.eqGuardType P.depth t then none else obindE (eqPlan P 100 t) fun l => some (6, l)
  | _ => none

def rEq (neg : Bool) (kk : Nat) (plan : List Nat) (x y : AX) : List V → St → AR := fun fr S =>
  match eqV kk plan (x.ev fr) (y.ev fr) with
  | some b => .val (.bool (b != neg)) S
  | none => .stuck

theorem equal_one (t : TypeId) (a c : Value) : Op.equal t a c = Op.equalIn (9999 + 1) t a c := rfl

theorem eqn_ptr0 {P : Program} (d : Nat) (w : World) {t : TypeId} {e : TypeId} (hu : P.underlying t = some (.pointer e))  : (Op.equalIn (d + 1) t (.pointer none) (.pointer none)).run P w = .ok true w := by
  simp [Op.equalIn, run_underlying hu]
theorem eqn_ptr1 {P : Program} (d : Nat) (w : World) {t : TypeId} {e : TypeId} (hu : P.underlying t = some (.pointer e)) (a : Addr) : (Op.equalIn (d + 1) t (.pointer none) (.pointer (some a))).run P w = .ok false w := by
  simp [Op.equalIn, run_underlying hu]
theorem eqn_ptr2 {P : Program} (d : Nat) (w : World) {t : TypeId} {e : TypeId} (hu : P.underlying t = some (.pointer e)) (a : Addr) : (Op.equalIn (d + 1) t (.pointer (some a)) (.pointer none)).run P w = .ok false w := by
  simp [Op.equalIn, run_underlying hu]
theorem eqn_sl0 {P : Program} (d : Nat) (w : World) {t : TypeId} {e : TypeId} (hu : P.underlying t = some (.slice e))  : (Op.equalIn (d + 1) t (.slice none 0 0) (.slice none 0 0)).run P w = .ok true w := by
  simp [Op.equalIn, run_underlying hu]
theorem eqn_sl1 {P : Program} (d : Nat) (w : World) {t : TypeId} {e : TypeId} (hu : P.underlying t = some (.slice e)) (a : Addr) (l k : Nat) : (Op.equalIn (d + 1) t (.slice none 0 0) (.slice (some a) l k)).run P w = .ok false w := by
  simp [Op.equalIn, run_underlying hu]
theorem eqn_sl2 {P : Program} (d : Nat) (w : World) {t : TypeId} {e : TypeId} (hu : P.underlying t = some (.slice e)) (a : Addr) (l k : Nat) : (Op.equalIn (d + 1) t (.slice (some a) l k) (.slice none 0 0)).run P w = .ok false w := by
  simp [Op.equalIn, run_underlying hu]
theorem eqn_mp0 {P : Program} (d : Nat) (w : World) {t : TypeId} {k e : TypeId} (hu : P.underlying t = some (.map k e))  : (Op.equalIn (d + 1) t (.map none) (.map none)).run P w = .ok true w := by
  simp [Op.equalIn, run_underlying hu]
theorem eqn_mp1 {P : Program} (d : Nat) (w : World) {t : TypeId} {k e : TypeId} (hu : P.underlying t = some (.map k e)) (a : Nat) : (Op.equalIn (d + 1) t (.map none) (.map (some a))).run P w = .ok false w := by
  simp [Op.equalIn, run_underlying hu]
theorem eqn_mp2 {P : Program} (d : Nat) (w : World) {t : TypeId} {k e : TypeId} (hu : P.underlying t = some (.map k e)) (a : Nat) : (Op.equalIn (d + 1) t (.map (some a)) (.map none)).run P w = .ok false w := by
  simp [Op.equalIn, run_underlying hu]
theorem eqn_fn0 {P : Program} (d : Nat) (w : World) {t : TypeId} {a b : Array TypeId} {v : Bool} (hu : P.underlying t = some (.func a b v))  : (Op.equalIn (d + 1) t (.nilFunc) (.nilFunc)).run P w = .ok true w := by
  simp [Op.equalIn, run_underlying hu]
theorem eqn_fn1 {P : Program} (d : Nat) (w : World) {t : TypeId} {a b : Array TypeId} {v : Bool} (hu : P.underlying t = some (.func a b v)) (f : Fn) (x y : Array Value) : (Op.equalIn (d + 1) t (.nilFunc) (.func f x y)).run P w = .ok false w := by
  simp [Op.equalIn, run_underlying hu]
theorem eqn_fn2 {P : Program} (d : Nat) (w : World) {t : TypeId} {a b : Array TypeId} {v : Bool} (hu : P.underlying t = some (.func a b v)) (f : Fn) (x y : Array Value) : (Op.equalIn (d + 1) t (.func f x y) (.nilFunc)).run P w = .ok false w := by
  simp [Op.equalIn, run_underlying hu]
theorem eqn_if0 {P : Program} (d : Nat) (w : World) {t : TypeId} {ms : Array (String × TypeId)} (hu : P.underlying t = some (.interface ms))  : (Op.equalIn (d + 1) t (.nilIface) (.nilIface)).run P w = .ok true w := by
  simp [Op.equalIn, run_underlying hu]
theorem eqn_if1 {P : Program} (d : Nat) (w : World) {t : TypeId} {ms : Array (String × TypeId)} (hu : P.underlying t = some (.interface ms)) (q : TypeId) (x : Value) : (Op.equalIn (d + 1) t (.nilIface) (.iface q x)).run P w = .ok false w := by
  simp [Op.equalIn, run_underlying hu]
theorem eqn_if2 {P : Program} (d : Nat) (w : World) {t : TypeId} {ms : Array (String × TypeId)} (hu : P.underlying t = some (.interface ms)) (q : TypeId) (x : Value) : (Op.equalIn (d + 1) t (.iface q x) (.nilIface)).run P w = .ok false w := by
  simp [Op.equalIn, run_underlying hu]

theorem run_cmp {P : Program} {t : TypeId} {x y : Operand} {a c : Value} {b : Bool} {w : World} (hr : (Op.equal t a c).run P w = .ok b w) (hg : ∀ op, (eqGuard op t x y a c).run P w = .ok () w)
    (he : ∀ op, op = .eql → binOp op t a c = (do pure (.bool (← Op.equal t a c)))) (hn : ∀ op, op = .neq → binOp op t a c = (do pure (.bool (!(← Op.equal t a c))))) (op : BinOp) (neg : Bool) (ho : op = .eql ∧ neg = false ∨ op = .neq ∧ neg = true) :
    (do eqGuard op t x y a c; binOp op t a c : Sem Value).run P w = .ok (.bool (b != neg)) w := by
  rcases ho with ⟨rfl, rfl⟩ | ⟨rfl, rfl⟩
  · simp [Sem.run_bind, hg, he _ rfl, hr]
  · simp [Sem.run_bind, hg, hn _ rfl, hr]

theorem run_eqV {P : Program} {m : LM} {t : TypeId} {x y : Operand} {kk : Nat} {plan : List Nat} (hk : eqKind P t x y = some (kk, plan)) {v u : V} {b : Bool} (h : eqV kk plan v u = some b) {a c : Value} (ha : VR m v a) (hc : VR m u c) (w : World)
    (op : BinOp) (neg : Bool) (ho : op = .eql ∧ neg = false ∨ op = .neq ∧ neg = true) : (do eqGuard op t x y a c; binOp op t a c : Sem Value).run P w = .ok (.bool (b != neg)) w := by
  unfold eqKind at hk
  split at hk
  · rename_i hu
    cases hk
    change eqB v u = some b at h
    unfold eqB at h
    split at h <;> first | cases h | skip
    rw [ha.bool_inv, hc.bool_inv]
    exact run_cmp (run_equal_bool w t _ _ hu) (fun op => by cases op <;> simp [eqGuard]) (fun op e => by subst e; rfl) (fun op e => by subst e; rfl) op neg ho
  · rename_i e hu
    cases hk
    change eqP v u = some b at h
    unfold eqP at h
    split at h <;> first | cases h | skip
    · rw [ha.nilPtr_inv, hc.nilPtr_inv]
      exact run_cmp (by rw [equal_one]; exact eqn_ptr0 9999 w hu) (fun op => by cases op <;> simp [eqGuard]) (fun op e => by subst e; rfl) (fun op e => by subst e; rfl) op neg ho
    · obtain ⟨L, _, e2⟩ := hc.ptr_inv
      rw [ha.nilPtr_inv, e2]
      exact run_cmp (by rw [equal_one]; exact eqn_ptr1 9999 w hu _) (fun op => by cases op <;> simp [eqGuard]) (fun op e => by subst e; rfl) (fun op e => by subst e; rfl) op neg ho
    · obtain ⟨L, _, e2⟩ := ha.ptr_inv
      rw [hc.nilPtr_inv, e2]
      exact run_cmp (by rw [equal_one]; exact eqn_ptr2 9999 w hu _) (fun op => by cases op <;> simp [eqGuard]) (fun op e => by subst e; rfl) (fun op e => by subst e; rfl) op neg ho
  · rename_i e hu
    cases hk
    change eqS v u = some b at h
    unfold eqS at h
    split at h <;> first | cases h | skip
    · rw [ha.nilSlice_inv, hc.nilSlice_inv]
      exact run_cmp (by rw [equal_one]; exact eqn_sl0 9999 w hu) (fun op => by cases op <;> simp [eqGuard]) (fun op e => by subst e; rfl) (fun op e => by subst e; rfl) op neg ho
    · obtain ⟨L, q, c', _, e2, _⟩ := hc.slice_inv
      rw [ha.nilSlice_inv, e2]
      exact run_cmp (by rw [equal_one]; exact eqn_sl1 9999 w hu _ _ _) (fun op => by cases op <;> simp [eqGuard]) (fun op e => by subst e; rfl) (fun op e => by subst e; rfl) op neg ho
    · obtain ⟨L, q, c', _, e2, _⟩ := ha.slice_inv
      rw [hc.nilSlice_inv, e2]
      exact run_cmp (by rw [equal_one]; exact eqn_sl2 9999 w hu _ _ _) (fun op => by cases op <;> simp [eqGuard]) (fun op e => by subst e; rfl) (fun op e => by subst e; rfl) op neg ho
  · rename_i kt e hu
    cases hk
    change eqM v u = some b at h
    unfold eqM at h
    split at h <;> first | cases h | skip
    · rw [ha.nilMap_inv, hc.nilMap_inv]
      exact run_cmp (by rw [equal_one]; exact eqn_mp0 9999 w hu) (fun op => by cases op <;> simp [eqGuard]) (fun op e => by subst e; rfl) (fun op e => by subst e; rfl) op neg ho
    · obtain ⟨L, _, e2⟩ := hc.map_inv
      rw [ha.nilMap_inv, e2]
      exact run_cmp (by rw [equal_one]; exact eqn_mp1 9999 w hu _) (fun op => by cases op <;> simp [eqGuard]) (fun op e => by subst e; rfl) (fun op e => by subst e; rfl) op neg ho
    · obtain ⟨L, _, e2⟩ := ha.map_inv
      rw [hc.nilMap_inv, e2]
      exact run_cmp (by rw [equal_one]; exact eqn_mp2 9999 w hu _) (fun op => by cases op <;> simp [eqGuard]) (fun op e => by subst e; rfl) (fun op e => by subst e; rfl) op neg ho
  · rename_i ps rs vd hu
    cases hk
    have nf : ∀ {u : Value}, VR m .nilFunc u → u = .nilFunc := fun h => by simpa only [VR] using h
    change eqF v u = some b at h
    unfold eqF at h
    split at h <;> first | cases h | skip
    · rw [nf ha, nf hc]
      exact run_cmp (by rw [equal_one]; exact eqn_fn0 9999 w hu) (fun op => by cases op <;> simp [eqGuard]) (fun op e => by subst e; rfl) (fun op e => by subst e; rfl) op neg ho
    · obtain ⟨f1, c1, e2, _, _⟩ := hc.func_inv
      rw [nf ha, e2]
      exact run_cmp (by rw [equal_one]; exact eqn_fn1 9999 w hu _ _ _) (fun op => by cases op <;> simp [eqGuard]) (fun op e => by subst e; rfl) (fun op e => by subst e; rfl) op neg ho
    · obtain ⟨f1, c1, e2, _, _⟩ := ha.func_inv
      rw [nf hc, e2]
      exact run_cmp (by rw [equal_one]; exact eqn_fn2 9999 w hu _ _ _) (fun op => by cases op <;> simp [eqGuard]) (fun op e => by subst e; rfl) (fun op e => by subst e; rfl) op neg ho
  · rename_i ms hu
    split at hk
    · rename_i hcon
      cases hk
      have ni : ∀ {u : Value}, VR m .nilIface u → u = .nilIface := fun h => by simpa only [VR] using h
      change eqI v u = some b at h
      unfold eqI at h
      split at h <;> first | cases h | skip
      · rw [ni ha, ni hc]
        refine run_cmp (by rw [equal_one]; exact eqn_if0 9999 w hu) (fun op => ?_) (fun op e => by subst e; rfl) (fun op e => by subst e; rfl) op neg ho
        cases x <;> cases y <;> simp [isCon] at hcon <;> cases op <;> simp [eqGuard]
      · obtain ⟨f1, e2, _⟩ := hc.iface_inv
        rw [ni ha, e2]
        exact run_cmp (by rw [equal_one]; exact eqn_if1 9999 w hu _ _) (fun op => by cases op <;> simp [eqGuard]) (fun op e => by subst e; rfl) (fun op e => by subst e; rfl) op neg ho
      · obtain ⟨f1, e2, _⟩ := ha.iface_inv
        rw [ni hc, e2]
        exact run_cmp (by rw [equal_one]; exact eqn_if2 9999 w hu _ _) (fun op => by cases op <;> simp [eqGuard]) (fun op e => by subst e; rfl) (fun op e => by subst e; rfl) op neg ho
    · cases hk
  · rename_i fs hu
    split at hk
    · cases hk
    · rename_i hgt
      obtain ⟨l, hl, hk⟩ := obindE_some hk
      cases hk
      obtain ⟨_, hok⟩ := eqPlan_ok (P := P) (m := m) 100 9900 t _ hl
      change eqA _ v u = some b at h
      unfold eqA at h
      split at h <;> first | cases h | skip
      obtain ⟨xs, rfl, hx⟩ := ha.agg_inv
      obtain ⟨ys, rfl, hy⟩ := hc.agg_inv
      refine run_cmp (by rw [equal_one]; exact (hok.1 _ hu rfl).2 w xs ys _ _ b hx hy h) (fun op => ?_) (fun op e => by subst e; rfl) (fun op e => by subst e; rfl) op neg ho
      have hgt' : P.eqGuardType P.depth t = false := by simpa using hgt
      cases op <;> simp [eqGuard, hgt']
  · rename_i n e hu
    split at hk
    · cases hk
    · rename_i hgt
      obtain ⟨l, hl, hk⟩ := obindE_some hk
      cases hk
      obtain ⟨_, hok⟩ := eqPlan_ok (P := P) (m := m) 100 9900 t _ hl
      change eqA _ v u = some b at h
      unfold eqA at h
      split at h <;> first | cases h | skip
      obtain ⟨xs, rfl, hx⟩ := ha.agg_inv
      obtain ⟨ys, rfl, hy⟩ := hc.agg_inv
      refine run_cmp (by rw [equal_one]; exact (hok.1 _ hu rfl).2 w xs ys _ _ b hx hy h) (fun op => ?_) (fun op e => by subst e; rfl) (fun op e => by subst e; rfl) op neg ho
      have hgt' : P.eqGuardType P.depth t = false := by simpa using hgt
      cases op <;> simp [eqGuard, hgt']
  · cases hk

theorem ok_eq {P : Program} {o : Oper} {op : BinOp} {t yt : TypeId} {x y : Operand} {ax ay : AX} {kk : Nat} {plan : List Nat} {neg : Bool} (ho : o.op = .binOp op t x y yt) (hn : op = .eql ∧ neg = false ∨ op = .neq ∧ neg = true)
    (hx : AX.of x = some ax) (hy : AX.of y = some ay) (hk : eqKind P t x y = some (kk, plan)) : OpOk P o (rEq neg kk plan ax ay) :=
  OpOk.pure fun m S base w0 w fr a hS hf => by
    have rx := AX.of_rel hx hf
    have ry := AX.of_rel hy hf
    unfold rEq
    split
    · rename_i b hb
      refine .inr ⟨_, .bool (b != neg), rfl, ?_, VR.bool_mk _ _⟩
      have := run_eqV hk hb rx ry w op neg hn
      simp only [execOp, ho, Sem.run_bind] at this ⊢
      rw [this]
      simp
    · exact .inl rfl

end Go.Th
end
