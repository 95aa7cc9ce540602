/- What the row of one statement stands on: a store, abstract code, functions of the program and their laws (ThPfact). -/
import Derived.Test.YtkmmkfiekamgpaaGreatDoorThBQ10
import Derived.Lib.AtoiAllCases
import Derived.Lib.ItoaNum

section
/- Plain: specs as texts, parsed and printed. -/
set_option linter.unusedSimpArgs false
set_option linter.unusedVariables false
namespace Go.Th.Pure
open Go Go.Th

abbrev Bs := List UInt8
structure FSpec where
  k : Int
  s : Int
  p : Int
  c : Int
deriving DecidableEq
def zSpec : FSpec := ⟨0, 0, 0, 0⟩

def isDig (b : UInt8) : Bool := decide (48 ≤ b.toNat ∧ b.toNat ≤ 57)
def nd : Bs → Nat
  | [] => 0
  | b :: r => if isDig b then nd r + 1 else 0
def valA (n : Nat) : Bs → Nat
  | [] => n
  | b :: r => valA (n * 10 + (b.toNat - 48)) r
def valD (s : Bs) : Nat := valA 0 s
def numOk (t : Bs) : Bool := decide (1 ≤ nd t ∧ nd t ≤ 9 ∧ (nd t = 1 ∨ t.head? ≠ some 48))
def numV (t : Bs) : Int := valD (t.take (nd t))
def numR (t : Bs) : Bs := t.drop (nd t)
def digitsF (t : Bs) : Int × Bs × Bool := if numOk t then (numV t, numR t, true) else (0, t, false)
def frontF (s w : Bs) : Bs × Bool := if s.take w.length = w then (s.drop w.length, true) else (s, false)
def wFlat : Bs := [70, 108, 97, 116]
def wKD : Bs := [75, 68]
def wVP : Bs := [86, 80]
def wHN : Bs := [72, 78, 83, 87]
def wIVF : Bs := [73, 86, 70]
def wPQ : Bs := [44, 80, 81]
def wCF : Bs := [44, 70, 108, 97, 116]
def wX : Bs := [120]
def oneF (t w : Bs) (kind : Int) : FSpec × Bool :=
  (⟨kind, (digitsF (frontF t w).1).1, 0, 0⟩, (frontF t w).2 && (digitsF (frontF t w).1).2.2 && decide ((digitsF (frontF t w).1).2.1 = []))
def ivfF (t : Bs) : FSpec × Bool :=
  let a := frontF t wIVF
  let n := digitsF a.1
  if a.2 = true ∧ n.2.2 = true then
    if n.2.1 = wCF then (⟨4, n.1, 0, 0⟩, true)
    else
      let b := frontF n.2.1 wPQ
      let p := digitsF b.1
      let x := frontF p.2.1 wX
      let c := digitsF x.1
      (⟨5, n.1, p.1, c.1⟩, b.2 && p.2.2 && x.2 && c.2.2 && decide (c.2.1 = []))
  else (zSpec, false)
def refF (t : Bs) : FSpec × Bool :=
  if t = wFlat then (⟨1, 0, 0, 0⟩, true) else if (oneF t wKD 2).2 then oneF t wKD 2 else if (oneF t wVP 3).2 then oneF t wVP 3 else if (oneF t wHN 6).2 then oneF t wHN 6 else ivfF t
def within (n m : Int) : Bool := decide (1 ≤ n ∧ n ≤ m)
def okF' (x : FSpec) : Bool :=
  let rest := decide (x.p = 0 ∧ x.c = 0)
  if x.k = 1 then decide (x.s = 0) && rest else if x.k = 2 ∨ x.k = 3 then within x.s 64 && rest else if x.k = 4 then within x.s 64 && rest
  else if x.k = 5 then within x.s 64 && within x.p 8 && within x.c 16 else within x.s 16 && rest
def checkF (x : FSpec) : Int := if x.k < 1 ∨ 6 < x.k then 120 else if okF' x then 0 else 121
def parseF (t : Bs) : FSpec × Int := if (refF t).2 then (if checkF (refF t).1 = 0 then ((refF t).1, 0) else (zSpec, checkF (refF t).1)) else (zSpec, 120)
def numF (n : Int) : Bs := Lib.decDigits n.toNat
def printT (x : FSpec) : Bs :=
  if x.k = 2 then wKD ++ numF x.s else if x.k = 3 then wVP ++ numF x.s else if x.k = 4 then wIVF ++ numF x.s ++ wCF
  else if x.k = 5 then wIVF ++ numF x.s ++ wPQ ++ numF x.p ++ wX ++ numF x.c else if x.k = 6 then wHN ++ numF x.s else wFlat
def printF (x : FSpec) : Bs × Int := if checkF x = 0 then (printT x, 0) else ([], checkF x)

/-! ## digits -/
theorem nd_le : ∀ t : Bs, nd t ≤ t.length
  | [] => Nat.le_refl _
  | b :: r => by
    simp only [nd]; split
    · have := nd_le r; simp; omega
    · simp
theorem nd_all : ∀ (t : Bs), ∀ b ∈ t.take (nd t), isDig b = true
  | [], b, h => by simp at h
  | a :: r, b, h => by
    simp only [nd] at h
    split at h
    · rename_i h1
      rw [List.take_succ_cons] at h
      rcases List.mem_cons.mp h with rfl | h
      · exact h1
      · exact nd_all r b h
    · simp at h
theorem nd_get : ∀ (t : Bs) (j : Nat) (h : j < t.length), (∀ i (hi : i < t.length), i < j → isDig t[i] = true) → (j < nd t ↔ isDig t[j] = true)
  | [], j, h, _ => by simp at h
  | b :: r, 0, h, _ => by
    simp only [nd, List.getElem_cons_zero]; split <;> simp_all
  | b :: r, j + 1, h, hh => by
    have h0 := hh 0 (by simp) (by omega)
    simp only [List.getElem_cons_zero] at h0
    have := nd_get r j (by simpa using h) (fun i hi hij => by have := hh (i + 1) (by simp; omega) (by omega); rw [List.getElem_cons_succ] at this; exact this)
    simp only [nd, h0, if_true, List.getElem_cons_succ]
    rw [← this]; omega
theorem nd_app : ∀ (d r : Bs), (∀ b ∈ d, isDig b = true) → (∀ b ∈ r.head?, isDig b = false) → nd (d ++ r) = d.length
  | [], r, _, h => by
    cases r with
    | nil => rfl
    | cons b r => simp only [List.nil_append, nd]; rw [h b (by simp)]; rfl
  | b :: d, r, hd, h => by
    have hb : isDig b = true := hd b List.mem_cons_self
    have ih := nd_app d r (fun x hx => hd x (List.mem_cons_of_mem _ hx)) h
    rw [List.cons_append, nd, if_pos hb, ih, List.length_cons]
theorem valA_app (n : Nat) (a b : Bs) : valA n (a ++ b) = valA (valA n a) b := by
  induction a generalizing n with
  | nil => rfl
  | cons x a ih => exact ih _

/-! ## numbers of two digits -/
theorem dig_ofNat {d : Nat} (h : d < 10) : (UInt8.ofNat (48 + d)).toNat = 48 + d := by
  have : ∀ d : Fin 10, (UInt8.ofNat (48 + d.val)).toNat = 48 + d.val := by decide
  exact this ⟨d, h⟩
theorem isDig_ofNat {d : Nat} (h : d < 10) : isDig (UInt8.ofNat (48 + d)) = true := by
  unfold isDig; rw [dig_ofNat h]; exact decide_eq_true (by omega)
theorem dec1 {n : Nat} (h : n < 10) : Lib.decDigits n = [UInt8.ofNat (48 + n)] := by rw [Lib.decDigits, dif_pos h]
theorem dec2 {n : Nat} (h : 10 ≤ n) : Lib.decDigits n = Lib.decDigits (n / 10) ++ [UInt8.ofNat (48 + n % 10)] := by rw [Lib.decDigits, dif_neg (by omega)]
theorem dec100 {n : Nat} (h : n < 100) : Lib.decDigits n = if n < 10 then [UInt8.ofNat (48 + n)] else [UInt8.ofNat (48 + n / 10), UInt8.ofNat (48 + n % 10)] := by
  split
  · exact dec1 (by assumption)
  · rw [dec2 (by omega), dec1 (by omega)]; rfl
theorem dec_dig {n : Nat} (h : n < 100) : ∀ b ∈ Lib.decDigits n, isDig b = true := by
  rw [dec100 h]
  intro b hb
  split at hb
  · rw [List.mem_singleton.mp hb]; exact isDig_ofNat (by omega)
  · rcases List.mem_cons.mp hb with hb | hb
    · rw [hb]; exact isDig_ofNat (by omega)
    · rw [List.mem_singleton.mp hb]; exact isDig_ofNat (by omega)
theorem valD1 (a : UInt8) : valD [a] = a.toNat - 48 := by
  show 0 * 10 + (a.toNat - 48) = _
  omega
theorem valD2 (a b : UInt8) : valD [a, b] = (a.toNat - 48) * 10 + (b.toNat - 48) := by
  show (0 * 10 + (a.toNat - 48)) * 10 + (b.toNat - 48) = _
  omega
theorem dec_val {n : Nat} (h : n < 100) : valD (Lib.decDigits n) = n := by
  have e := dec100 h
  by_cases h1 : n < 10
  · rw [if_pos h1] at e
    rw [e, valD1, dig_ofNat (by omega)]; omega
  · rw [if_neg h1] at e
    rw [e, valD2, dig_ofNat (by omega), dig_ofNat (by omega)]; omega
/-- What is printed is read. -/
theorem digits_dec {n : Nat} (h : n < 100) (r : Bs) (hr : ∀ b ∈ r.head?, isDig b = false) : digitsF (Lib.decDigits n ++ r) = ((n : Int), r, true) := by
  have e := nd_app _ r (dec_dig h) hr
  have hl : (Lib.decDigits n).length = if n < 10 then 1 else 2 := by rw [dec100 h]; split <;> rfl
  have hok : numOk (Lib.decDigits n ++ r) = true := by
    unfold numOk
    rw [e, hl]
    refine decide_eq_true ⟨by split <;> omega, by split <;> omega, ?_⟩
    by_cases h1 : n < 10
    · exact .inl (by rw [if_pos h1])
    · right
      rw [dec100 h, if_neg h1]
      simp only [List.cons_append, List.head?_cons]
      intro he
      have := congrArg (Option.map UInt8.toNat) he
      simp only [Option.map_some, Option.some.injEq] at this
      rw [dig_ofNat (by omega)] at this
      have h48 : (48 : UInt8).toNat = 48 := rfl
      omega
  unfold digitsF
  rw [if_pos hok]
  have e1 : numV (Lib.decDigits n ++ r) = (n : Int) := by rw [numV, e, List.take_left, dec_val h]
  have e2 : numR (Lib.decDigits n ++ r) = r := by rw [numR, e, List.drop_left]
  rw [e1, e2]

theorem dig_eq {b : UInt8} (h : isDig b = true) : b = UInt8.ofNat (48 + (b.toNat - 48)) := by
  have h := of_decide_eq_true h
  have e : 48 + (b.toNat - 48) = b.toNat := by omega
  rw [e, UInt8.ofNat_toNat]
theorem valA_ge (d : Bs) : ∀ n : Nat, n ≤ valA n d := by
  induction d with
  | nil => exact fun n => Nat.le_refl _
  | cons b d ih =>
    intro n
    have h1 := ih (n * 10 + (b.toNat - 48))
    exact Nat.le_trans (by omega) h1
/-- What is read is what would be printed. -/
theorem digits_inv {t : Bs} {n : Int} {e : Bs} (h : digitsF t = (n, e, true)) (hn : n < 100) : 0 ≤ n ∧ t = numF n ++ e := by
  unfold digitsF at h
  split at h
  · rename_i hok
    simp only [Prod.mk.injEq, and_true] at h
    obtain ⟨h1, h2⟩ := h
    have hk := of_decide_eq_true hok
    obtain ⟨k1, k2, k3⟩ := hk
    have hle := nd_le t
    have ha := nd_all t
    have hsplit : t = t.take (nd t) ++ e := by rw [← h2, numR, List.take_append_drop]
    have hn0 : 0 ≤ n := by rw [← h1, numV]; omega
    refine ⟨hn0, ?_⟩
    have hv : valD (t.take (nd t)) = n.toNat := by rw [← h1, numV]; simp
    have hlen : (t.take (nd t)).length = nd t := by rw [List.length_take]; omega
    have hhead : (t.take (nd t)).head? = t.head? := by
      cases t with
      | nil => rfl
      | cons b r => rw [show nd (b :: r) = (nd (b :: r) - 1) + 1 by omega]; rfl
    generalize t.take (nd t) = d at *
    rw [hsplit]
    congr 1
    have hn' : n.toNat < 100 := by omega
    rw [numF, dec100 hn']
    match d, hlen with
    | [a], hlen =>
      have ha0 := of_decide_eq_true (ha a (by simp))
      rw [valD1] at hv
      rw [if_pos (by omega)]
      congr 1
      rw [dig_eq (ha a (by simp))]; congr 2 <;> omega
    | [a, b], hlen =>
      have ha0 := of_decide_eq_true (ha a (by simp))
      have hb0 := of_decide_eq_true (ha b (by simp))
      rw [valD2] at hv
      have hne : a.toNat ≠ 48 := fun h48 => by
        rcases k3 with k3 | k3
        · simp at hlen; omega
        · apply k3; rw [← hhead]; simp only [List.head?_cons, Option.some.injEq]
          exact UInt8.toNat_inj.mp h48
      rw [if_neg (by omega)]
      have e1 : a = UInt8.ofNat (48 + n.toNat / 10) := by rw [dig_eq (ha a (by simp))]; congr 2 <;> omega
      have e2 : b = UInt8.ofNat (48 + n.toNat % 10) := by rw [dig_eq (ha b (by simp))]; congr 2 <;> omega
      rw [← e1, ← e2]
    | a :: b :: c :: r, hlen =>
      exfalso
      have ha0 := of_decide_eq_true (ha a (by simp))
      have hv : valA (((0 * 10 + (a.toNat - 48)) * 10 + (b.toNat - 48)) * 10 + (c.toNat - 48)) r = n.toNat := hv
      have hne : a.toNat ≠ 48 := fun h48 => by
        rcases k3 with k3 | k3
        · simp at hlen; omega
        · apply k3; rw [← hhead]; simp only [List.head?_cons, Option.some.injEq]
          exact UInt8.toNat_inj.mp h48
      have := valA_ge r (((0 * 10 + (a.toNat - 48)) * 10 + (b.toNat - 48)) * 10 + (c.toNat - 48))
      omega
    | [], hlen => simp at hlen; omega
  · simp at h

end Go.Th.Pure
end
