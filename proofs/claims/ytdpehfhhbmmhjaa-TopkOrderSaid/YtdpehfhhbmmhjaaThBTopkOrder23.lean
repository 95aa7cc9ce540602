/- What the row of one statement stands on: a store, abstract code, functions of the program and their laws (ThQ11). -/
import Derived.Test.YtdpehfhhbmmhjaaThBTopkOrder22

section
/- Types and live slots laid over a function's abstract code, out of a short list; what a printed reading of a function says of the program. -/
set_option linter.unusedVariables false
namespace Go.Th
open Go

abbrev ItL := List (Nat × Ann × List DT)
abbrev JtL := List (Nat × List (Nat × DT))
abbrev LtL := List (List (Nat × DT))

def annI : List AI → ItL → List TI × ItL
  | [], s => ([], s)
  | i :: r, s =>
    match s with
    | [] => let q := annI r []; (⟨i, .no, []⟩ :: q.1, q.2)
    | (0, a, ds) :: s => let q := annI r s; (⟨i, a, ds⟩ :: q.1, q.2)
    | (n + 1, a, ds) :: s => let q := annI r ((n, a, ds) :: s); (⟨i, .no, []⟩ :: q.1, q.2)
def annO : OT → ItL → TT × ItL
  | .done, s => (.done, s)
  | .step n ds i r, s =>
    match s with
    | [] => let q := annO r []; (.step n ds ⟨i, .no, []⟩ q.1, q.2)
    | (0, a, d) :: s => let q := annO r s; (.step n ds ⟨i, a, d⟩ q.1, q.2)
    | (k + 1, a, d) :: s => let q := annO r ((k, a, d) :: s); (.step n ds ⟨i, .no, []⟩ q.1, q.2)
  | .both a b, s => let q := annO a s; let w := annO b q.2; (.both q.1 w.1, w.2)
def annC : AC → ItL → JtL → LtL → TC × ItL × JtL × LtL
  | .skip, s, j, l => (.skip, s, j, l)
  | .region r, s, j, l => let q := annI r s; (.region q.1, q.2, j, l)
  | .draw t, s, j, l => let q := annO t s; (.draw q.1, q.2, j, l)
  | .seq a b, s, j, l =>
    match j with
    | [] => let q := annC a s [] l; let w := annC b q.2.1 q.2.2.1 q.2.2.2; (.seq q.1 w.1, w.2)
    | (0, lv) :: j => let q := annC a s j l; let w := annC b q.2.1 q.2.2.1 q.2.2.2; (.join lv q.1 w.1, w.2)
    | (n + 1, lv) :: j => let q := annC a s ((n, lv) :: j) l; let w := annC b q.2.1 q.2.2.1 q.2.2.2; (.seq q.1 w.1, w.2)
  | .cond x a b, s, j, l => let q := annC a s j l; let w := annC b q.2.1 q.2.2.1 q.2.2.2; (.cond x q.1 w.1, w.2)
  | .block i a, s, j, l => let q := annC a s j l; (.block i q.1, q.2)
  | .loop a, s, j, l => let q := annC a s j l.tail; (.loop (l.headD []) q.1, q.2)
  | .exit i, s, j, l => (.exit i, s, j, l)
  | .ret, s, j, l => (.ret, s, j, l)

theorem annI_er : ∀ (l : List AI) (s : ItL), erI (annI l s).1 = l
  | [], _ => rfl
  | i :: r, s => by
    unfold annI
    split <;> simp only [erI, annI_er r]
theorem annO_er : ∀ (t : OT) (s : ItL), (annO t s).1.erase = t
  | .done, _ => rfl
  | .step n ds i r, s => by
    unfold annO
    split <;> simp only [TT.erase, annO_er r]
  | .both a b, s => by simp only [annO, TT.erase, annO_er a, annO_er b]
theorem annC_er : ∀ (c : AC) (s : ItL) (j : JtL) (l : LtL), (annC c s j l).1.erase = c
  | .skip, _, _, _ | .exit _, _, _, _ | .ret, _, _, _ => rfl
  | .region r, s, _, _ => by simp only [annC, TC.erase, annI_er]
  | .draw t, s, _, _ => by simp only [annC, TC.erase, annO_er]
  | .seq a b, s, j, l => by
    unfold annC
    split <;> simp only [TC.erase, annC_er a, annC_er b]
  | .cond x a b, s, j, l => by simp only [annC, TC.erase, annC_er a, annC_er b]
  | .block i a, s, j, l => by simp only [annC, TC.erase, annC_er a]
  | .loop a, s, j, l => by simp only [annC, TC.erase, annC_er a]

def tcOf (A : AF) (s : ItL) (j : JtL) (l : LtL) : TC := (annC A.body s j l).1
def afn (P : Program) (f : FuncId) : AF := (afun P f).getD ⟨0, [], .skip⟩
/-- Where a call begins. -/
def frT (A : AF) (args : List V) : SF := startT args ++ List.replicate (A.nt - args.length) .none

theorem afn_ok {P : Program} {f : FuncId} (h : (afun P f).isSome = true) : afun P f = some (afn P f) := by
  unfold afn
  cases ha : afun P f with
  | none => rw [ha] at h; cases h
  | some A => rfl

/-- The function is there, its slots are in order, and it reads so. -/
def Reads (P : Program) (f : FuncId) (s : ItL) (j : JtL) (l : LtL) {α : Type} (W : AF → TC → α) (p : α) : Prop :=
  ((afun P f).isSome, (tcOf (afn P f) s j l).okL, W (afn P f) (tcOf (afn P f) s j l)) = (true, true, p)

theorem Reads.of {P : Program} {f : FuncId} {s : ItL} {j : JtL} {l : LtL} {α : Type} {W : AF → TC → α} {p : α} (h : ((afun P f).isSome, (tcOf (afn P f) s j l).okL, W (afn P f) (tcOf (afn P f) s j l)) = (true, true, p)) : Reads P f s j l W p := h

theorem Reads.run {P : Program} {f : FuncId} {s : ItL} {j : JtL} {l : LtL} {α : Type} {W : AF → TC → α} {p : α} (h : Reads P f s j l W p) {args : List V} {S : St} {ds : List DT} {K : Cur (flats ds)} (ap : α → Prop)
    (hp : ap p) (he : ap (W (afn P f) (tcOf (afn P f) s j l)) = wpT P (envP P) (tcOf (afn P f) s j l) (endT (afn P f).results ds K) (frT (afn P f) args) S) : CallA P f args S (retT ds K) := by
  unfold Reads at h
  rw [Prod.mk.injEq, Prod.mk.injEq] at h
  refine CallA.of_TP (afn_ok h.1) (annC_er _ _ _ _) h.2.1 ?_
  rw [← h.2.2] at hp
  exact Eq.mp he hp

end Go.Th
end
