/- What the row of one statement stands on: a store, abstract code, functions of the program and their laws (ThHorc). -/
import Derived.Test.YtkmmkfiekamgpaaGreatDoorThBHstd

section
/- The library's functions as an oracle for closed runs. -/
set_option linter.unusedSimpArgs false
set_option linter.unusedVariables false
namespace Go.Th
open Go Go.Th.Pure

structure LibN where
  cut : Nat
  split : Nat
  bindex : Nat
  bprefix : Nat
  pre : Nat
  cutpre : Nat
  trim : Nat
  lower : Nat
  itoa : Nat
  atoi : Nat
  contains : Nat
structure LibOk (P : Program) (L : LibN) : Prop where
  cut : CutS P L.cut
  split : SplitS P L.split
  bindex : BIndexS P L.bindex
  bprefix : BPrefixS P L.bprefix
  pre : PrefixS P L.pre
  cutpre : CutPrefixS P L.cutpre
  trim : TrimS P L.trim
  lower : LowerS P L.lower
  itoa : ItoaS P L.itoa
  atoi : AtoiS P L.atoi
  contains : ContainsS P L.contains

def byteOf : V → Option UInt8
  | .int .u8 z => if 0 ≤ z ∧ z < 256 then some (UInt8.ofNat z.toNat) else none
  | _ => none
def rdB : List V → Option Bs
  | [] => some []
  | v :: vs => match byteOf v with
    | some b => match rdB vs with
      | some bs => some (b :: bs)
      | none => none
    | none => none
theorem byteOf_eq {v : V} {b : UInt8} (h : byteOf v = some b) : v = .int .u8 (b.toNat : Nat) := by
  unfold byteOf at h
  split at h
  · split at h
    · rename_i z hz
      cases h
      congr 1
      rw [UInt8.toNat_ofNat']
      omega
    · cases h
  · cases h
theorem rdB_eq : ∀ {vs : List V} {bs : Bs}, rdB vs = some bs → vs = bytesV bs
  | [], bs, h => by cases h; rfl
  | v :: vs, bs, h => by
    simp only [rdB] at h
    split at h
    · rename_i b hb
      split at h
      · rename_i r hr
        cases h
        rw [byteOf_eq hb, rdB_eq hr]; rfl
      · cases h
    · cases h
def rdS : List V → Option (List Bs)
  | [] => some []
  | .str s :: vs => match rdS vs with
    | some r => some (s :: r)
    | none => none
  | _ => none
theorem rdS_eq : ∀ {vs : List V} {r : List Bs}, rdS vs = some r → vs = strsV r
  | [], r, h => by cases h; rfl
  | .str s :: vs, r, h => by
    simp only [rdS] at h
    split at h
    · rename_i q hq
      cases h
      rw [rdS_eq hq]; rfl
    · cases h
  | .bool _ :: _, _, h | .int _ _ :: _, _, h | .nilPtr :: _, _, h | .ptr _ _ :: _, _, h | .nilSlice :: _, _, h | .slice .. :: _, _, h | .nilMap :: _, _, h | .map _ :: _, _, h | .func .. :: _, _, h | .nilFunc :: _, _, h | .iface .. :: _, _, h | .nilIface :: _, _, h | .agg _ :: _, _, h | .tuple _ :: _, _, h | .glob .. :: _, _, h | .junk :: _, _, h => by cases h
def slV (S : St) : V → Option (List V)
  | .nilSlice => some []
  | .slice i o n c k _ => if n ≤ 4611686018427387904 ∧ n ≤ c ∧ k = 1 then S.loads i o n else none
  | _ => none
theorem slV_eq {S : St} {v : V} {cs : List V} (h : slV S v = some cs) : SlAt S 1 v cs.length cs := by
  unfold slV at h
  split at h
  · cases h; exact ⟨by simp, rfl, .inl ⟨rfl, rfl⟩⟩
  · split at h
    · rename_i hh
      obtain ⟨h1, h2, rfl⟩ := hh
      have hl := St.loads_len h
      rw [← hl] at h1 h2 h
      refine ⟨h1, by simp, .inr ⟨_, _, _, _, by rw [hl], h2, by rw [Nat.mul_one]; exact h⟩⟩
    · cases h
  · cases h
def bytesOfV (S : St) (v : V) : Option Bs := match slV S v with
  | some cs => rdB cs
  | none => none
theorem bytesOfV_eq {S : St} {v : V} {bs : Bs} (h : bytesOfV S v = some bs) : BytesAt S v bs := by
  unfold bytesOfV at h
  split at h
  · rename_i cs hc
    have := slV_eq hc
    rw [rdB_eq h, bytesV_length] at this
    exact this
  · cases h
def strsOfV (S : St) (v : V) : Option (List Bs) := match slV S v with
  | some cs => rdS cs
  | none => none
theorem strsOfV_eq {S : St} {v : V} {zs : List Bs} (h : strsOfV S v = some zs) : SlAt S 1 v zs.length (strsV zs) := by
  unfold strsOfV at h
  split at h
  · rename_i cs hc
    have := slV_eq hc
    rw [rdS_eq h] at this
    simpa [strsV] using this
  · cases h

def hgB (S : St) : Bool := (match S.get 0 with | some (.glob 0 [.int .i64 _]) => true | _ => false) && (match S.get 1 with | some (.glob 1 [.iface _ .junk]) => true | _ => false) &&
  (match S.get 2 with | some (.glob 2 [.iface _ .junk]) => true | _ => false) && (match S.get 3 with | some (.glob 3 vs) => V.eqb (.agg vs) (.agg (Lib.pow10Tab.map (V.int .u64))) | _ => false)
theorem hgB_ok {S : St} (h : hgB S = true) : HG S := by
  simp only [hgB, Bool.and_eq_true] at h
  obtain ⟨⟨⟨h0, h1⟩, h2⟩, h3⟩ := h
  refine ⟨?_, ?_, ?_, ?_⟩
  · split at h0
    · rename_i m hm; exact ⟨m, hm⟩
    · cases h0
  · split at h1
    · rename_i m hm; exact ⟨m, hm⟩
    · cases h1
  · split at h2
    · rename_i m hm; exact ⟨m, hm⟩
    · cases h2
  · split at h3
    · rename_i vs hm
      have := V.eqb_eq _ _ h3
      cases this
      exact hm
    · cases h3

def indexL (s t : Bs) : Int := match findL t s with | some (a, _) => (a.length : Int) | none => -1
def o_cut (args : List V) (S : St) : Option (V × St) := match args with
  | [.str s, .str t] => if hgB S && decide (s.length < 4294967281) then (match cutL s t with | (a, b, c) => some (.tuple [.str a, .str b, .bool c], S)) else none
  | _ => none
def o_split (args : List V) (S : St) : Option (V × St) := match args with
  | [.str s, .str t] => if hgB S && decide (s.length < 4294967281) && !t.isEmpty then (match splitL s t with | l => some (.slice S.next 0 l.length l.length 1 true, S.new (.cells (strsV l) true))) else none
  | _ => none
def o_bindex (args : List V) (S : St) : Option (V × St) := match args with
  | [v, u] => match bytesOfV S v, bytesOfV S u with
    | some s, some t => if hgB S && decide (s.length < 4294967281) && !t.isEmpty then some (.int .i64 (indexL s t), S) else none
    | _, _ => none
  | _ => none
def o_bprefix (args : List V) (S : St) : Option (V × St) := match args with
  | [v, u] => match bytesOfV S v, bytesOfV S u with
    | some s, some t => some (.bool (Lib.hasPrefix s t), S)
    | _, _ => none
  | _ => none
def o_pre (args : List V) (S : St) : Option (V × St) := match args with
  | [.str s, .str t] => some (.bool (Lib.hasPrefix s t), S)
  | _ => none
def o_cutpre (args : List V) (S : St) : Option (V × St) := match args with
  | [.str s, .str t] => some (.tuple [.str (Lib.trimPrefix s t), .bool (Lib.hasPrefix s t)], S)
  | _ => none
def o_trim (args : List V) (S : St) : Option (V × St) := match args with
  | [.str s, .str [c]] => if decide (c.toNat < 128) && decide (s.length ≤ 9223372036854775807) then some (.str (Lib.trimB s c), S) else none
  | _ => none
def o_lower (args : List V) (S : St) : Option (V × St) := match args with
  | [.str s] => if decide (s.length ≤ 140737488355328) && s.all (fun b => decide (b.toNat < 128)) then some (.str (Lib.toLowerA s), S) else none
  | _ => none
def o_itoa (args : List V) (S : St) : Option (V × St) := match args with
  | [.int .i64 n] => if hgB S && decide (-9223372036854775808 ≤ n) && decide (n ≤ 9223372036854775807) then some (.str (Lib.itoa n), S) else none
  | _ => none
def o_atoi (args : List V) (S : St) : Option (V × St) := match args with
  | [.str s] => if hgB S && decide (s.length ≤ 281474976710656) then (match Lib.atoiAll s with | .ok v => some (.tuple [.int .i64 v, .nilIface], S) | _ => none) else none
  | _ => none
def o_contains (args : List V) (S : St) : Option (V × St) := match args with
  | [v, .str x] => match strsOfV S v with
    | some zs => some (.bool (zs.contains x), S)
    | none => none
  | _ => none
def orcStd (L : LibN) : Orc := fun f args S =>
  if f == L.cut then o_cut args S else if f == L.split then o_split args S else if f == L.bindex then o_bindex args S else if f == L.bprefix then o_bprefix args S else if f == L.pre then o_pre args S else if f == L.cutpre then o_cutpre args S else if f == L.trim then o_trim args S else if f == L.lower then o_lower args S else if f == L.itoa then o_itoa args S else if f == L.atoi then o_atoi args S else if f == L.contains then o_contains args S else none

theorem o_cut_ok {P : Program} {f : Nat} (hL : CutS P f) {args : List V} {S S' : St} {v : V} {Q : Post} (h : o_cut args S = some (v, S')) (hq : Q (.ret v) S') : CallA P f args S Q := by
  unfold o_cut at h
  split at h
  · split at h
    · rename_i hc
      simp only [Bool.and_eq_true, decide_eq_true_eq] at hc
      split at h
      rename_i a b c he
      cases h
      refine hL _ _ _ _ (hgB_ok hc.1) hc.2 ?_
      rw [he]; exact hq
    · cases h
  · cases h
theorem o_split_ok {P : Program} {f : Nat} (hL : SplitS P f) {args : List V} {S S' : St} {v : V} {Q : Post} (h : o_split args S = some (v, S')) (hq : Q (.ret v) S') : CallA P f args S Q := by
  unfold o_split at h
  split at h
  · split at h
    · rename_i hc
      simp only [Bool.and_eq_true, decide_eq_true_eq, Bool.not_eq_true'] at hc
      cases h
      refine hL _ _ _ _ (hgB_ok hc.1.1) hc.1.2 (fun e => ?_) hq
      rw [e] at hc; cases hc.2
    · cases h
  · cases h
theorem o_bindex_ok {P : Program} {f : Nat} (hL : BIndexS P f) {args : List V} {S S' : St} {v : V} {Q : Post} (h : o_bindex args S = some (v, S')) (hq : Q (.ret v) S') : CallA P f args S Q := by
  unfold o_bindex at h
  split at h
  · split at h
    · rename_i s t h1 h2
      split at h
      · rename_i hc
        simp only [Bool.and_eq_true, decide_eq_true_eq, Bool.not_eq_true'] at hc
        cases h
        refine hL _ _ _ _ _ _ (hgB_ok hc.1.1) (bytesOfV_eq h1) (bytesOfV_eq h2) (fun e => ?_) hc.1.2 ?_
        · rw [e] at hc; cases hc.2
        · rw [findL_index]; exact hq
      · cases h
    · cases h
  · cases h
theorem o_bprefix_ok {P : Program} {f : Nat} (hL : BPrefixS P f) {args : List V} {S S' : St} {v : V} {Q : Post} (h : o_bprefix args S = some (v, S')) (hq : Q (.ret v) S') : CallA P f args S Q := by
  unfold o_bprefix at h
  split at h
  · split at h
    · rename_i s t h1 h2
      cases h
      exact hL _ _ _ _ _ _ (bytesOfV_eq h1) (bytesOfV_eq h2) hq
    · cases h
  · cases h
theorem o_pre_ok {P : Program} {f : Nat} (hL : PrefixS P f) {args : List V} {S S' : St} {v : V} {Q : Post} (h : o_pre args S = some (v, S')) (hq : Q (.ret v) S') : CallA P f args S Q := by
  unfold o_pre at h
  split at h
  · cases h
    exact hL _ _ _ _ hq
  · cases h
theorem o_cutpre_ok {P : Program} {f : Nat} (hL : CutPrefixS P f) {args : List V} {S S' : St} {v : V} {Q : Post} (h : o_cutpre args S = some (v, S')) (hq : Q (.ret v) S') : CallA P f args S Q := by
  unfold o_cutpre at h
  split at h
  · cases h
    exact hL _ _ _ _ hq
  · cases h
theorem o_trim_ok {P : Program} {f : Nat} (hL : TrimS P f) {args : List V} {S S' : St} {v : V} {Q : Post} (h : o_trim args S = some (v, S')) (hq : Q (.ret v) S') : CallA P f args S Q := by
  unfold o_trim at h
  split at h
  · split at h
    · rename_i hc
      simp only [Bool.and_eq_true, decide_eq_true_eq] at hc
      cases h
      exact hL _ _ _ _ hc.1 hc.2 hq
    · cases h
  · cases h
theorem o_lower_ok {P : Program} {f : Nat} (hL : LowerS P f) {args : List V} {S S' : St} {v : V} {Q : Post} (h : o_lower args S = some (v, S')) (hq : Q (.ret v) S') : CallA P f args S Q := by
  unfold o_lower at h
  split at h
  · split at h
    · rename_i hc
      rw [Bool.and_eq_true, decide_eq_true_eq] at hc
      cases h
      exact hL _ _ _ hc.1 hc.2 hq
    · cases h
  · cases h
theorem o_itoa_ok {P : Program} {f : Nat} (hL : ItoaS P f) {args : List V} {S S' : St} {v : V} {Q : Post} (h : o_itoa args S = some (v, S')) (hq : Q (.ret v) S') : CallA P f args S Q := by
  unfold o_itoa at h
  split at h
  · split at h
    · rename_i hc
      simp only [Bool.and_eq_true, decide_eq_true_eq] at hc
      cases h
      exact hL _ _ _ (hgB_ok hc.1.1) hc.1.2 hc.2 hq
    · cases h
  · cases h
theorem o_atoi_ok {P : Program} {f : Nat} (hL : AtoiS P f) {args : List V} {S S' : St} {v : V} {Q : Post} (h : o_atoi args S = some (v, S')) (hq : Q (.ret v) S') : CallA P f args S Q := by
  unfold o_atoi at h
  split at h
  · split at h
    · rename_i hc
      simp only [Bool.and_eq_true, decide_eq_true_eq] at hc
      split at h
      · rename_i n hn
        cases h
        exact hL _ _ _ (hgB_ok hc.1) hc.2 (fun v hv => by rw [hn] at hv; cases hv; exact hq) (fun hh => absurd hn (hh _))
      · cases h
    · cases h
  · cases h
theorem o_contains_ok {P : Program} {f : Nat} (hL : ContainsS P f) {args : List V} {S S' : St} {v : V} {Q : Post} (h : o_contains args S = some (v, S')) (hq : Q (.ret v) S') : CallA P f args S Q := by
  unfold o_contains at h
  split at h
  · split at h
    · rename_i zs hz
      cases h
      exact hL _ _ _ _ _ (strsOfV_eq hz) hq
    · cases h
  · cases h
theorem orcStd_ok {P : Program} {L : LibN} (hL : LibOk P L) : OrcOk P (orcStd L) := by
  intro f args S v S' Q h hq
  unfold orcStd at h
  split at h
  · rename_i hf
    rw [eq_of_beq hf]
    exact o_cut_ok hL.cut h hq
  split at h
  · rename_i hf
    rw [eq_of_beq hf]
    exact o_split_ok hL.split h hq
  split at h
  · rename_i hf
    rw [eq_of_beq hf]
    exact o_bindex_ok hL.bindex h hq
  split at h
  · rename_i hf
    rw [eq_of_beq hf]
    exact o_bprefix_ok hL.bprefix h hq
  split at h
  · rename_i hf
    rw [eq_of_beq hf]
    exact o_pre_ok hL.pre h hq
  split at h
  · rename_i hf
    rw [eq_of_beq hf]
    exact o_cutpre_ok hL.cutpre h hq
  split at h
  · rename_i hf
    rw [eq_of_beq hf]
    exact o_trim_ok hL.trim h hq
  split at h
  · rename_i hf
    rw [eq_of_beq hf]
    exact o_lower_ok hL.lower h hq
  split at h
  · rename_i hf
    rw [eq_of_beq hf]
    exact o_itoa_ok hL.itoa h hq
  split at h
  · rename_i hf
    rw [eq_of_beq hf]
    exact o_atoi_ok hL.atoi h hq
  split at h
  · rename_i hf
    rw [eq_of_beq hf]
    exact o_contains_ok hL.contains h hq
  cases h
end Go.Th
end
