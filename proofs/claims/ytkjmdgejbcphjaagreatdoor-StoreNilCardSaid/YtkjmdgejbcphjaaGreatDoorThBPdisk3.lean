/- What the row of one statement stands on: a store, abstract code, functions of the program and their laws (ThPfind, ThPdisk1, ThPdisk2, ThPdisk3). -/
import Derived.Lib.IndexMore
import Derived.Lib.Split
import Derived.Test.YtkjmdgejbcphjaaGreatDoorThBQ12

section
/- The library's index and cut, by one walk. -/
set_option linter.unusedVariables false
namespace Go.Th.Pure
open Go

end Go.Th.Pure
end

section
/- The disk of the document: files, names, safe names, changes since. -/
set_option linter.unusedVariables false
namespace Go.Th.Pure
open Go Go.Th

theorem nm_trans {a b c : Nm} (h : a < b) (k : b < c) : a < c := List.lt_trans h k
theorem nm_irrefl (a : Nm) : ¬ a < a := List.lt_irrefl a
theorem nm_tri {a b : Nm} (h : ¬ a < b) (hn : a ≠ b) : b < a := by
  rcases Decidable.em (b < a) with h1 | h1
  · exact h1
  · exact absurd (List.le_antisymm (List.not_lt.1 h1) (List.not_lt.1 h)) hn

def withR : List (Nm × Nat) → Nm × Nat → List (Nm × Nat)
  | [], p => [p]
  | q :: l, p => if q.1 < p.1 then q :: withR l p else p :: q :: l
abbrev SrtK (l : List (Nm × Nat)) : Prop := l.Pairwise fun a b => a.1 < b.1

theorem withR_perm (p : Nm × Nat) : ∀ l, (withR l p).Perm (p :: l)
  | [] => List.Perm.refl _
  | q :: l => by
    unfold withR
    split
    · exact ((withR_perm p l).cons q).trans (List.Perm.swap p q l)
    · exact List.Perm.refl _
theorem SrtK.nod {l : List (Nm × Nat)} (h : SrtK l) : NodK l := by
  rw [NodK, List.nodup_iff_pairwise_ne, List.pairwise_map]
  exact h.imp fun hab e => by rw [e] at hab; exact nm_irrefl _ hab
theorem withR_sorted {p : Nm × Nat} : ∀ {l : List (Nm × Nat)}, SrtK l → (∀ q ∈ l, q.1 ≠ p.1) → SrtK (withR l p)
  | [], _, _ => by simp [withR, SrtK]
  | q :: l, h, hn => by
    rw [SrtK, List.pairwise_cons] at h
    unfold withR
    split
    · rename_i hlt
      rw [SrtK, List.pairwise_cons]
      refine ⟨fun x hx => ?_, withR_sorted h.2 fun x hx => hn x (List.mem_cons_of_mem _ hx)⟩
      rcases List.mem_cons.mp ((withR_perm p l).mem_iff.1 hx) with rfl | hx
      · exact hlt
      · exact h.1 x hx
    · rename_i hge
      have hpq : p.1 < q.1 := nm_tri hge (hn q (by simp))
      rw [SrtK, List.pairwise_cons]
      refine ⟨fun x hx => ?_, List.pairwise_cons.2 h⟩
      rcases List.mem_cons.mp hx with rfl | hx
      · exact hpq
      · exact nm_trans hpq (h.1 x hx)
theorem dropK_sorted {l : List (Nm × Nat)} (h : SrtK l) (n : Nm) : SrtK (dropK l n) := List.Pairwise.sublist List.filter_sublist h
theorem dropK_mem {β : Type} {l : List (Nm × β)} {n : Nm} {p : Nm × β} (h : p ∈ dropK l n) : p ∈ l := (List.mem_filter.1 h).1

structure FileR where
  b : List UInt8
  safe : Nat
structure ChR where
  kind : Nat
  fr : Nm
  to : Nm
  file : Nat
structure DiskR where
  room : Int
  files : List FileR
  now : List (Nm × Nat)
  safe : List (Nm × Nat)
  chs : List ChR
  steps : Int
  left : Int

def DiskR.fl (r : DiskR) (k : Nat) : FileR := r.files.getD k ⟨[], 0⟩
def newR (room : Int) : DiskR := ⟨room, [], [], [], [], 0, -1⟩

def goodB (c : UInt8) : Bool := (decide (97 ≤ c.toNat) && decide (c.toNat ≤ 122)) || (decide (48 ≤ c.toNat) && decide (c.toNat ≤ 57)) || decide (c.toNat = 46) || decide (c.toNat = 45)
def goodN (n : Nm) : Bool := n.all goodB && decide (n ≠ []) && decide (n.length ≤ 32)

def applyR (l : List (Nm × Nat)) (c : ChR) : List (Nm × Nat) :=
  match c.kind with
  | 1 => withR (dropK l c.to) (c.to, c.file)
  | 2 => withR (dropK (dropK l c.fr) c.to) (c.to, c.file)
  | _ => dropK l c.fr

def downR (r : DiskR) : Bool := decide (r.left = 0)
def stepR (r : DiskR) : DiskR := { r with steps := r.steps + 1, left := if 0 < r.left then r.left - 1 else r.left }
def changeR (r : DiskR) (c : ChR) : DiskR := stepR { r with now := applyR r.now c, chs := r.chs ++ [c] }
def usedR (r : DiskR) : Nat := if downR r then 0 else (r.now.map fun p => (r.fl p.2).b.length).sum
def setFl (r : DiskR) (k : Nat) (f : FileR) : DiskR := { r with files := r.files.set k f }

def createR (r : DiskR) (n : Nm) : Int × DiskR :=
  if downR r then (174, r) else if !goodN n then (170, r) else if (lkK r.now n).isSome then (171, r) else if 64 ≤ r.now.length then (175, r) else
  (0, changeR { r with files := r.files ++ [⟨[], 0⟩] } ⟨1, [], n, r.files.length⟩)
def appendR (r : DiskR) (n : Nm) (b : List UInt8) : Int × DiskR :=
  if downR r then (174, r) else match lkK r.now n with
  | none => (172, r)
  | some k => if r.room - (usedR r : Int) < (b.length : Int) then (173, r) else (0, stepR (setFl r k ⟨(r.fl k).b ++ b, (r.fl k).safe⟩))
def syncR (r : DiskR) (n : Nm) : Int × DiskR :=
  if downR r then (174, r) else match lkK r.now n with
  | none => (172, r)
  | some k => (0, stepR (setFl r k ⟨(r.fl k).b, (r.fl k).b.length⟩))
def removeR (r : DiskR) (a : Nm) : Int × DiskR :=
  if downR r then (174, r) else match lkK r.now a with
  | none => (172, r)
  | some k => (0, changeR r ⟨3, a, [], 0⟩)
def syncDirR (r : DiskR) : Int × DiskR := if downR r then (174, r) else (0, stepR { r with safe := r.now, chs := [] })
def readR (r : DiskR) (n : Nm) : List UInt8 × Int :=
  if downR r then ([], 174) else match lkK r.now n with
  | none => ([], 172)
  | some k => ((r.fl k).b, 0)
def namesR (r : DiskR) : List Nm := if downR r then [] else r.now.map (·.1)
def stopR (r : DiskR) (n : Int) : Int × DiskR := if downR r then (174, r) else if n < 0 then (1, r) else (0, { r with left := n })

def saysR (c : Int) (n : Nat) : Nat := (if c < 0 then -(c + 1) else c).toNat % (n + 1)
def choiceR (cs : List Int) (i : Nat) : Int := cs.getD i 0
def stsR (r : DiskR) (k : Nat) : List (Nm × Nat) := (r.chs.take k).foldl applyR r.safe
def cutF (c : Int) (f : FileR) : FileR :=
  let b := f.b.take (f.safe + saysR c (f.b.length - f.safe))
  let b := if c < 0 then b.take f.safe ++ List.replicate (b.length - f.safe) 0 else b
  ⟨b, b.length⟩
def crashFs (cs : List Int) : List (Nm × Nat) → Nat → List FileR → List FileR
  | [], _, fs => fs
  | p :: l, i, fs => crashFs cs l (i + 1) (fs.set p.2 (cutF (choiceR cs (i + 1)) (fs.getD p.2 ⟨[], 0⟩)))
def crashN (cs : List Int) (r : DiskR) : List (Nm × Nat) := stsR r (saysR (choiceR cs 0) r.chs.length)
def crashR (cs : List Int) (r : DiskR) : DiskR :=
  { r with left := -1, now := crashN cs r, safe := crashN cs r, chs := [], files := crashFs cs (crashN cs r) 0 r.files }

structure StOk (nf : Nat) (l : List (Nm × Nat)) : Prop where
  sorted : SrtK l
  inj : (l.map (·.2)).Nodup
  len : l.length ≤ 64
  ne : ∀ p ∈ l, p.1 ≠ []
  idx : ∀ p ∈ l, p.2 < nf
def ChOk (nf : Nat) (c : ChR) : Prop := (c.kind = 1 ∧ c.fr = [] ∧ c.to ≠ [] ∧ c.file < nf) ∨ (c.kind = 2 ∧ c.fr ≠ [] ∧ c.to ≠ [] ∧ c.file < nf) ∨ (c.kind = 3 ∧ c.fr ≠ [] ∧ c.to = [])
structure OkR (N : Nat) (r : DiskR) : Prop where
  room : 1 ≤ r.room ∧ r.room ≤ 4194304
  sts : ∀ k, k ≤ r.chs.length → StOk r.files.length (stsR r k)
  now : stsR r r.chs.length = r.now
  chs : ∀ c ∈ r.chs, ChOk r.files.length c
  fsz : ∀ f ∈ r.files, f.safe ≤ f.b.length ∧ f.b.length ≤ 4194304
  left : -1 ≤ r.left ∧ r.left ≤ 9223372036854775807
  n1 : r.chs.length ≤ N
  n2 : r.files.length ≤ N
  n3 : 0 ≤ r.steps ∧ r.steps ≤ N

theorem StOk.mono {nf nf' : Nat} {l : List (Nm × Nat)} (h : StOk nf l) (hn : nf ≤ nf') : StOk nf' l := ⟨h.sorted, h.inj, h.len, h.ne, fun p hp => Nat.lt_of_lt_of_le (h.idx p hp) hn⟩
theorem ChOk.mono {nf nf' : Nat} {c : ChR} (h : ChOk nf c) (hn : nf ≤ nf') : ChOk nf' c := by
  rcases h with ⟨a, b, c, d⟩ | ⟨a, b, c, d⟩ | h
  · exact .inl ⟨a, b, c, by omega⟩
  · exact .inr (.inl ⟨a, b, c, by omega⟩)
  · exact .inr (.inr h)
theorem OkR.stNow {N : Nat} {r : DiskR} (h : OkR N r) : StOk r.files.length r.now := by rw [← h.now]; exact h.sts _ (Nat.le_refl _)
theorem OkR.mono {N M : Nat} {r : DiskR} (h : OkR N r) (hm : N ≤ M) : OkR M r := ⟨h.room, h.sts, h.now, h.chs, h.fsz, h.left, by have := h.n1; omega, by have := h.n2; omega, by have := h.n3; omega⟩
theorem OkR.fl {N : Nat} {r : DiskR} (h : OkR N r) (k : Nat) : (r.fl k).safe ≤ (r.fl k).b.length ∧ (r.fl k).b.length ≤ 4194304 := by
  unfold DiskR.fl
  rw [List.getD_eq_getElem?_getD]
  cases hk : r.files[k]? with
  | none => simp
  | some f => exact h.fsz f (List.mem_of_getElem? hk)

theorem newR_ok {room : Int} (h : 1 ≤ room ∧ room ≤ 4194304) : OkR 0 (newR room) :=
  ⟨h, fun k _ => by
    have : stsR (newR room) k = [] := by simp [stsR, newR]
    rw [this]
    exact ⟨List.Pairwise.nil, List.nodup_nil, by simp, by simp, by simp⟩, rfl, by simp [newR], by simp [newR], by simp [newR], by simp [newR], by simp [newR], by simp [newR]⟩

theorem stepR_ok {N : Nat} {r : DiskR} (h : OkR N r) : OkR (N + 1) (stepR r) :=
  ⟨h.room, h.sts, h.now, h.chs, h.fsz, by
    have := h.left
    simp only [stepR]
    split <;> omega, by have := h.n1; simp only [stepR]; omega, by have := h.n2; simp only [stepR]; omega, by have := h.n3; simp only [stepR]; omega⟩

theorem setFl_ok {N : Nat} {r : DiskR} (h : OkR N r) (k : Nat) {f : FileR} (hf : f.safe ≤ f.b.length ∧ f.b.length ≤ 4194304) : OkR N (setFl r k f) := by
  have hl : (setFl r k f).files.length = r.files.length := by simp [setFl]
  refine ⟨h.room, fun j hj => by rw [hl]; exact h.sts j hj, h.now, fun c hc => by rw [hl]; exact h.chs c hc, fun g hg => ?_, h.left, h.n1, by rw [hl]; exact h.n2, h.n3⟩
  rcases List.mem_or_eq_of_mem_set hg with hg | rfl
  · exact h.fsz g hg
  · exact hf

theorem stsR_app {r : DiskR} {l : List (Nm × Nat)} {c : ChR} {k : Nat} (hk : k ≤ r.chs.length) : stsR { r with now := l, chs := r.chs ++ [c] } k = stsR r k := by
  simp only [stsR]
  rw [List.take_append_of_le_length hk]
theorem stsR_all {r : DiskR} {l : List (Nm × Nat)} {c : ChR} : stsR { r with now := l, chs := r.chs ++ [c] } (r.chs.length + 1) = applyR (stsR r r.chs.length) c := by
  simp only [stsR]
  rw [List.take_of_length_le (by simp), List.take_of_length_le (by simp), List.foldl_append]
  rfl

theorem changeR_ok {N : Nat} {r : DiskR} (h : OkR N r) {c : ChR} (hc : ChOk r.files.length c) (hs : StOk r.files.length (applyR r.now c)) : OkR (N + 1) (changeR r c) := by
  have h2 : OkR (N + 1) { r with now := applyR r.now c, chs := r.chs ++ [c] } := by
    refine ⟨h.room, fun k hk => ?_, ?_, fun x hx => ?_, h.fsz, h.left, by have := h.n1; simp; omega, by have := h.n2; simp; omega, by have := h.n3; simp only; omega⟩
    · simp only [List.length_append, List.length_singleton] at hk
      rcases Nat.lt_or_ge k (r.chs.length + 1) with h1 | h1
      · rw [stsR_app (by omega)]; exact h.sts k (by omega)
      · have : k = r.chs.length + 1 := by omega
        subst this
        rw [stsR_all, h.now]; exact hs
    · simp only [List.length_append, List.length_singleton]
      rw [stsR_all, h.now]
    · rcases List.mem_append.mp hx with hx | hx
      · exact h.chs x hx
      · simp only [List.mem_singleton] at hx; subst hx; exact hc
  have h3 := stepR_ok (N := N + 1) h2
  refine ⟨h3.room, h3.sts, h3.now, h3.chs, h3.fsz, h3.left, ?_, ?_, ?_⟩
  · have := h.n1; simp [changeR, stepR]; omega
  · have := h.n2; simp only [changeR, stepR]; omega
  · have := h.n3; simp only [changeR, stepR]; omega

theorem dropK_stOk {nf : Nat} {l : List (Nm × Nat)} (h : StOk nf l) (n : Nm) : StOk nf (dropK l n) :=
  ⟨dropK_sorted h.sorted n, List.Nodup.sublist (List.filter_sublist.map _) h.inj, Nat.le_trans (List.length_filter_le _ _) h.len, fun p hp => h.ne p (dropK_mem hp), fun p hp => h.idx p (dropK_mem hp)⟩

theorem withR_stOk {nf : Nat} {l : List (Nm × Nat)} {n : Nm} {k : Nat} (h : StOk nf l) (hl : l.length < 64) (hk : ∀ p ∈ l, p.2 ≠ k) (hn : n ≠ []) (hkn : k < nf) : StOk nf (withR (dropK l n) (n, k)) := by
  have hd := dropK_stOk h n
  have hp := withR_perm (n, k) (dropK l n)
  refine ⟨withR_sorted hd.sorted (dropK_not l n), ?_, ?_, ?_, ?_⟩
  · rw [(hp.map _).nodup_iff, List.map_cons, List.nodup_cons]
    refine ⟨fun hm => ?_, hd.inj⟩
    obtain ⟨p, hpm, e⟩ := List.mem_map.1 hm
    exact hk p (dropK_mem hpm) e
  · rw [hp.length_eq, List.length_cons]
    have := List.length_filter_le (fun p : Nm × Nat => !decide (p.1 = n)) l
    have : (dropK l n).length ≤ l.length := this
    omega
  · intro p hpm
    rcases List.mem_cons.mp (hp.mem_iff.1 hpm) with rfl | hpm
    · exact hn
    · exact hd.ne p hpm
  · intro p hpm
    rcases List.mem_cons.mp (hp.mem_iff.1 hpm) with rfl | hpm
    · exact hkn
    · exact hd.idx p hpm

theorem le_sum {x : Nat} : ∀ {l : List Nat}, x ∈ l → x ≤ l.sum
  | y :: l, h => by
    rcases List.mem_cons.mp h with rfl | h
    · simp
    · have := le_sum h; simp; omega
theorem createR_ok {N : Nat} {r : DiskR} (h : OkR N r) (n : Nm) : OkR (N + 1) (createR r n).2 := by
  unfold createR
  split
  · exact h.mono (by omega)
  split
  · exact h.mono (by omega)
  rename_i hg
  split
  · exact h.mono (by omega)
  split
  · exact h.mono (by omega)
  rename_i hmany
  have hne : n ≠ [] := by
    simp only [goodN, Bool.not_eq_true, Bool.not_eq_false', Bool.and_eq_true, decide_eq_true_eq] at hg
    exact hg.1.2
  have h1 : OkR (N + 1) { r with files := r.files ++ [⟨[], 0⟩] } := by
    have hl : (r.files ++ [(⟨[], 0⟩ : FileR)]).length = r.files.length + 1 := by simp
    refine ⟨h.room, fun k hk => ?_, h.now, fun c hc => ?_, fun f hf => ?_, h.left, by have := h.n1; simp only; omega, by have := h.n2; simp only [hl]; omega, by have := h.n3; simp only; omega⟩
    · simp only [hl]; exact (h.sts k hk).mono (by omega)
    · simp only [hl]; exact (h.chs c hc).mono (by omega)
    · rcases List.mem_append.mp hf with hf | hf
      · exact h.fsz f hf
      · simp only [List.mem_singleton] at hf; subst hf; simp
  have hst := h.stNow
  have h2 : StOk (r.files.length + 1) (withR (dropK r.now n) (n, r.files.length)) := withR_stOk (hst.mono (by omega)) (by omega) (fun p hp e => by have := hst.idx p hp; omega) hne (by omega)
  have h3 := changeR_ok (c := ⟨1, [], n, r.files.length⟩) h1 (.inl ⟨rfl, rfl, hne, by simp⟩) (by simpa [applyR] using h2)
  refine ⟨h3.room, h3.sts, h3.now, h3.chs, h3.fsz, h3.left, ?_, ?_, ?_⟩
  · have := h.n1; simp [changeR, stepR]; omega
  · have := h.n2; simp [changeR, stepR]; omega
  · have := h.n3; simp only [changeR, stepR]; omega

theorem appendR_ok {N : Nat} {r : DiskR} (h : OkR N r) (n : Nm) (b : List UInt8) : OkR (N + 1) (appendR r n b).2 := by
  unfold appendR
  split
  · exact h.mono (by omega)
  rename_i hd
  split
  · exact h.mono (by omega)
  rename_i k hk
  split
  · exact h.mono (by omega)
  rename_i hroom
  refine stepR_ok (setFl_ok h k ⟨?_, ?_⟩)
  · have := (h.fl k).1; simp only [List.length_append]; omega
  · have hm := (lkK_some h.stNow.sorted.nod).1 hk
    have hle : (r.fl k).b.length ≤ usedR r := by
      unfold usedR
      rw [if_neg hd]
      have : (r.fl k).b.length ∈ r.now.map fun p => (r.fl p.2).b.length := List.mem_map.2 ⟨(n, k), hm, rfl⟩
      exact le_sum this
    have := h.room
    simp only [List.length_append]; omega

theorem syncR_ok {N : Nat} {r : DiskR} (h : OkR N r) (n : Nm) : OkR (N + 1) (syncR r n).2 := by
  unfold syncR
  split
  · exact h.mono (by omega)
  split
  · exact h.mono (by omega)
  rename_i k hk
  exact stepR_ok (setFl_ok h k ⟨Nat.le_refl _, (h.fl k).2⟩)

theorem removeR_ok {N : Nat} {r : DiskR} (h : OkR N r) (a : Nm) : OkR (N + 1) (removeR r a).2 := by
  unfold removeR
  split
  · exact h.mono (by omega)
  split
  · exact h.mono (by omega)
  rename_i k hk
  have hst := h.stNow
  have hm := (lkK_some hst.sorted.nod).1 hk
  exact changeR_ok h (.inr (.inr ⟨rfl, hst.ne _ hm, rfl⟩)) (by simpa [applyR] using dropK_stOk hst a)

theorem syncDirR_ok {N : Nat} {r : DiskR} (h : OkR N r) : OkR (N + 1) (syncDirR r).2 := by
  unfold syncDirR
  split
  · exact h.mono (by omega)
  refine stepR_ok ⟨h.room, fun k hk => ?_, rfl, by simp, h.fsz, h.left, by simp, h.n2, h.n3⟩
  have : stsR { r with safe := r.now, chs := [] } k = r.now := by simp [stsR]
  rw [this]; exact h.stNow

theorem saysR_le (c : Int) (n : Nat) : saysR c n ≤ n := by
  unfold saysR
  have := Nat.mod_lt (if c < 0 then -(c + 1) else c).toNat (show 0 < n + 1 by omega)
  omega
theorem cutF_len (c : Int) {f : FileR} (h : f.safe ≤ f.b.length) : (cutF c f).safe = (cutF c f).b.length ∧ (cutF c f).b.length ≤ f.b.length ∧ f.safe ≤ (cutF c f).b.length := by
  have h1 := saysR_le c (f.b.length - f.safe)
  refine ⟨rfl, ?_, ?_⟩ <;> simp only [cutF] <;> split <;> simp only [List.length_append, List.length_take, List.length_replicate] <;> omega
theorem crashFs_len (cs : List Int) : ∀ (l : List (Nm × Nat)) (i : Nat) (fs : List FileR), (crashFs cs l i fs).length = fs.length
  | [], _, _ => rfl
  | p :: l, i, fs => by rw [crashFs, crashFs_len cs l]; simp
theorem crashFs_sz (cs : List Int) : ∀ (l : List (Nm × Nat)) (i : Nat) (fs : List FileR), (∀ f ∈ fs, f.safe ≤ f.b.length ∧ f.b.length ≤ 4194304) → ∀ f ∈ crashFs cs l i fs, f.safe ≤ f.b.length ∧ f.b.length ≤ 4194304
  | [], _, _, h => h
  | p :: l, i, fs, h => by
    rw [crashFs]
    refine crashFs_sz cs l (i + 1) _ fun f hf => ?_
    rcases List.mem_or_eq_of_mem_set hf with hf | rfl
    · exact h f hf
    · have hd : (fs.getD p.2 ⟨[], 0⟩).safe ≤ (fs.getD p.2 ⟨[], 0⟩).b.length ∧ (fs.getD p.2 ⟨[], 0⟩).b.length ≤ 4194304 := by
        rw [List.getD_eq_getElem?_getD]
        cases hk : fs[p.2]? with
        | none => simp
        | some g => exact h g (List.mem_of_getElem? hk)
      have := cutF_len (choiceR cs (i + 1)) hd.1
      exact ⟨by omega, by omega⟩
theorem crashN_ok {N : Nat} {r : DiskR} (h : OkR N r) (cs : List Int) : StOk r.files.length (crashN cs r) := h.sts _ (saysR_le _ _)
theorem crashR_ok {N : Nat} {r : DiskR} (h : OkR N r) (cs : List Int) : OkR N (crashR cs r) := by
  have hl : (crashR cs r).files.length = r.files.length := crashFs_len _ _ _ _
  refine ⟨h.room, fun k hk => ?_, rfl, by simp [crashR], fun f hf => crashFs_sz cs _ _ _ h.fsz f hf, by simp [crashR], by simp [crashR], by rw [hl]; exact h.n2, h.n3⟩
  have : stsR (crashR cs r) k = crashN cs r := by simp [stsR, crashR]
  rw [this, hl]; exact crashN_ok h cs

end Go.Th.Pure
end

section
/- Calls on the disk of the document; a disk that stops. -/
set_option linter.unusedVariables false
set_option linter.unusedSimpArgs false
namespace Go.Th.Pure
open Go Go.Th

end Go.Th.Pure
end

section
/- What was synced is there behind a crash. -/
set_option linter.unusedVariables false
set_option linter.unusedSimpArgs false
namespace Go.Th.Pure
open Go Go.Th

end Go.Th.Pure
end
