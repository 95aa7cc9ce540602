/- What the row of one statement stands on: a store, abstract code, functions of the program and their laws (ThDiskClone). -/
import Derived.Shelf.SlicesE.Clone
import Derived.Shelf.SlLaysE0
import Derived.Shelf.RegionOpenPlain
import Derived.WalkKit
import Derived.Deep.LoopGhost
import Derived.Lib.Walk
import Derived.Lib.SliceRun

section
/- slices.Clone at bytes: what lies behind the copy's length is known too. -/
set_option linter.unusedVariables false
namespace Go.Proofs
open Go.Shelf Go.RowKit Go.Lib
variable {P : Program} {ρ : Ren}

theorem zeroCells_one (z : Value) (n : Nat) : Builtin.zeroCells #[z] n = (List.replicate n z).toArray := by
  unfold Builtin.zeroCells
  apply Array.ext
  · simp
  · intro i h1 h2
    simp [Nat.mod_one]

theorem run_append_x (w : World) (t ty e : TypeId) (i : TypeInfo) (z : Value) (ht : P.underlying t = some (.slice e)) (hi : P.info? e = some i) (hz : i.zero = some z) (h1s : i.size = 1) (hzs : z.cells = #[z])
    (g : Nat) (a : Addr) (m c : Nat) (news : List Value) (hl : news.length = m) (hnews : ∀ j u, news[j]? = some u → w.cell? (a.add j) = some u) (h63 : m ≤ maxLen) (hbytes : m * i.bytes ≤ 140737488355328) :
    (m = 0 ∧ (Builtin.append_ #[t, t] ty #[.slice (some ⟨g, 0, none⟩) 0 0, .slice (some a) m c]).run P w = .ok (.slice (some ⟨g, 0, none⟩) 0 0) w) ∨
    ∃ cap, m ≤ cap ∧ cap ≤ maxLen ∧ (Builtin.append_ #[t, t] ty #[.slice (some ⟨g, 0, none⟩) 0 0, .slice (some a) m c]).run P w = .ok (.slice (some ⟨w.heap.size, 0, none⟩) m cap) (w.drew.alloc (.cells (news ++ List.replicate (cap - m) z).toArray e)) := by
  have hm63 : m ≤ 9223372036854775807 := by simp only [maxLen] at h63; omega
  by_cases hm : m = 0
  · subst hm
    have hn : news = [] := List.eq_nil_of_length_eq_zero (by simpa using hl)
    subst hn
    refine .inl ⟨rfl, ?_⟩
    simp [Builtin.append_, run_underlying ht, sizeOf, typeInfo, hi, Builtin.lenOf, Builtin.firstCells, loadCells, loadCellsFrom, storeCells]
  · refine .inr ⟨grownCap w (0 + m) 0 e, by have := grownCap_ge w (0 + m) 0 e; omega, grownCap_le_maxLen w (0 + m) 0 e (by rw [Nat.zero_add]; exact h63), ?_⟩
    have hr := run_append_grow (P := P) w t ty e i z ht hi hz ⟨g, 0, none⟩ 0 0 [] (by simp) (by simp) a m c news (by rw [hl, h1s, Nat.mul_one]) hnews (by omega) (by omega) (growslice_fits (by omega) (by simpa using hbytes))
    rw [hr, hzs, zeroCells_one]
    simp only [Nat.zero_add]
    congr 2
    congr 1
    simp

theorem wpList_append_x (w : World) {ops : Array Oper} {rest : List Oper} {o : Oper} {a : Act} {Q : Exit → Act → World → Prop} (hgd : o.guard = none) (s x : Operand) (t : TypeId)
    (ho : o.op = .call { callee := .builtin .append, args := #[s, x], argTypes := #[t, t] })
    (e : TypeId) (i : TypeInfo) (z : Value) (ht : P.underlying t = some (.slice e)) (hi : P.info? e = some i) (hz : i.zero = some z) (h1s : i.size = 1) (hzs : z.cells = #[z])
    (g : Nat) (hs : a.eval s = .slice (some ⟨g, 0, none⟩) 0 0) (ad : Addr) (m c : Nat) (news : List Value) (hx : a.eval x = .slice (some ad) m c) (hl : news.length = m) (hnews : ∀ j u, news[j]? = some u → w.cell? (ad.add j) = some u)
    (h63 : m ≤ maxLen) (hbytes : m * i.bytes ≤ 140737488355328)
    (h : ∀ v' w', ((m = 0 ∧ v' = .slice (some ⟨g, 0, none⟩) 0 0 ∧ w' = w) ∨ ∃ cap, m ≤ cap ∧ cap ≤ maxLen ∧ v' = .slice (some ⟨w.heap.size, 0, none⟩) m cap ∧ w' = w.drew.alloc (.cells (news ++ List.replicate (cap - m) z).toArray e)) → wpList P ops Q rest (a.put o.dst v') w') : wpList P ops Q (o :: rest) a w :=
  wpList_plain hgd fun _ hK => by
    have hr : ∃ v' w', (Builtin.append_ #[t, t] o.type #[.slice (some ⟨g, 0, none⟩) 0 0, .slice (some ad) m c]).run P w = .ok v' w' ∧ ((m = 0 ∧ v' = .slice (some ⟨g, 0, none⟩) 0 0 ∧ w' = w) ∨ ∃ cap, m ≤ cap ∧ cap ≤ maxLen ∧ v' = .slice (some ⟨w.heap.size, 0, none⟩) m cap ∧ w' = w.drew.alloc (.cells (news ++ List.replicate (cap - m) z).toArray e)) := by
      rcases run_append_x (P := P) w t o.type e i z ht hi hz h1s hzs g ad m c news hl hnews h63 hbytes with ⟨h0, hr⟩ | ⟨cap, hc, hx, hr⟩
      · exact ⟨_, _, hr, .inl ⟨h0, rfl, rfl⟩⟩
      · exact ⟨_, _, hr, .inr ⟨cap, hc, hx, rfl, rfl⟩⟩
    obtain ⟨v', w', hr, hv⟩ := hr
    unfold Oper.wp execOp
    simp only [ho, resolve, invoke, builtin, Sem.run_bind, Sem.run_pure, Result.andThen_ok, List.map_toArray, List.map_cons, List.map_nil, hs, hx, hr]
    exact hK _ _ (h v' w' hv)

set_option maxHeartbeats 2000000 in
set_option maxRecDepth 100000 in
theorem slices_Clone_x (L : SlLaysE0.n41 P ρ) (i0 : TypeInfo) (z : Value) (hi : P.info? (ρ.t 23) = some i0) (hz0 : i0.zero = some z) (hz1 : i0.size = 1) (hzs : z.cells = #[z])
    (z23 : ∀ w, (Go.sizeOf (ρ.t 23)).run P w = .ok 1 w) (ad : Addr) (n c : Nat) (news : List Value) (w : World) (hl : news.length = n) (hn : n ≤ maxLen) (hbig : n * i0.bytes ≤ 140737488355328)
    (hc : ∀ j u, news[j]? = some u → w.cell? (ad.add j) = some u) :
    Calls P (ρ.f 41) #[.slice (some ad) n c] w fun e w' => ∃ w1 cap, e = .returned (.slice (some ⟨w1.heap.size, 0, none⟩) n cap) ∧ n ≤ cap ∧ cap ≤ maxLen ∧ Below w.heap.size w w1 ∧ w' = w1.alloc (.cells (news ++ List.replicate (cap - n) z).toArray (ρ.t 23)) := by
  have mixed := L.mixed; have t4 := L.t4; have a4 := L.a4; have z4 := L.z4; have v4 := L.v4; have t22 := L.t22; have a22 := L.a22; have z22 := L.z22; have v22 := L.v22
  have q22 : ∀ (w : World) (a : Option Addr) (n c n' c' : Nat), (binOp .eql (ρ.t 22) (.slice a n c) (.slice none n' c')).run P w = .ok (.bool a.isNone) w := fun w a n c n' c' => Lib.run_eql_slice_nil w _ _ a n c n' c' L.t22
  have u22 : ∀ w, Sem.run P (underlying (ρ.t 22)) w = .ok (TypeDesc.slice (ρ.t 23)) w := run_underlying t22
  have A : Aside (∀ j u, news[j]? = some u → w.cell? (ad.add j) = some u) := hc
  clear hc
  obtain ⟨_, _, FG⟩ := L.f41
  go_enter FG, SlBodyN.n41_ntmps ρ
  go_wp2_with (at_builtin; refine wpList_append_x _ rfl _ _ (ρ.t 22) rfl (ρ.t 23) i0 z t22 hi hz0 hz1 hzs w.heap.size rfl ad n c news rfl ?qc1 ?qc2 ?qc3 ?qc4 ?_)
  case qc1 => exact hl
  case qc2 =>
    intro j u hj
    exact Lib.cell?_alloc_some _ (A.out j u hj)
  case qc3 => exact hn
  case qc4 => exact hbig
  intro v' w1 hv
  go_wp2
  go_ret
  rcases hv with ⟨h0, rfl, rfl⟩ | ⟨cap, hcap, hmx, rfl, rfl⟩
  · subst h0
    have hn0 : news = [] := List.eq_nil_of_length_eq_zero (by simpa using hl)
    subst hn0
    exact ⟨w, 0, rfl, Nat.le_refl _, Nat.zero_le _, Below.refl _ w, by simp⟩
  · refine ⟨(w.alloc (.cells #[] (ρ.t 23))).drew, cap, ?_, hcap, hmx, ((Below.refl _ w).alloc (Nat.le_refl _) _).drew, rfl⟩
    have : (w.alloc (.cells #[] (ρ.t 23))).drew.heap.size = w.heap.size + 1 := by simp
    rw [this]; rfl

end Go.Proofs
end
