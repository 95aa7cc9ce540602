/- What the row of one statement stands on: a store, abstract code, functions of the program and their laws (ThSb2, ThSb3, ThSb4, ThSb5, ThHjson1, ThHjson2, ThHjson3, ThHjson4, ThHjson5, ThHjson6, ThHjson7, ThHjson8, ThHjson9, ThHjson10, ThHjson11, ThHjson12, ThHjson13, ThHhex, ThHjson14, ThHjson15, ThHjson16, ThHref20a, ThHref20b, ThHref20c, ThHref20d, ThHref20e, ThHref20f, ThHref20g, ThHref20h, ThHcut). -/
import Derived.Test.YtconjbbmdjaehaaGreatDoorThBPjson7
import Derived.Test.YtconjbbmdjaehaaGreatDoorThBR12
import Derived.Test.YtconjbbmdjaehaaGreatDoorThBHvar
import Derived.Test.YtconjbbmdjaehaaGreatDoorThBGstringsLen

section
/- strings.Builder's writing methods, with all that they leave alone. -/
set_option linter.unusedSimpArgs false
set_option linter.unusedVariables false
namespace Go.Th
open Go Go.Proofs Go.Shelf Go.RowKit
variable {P : Program} {ρ : Ren}

structure SbW (T e : TypeId) (b : Nat) (p v : Value) (bs : List Value) (w : World) : Prop where
  hb : w.heap[b]? = some (.cells #[p, v] T (0, 0))
  addr : p = .pointer none ∨ p = .pointer (some ⟨b, 0, none⟩)
  own : w.ownsRow 0 e 1 v bs.length bs
  ne : v.ownBlock ≠ some b
structure SbF (b : Nat) (v : Value) (w w' : World) : Prop where
  os : w'.os = w.os
  tape : w'.tape = w.tape
  output : w'.output = w.output
  size : w.heap.size ≤ w'.heap.size
  block : ∀ k, k < w.heap.size → k ≠ b → some k ≠ v.ownBlock → w'.heap[k]? = w.heap[k]?

theorem heap_lt {w : World} {b : Nat} {o : Obj} (h : w.heap[b]? = some o) : b < w.heap.size := by
  rcases Nat.lt_or_ge b w.heap.size with h' | h'
  · exact h'
  · simp [Array.getElem?_eq_none h'] at h
theorem grownBy_setCell (w : World) (b j : Nat) (x : Value) : w.grownBy (w.setCell ⟨b, j, none⟩ x) (some b) := by
  refine ⟨by simp [World.setCell], by simp [World.setCell], by simp [World.setCell], by simp [World.setCell], fun k hk hne => ?_⟩
  have : b ≠ k := fun e => hne (by rw [e])
  simp [World.setCell, Array.getElem?_modify, this]
theorem setCell_heap (w : World) (b j : Nat) (x : Value) (cs : Array Value) (t : TypeId) (fz : Nat × Nat) (h : w.heap[b]? = some (.cells cs t fz)) : (w.setCell ⟨b, j, none⟩ x).heap[b]? = some (.cells (cs.setIfInBounds j x) t fz) := by
  have hb := heap_lt h
  rw [setCell_setAt w b j x cs t fz h]
  exact setAt_same w _ _ hb

theorem sb_copyCheck (L : Lays.n240 P ρ) (X : Builder.X72 P ρ) {b : Nat} {p v : Value} {bs : List Value} {w : World} (h : SbW (ρ.t 72) (ρ.t 5) b p v bs w) :
    Calls P (ρ.f 240) #[.pointer (some ⟨b, 0, none⟩)] w fun e w' => e = .returned (.tuple #[]) ∧ w'.heap[b]? = some (.cells #[.pointer (some ⟨b, 0, none⟩), v] (ρ.t 72) (0, 0)) ∧ w.grownBy w' (some b) ∧ w'.heap.size = w.heap.size := by
  have hbk := h.hb
  rcases h.addr with rfl | rfl
  · refine (Any.Builder_copyCheck_fresh L X b w (by rw [Lib.cell_of_heap hbk]; rfl) (by simp [World.shape?, hbk]) (Lib.frozen_of_heap hbk 0)).mono ?_
    rintro e w' ⟨rfl, rfl⟩
    exact ⟨rfl, by rw [setCell_heap w b 0 _ _ _ _ hbk]; rfl, grownBy_setCell w b 0 _, by simp [World.setCell]⟩
  · refine (Any.Builder_copyCheck_used L X b w (by rw [Lib.cell_of_heap hbk]; rfl)).mono ?_
    rintro e w' ⟨rfl, rfl⟩
    exact ⟨rfl, hbk, ⟨rfl, rfl, rfl, Nat.le_refl _, fun _ _ _ => rfl⟩, rfl⟩

theorem info_u8 {i : Option TypeInfo} (h : i.map (fun i => (i.zero, i.size, i.bytes)) = some (some (.int .u8 0), 1, 1)) : ∃ j, i = some j ∧ j.zero = some (.int .u8 0) ∧ j.size = 1 ∧ j.bytes = 1 := by
  obtain ⟨j, hj, hz⟩ := Option.map_eq_some_iff.1 h
  simp only [Prod.mk.injEq] at hz
  exact ⟨j, hj, hz.1, hz.2.1, hz.2.2⟩

set_option maxHeartbeats 2000000 in
set_option maxRecDepth 100000 in
theorem sb_WriteByte (L : Lays.n167 P ρ) (X : Builder.Extra P ρ) {b : Nat} {p v : Value} {bs : List Value} (c : Int) {w : World} (h : SbW (ρ.t 72) (ρ.t 5) b p v bs w) (hlen : bs.length + 1 ≤ 140737488355328) :
    Calls P (ρ.f 167) #[.pointer (some ⟨b, 0, none⟩), .int .u8 c] w fun e w' => e = .returned .nilIface ∧ ∃ v', SbW (ρ.t 72) (ρ.t 5) b (.pointer (some ⟨b, 0, none⟩)) v' (bs ++ [.int .u8 c]) w' ∧ SbF b v w w' ∧ SbWh v v' bs.length 1 w.heap.size := by
  obtain ⟨i0, hi, hz0, hz1, hz2⟩ := info_u8 X.infoByte
  have mixed := L.mixed
  have t72 := L.t72; have a72 := L.a72; have z72 := L.z72; have v72 := L.v72; have u72 := run_underlying L.t72
  have t70 := L.t70; have a70 := L.a70; have z70 := L.z70; have v70 := L.v70; have u70 := run_underlying L.t70
  have t5 := L.t5; have a5 := L.a5; have z5 := L.z5; have v5 := L.v5; have u5 := run_underlying L.t5
  have t37 := L.t37; have a37 := L.a37; have z37 := L.z37; have v37 := L.v37; have u37 := run_underlying L.t37
  have t9 := L.t9; have a9 := L.a9; have z9 := L.z9; have v9 := L.v9; have u9 := run_underlying L.t9
  have t4 := L.t4; have a4 := L.a4; have z4 := L.z4; have v4 := L.v4; have u4 := run_underlying L.t4
  have t164 := L.t164; have a164 := L.a164; have z164 := L.z164; have v164 := L.v164; have u164 := run_underlying L.t164
  have e240 : ∀ args w, (callFunc (ρ.f 240) args).run P w = .ok (.enter (ρ.f 240) args) w := enters_of L.f240 (by kernel_rfl) rfl
  go_enter L.f167, Body.n167_ntmps ρ
  go_wp2_with (go_at_fn (ρ.f 240); refine (sb_copyCheck { L with } X.toX72 h).mono ?_)
  rintro e w1 ⟨rfl, hbk, g1, -⟩
  have hown : w1.ownsRow 0 (ρ.t 5) 1 v bs.length bs := h.own.kept g1 (.inr h.ne)
  have c0 : w1.cell? ⟨b, 0, none⟩ = some (.pointer (some ⟨b, 0, none⟩)) := by rw [Lib.cell_of_heap hbk]; rfl
  have c1 : w1.cell? ⟨b, 1, none⟩ = some v := by rw [Lib.cell_of_heap hbk]; rfl
  go_wp2_with (at_builtin; refine wpList_app _ rfl _ _ (ρ.t 37) rfl (ρ.t 5) i0 L.t37 hi hz0 hz1 hz2 _ _ _ rfl (hown.alloc _) ⟨w1.heap.size, 0, none⟩ 1 1 [.int .u8 c] rfl rfl ?c1 ?c2 (by decide) hlen ?_)
  case c1 =>
    intro j u hj
    match j, hj with
    | 0, hj => simp at hj; subst hj; simp [Addr.add]
  case c2 => intro u hu; simp at hu; subst hu; rfl
  intro v' w2 hown' hgrow hwhere
  have hlt := heap_lt hbk
  have hb2 : w2.heap[b]? = some (.cells #[.pointer (some ⟨b, 0, none⟩), v] (ρ.t 72) (0, 0)) := by
    rw [hgrow.block b (by simp; omega) (fun e => h.ne e.symm), Lib.alloc_old w1 _ b hlt]
    exact hbk
  have d0 : w2.cell? ⟨b, 0, none⟩ = some (.pointer (some ⟨b, 0, none⟩)) := by rw [Lib.cell_of_heap hb2]; rfl
  have d1 : w2.cell? ⟨b, 1, none⟩ = some v := by rw [Lib.cell_of_heap hb2]; rfl
  have f1 : w2.frozen? ⟨b, 1, none⟩ = false := Lib.frozen_of_heap hb2 1
  obtain ⟨g, cap, rfl⟩ : ∃ g cap, v' = .slice (some ⟨g, 0, none⟩) (bs.length + 1) cap := by
    rcases hown'.2 with ⟨_, h0⟩ | ⟨g, cap, cur, hv, _⟩
    · omega
    · exact ⟨g, cap, hv⟩
  go_wp2
  go_ret
  have g4 := grownBy_setCell w2 b 1 (.slice (some ⟨g, 0, none⟩) (bs.length + 1) cap)
  have gsz := g1.size
  have gs2 := hgrow.size
  have gs4 := g4.size
  have hlb := heap_lt h.hb
  simp only [World.size_alloc] at gs2
  have gne : g ≠ b := by
    rintro rfl
    rcases hwhere with ⟨g0, cap0, rfl, h'⟩ | ⟨g0, h', hle⟩
    · simp only [Value.slice.injEq, Option.some.injEq, Addr.mk.injEq, and_true, true_and] at h'
      exact h.ne (by simp only [Value.ownBlock]; rw [← h'.1])
    · simp only [Value.ownBlock, Option.some.injEq] at h'
      omega
  refine ⟨rfl, _, ⟨by rw [setCell_heap w2 b 1 _ _ _ _ hb2]; rfl, .inr rfl, ?_, ?_⟩, ⟨?_, ?_, ?_, by omega, fun k hk hkb hkv => ?_⟩, ?_⟩
  · have := hown'.kept g4 (.inr (by simp only [Value.ownBlock, ne_eq, Option.some.injEq]; exact gne))
    simpa using this
  · simp only [Value.ownBlock, ne_eq, Option.some.injEq]; exact gne
  · rw [g4.os, hgrow.os]; exact g1.os
  · rw [g4.tape, hgrow.tape]; exact g1.tape
  · rw [g4.output, hgrow.output]; exact g1.output
  · rw [g4.block k (by omega) (by simpa using hkb), hgrow.block k (by simp only [World.size_alloc]; omega) hkv, Lib.alloc_old w1 _ k (by omega)]
    exact g1.block k hk (by simpa using hkb)
  · rcases hwhere with h' | ⟨g0, h', hle⟩
    · exact .inl h'
    · exact .inr ⟨g0, h', by first | omega | (simp only [World.size_alloc] at hle; omega)⟩

set_option maxHeartbeats 2000000 in
set_option maxRecDepth 100000 in
theorem sb_WriteString (L : Lays.n166 P ρ) (X : Builder.Extra P ρ) {b : Nat} {p v : Value} {bs : List Value} (s : ByteArray) (h0 : 0 < s.size) {w : World} (h : SbW (ρ.t 72) (ρ.t 5) b p v bs w) (hlen : bs.length + s.size ≤ 140737488355328) :
    Calls P (ρ.f 166) #[.pointer (some ⟨b, 0, none⟩), .string s] w fun e w' => e = .returned (.tuple #[.int .i64 s.size, .nilIface]) ∧ ∃ v', SbW (ρ.t 72) (ρ.t 5) b (.pointer (some ⟨b, 0, none⟩)) v' (bs ++ Lib.strCells s) w' ∧ SbF b v w w' ∧ SbWh v v' bs.length s.size w.heap.size := by
  obtain ⟨i0, hi, hz0, hz1, hz2⟩ := info_u8 X.infoByte
  have mixed := L.mixed
  have t72 := L.t72; have a72 := L.a72; have z72 := L.z72; have v72 := L.v72; have u72 := run_underlying L.t72
  have t70 := L.t70; have a70 := L.a70; have z70 := L.z70; have v70 := L.v70; have u70 := run_underlying L.t70
  have t37 := L.t37; have a37 := L.a37; have z37 := L.z37; have v37 := L.v37; have u37 := run_underlying L.t37
  have t3 := L.t3; have a3 := L.a3; have z3 := L.z3; have v3 := L.v3; have u3 := run_underlying L.t3
  have t9 := L.t9; have a9 := L.a9; have z9 := L.z9; have v9 := L.v9; have u9 := run_underlying L.t9
  have t4 := L.t4; have a4 := L.a4; have z4 := L.z4; have v4 := L.v4; have u4 := run_underlying L.t4
  have t164 := L.t164; have a164 := L.a164; have z164 := L.z164; have v164 := L.v164; have u164 := run_underlying L.t164
  have e240 : ∀ args w, (callFunc (ρ.f 240) args).run P w = .ok (.enter (ρ.f 240) args) w := enters_of L.f240 (by kernel_rfl) rfl
  go_enter L.f166, Body.n166_ntmps ρ
  go_wp2_with (go_at_fn (ρ.f 240); refine (sb_copyCheck { L with } X.toX72 h).mono ?_)
  rintro e w1 ⟨rfl, hbk, g1, -⟩
  have hown : w1.ownsRow 0 (ρ.t 5) 1 v bs.length bs := h.own.kept g1 (.inr h.ne)
  have c0 : w1.cell? ⟨b, 0, none⟩ = some (.pointer (some ⟨b, 0, none⟩)) := by rw [Lib.cell_of_heap hbk]; rfl
  have c1 : w1.cell? ⟨b, 1, none⟩ = some v := by rw [Lib.cell_of_heap hbk]; rfl
  go_wp2_with (at_builtin; refine wpList_app_string _ rfl _ _ (ρ.t 37) (ρ.t 9) rfl (ρ.t 5) i0 L.t37 L.t9 hi hz0 hz1 hz2 _ _ _ rfl hown s rfl h0 hlen ?_)
  intro v' w2 hown' hgrow hwhere
  have hlt := heap_lt hbk
  have hb2 : w2.heap[b]? = some (.cells #[.pointer (some ⟨b, 0, none⟩), v] (ρ.t 72) (0, 0)) := by
    rw [hgrow.block b hlt (fun e => h.ne e.symm)]
    exact hbk
  have d0 : w2.cell? ⟨b, 0, none⟩ = some (.pointer (some ⟨b, 0, none⟩)) := by rw [Lib.cell_of_heap hb2]; rfl
  have d1 : w2.cell? ⟨b, 1, none⟩ = some v := by rw [Lib.cell_of_heap hb2]; rfl
  have f1 : w2.frozen? ⟨b, 1, none⟩ = false := Lib.frozen_of_heap hb2 1
  obtain ⟨g, cap, rfl⟩ : ∃ g cap, v' = .slice (some ⟨g, 0, none⟩) (bs.length + s.size) cap := by
    rcases hown'.2 with ⟨_, h0'⟩ | ⟨g, cap, cur, hv, _⟩
    · omega
    · exact ⟨g, cap, hv⟩
  go_wp2
  go_ret2
  have g4 := grownBy_setCell w2 b 1 (.slice (some ⟨g, 0, none⟩) (bs.length + s.size) cap)
  have gsz := g1.size
  have gs2 := hgrow.size
  have gs4 := g4.size
  have hlb := heap_lt h.hb
  have gne : g ≠ b := by
    rintro rfl
    rcases hwhere with ⟨g0, cap0, rfl, h'⟩ | ⟨g0, h', hle⟩
    · simp only [Value.slice.injEq, Option.some.injEq, Addr.mk.injEq, and_true, true_and] at h'
      exact h.ne (by simp only [Value.ownBlock]; rw [← h'.1])
    · simp only [Value.ownBlock, Option.some.injEq] at h'
      omega
  refine ⟨rfl, _, ⟨by rw [setCell_heap w2 b 1 _ _ _ _ hb2]; rfl, .inr rfl, ?_, ?_⟩, ⟨?_, ?_, ?_, by omega, fun k hk hkb hkv => ?_⟩, ?_⟩
  · have := hown'.kept g4 (.inr (by simp only [Value.ownBlock, ne_eq, Option.some.injEq]; exact gne))
    simpa [Lib.strCells_length] using this
  · simp only [Value.ownBlock, ne_eq, Option.some.injEq]; exact gne
  · rw [g4.os, hgrow.os]; exact g1.os
  · rw [g4.tape, hgrow.tape]; exact g1.tape
  · rw [g4.output, hgrow.output]; exact g1.output
  · rw [g4.block k (by omega) (by simpa using hkb), hgrow.block k (by omega) hkv]
    exact g1.block k hk (by simpa using hkb)
  · rcases hwhere with h' | ⟨g0, h', hle⟩
    · exact .inl h'
    · exact .inr ⟨g0, h', by first | omega | (simp only [World.size_alloc] at hle; omega)⟩

theorem freeze_stays (w : World) (g n : Nat) : (w.freeze ⟨g, 0, none⟩ n).os = w.os ∧ (w.freeze ⟨g, 0, none⟩ n).tape = w.tape ∧ (w.freeze ⟨g, 0, none⟩ n).output = w.output ∧ (w.freeze ⟨g, 0, none⟩ n).heap.size = w.heap.size ∧ ∀ k, k ≠ g → (w.freeze ⟨g, 0, none⟩ n).heap[k]? = w.heap[k]? := by
  unfold World.freeze
  split
  · exact ⟨rfl, rfl, rfl, rfl, fun _ _ => rfl⟩
  · refine ⟨rfl, rfl, rfl, by simp, fun k hk => ?_⟩
    simp only [Array.getElem?_modify]
    rw [if_neg fun e => hk e.symm]

set_option maxHeartbeats 2000000 in
set_option maxRecDepth 100000 in
theorem sb_String (L : Lays.n169 P ρ) (X : Builder.Extra P ρ) {b : Nat} {p v : Value} {l : List UInt8} {w : World} (h : SbW (ρ.t 72) (ρ.t 5) b p v (Lib.byteCells l) w) (h0 : v = .slice none 0 0 ∨ l ≠ []) :
    Calls P (ρ.f 169) #[.pointer (some ⟨b, 0, none⟩)] w fun e w' => e = .returned (.string ⟨l.toArray⟩) ∧ SbF b v w w' := by
  have hown := h.own
  rw [Lib.byteCells_length] at hown
  have mixed := L.mixed
  have t72 := L.t72; have a72 := L.a72; have z72 := L.z72; have v72 := L.v72; have u72 := run_underlying L.t72
  have t70 := L.t70; have a70 := L.a70; have z70 := L.z70; have v70 := L.v70; have u70 := run_underlying L.t70
  have t37 := L.t37; have a37 := L.a37; have z37 := L.z37; have v37 := L.v37; have u37 := run_underlying L.t37
  have t127 := L.t127; have a127 := L.a127; have z127 := L.z127; have v127 := L.v127; have u127 := run_underlying L.t127
  have t3 := L.t3; have a3 := L.a3; have z3 := L.z3; have v3 := L.v3; have u3 := run_underlying L.t3
  have t9 := L.t9; have a9 := L.a9; have z9 := L.z9; have v9 := L.v9; have u9 := run_underlying L.t9
  have t5 := X.t5; have a5 := X.a5; have z5 := X.z5; have v5 := X.v5; have u5 := run_underlying X.t5
  rcases hown.2 with ⟨rfl, hz⟩ | ⟨g, cap, cur, rfl, hbg, hg, hnc, hcm, hcs, htake⟩
  · obtain rfl := List.length_eq_zero_iff.mp hz
    have hbk := h.hb
    have hUS := Any.unsafeString_none L X
    have c1 : w.drew.cell? ⟨b, 1, none⟩ = some (.slice none 0 0) := by
      have : w.drew.heap[b]? = some (.cells #[p, .slice none 0 0] (ρ.t 72) (0, 0)) := hbk
      rw [Lib.cell_of_heap this]; rfl
    have hSD : (Builtin.unsafeSliceData_ #[(ρ.t 37)] (ρ.t 127) #[.slice none 0 0]).run P w.drew = .ok (.pointer none) w.drew := rfl
    go_enter L.f169, Body.n169_ntmps ρ
    go_wp2
    go_region_o
    all_goals (go_wp2; go_ret; exact ⟨rfl, rfl, rfl, rfl, Nat.le_refl _, fun _ _ _ _ => rfl⟩)
  · have hl0 : l ≠ [] := h0.resolve_left (by simp)
    have hl1 : l.length ≠ 0 := by simpa using hl0
    have hbk := h.hb
    have c1 : w.drew.cell? ⟨b, 1, none⟩ = some (.slice (some ⟨g, 0, none⟩) l.length cap) := by
      have : w.drew.heap[b]? = some (.cells #[p, .slice (some ⟨g, 0, none⟩) l.length cap] (ρ.t 72) (0, 0)) := hbk
      rw [Lib.cell_of_heap this]; rfl
    have hSD : (Builtin.unsafeSliceData_ #[(ρ.t 37)] (ρ.t 127) #[.slice (some ⟨g, 0, none⟩) l.length cap]).run P w.drew = .ok (.pointer (some ⟨g, 0, none⟩)) w.drew :=
      Lib.run_unsafeSliceData_row _ _ _ _ _ _ (by omega)
    have hUS : (Builtin.unsafeString_ #[(ρ.t 127), (ρ.t 3)] (ρ.t 9) #[.pointer (some ⟨g, 0, none⟩), .int .i64 l.length]).run P w.drew = .ok (.string ⟨l.toArray⟩) (w.drew.freeze ⟨g, 0, none⟩ l.length) := by
      refine Lib.run_unsafeString_row w.drew (ρ.t 127) (ρ.t 3) (ρ.t 9) (ρ.t 5) L.t127 X.cellsByte g cur.size (by have hg' : w.drew.heap[g]? = some (.cells cur (ρ.t 5) (0, 0)) := hg; simp [World.shape?, hg']) l hl0 (by omega) (by unfold maxLen at hcm; omega) ?_
      intro j x hx
      exact hown.cells (g := g) rfl j (.int .u8 x.toNat) (by simp [Lib.byteCells, hx])
    have fs := freeze_stays w.drew g l.length
    go_enter L.f169, Body.n169_ntmps ρ
    go_wp2
    go_region_o
    all_goals (go_wp2; go_ret; exact ⟨rfl, fs.1, fs.2.1, fs.2.2.1, by rw [fs.2.2.2.1]; exact Nat.le_refl _, fun k _ _ hk => fs.2.2.2.2 k (by simpa [Value.ownBlock] using hk)⟩)

end Go.Th
end

section
/- strings.Builder in the store. -/
set_option linter.unusedSimpArgs false
set_option linter.unusedVariables false
namespace Go.Th
open Go Go.RowKit

def SbAt (T e : TypeId) (S : St) (b : Nat) (g : List Nat) (bs : List UInt8) : Prop :=
  (g = [] ∧ bs = [] ∧ ∃ p, (p = .nilPtr ∨ p = .ptr b 0) ∧ S.get b = some (.obj T 2 [p, .nilSlice])) ∨
  (∃ k c, g = [k] ∧ bs ≠ [] ∧ k ≠ b ∧ S.get b = some (.obj T 2 [.ptr b 0, .slice k 0 bs.length c 1 true]) ∧ S.get k = some (.obj e c (bytesV bs)) ∧ bs.length ≤ c ∧ c ≤ maxLen)

theorem SbAt.fresh {T e : TypeId} {S : St} {b : Nat} (h : S.get b = some (.obj T 2 [.nilPtr, .nilSlice])) : SbAt T e S b [] [] := .inl ⟨rfl, rfl, _, .inl rfl, h⟩
theorem SbAt.upd {T e : TypeId} {S S' : St} {b : Nat} {g D : List Nat} {bs : List UInt8} (h : SbAt T e S b g bs) (u : Upd D S S') (hb : b ∉ D) (hg : ∀ i ∈ g, i ∉ D) : SbAt T e S' b g bs := by
  rcases h with ⟨h1, h2, p, h3, h4⟩ | ⟨k, c, rfl, h2, h3, h4, h5, h6⟩
  · exact .inl ⟨h1, h2, p, h3, u.get h4 hb⟩
  · exact .inr ⟨k, c, rfl, h2, h3, u.get h4 hb, u.get h5 (hg k (by simp)), h6⟩

theorem BlkR.obj_all {m : LM} {L : Loc} {w : World} {t : TypeId} {n : Nat} {vs : List V} (h : BlkR m L w (.obj t n vs)) : L.off = 0 ∧ L.own = true ∧ n = L.size ∧ ∃ cs, w.heap[L.block]? = some (.cells cs t (0, 0)) ∧ cs.size = n ∧ ∀ (j : Nat) (v : V), vs[j]? = some v → ∃ u, cs[j]? = some u ∧ VR m v u := by
  obtain ⟨⟨h1, h2, h3, h4⟩, ⟨h5, h6⟩, cs, h7⟩ := h
  obtain ⟨g1, cs', t', fz', g2, g3, _⟩ := h4 rfl
  rw [h7] at g2
  cases g2
  refine ⟨h5, g1, h6, cs, h7, by omega, fun j v hj => ?_⟩
  obtain ⟨u, hu, r⟩ := h2 j v hj
  refine ⟨u, ?_, r⟩
  simpa [World.cell?, h7, h5] using hu
theorem BlkR.obj_mk {m : LM} {L : Loc} {w : World} {t : TypeId} {vs : List V} {cs : Array Value} (h0 : L.off = 0) (h1 : L.own = true) (hs : cs.size = L.size) (hh : w.heap[L.block]? = some (.cells cs t (0, 0))) (hl : vs.length ≤ cs.size) (hv : ∀ (j : Nat) (v : V), vs[j]? = some v → ∃ u, cs[j]? = some u ∧ VR m v u) : BlkR m L w (.obj t L.size vs) := by
  refine ⟨⟨heap_lt hh, fun j v hj => ?_, fun _ => by omega, fun _ => ⟨h1, cs, t, (0, 0), hh, hs, rfl⟩⟩, ⟨h0, rfl⟩, cs, hh⟩
  obtain ⟨u, hu, r⟩ := hv j v hj
  exact ⟨u, by simpa [World.cell?, hh, h0] using hu, r⟩

theorem two_cells {cs : Array Value} (h : cs.size = 2) {u v : Value} (h0 : cs[0]? = some u) (h1 : cs[1]? = some v) : cs = #[u, v] := by
  apply Array.ext_getElem?
  intro j
  match j with
  | 0 => rw [h0]; rfl
  | 1 => rw [h1]; rfl
  | j + 2 => rw [Array.getElem?_eq_none (by omega), Array.getElem?_eq_none (by simp)]

theorem SbAt.conc {T e : TypeId} {m : LM} {S : St} {base : Nat} {w0 w : World} (hS : Sim m S base w0 w) {b : Nat} {g : List Nat} {bs : List UInt8} (h : SbAt T e S b g bs) :
    ∃ L p v, m b = some L ∧ L.off = 0 ∧ L.own = true ∧ L.size = 2 ∧ base ≤ L.block ∧ SbW T e L.block p v (Lib.byteCells bs) w ∧ (v = .slice none 0 0 ∨ bs ≠ []) ∧
      ((g = [] ∧ v.ownBlock = none) ∨ ∃ k Lk, g = [k] ∧ m k = some Lk ∧ v = .slice (some ⟨Lk.block, 0, none⟩) bs.length Lk.size ∧ Lk.off = 0 ∧ Lk.own = true ∧ base ≤ Lk.block) := by
  rcases h with ⟨rfl, rfl, p, hp, hb⟩ | ⟨k, c, rfl, hne, hkb, hb, hk, hle, hmx⟩
  · obtain ⟨L, h1, h2, h3⟩ := hS.blk _ _ hb
    obtain ⟨o0, o1, o2, cs, o3, o4, o5⟩ := BlkR.obj_all h2
    obtain ⟨u0, a0, r0⟩ := o5 0 _ rfl
    obtain ⟨u1, a1, r1⟩ := o5 1 _ rfl
    obtain rfl := two_cells o4 a0 a1
    simp only [VR] at r1
    subst r1
    refine ⟨L, u0, _, h1, o0, o1, o2.symm, h3 rfl, ⟨o3, ?_, ⟨rfl, .inl ⟨rfl, rfl⟩⟩, by simp [Value.ownBlock]⟩, .inl rfl, .inl ⟨rfl, rfl⟩⟩
    rcases hp with rfl | rfl
    · simp only [VR] at r0; exact .inl r0
    · simp only [VR] at r0
      obtain ⟨L', k1, rfl⟩ := r0
      rw [h1] at k1; cases k1
      exact .inr (by rw [o0])
  · obtain ⟨L, h1, h2, h3⟩ := hS.blk _ _ hb
    obtain ⟨o0, o1, o2, cs, o3, o4, o5⟩ := BlkR.obj_all h2
    obtain ⟨u0, a0, r0⟩ := o5 0 _ rfl
    obtain ⟨u1, a1, r1⟩ := o5 1 _ rfl
    obtain rfl := two_cells o4 a0 a1
    simp only [VR] at r0 r1
    obtain ⟨L', k1, rfl⟩ := r0
    rw [h1] at k1; cases k1
    obtain ⟨Lk, x, cap', k2, rfl, ok⟩ := r1
    obtain ⟨Lk', q1, q2, q3⟩ := hS.blk _ _ hk
    rw [k2] at q1; cases q1
    obtain ⟨p0, p1, p2, kcs, p3, p4, p5⟩ := BlkR.obj_all q2
    have hc : cap' = c := ok.tight rfl
    subst hc
    have hpos : 0 < bs.length := List.length_pos_iff.mpr hne
    have hx := ok.place (by omega)
    rw [p0] at hx
    subst hx
    have hap : Lk.block ≠ L.block := hS.apart k b _ _ Lk L hkb hk hb rfl k2 h1
    refine ⟨L, _, _, h1, o0, o1, o2.symm, h3 rfl, ⟨o3, .inr (by rw [o0]), ⟨by simp [Lib.byteCells_length], .inr ⟨Lk.block, cap', kcs, by simp [Lib.byteCells_length], Nat.zero_le _, p3, by simpa [Lib.byteCells_length] using hle, hmx, by omega, ?_⟩⟩, by simp only [Value.ownBlock, ne_eq, Option.some.injEq]; exact hap⟩, .inr hne, .inr ⟨k, Lk, rfl, k2, by rw [← p2], p0, p1, q3 rfl⟩⟩
    rw [Lib.byteCells_length, Nat.mul_one]
    apply List.ext_getElem?
    intro j
    rw [List.getElem?_take]
    by_cases hj : j < bs.length
    · rw [if_pos hj]
      obtain ⟨u, hu, r⟩ := p5 j (.int .u8 (bs[j].toNat : Nat)) (by simp [bytesV, hj])
      simp only [VR] at r
      subst r
      simp [Lib.byteCells, hj, ← Array.getElem?_toList] at hu ⊢
      exact hu
    · rw [if_neg hj, List.getElem?_eq_none (by rw [Lib.byteCells_length]; omega)]

end Go.Th
end

section
/- strings.Builder in the store: behind a write. -/
set_option linter.unusedSimpArgs false
set_option linter.unusedVariables false
set_option maxHeartbeats 1000000
namespace Go.Th
open Go Go.RowKit

theorem SbF.below {b : Nat} {v : Value} {w w' : World} {base : Nat} (h : SbF b v w w') (hb : base ≤ b) (hv : ∀ q, v.ownBlock = some q → base ≤ q) (hs : base ≤ w.heap.size) : Below base w w' :=
  ⟨h.os, h.tape, h.output, h.size, fun k hk => h.block k (by omega) (by omega) fun e => by have := hv k e.symm; omega⟩

theorem row_cells {e : TypeId} {w : World} {q n cap : Nat} {bs : List UInt8} (h : w.ownsRow 0 e 1 (.slice (some ⟨q, 0, none⟩) n cap) bs.length (Lib.byteCells bs)) : n = bs.length ∧ bs.length ≤ cap ∧ cap ≤ maxLen ∧ ∃ cur, w.heap[q]? = some (.cells cur e (0, 0)) ∧ cur.size = cap ∧ ∀ (j : Nat) (x : V), (bytesV bs)[j]? = some x → ∃ u, cur[j]? = some u ∧ ∀ m, VR m x u := by
  rcases h.2 with ⟨h0, _⟩ | ⟨g, cap', cur, h1, _, h2, h3, h4, h5, h6⟩
  · simp at h0
  · simp only [Value.slice.injEq, Option.some.injEq, Addr.mk.injEq, and_true] at h1
    obtain ⟨rfl, rfl, rfl⟩ := h1
    refine ⟨rfl, h3, h4, cur, h2, by omega, fun j x hx => ?_⟩
    have hj : j < bs.length := by
      rcases Nat.lt_or_ge j bs.length with h' | h'
      · exact h'
      · rw [List.getElem?_eq_none (by rw [bytesV_length]; exact h')] at hx; cases hx
    have e1 : x = .int .u8 (bs[j].toNat : Nat) := by
      rw [bytesV_get hj] at hx; cases hx; rfl
    have e2 : (cur.toList.take (bs.length * 1))[j]? = (Lib.byteCells bs)[j]? := by rw [h6]
    rw [Nat.mul_one, List.getElem?_take, if_pos hj] at e2
    refine ⟨.int .u8 (bs[j].toNat : Nat), ?_, fun m => by subst e1; simp only [VR]⟩
    rw [← Array.getElem?_toList, e2]
    simp [Lib.byteCells, hj]

theorem SbAt.after {T e : TypeId} {m : LM} {S : St} {base : Nat} {w0 w w' : World} (hS : Sim m S base w0 w) (hw : S.Wf) {b : Nat} {g : List Nat} {bs bs' : List UInt8} (h : SbAt T e S b g bs) {L : Loc} {v v' : Value} {n : Nat} (hL : m b = some L) (o0 : L.off = 0) (o1 : L.own = true) (o2 : L.size = 2) (o3 : base ≤ L.block)
    (hg : (g = [] ∧ v.ownBlock = none) ∨ ∃ k Lk, g = [k] ∧ m k = some Lk ∧ v = .slice (some ⟨Lk.block, 0, none⟩) bs.length Lk.size ∧ Lk.off = 0 ∧ Lk.own = true ∧ base ≤ Lk.block)
    (hne : bs' ≠ []) (hW : SbW T e L.block (.pointer (some ⟨L.block, 0, none⟩)) v' (Lib.byteCells bs') w') (hF : SbF L.block v w w') (hwh : SbWh v v' bs.length n w.heap.size) :
    ∃ S' g' m', SbAt T e S' b g' bs' ∧ Upd (b :: g) S S' ∧ (∀ i ∈ g', i ∈ g ∨ S.next ≤ i) ∧ Ext m m' ∧ Sim m' S' base w0 w' := by
  obtain ⟨vs, hb⟩ : ∃ vs, S.get b = some (.obj T 2 vs) := by
    rcases h with ⟨_, _, p, _, h4⟩ | ⟨k, c, _, _, _, h4, _⟩ <;> exact ⟨_, h4⟩
  have hk : ∀ k, g = [k] → k ≠ b ∧ ∃ c, S.get k = some (.obj e c (bytesV bs)) := fun k hk => by
    rcases h with ⟨h1, _⟩ | ⟨k', c, h1, _, h3, _, h5, _⟩
    · rw [h1] at hk; cases hk
    · rw [h1] at hk; cases hk
      exact ⟨h3, c, h5⟩
  have hlb := hw.lt hb
  have hown : ∀ q, v.ownBlock = some q → base ≤ q := fun q hq => by
    rcases hg with ⟨_, h2⟩ | ⟨k, Lk, _, _, rfl, _, _, h6⟩
    · rw [h2] at hq; cases hq
    · simp only [Value.ownBlock, Option.some.injEq] at hq
      omega
  have hbel : Below base w0 w' := hS.below.trans (hF.below o3 hown hS.base_le)
  have hpos : 0 < bs'.length := List.length_pos_iff.mpr hne
  have hrow := hW.own
  rw [Lib.byteCells_length] at hrow
  have hself : ∀ m', m' b = some L → VR m' (.ptr b 0) (.pointer (some ⟨L.block, 0, none⟩)) := fun m' hm' => by
    simp only [VR]
    exact ⟨L, hm', by rw [o0]⟩
  rcases hwh with ⟨q, cap, hv, hv'⟩ | ⟨q, hq, hle⟩
  · -- the row lies where it lay
    subst hv hv'
    rcases hg with ⟨_, h2⟩ | ⟨k, Lk, rfl, hLk, hvk, k0, k1, k2⟩
    · simp [Value.ownBlock] at h2
    · simp only [Value.slice.injEq, Option.some.injEq, Addr.mk.injEq, and_true, true_and] at hvk
      obtain ⟨rfl, rfl⟩ := hvk
      obtain ⟨hkb, c0, hgk⟩ := hk k rfl
      have hlk := hw.lt hgk
      obtain ⟨en, r1, r2, cur, r3, r4, r5⟩ := row_cells hrow
      have hS' : Sim m ((S.put b (some (.obj T 2 [.ptr b 0, .slice k 0 bs'.length Lk.size 1 true]))).put k (some (.obj e Lk.size (bytesV bs')))) base w0 w' := by
        refine hS.except [b, k] (fun i hi => ?_) hbel hF.size (fun x hx hd => ?_) (fun i hi => ?_) rfl (fun i hi b' hb' => ?_)
        · simp only [List.mem_cons, List.not_mem_nil, or_false] at hi
          rcases hi with rfl | rfl
          · exact ⟨_, hb, rfl⟩
          · exact ⟨_, hgk, rfl⟩
        · refine hF.block x hx (fun e => hd b (by simp) L hL e.symm) fun e => ?_
          simp only [Value.ownBlock, Option.some.injEq] at e
          exact hd k (by simp) Lk hLk e.symm
        · simp only [List.mem_cons, List.not_mem_nil, or_false, not_or] at hi
          rw [St.get_put, if_neg hi.2, St.get_put, if_neg hi.1]
        · simp only [List.mem_cons, List.not_mem_nil, or_false] at hi
          rcases hi with rfl | rfl
          · rw [St.get_put, if_neg (fun e => hkb e.symm), St.get_put, if_pos rfl] at hb'
            cases hb'
            refine ⟨rfl, L, hL, ?_⟩
            rw [← o2]
            refine BlkR.obj_mk o0 o1 (by simp [o2]) hW.hb (by simp) fun j x hx => ?_
            match j, hx with
            | 0, hx => cases hx; exact ⟨_, rfl, hself m hL⟩
            | 1, hx =>
              cases hx
              refine ⟨Value.slice (some ⟨Lk.block, 0, none⟩) (bs.length + n) Lk.size, rfl, ?_⟩
              simp only [VR]
              exact ⟨Lk, ⟨Lk.block, 0, none⟩, Lk.size, hLk, by rw [en], ⟨r1, Nat.le_refl _, fun _ => rfl, fun _ => by rw [k0], fun _ => rfl, fun _ _ => by omega, fun _ h1 _ => by cases h1⟩⟩
            | j + 2, hx => simp at hx
          · rw [St.get_put, if_pos rfl] at hb'
            cases hb'
            refine ⟨rfl, Lk, hLk, BlkR.obj_mk k0 k1 (by omega) r3 (by rw [bytesV_length]; omega) fun j x hx => ?_⟩
            obtain ⟨u, hu, r⟩ := r5 j x hx
            exact ⟨u, hu, r m⟩
      refine ⟨_, [k], m, .inr ⟨k, Lk.size, rfl, hne, hkb, by rw [St.get_put, if_neg (fun e => hkb e.symm), St.get_put, if_pos rfl], by rw [St.get_put, if_pos rfl], r1, r2⟩, ?_, fun i hi => .inl hi, Ext.refl m, hS'⟩
      exact ((Upd.refl hw (b :: [k])).put hlb (.inr (by simp)) _).put hlk (.inr (by simp)) _
  · -- the row is new
    obtain ⟨cap, nn, rfl⟩ : ∃ cap nn, v' = .slice (some ⟨q, 0, none⟩) nn cap := by
      rcases hrow.2 with ⟨_, h0⟩ | ⟨g0, cap, cur, h1, _⟩
      · omega
      · rw [h1] at hq
        simp only [Value.ownBlock, Option.some.injEq] at hq
        subst hq
        exact ⟨cap, _, h1⟩
    obtain ⟨en, r1, r2, cur, r3, r4, r5⟩ := row_cells hrow
    obtain ⟨S1, s1, s2, s3, s4, hS1⟩ : ∃ S1 : St, S1.next = S.next ∧ S1.get b = some (.dead 2) ∧ (∀ i, i ≠ b → S1.get i = none ∨ S1.get i = S.get i) ∧ Upd (b :: g) S S1 ∧ Sim m S1 base w0 w' := by
      rcases hg with ⟨rfl, h2⟩ | ⟨k, Lk, rfl, hLk, hvk, k0, k1, k2⟩
      · refine ⟨S.put b (some (.dead 2)), rfl, by rw [St.get_put, if_pos rfl], fun i hi => .inr (by rw [St.get_put, if_neg hi]), (Upd.refl hw _).put hlb (.inr (by simp)) _, ?_⟩
        refine hS.except [b] (fun i hi => ?_) hbel hF.size (fun x hx hd => hF.block x hx (fun e => hd b (by simp) L hL e.symm) (by rw [h2]; simp)) (fun i hi => ?_) rfl (fun i hi b' hb' => ?_)
        · simp only [List.mem_singleton] at hi; subst hi; exact ⟨_, hb, rfl⟩
        · simp only [List.mem_singleton] at hi; rw [St.get_put, if_neg hi]
        · simp only [List.mem_singleton] at hi
          subst hi
          rw [St.get_put, if_pos rfl] at hb'
          cases hb'
          exact ⟨rfl, L, hL, o1, by omega, _, _, _, hW.hb, by simp [o2], rfl⟩
      · obtain ⟨hkb, c0, hgk⟩ := hk k rfl
        have hlk := hw.lt hgk
        refine ⟨(S.put b (some (.dead 2))).put k none, rfl, by rw [St.get_put, if_neg (fun e => hkb e.symm), St.get_put, if_pos rfl], fun i hi => ?_, ((Upd.refl hw _).put hlb (.inr (by simp)) _).put hlk (.inr (by simp)) _, ?_⟩
        · rw [St.get_put, St.get_put]
          by_cases hik : i = k
          · rw [if_pos hik]; exact .inl rfl
          · rw [if_neg hik, if_neg hi]; exact .inr rfl
        · refine hS.except [b, k] (fun i hi => ?_) hbel hF.size (fun x hx hd => hF.block x hx (fun e => hd b (by simp) L hL e.symm) fun e => ?_) (fun i hi => ?_) rfl (fun i hi b' hb' => ?_)
          · simp only [List.mem_cons, List.not_mem_nil, or_false] at hi
            rcases hi with rfl | rfl
            · exact ⟨_, hb, rfl⟩
            · exact ⟨_, hgk, rfl⟩
          · subst hvk
            simp only [Value.ownBlock, Option.some.injEq] at e
            exact hd k (by simp) Lk hLk e.symm
          · simp only [List.mem_cons, List.not_mem_nil, or_false, not_or] at hi
            rw [St.get_put, if_neg hi.2, St.get_put, if_neg hi.1]
          · simp only [List.mem_cons, List.not_mem_nil, or_false] at hi
            rcases hi with rfl | rfl
            · rw [St.get_put, if_neg (fun e => hkb e.symm), St.get_put, if_pos rfl] at hb'
              cases hb'
              exact ⟨rfl, L, hL, o1, by omega, _, _, _, hW.hb, by simp [o2], rfl⟩
            · rw [St.get_put, if_pos rfl] at hb'
              cases hb'
    -- the new row comes in
    have hR : BlkR (m.put S1.next ⟨q, 0, cap, true⟩) ⟨q, 0, cap, true⟩ w' (.obj e cap (bytesV bs')) := by
      refine BlkR.obj_mk (L := ⟨q, 0, cap, true⟩) rfl rfl r4 r3 (by rw [bytesV_length]; omega) fun j x hx => ?_
      obtain ⟨u, hu, r⟩ := r5 j x hx
      exact ⟨u, hu, r _⟩
    have hq2 : base ≤ q := Nat.le_trans hS.base_le hle
    have hS2 := hS1.adopt (L := ⟨q, 0, cap, true⟩) (fun j b' L' hj hL' => ?_) hq2 hR
    · have hx : Ext m (m.put S1.next ⟨q, 0, cap, true⟩) := LM.ext_put _ (hS1.freshM _ (Nat.le_refl _))
      have hbn : b ≠ S1.next := by omega
      have hL2 := hx _ _ hL
      have hS3 : Sim (m.put S1.next ⟨q, 0, cap, true⟩) ((S1.new (.obj e cap (bytesV bs'))).put b (some (.obj T 2 [.ptr b 0, .slice S1.next 0 bs'.length cap 1 true]))) base w0 w' := by
        refine hS2.except [b] (fun i hi => ?_) hS2.below (Nat.le_refl _) (fun _ _ _ => rfl) (fun i hi => ?_) rfl (fun i hi b' hb' => ?_)
        · simp only [List.mem_singleton] at hi
          subst hi
          exact ⟨.dead 2, by rw [St.get_new, if_neg hbn]; exact s2, rfl⟩
        · simp only [List.mem_singleton] at hi
          rw [St.get_put, if_neg hi]
        · simp only [List.mem_singleton] at hi
          subst hi
          rw [St.get_put, if_pos rfl] at hb'
          cases hb'
          refine ⟨rfl, L, hL2, ?_⟩
          rw [← o2]
          refine BlkR.obj_mk o0 o1 (by simp [o2]) hW.hb (by simp) fun j x hx => ?_
          match j, hx with
          | 0, hx => cases hx; exact ⟨_, rfl, hself _ hL2⟩
          | 1, hx =>
            cases hx
            refine ⟨Value.slice (some ⟨q, 0, none⟩) nn cap, rfl, ?_⟩
            simp only [VR]
            exact ⟨⟨q, 0, cap, true⟩, ⟨q, 0, none⟩, cap, LM.put_same m _ _, by rw [en], ⟨r1, Nat.le_refl _, fun _ => rfl, fun _ => rfl, fun _ => rfl, fun _ _ => by simp, fun _ h1 _ => by cases h1⟩⟩
          | j + 2, hx => simp at hx
      refine ⟨_, [S1.next], _, .inr ⟨S1.next, cap, rfl, hne, fun e => hbn e.symm, by rw [St.get_put, if_pos rfl], by rw [St.get_put, if_neg (fun e => hbn e.symm), St.get_new, if_pos rfl], r1, r2⟩, ?_, fun i hi => .inr (by simp only [List.mem_singleton] at hi; omega), hx, hS3⟩
      exact (s4.new _).put (by simp only [St.next_new]; omega) (.inr (by simp)) _
    · have old : L'.block < w.heap.size := by
        by_cases hjb : j = b
        · subst hjb
          rw [hL] at hL'; cases hL'
          obtain ⟨L2, g1, g2, _⟩ := hS.blk _ _ hb
          rw [hL] at g1; cases g1
          exact g2.lt
        · rcases s3 j hjb with h' | h'
          · rw [h'] at hj; cases hj
          · rw [h'] at hj
            obtain ⟨L2, g1, g2, _⟩ := hS.blk _ _ hj
            rw [hL'] at g1; cases g1
            exact g2.lt
      show L'.block ≠ q
      omega

end Go.Th
end

section
/- strings.Builder in the store: its methods as calls. -/
set_option linter.unusedSimpArgs false
set_option linter.unusedVariables false
set_option maxHeartbeats 1000000
namespace Go.Th
open Go Go.RowKit

structure SbOk (P : Program) (T e : TypeId) (fb fs ft : FuncId) : Prop where
  lb : fb < P.funcs.size
  ls : fs < P.funcs.size
  lt : ft < P.funcs.size
  wb : ∀ {b : Nat} {p v : Value} {bs : List Value} (c : Int) {w : World}, SbW T e b p v bs w → bs.length + 1 ≤ 140737488355328 →
    Calls P fb #[.pointer (some ⟨b, 0, none⟩), .int .u8 c] w fun x w' => x = .returned .nilIface ∧ ∃ v', SbW T e b (.pointer (some ⟨b, 0, none⟩)) v' (bs ++ [.int .u8 c]) w' ∧ SbF b v w w' ∧ SbWh v v' bs.length 1 w.heap.size
  ws : ∀ {b : Nat} {p v : Value} {bs : List Value} (s : ByteArray) (_ : 0 < s.size) {w : World}, SbW T e b p v bs w → bs.length + s.size ≤ 140737488355328 →
    Calls P fs #[.pointer (some ⟨b, 0, none⟩), .string s] w fun x w' => x = .returned (.tuple #[.int .i64 s.size, .nilIface]) ∧ ∃ v', SbW T e b (.pointer (some ⟨b, 0, none⟩)) v' (bs ++ Lib.strCells s) w' ∧ SbF b v w w' ∧ SbWh v v' bs.length s.size w.heap.size
  st : ∀ {b : Nat} {p v : Value} {l : List UInt8} {w : World}, SbW T e b p v (Lib.byteCells l) w → (v = .slice none 0 0 ∨ l ≠ []) →
    Calls P ft #[.pointer (some ⟨b, 0, none⟩)] w fun x w' => x = .returned (.string ⟨l.toArray⟩) ∧ SbF b v w w'

theorem vr_one {m : LM} {v : V} {args : Array Value} (h : VRs m [v] args.toList) : ∃ u, args = #[u] ∧ VR m v u := by
  simp only [VRs] at h
  obtain ⟨u, us, h1, h2, rfl⟩ := h
  obtain ⟨l⟩ := args
  simp only at h1
  exact ⟨u, by rw [h1], h2⟩
theorem vr_two {m : LM} {v v' : V} {args : Array Value} (h : VRs m [v, v'] args.toList) : ∃ u u', args = #[u, u'] ∧ VR m v u ∧ VR m v' u' := by
  simp only [VRs] at h
  obtain ⟨u, us, h1, h2, u', us', rfl, h3, rfl⟩ := h
  obtain ⟨l⟩ := args
  simp only at h1
  exact ⟨u, u', by rw [h1], h2, h3⟩
theorem vr_self {m : LM} {b : Nat} {L : Loc} (hL : m b = some L) (h0 : L.off = 0) {u : Value} (h : VR m (.ptr b 0) u) : u = .pointer (some ⟨L.block, 0, none⟩) := by
  simp only [VR] at h
  obtain ⟨L', h1, rfl⟩ := h
  rw [hL] at h1; cases h1
  rw [h0]

variable {P : Program} {T e : TypeId} {fb fs ft : FuncId}

theorem SbOk.writeByte (hO : SbOk P T e fb fs ft) {S : St} (hw : S.Wf) {b : Nat} {g : List Nat} {bs : List UInt8} (hs : SbAt T e S b g bs) (hl : bs.length + 1 ≤ 140737488355328) (c : UInt8) {K : V → St → Prop}
    (hk : ∀ S' g', SbAt T e S' b g' (bs ++ [c]) → Upd (b :: g) S S' → (∀ i ∈ g', i ∈ g ∨ S.next ≤ i) → K .nilIface S') : CallA P fb [.ptr b 0, .int .u8 (c.toNat : Nat)] S (retT [.one .any] K) := by
  intro m base w0 w args hS hv
  obtain ⟨u, u', rfl, hu, hu'⟩ := vr_two hv
  obtain ⟨L, p, v, hL, o0, o1, o2, o3, hW, hn, hg⟩ := hs.conc hS
  obtain rfl := vr_self hL o0 hu
  obtain rfl := hu'.int_inv
  refine CallsX.of hO.lb ((hO.wb (c.toNat : Nat) hW (by rw [Lib.byteCells_length]; exact hl)).mono ?_)
  rintro x w' ⟨rfl, v', hW', hF, hwh⟩
  have e1 : Lib.byteCells bs ++ [.int .u8 (c.toNat : Nat)] = Lib.byteCells (bs ++ [c]) := by simp [Lib.byteCells]
  rw [e1] at hW'
  rw [Lib.byteCells_length] at hwh
  obtain ⟨S', g', m', h1, h2, h3, h4, h5⟩ := hs.after hS hw hL o0 o1 o2 o3 hg (by simp) hW' hF hwh
  exact ⟨_, S', m', ⟨_, rfl, hk S' g' h1 h2 h3⟩, h4, h5, _, rfl, by show VR m' .nilIface _; simp only [VR]⟩

theorem SbOk.writeString (hO : SbOk P T e fb fs ft) {S : St} (hw : S.Wf) {b : Nat} {g : List Nat} {bs : List UInt8} (hs : SbAt T e S b g bs) {s : List UInt8} (h0 : s ≠ []) (hl : bs.length + s.length ≤ 140737488355328) {K : Int → V → St → Prop}
    (hk : ∀ S' g', SbAt T e S' b g' (bs ++ s) → Upd (b :: g) S S' → (∀ i ∈ g', i ∈ g ∨ S.next ≤ i) → K s.length .nilIface S') : CallA P fs [.ptr b 0, .str s] S (retT [.one (.int .i64), .one .any] K) := by
  intro m base w0 w args hS hv
  obtain ⟨u, u', rfl, hu, hu'⟩ := vr_two hv
  obtain ⟨L, p, v, hL, o0, o1, o2, o3, hW, hn, hg⟩ := hs.conc hS
  obtain rfl := vr_self hL o0 hu
  obtain rfl := hu'.str_inv
  have hsz : (⟨s.toArray⟩ : ByteArray).size = s.length := rfl
  refine CallsX.of hO.ls ((hO.ws ⟨s.toArray⟩ (by rw [hsz]; exact List.length_pos_iff.mpr h0) hW (by rw [Lib.byteCells_length, hsz]; exact hl)).mono ?_)
  rintro x w' ⟨rfl, v', hW', hF, hwh⟩
  have e1 : Lib.byteCells bs ++ Lib.strCells ⟨s.toArray⟩ = Lib.byteCells (bs ++ s) := by simp [Lib.byteCells, Lib.strCells]
  rw [e1] at hW'
  rw [Lib.byteCells_length] at hwh
  obtain ⟨S', g', m', h1, h2, h3, h4, h5⟩ := hs.after hS hw hL o0 o1 o2 o3 hg (by simp [h0]) hW' hF hwh
  exact ⟨_, S', m', ⟨_, _, rfl, hk S' g' h1 h2 h3⟩, h4, h5, _, rfl, by show VR m' (.tuple [.int .i64 s.length, .nilIface]) _; simp only [VR]; exact ⟨_, rfl, by simp only [VRs, VR]; exact ⟨_, _, rfl, rfl, _, _, rfl, rfl, rfl⟩⟩⟩

theorem SbOk.string (hO : SbOk P T e fb fs ft) {S : St} (hw : S.Wf) {b : Nat} {g : List Nat} {bs : List UInt8} (hs : SbAt T e S b g bs) {K : List UInt8 → St → Prop} (hk : ∀ S', Upd (b :: g) S S' → K bs S') : CallA P ft [.ptr b 0] S (retT [.one .str] K) := by
  intro m base w0 w args hS hv
  obtain ⟨u, rfl, hu⟩ := vr_one hv
  obtain ⟨L, p, v, hL, o0, o1, o2, o3, hW, hn, hg⟩ := hs.conc hS
  obtain rfl := vr_self hL o0 hu
  refine CallsX.of hO.lt ((hO.st hW hn).mono ?_)
  rintro x w' ⟨rfl, hF⟩
  obtain ⟨vs, hb⟩ : ∃ vs, S.get b = some (.obj T 2 vs) := by
    rcases hs with ⟨_, _, p, _, h4⟩ | ⟨k, c, _, _, _, h4, _⟩ <;> exact ⟨_, h4⟩
  have hlb := hw.lt hb
  have hbel : Below base w0 w' := by
    refine hS.below.trans (hF.below o3 (fun q hq => ?_) hS.base_le)
    rcases hg with ⟨_, h2⟩ | ⟨k, Lk, _, _, rfl, _, _, h6⟩
    · rw [h2] at hq; cases hq
    · simp only [Value.ownBlock, Option.some.injEq] at hq
      omega
  obtain ⟨S1, s4, hS1⟩ : ∃ S1 : St, Upd (b :: g) S S1 ∧ Sim m S1 base w0 w' := by
    rcases hg with ⟨rfl, h2⟩ | ⟨k, Lk, rfl, hLk, hvk, k0, k1, k2⟩
    · refine ⟨S.put b none, (Upd.refl hw _).put hlb (.inr (by simp)) _, ?_⟩
      refine hS.except [b] (fun i hi => ?_) hbel hF.size (fun x hx hd => hF.block x hx (fun e => hd b (by simp) L hL e.symm) (by rw [h2]; simp)) (fun i hi => ?_) rfl (fun i hi b' hb' => ?_)
      · simp only [List.mem_singleton] at hi; subst hi; exact ⟨_, hb, rfl⟩
      · simp only [List.mem_singleton] at hi; rw [St.get_put, if_neg hi]
      · simp only [List.mem_singleton] at hi
        subst hi
        rw [St.get_put, if_pos rfl] at hb'
        cases hb'
    · obtain ⟨hkb, c0, hgk⟩ : k ≠ b ∧ ∃ c, S.get k = some (.obj e c (bytesV bs)) := by
        rcases hs with ⟨h1, _⟩ | ⟨k', c, h1, _, h3, _, h5, _⟩
        · cases h1
        · cases h1; exact ⟨h3, c, h5⟩
      have hlk := hw.lt hgk
      refine ⟨(S.put b none).put k none, ((Upd.refl hw _).put hlb (.inr (by simp)) _).put hlk (.inr (by simp)) _, ?_⟩
      refine hS.except [b, k] (fun i hi => ?_) hbel hF.size (fun x hx hd => hF.block x hx (fun e => hd b (by simp) L hL e.symm) fun e => ?_) (fun i hi => ?_) rfl (fun i hi b' hb' => ?_)
      · simp only [List.mem_cons, List.not_mem_nil, or_false] at hi
        rcases hi with rfl | rfl
        · exact ⟨_, hb, rfl⟩
        · exact ⟨_, hgk, rfl⟩
      · subst hvk
        simp only [Value.ownBlock, Option.some.injEq] at e
        exact hd k (by simp) Lk hLk e.symm
      · simp only [List.mem_cons, List.not_mem_nil, or_false, not_or] at hi
        rw [St.get_put, if_neg hi.2, St.get_put, if_neg hi.1]
      · simp only [List.mem_cons, List.not_mem_nil, or_false] at hi
        rcases hi with rfl | rfl
        · rw [St.get_put, if_neg (fun e => hkb e.symm), St.get_put, if_pos rfl] at hb'
          cases hb'
        · rw [St.get_put, if_pos rfl] at hb'
          cases hb'
  exact ⟨_, S1, m, ⟨_, rfl, hk S1 s4⟩, Ext.refl m, hS1, _, rfl, by show VR m (.str bs) _; simp only [VR]⟩

theorem SbAt.len {S : St} {b : Nat} {g : List Nat} {bs : List UInt8} (hs : SbAt T e S b g bs) : ∃ v, loadV S (.ptr b 1) = some v ∧ lenV S 2 v = some (.int .i64 bs.length) := by
  rcases hs with ⟨_, rfl, p, _, h4⟩ | ⟨k, c, _, _, _, h4, _⟩
  · exact ⟨.nilSlice, by simp [loadV, St.load1, h4], rfl⟩
  · exact ⟨_, by simp only [loadV, St.load1, h4]; rfl, rfl⟩

end Go.Th
end

section
/- json: blanks, words, bytes taken off. -/
set_option linter.unusedSimpArgs false
set_option linter.unusedVariables false
set_option maxHeartbeats 1000000
namespace Go.Th.L
open Go Go.Th Go.Th.Pure
variable {P : Program} {N : Nat → Nat}

def LeftAt (S : St) (i : Nat) (s : Bs8) : Prop := S.get i = some (.cells [.str s] true)
def TrimJ (P : Program) (f : FuncId) : Prop := ∀ {s : Bs8} {S : St} {K : Bs8 → St → Prop}, K (blanksJ s) S → CallA P f [.str s, .str [32, 9, 10, 13]] S (retT [.one .str] K)
def CutJ (P : Program) (f : FuncId) : Prop := ∀ {s w : Bs8} {S : St} {K : Bs8 → Bool → St → Prop}, K ((comesJ w s).getD s) (comesJ w s).isSome S → CallA P f [.str s, .str w] S (retT [.one .str, .one .bool] K)
def wrongV (N : Nat → Nat) : V := .iface (N Fn.ty_json_wrong) (.agg [])

theorem left_st {S : St} (hw : S.Wf) {i : Nat} {s t : Bs8} (h : LeftAt S i s) {K : St → Prop} (hk : ∀ S', Upd [i] S S' → LeftAt S' i t → S'.next = S.next → K S') : ifS (storeV S 1 (.ptr i 0) (.str t)) K :=
  st_mk hw h rfl (by simp [V.cells]) (by simp [V.cells, V.one]) fun S' u m n => hk S' u (by unfold LeftAt; rw [m]; rfl) n

theorem json_reading_blanks.spec (hF : json_reading_blanks.Ok P N) (hT : TrimJ P (N Fn.strings_TrimLeft)) {S : St} (hw : S.Wf) {i : Nat} {s : Bs8} (h : LeftAt S i s) {K : St → Prop} (hk : ∀ S', Upd [i] S S' → LeftAt S' i (blanksJ s) → S'.next = S.next → K S') :
    CallA P (N Fn.json_reading_blanks) [.ptr i 0] S (retT [] K) :=
  json_reading_blanks.run hF ⟨rfl, ifS_mk (a := .ptr i 0) rfl ⟨s, ld h rfl, hT ⟨rfl, ifS_mk (a := .ptr i 0) rfl (left_st hw h hk)⟩⟩⟩

theorem json_reading_comes.spec (hF : json_reading_comes.Ok P N) (hC : CutJ P (N Fn.strings_CutPrefix)) {S : St} (hw : S.Wf) {i : Nat} {s w : Bs8} (h : LeftAt S i s) {K : Bool → St → Prop} (hk : ∀ S', Upd [i] S S' → LeftAt S' i ((comesJ w s).getD s) → S'.next = S.next → K (comesJ w s).isSome S') :
    CallA P (N Fn.json_reading_comes) [.ptr i 0, .str w] S (retT [.one .bool] K) :=
  json_reading_comes.run hF ⟨rfl, ifS_mk (a := .ptr i 0) rfl ⟨s, ld h rfl, hC ⟨rfl, ifS_mk (a := .ptr i 0) rfl (left_st hw h hk)⟩⟩⟩

theorem json_is.spec (hF : json_is.Ok P N) {b : Bool} {S : St} {KP : V → St → Prop} {K : St → Prop} (h0 : b = false → KP (wrongV N) S) (h1 : b = true → K S) : CallA P (N Fn.json_is) [.bool b] S (retK [] KP K) :=
  json_is.run hF (by cases b with
    | true => exact ifC_ff rfl (h1 rfl)
    | false => exact ifC_tt rfl (h0 rfl))

theorem json_reading_one.spec (hF : json_reading_one.Ok P N) (hI : json_is.Ok P N) {S : St} (hw : S.Wf) {i : Nat} {s : Bs8} (h : LeftAt S i s) {KP : V → St → Prop} {K : Int → St → Prop} (h0 : s = [] → KP (wrongV N) S)
    (h1 : ∀ c r, s = c :: r → ∀ S', Upd [i] S S' → LeftAt S' i r → S'.next = S.next → K (c.toNat : Nat) S') : CallA P (N Fn.json_reading_one) [.ptr i 0] S (retK [.one (.int .u8)] KP K) := by
  refine json_reading_one.run hF ⟨rfl, ifS_mk (a := .ptr i 0) rfl ⟨s, ld h rfl, json_is.spec hI (fun hb => h0 (by simpa using hb)) fun hb => ?_⟩⟩
  match s, h, h1, hb with
  | c :: r, h, h1, _ =>
    have hs : sliceStrV (.str (c :: r)) (some (.int .i64 1)) none = some (.str r) := by
      have := bnds_l (len := (c :: r).length) (cap := (c :: r).length) (l := 1) (k := .i64) (by simp)
      simp only [sliceStrV]
      rw [show ((1 : Int)) = ((1 : Nat) : Int) from rfl, this]
      simp
    exact ⟨rfl, ifS_mk (a := .ptr i 0) rfl ⟨_, ld h rfl, _, idx_str (s := c :: r) (j := 0) (by simp), rfl, ifS_mk (a := .ptr i 0) rfl ⟨_, ld h rfl, r, hs, rfl, ifS_mk (a := .ptr i 0) rfl (left_st hw h (h1 c r rfl))⟩⟩⟩

end Go.Th.L
end

section
/- json: a text taken off. -/
set_option linter.unusedSimpArgs false
set_option linter.unusedVariables false
set_option maxHeartbeats 2000000
namespace Go.Th.L
open Go Go.Th Go.Th.Pure
variable {P : Program} {N : Nat → Nat}

def HexW (P : Program) (f : FuncId) (gs : List Nat) : Prop := ∀ {a b : UInt8} {S : St} {K : Int → V → St → Prop}, S.Wf → GV gs S → (hexJ a = none ∨ hexJ b = none → ∀ (v : Int) (x : V) (S' : St), Grow S S' → eqV 5 [] x .nilIface = some false → K v x S') →
  (∀ h l : Nat, hexJ a = some h → hexJ b = some l → ∀ S', Grow S S' → K (16 * h + l : Nat) .nilIface S') → CallA P f [.str [a, b], .int .i64 16, .int .i64 8] S (retT [.one (.int .u64), .one .any] K)

def AtoiJ (P : Program) (f : FuncId) (gs : List Nat) : Prop := ∀ {ds : Bs8} {S : St} {K : Int → V → St → Prop}, S.Wf → GV gs S → ds ≠ [] → (∀ b ∈ ds, digJ b = true) → ds.length ≤ 1048576 →
  (∀ (v : Int) (x : V) (o : Bool) S', Grow S S' → eqV 5 [] x .nilIface = some o → (o = true → v = (valJ ds : Nat)) → (o = false → maxNum < valJ ds) → K v x S') → CallA P f [.str ds] S (retT [.one (.int .i64), .one .any] K)

structure JsonF (P : Program) (N : Nat → Nat) (gs : List Nat) : Prop where
  blanks : json_reading_blanks.Ok P N
  comes : json_reading_comes.Ok P N
  is : json_is.Ok P N
  one : json_reading_one.Ok P N
  text : json_reading_text.Ok P N
  trim : TrimJ P (N Fn.strings_TrimLeft)
  cut : CutJ P (N Fn.strings_CutPrefix)
  hex : HexW P (N Fn.strconv_ParseUint) gs
  atoi : AtoiJ P (N Fn.strconv_Atoi) gs
  number : json_reading_number.Ok P N
  sb : ∃ e, SbOk P (N Fn.ty_strings_Builder) e (N Fn.strings_Builder_WriteByte) (N Fn.strings_Builder_WriteString) (N Fn.strings_Builder_String)

theorem GV.left {gs : List Nat} {S S' : St} {i : Nat} {s : Bs8} (hG : GV gs S) (u : Upd [i] S S') (h : LeftAt S i s) : GV gs S' := hG.upd u fun j hj => .inl (by
  rw [List.mem_singleton] at hj
  subst hj
  exact ⟨_, h⟩)
theorem hex_lt {a : UInt8} {h : Nat} (e : hexJ a = some h) : h < 16 := by
  unfold hexJ at e
  split at e
  · simp only [Option.some.injEq] at e; omega
  · split at e
    · simp only [Option.some.injEq] at e; omega
    · split at e
      · simp only [Option.some.injEq] at e; omega
      · cases e
theorem hex_not {a : UInt8} (h : a = 43 ∨ a = 45 ∨ a = 95) : hexJ a = none := by
  rcases h with rfl | rfl | rfl <;> rfl
theorem byte_int (c : UInt8) (n : Nat) (hn : n < 256) : (((c.toNat : Nat) : Int) = ((n : Nat) : Int)) ↔ c = UInt8.ofNat n := by
  constructor
  · intro h
    have : c.toNat = n := by omega
    rw [← this, UInt8.ofNat_toNat]
  · rintro rfl
    rw [UInt8.toNat_ofNat']
    omega

structure TxIn (T e : TypeId) (S : St) (b i : Nat) (S' : St) (g : List Nat) (acc s : Bs8) : Prop where
  sb : SbAt T e S' b g acc
  lf : LeftAt S' i s
  u : Upd [i] S S'
  bi : S.next ≤ b
  gi : ∀ j ∈ g, S.next ≤ j
  ii : i < S.next
section
variable {T e : TypeId} {S S' S2 : St} {b i : Nat} {g g2 : List Nat} {acc s s2 : Bs8}
theorem TxIn.left (h : TxIn T e S b i S' g acc s) (u : Upd [i] S' S2) (l : LeftAt S2 i s2) : TxIn T e S b i S2 g acc s2 :=
  ⟨h.sb.upd u (by simp only [List.mem_singleton]; have := h.bi; have := h.ii; omega) (fun j hj => by simp only [List.mem_singleton]; have := h.gi j hj; have := h.ii; omega), l, h.u.trans u, h.bi, h.gi, h.ii⟩
theorem TxIn.grow (h : TxIn T e S b i S' g acc s) (u : Grow S' S2) : TxIn T e S b i S2 g acc s := h.left (u.mono (by simp)) (u.get h.lf)
theorem TxIn.wrote {acc2 : Bs8} (h : TxIn T e S b i S' g acc s) (k : SbAt T e S2 b g2 acc2) (u : Upd (b :: g) S' S2) (hg : ∀ j ∈ g2, j ∈ g ∨ S'.next ≤ j) : TxIn T e S b i S2 g2 acc2 s := by
  have hl := h.u.le
  have hbi := h.bi
  have hii := h.ii
  refine ⟨k, u.get h.lf fun hx => ?_, h.u.after u fun j hj => .inl ?_, h.bi, fun j hj => ?_, h.ii⟩
  · rcases List.mem_cons.mp hx with rfl | hx
    · omega
    · have := h.gi i hx; omega
  · rcases List.mem_cons.mp hj with rfl | hj
    · exact hbi
    · exact h.gi j hj
  · rcases hg j hj with h' | h'
    · exact h.gi j h'
    · omega
end

theorem json_reading_text.spec {gs : List Nat} (hO : JsonF P N gs) {S : St} (hw : S.Wf) (hG : GV gs S) {i : Nat} {s : Bs8} (h : LeftAt S i s) (hl : s.length ≤ 1048576) {KP : V → St → Prop} {K : Bs8 → St → Prop} (h0 : textJ (s.length + 1) [] s = none → ∀ S', Upd [i] S S' → KP (wrongV N) S')
    (h1 : ∀ t r, textJ (s.length + 1) [] s = some (t, r) → ∀ S', Upd [i] S S' → LeftAt S' i r → K t S') : CallA P (N Fn.json_reading_text) [.ptr i 0] S (retK [.one .str] KP K) := by
  obtain ⟨e, hB⟩ := hO.sb
  refine json_reading_text.run hO.text (newS_mk hw fun S1 g1 m1 n1 => ?_)
  have hi := hw.lt h
  have t1 : TxIn (N Fn.ty_strings_Builder) e S S.next i S1 [] [] s := ⟨SbAt.fresh m1, g1.get h, g1.mono (by simp), Nat.le_refl _, by simp, hi⟩
  generalize hR : textJ (s.length + 1) [] s = R at h0 h1
  refine Loop0.ind (fun n S' => ∃ g acc s', TxIn (N Fn.ty_strings_Builder) e S S.next i S' g acc s' ∧ s'.length < n ∧ acc.length + s'.length ≤ s.length ∧ textJ n acc s' = R) (s.length + 1) ⟨[], [], s, t1, by omega, by simp, hR⟩ ?_
  rintro n S2 ⟨g, acc, s2, t2, hn, hal, hR2⟩
  obtain ⟨n, rfl⟩ : ∃ k, n = k + 1 := ⟨n - 1, by omega⟩
  refine json_reading_one.spec hO.one hO.is t2.u.wf t2.lf (fun he => ?_) fun c r he S3 u3 l3 n3 => ?_
  · subst he
    simp only [textJ] at hR2
    exact h0 hR2.symm S2 t2.u
  subst he
  have t3 := t2.left u3 l3
  simp only [List.length_cons] at hn hal
  simp only [textJ] at hR2
  have write : ∀ {S4 : St} {g4 : List Nat} {acc4 s4 : Bs8} (x : UInt8) {Q : V → St → Prop}, TxIn (N Fn.ty_strings_Builder) e S S.next i S4 g4 acc4 s4 → acc4.length + s4.length + 1 ≤ s.length → s4.length < n → textJ n (acc4 ++ [x]) s4 = R →
      (∀ v S5, (∃ m, m < n + 1 ∧ ∃ g acc s', TxIn (N Fn.ty_strings_Builder) e S S.next i S5 g acc s' ∧ s'.length < m ∧ acc.length + s'.length ≤ s.length ∧ textJ m acc s' = R) → Q v S5) → CallA P (N Fn.strings_Builder_WriteByte) [.ptr S.next 0, .int .u8 (x.toNat : Nat)] S4 (retK [.one .any] KP Q) := by
    intro S4 g4 acc4 s4 x Q t4 a1 a2 a3 hQ
    refine CallA.np (hB.writeByte t4.u.wf t4.sb (by omega) x fun S5 g5 k5 u5 hg5 => hQ _ _ ⟨n, by omega, g5, acc4 ++ [x], s4, t4.wrote k5 u5 hg5, a2, by simp; omega, a3⟩)
  refine ifC_dec (fun hq => ?_) (fun hq => ?_)
  · have hc : c = 34 := (byte_int c 34 (by omega)).mp hq
    rw [if_pos hc] at hR2
    refine CallA.np (hB.string t3.u.wf t3.sb fun S4 u4 => h1 acc r hR2.symm S4 ?_ ?_)
    · exact t3.u.after u4 fun j hj => .inl (by
        rcases List.mem_cons.mp hj with rfl | hj
        · exact Nat.le_refl _
        · exact t3.gi j hj)
    · refine u4.get t3.lf fun hx => ?_
      rcases List.mem_cons.mp hx with rfl | hx
      · omega
      · have := t3.gi i hx; omega
  have hc34 : c ≠ 34 := fun e => hq ((byte_int c 34 (by omega)).mpr e)
  rw [if_neg hc34] at hR2
  refine ifC_dec (fun hq2 => ?_) (fun hq2 => ?_)
  · have hc : c = 92 := (byte_int c 92 (by omega)).mp hq2
    rw [if_pos hc] at hR2
    refine json_reading_one.spec hO.one hO.is t3.u.wf t3.lf (fun he => ?_) fun c2 r2 he S4 u4 l4 n4 => ?_
    · subst he
      exact h0 hR2.symm S3 t3.u
    subst he
    have t4 := t3.left u4 l4
    simp only [List.length_cons] at hn hal
    simp only at hR2
    refine Join1.mid (fun b S' => S' = S4 ∧ b = decide (c2 = 34 ∨ c2 = 92 ∨ c2 = 47)) ?_ ?_
    · refine ifC_dec (fun h => ⟨rfl, ?_⟩) (fun h => ifC_dec (fun h' => ⟨rfl, ?_⟩) fun h' => ⟨rfl, ?_⟩)
      · rw [(byte_int c2 34 (by omega)).mp h]; rfl
      · rw [(byte_int c2 92 (by omega)).mp h']; rfl
      · have e1 : c2 ≠ 34 := fun e => h ((byte_int c2 34 (by omega)).mpr e)
        have e2 : c2 ≠ 92 := fun e => h' ((byte_int c2 92 (by omega)).mpr e)
        simp only [e1, e2, false_or, decide_eq_decide]
        exact byte_int c2 47 (by omega)
    rintro _ _ ⟨rfl, rfl⟩
    refine ifC_dec (fun hs => ?_) (fun hs => ?_)
    · rw [if_pos hs] at hR2
      exact write c2 t4 (by omega) (by omega) hR2 fun v S5 hJ => hJ
    rw [if_neg hs] at hR2
    refine ifC_dec (fun hc2 => ?_) (fun hc2 => ?_)
    · rw [if_pos (show c2 = 110 from (byte_int c2 110 (by omega)).mp hc2)] at hR2
      exact write 10 t4 (by omega) (by omega) hR2 fun v S5 hJ => hJ
    rw [if_neg (fun e : c2 = 110 => hc2 ((byte_int c2 110 (by omega)).mpr e))] at hR2
    refine ifC_dec (fun hc3 => ?_) (fun hc3 => ?_)
    · rw [if_pos (show c2 = 116 from (byte_int c2 116 (by omega)).mp hc3)] at hR2
      exact write 9 t4 (by omega) (by omega) hR2 fun v S5 hJ => hJ
    rw [if_neg (fun e : c2 = 116 => hc3 ((byte_int c2 116 (by omega)).mpr e))] at hR2
    refine ifC_dec (fun hc4 => ?_) (fun hc4 => ?_)
    · rw [if_pos (show c2 = 117 from (byte_int c2 117 (by omega)).mp hc4)] at hR2
      have no : ∀ {S5 : St} {Q : St → Prop}, Upd [i] S S5 → none = R → CallA P (N Fn.json_is) [(V.bool false)] S5 (retK [] KP Q) := fun u5 hR => json_is.spec hO.is (fun _ => h0 hR.symm _ u5) fun hb => by cases hb
      refine Join0.mid (fun S' => ∃ a b t, TxIn (N Fn.ty_strings_Builder) e S S.next i S' g acc (a :: b :: t) ∧ t.length < n ∧ acc.length + t.length + 1 ≤ s.length ∧ (hexJ a = none ∨ hexJ b = none → none = R) ∧ ∀ h l, hexJ a = some h → hexJ b = some l → textJ n (acc ++ [UInt8.ofNat (16 * h + l)]) t = R) ?_ ?_
      · refine CallA.np (json_reading_comes.spec hO.comes hO.cut t4.u.wf t4.lf fun S5 u5 l5 n5 => ?_)
        have u05 := t4.u.trans u5
        cases hq : comesJ [48, 48] r2 with
        | none =>
          refine ifC_ff rfl (no u05 ?_)
          rw [← hR2]
          match r2, hq with
          | [], _ => rfl
          | [_], _ => rfl
          | [_, _], _ => rfl
          | [_, _, _], _ => rfl
          | z :: y :: a :: b :: t, hq =>
            simp only [comesJ] at hq
            split at hq
            · split at hq
              · cases hq
              · rename_i e1 e2; exact (if_neg (fun e => e2 e.2.symm)).symm
            · rename_i e1; exact (if_neg (fun e => e1 e.1.symm)).symm
        | some q =>
          rw [hq] at l5
          simp only [Option.getD_some] at l5
          have hr2 : r2 = 48 :: 48 :: q := by
            match r2, hq with
            | z :: y :: q', hq =>
              simp only [comesJ] at hq
              split at hq
              · split at hq
                · rename_i e1 e2; simp only [Option.some.injEq] at hq; rw [hq, ← e1, ← e2]
                · cases hq
              · cases hq
            | [z], hq =>
              simp only [comesJ] at hq
              split at hq <;> cases hq
            | [], hq => simp only [comesJ] at hq; cases hq
          subst hr2
          refine ifC_tt rfl ⟨rfl, ifS_mk (a := .ptr i 0) rfl ⟨q, ld l5 rfl, ifC_dec (fun h2 => ?_) fun h2 => no u05 ?_⟩⟩
          · match q, l5, h2, hq, hR2, t4, hn, hal with
            | a :: b :: t, l5, h2, hq, hR2, t4, hn, hal =>
              simp only [and_self, if_true] at hR2
              simp only [List.length_cons] at hn hal
              have bad : ∀ {x y : UInt8}, hexJ a = none ∨ hexJ b = none → none = R := by
                intro _ _ hx
                rw [← hR2]
                rcases hx with hx | hx
                · rw [hx]
                · rw [hx]; cases hexJ a <;> rfl
              have at0 : idxStrV (.str (a :: b :: t)) (.int .i64 0) = some (.int .u8 (a.toNat : Nat)) := idx_str (s := a :: b :: t) (j := 0) (by simp)
              have at1 : idxStrV (.str (a :: b :: t)) (.int .i64 1) = some (.int .u8 (b.toNat : Nat)) := idx_str (s := a :: b :: t) (j := 1) (by simp)
              have good : ∃ a' b' t', TxIn (N Fn.ty_strings_Builder) e S S.next i S5 g acc (a' :: b' :: t') ∧ t'.length < n ∧ acc.length + t'.length + 1 ≤ s.length ∧ (hexJ a' = none ∨ hexJ b' = none → none = R) ∧ ∀ h l, hexJ a' = some h → hexJ b' = some l → textJ n (acc ++ [UInt8.ofNat (16 * h + l)]) t' = R :=
                ⟨a, b, t, t4.left u5 l5, by omega, by omega, bad (x := 0) (y := 0), fun h l e1 e2 => by rw [e1, e2] at hR2; exact hR2⟩
              refine ⟨rfl, ifS_mk (a := .ptr i 0) rfl ⟨_, ld l5 rfl, _, at0, ifC_ndec (fun _ => ?_) fun hx => no u05 (bad (x := 0) (y := 0) (.inl (hex_not (.inl ((byte_int a 43 (by omega)).mp hx)))))⟩⟩
              refine ⟨rfl, ifS_mk (a := .ptr i 0) rfl ⟨_, ld l5 rfl, _, at0, ifC_ndec (fun _ => ?_) fun hx => no u05 (bad (x := 0) (y := 0) (.inl (hex_not (.inr (.inl ((byte_int a 45 (by omega)).mp hx))))))⟩⟩
              refine ⟨rfl, ifS_mk (a := .ptr i 0) rfl ⟨_, ld l5 rfl, _, at0, ifC_ndec (fun _ => ?_) fun hx => no u05 (bad (x := 0) (y := 0) (.inl (hex_not (.inr (.inr ((byte_int a 95 (by omega)).mp hx))))))⟩⟩
              refine ⟨rfl, ifS_mk (a := .ptr i 0) rfl ⟨_, ld l5 rfl, _, at1, json_is.spec hO.is (fun hx => h0 (bad (x := 0) (y := 0) (.inr (hex_not (.inr (.inr ((byte_int b 95 (by omega)).mp (by simpa using hx))))))).symm _ u05) fun _ => good⟩⟩
            | [], _, h2, _, _, _, _, _ => simp at h2
            | [_], _, h2, _, _, _, _, _ => simp at h2
          · rw [← hR2]
            match q, h2 with
            | [], _ => rfl
            | [_], _ => rfl
            | _ :: _ :: _, h2 => simp at h2; omega
      · rintro S5 ⟨a, b, t, t5, b1, b2, hb, hg⟩
        have l5 := t5.lf
        refine ⟨rfl, ifS_mk (a := .ptr i 0) rfl ⟨_, ld l5 rfl, [a, b], sliceStr_to (s := a :: b :: t) (h := 2) (by simp), ?_⟩⟩
        refine CallA.np (hO.hex t5.u.wf (hG.left t5.u h) (fun hx v x S6 g6 he => ⟨_, he, json_is.spec hO.is (fun _ => h0 (hb hx).symm _ (t5.grow g6).u) fun h => by cases h⟩) fun h l e1 e2 S6 g6 => ⟨true, rfl, json_is.spec hO.is (fun h => by cases h) fun _ => ?_⟩)
        have t6 := t5.grow g6
        refine ⟨rfl, ifS_mk (a := .ptr i 0) rfl ⟨_, ld t6.lf rfl, t, sliceStr_from (s := a :: b :: t) (l := 2) (by simp), rfl, ifS_mk (a := .ptr i 0) rfl (left_st t6.u.wf t6.lf fun S7 u7 l7 n7 => ?_)⟩⟩
        have hh := hex_lt e1
        have hl := hex_lt e2
        refine setI_mk (n := ((UInt8.ofNat (16 * h + l)).toNat : Nat)) ?_ ?_
        · rw [UInt8.toNat_ofNat']
          have hlt : 16 * h + l < 256 := by omega
          rw [Nat.mod_eq_of_lt (show 16 * h + l < 2 ^ 8 from hlt)]
          exact u8_bits hlt
        · exact write _ (t6.left u7 l7) (by omega) (by omega) (hg h l e1 e2) fun v S5 hJ => hJ
    · rw [if_neg (fun e : c2 = 117 => hc4 ((byte_int c2 117 (by omega)).mpr e))] at hR2
      exact json_is.spec hO.is (fun _ => h0 hR2.symm _ t4.u) fun hb => by cases hb
  · have hc92 : c ≠ 92 := fun e => hq2 ((byte_int c 92 (by omega)).mpr e)
    rw [if_neg hc92] at hR2
    refine ifC_dec (fun h32 => json_is.spec hO.is (fun hb => ?_) fun hb => ?_) (fun h32 => json_is.spec hO.is (fun _ => ?_) fun hb => by cases hb)
    · rw [if_neg (fun hx => by simp at hb; omega)] at hR2
      exact h0 hR2.symm S3 t3.u
    · rw [if_pos ⟨by omega, by simp at hb; omega⟩] at hR2
      exact write c t3 (by omega) (by omega) hR2 fun v S5 hJ => hJ
    · rw [if_neg (fun hx => by omega)] at hR2
      exact h0 hR2.symm S3 t3.u

end Go.Th.L
end

section
/- json: a number taken off. -/
set_option linter.unusedSimpArgs false
set_option linter.unusedVariables false
set_option maxHeartbeats 2000000
namespace Go.Th.L
open Go Go.Th Go.Th.Pure
variable {P : Program} {N : Nat → Nat}

theorem sign_comes (s : Bs8) : (comesJ [45] s).getD s = (signJ s).2 ∧ (comesJ [45] s).isSome = (signJ s).1 := by
  match s with
  | [] => exact ⟨rfl, rfl⟩
  | c :: s =>
    by_cases h : c = 45
    · subst h; exact ⟨rfl, rfl⟩
    · have h2 : ¬ (45 : UInt8) = c := fun e => h e.symm
      simp [comesJ, signJ, h, h2]
theorem run_le (p : UInt8 → Bool) : ∀ s : Bs8, (s.takeWhile p).length ≤ s.length
  | [] => Nat.le_refl _
  | c :: s => by
    rw [List.takeWhile_cons]
    split
    · simp only [List.length_cons]; have := run_le p s; omega
    · simp
theorem run_take (p : UInt8 → Bool) : ∀ s : Bs8, s.take (s.takeWhile p).length = s.takeWhile p ∧ s.drop (s.takeWhile p).length = s.dropWhile p
  | [] => ⟨rfl, rfl⟩
  | c :: s => by
    rw [List.takeWhile_cons, List.dropWhile_cons]
    split
    · have := run_take p s
      simp only [List.length_cons, List.take_succ_cons, List.drop_succ_cons]
      exact ⟨by rw [this.1], this.2⟩
    · exact ⟨rfl, rfl⟩
theorem run_all (p : UInt8 → Bool) : ∀ (s : Bs8), ∀ b ∈ s.takeWhile p, p b = true
  | [], b, h => by simp at h
  | c :: s, b, h => by
    rw [List.takeWhile_cons] at h
    split at h
    · rename_i h1
      rcases List.mem_cons.mp h with rfl | h
      · exact h1
      · exact run_all p s b h
    · simp at h
theorem run_go (p : UInt8 → Bool) : ∀ {s : Bs8} {q : Nat} (h : q < s.length), q ≤ (s.takeWhile p).length → (p s[q] = true → q + 1 ≤ (s.takeWhile p).length) ∧ (p s[q] = false → q = (s.takeWhile p).length)
  | [], q, h, _ => absurd h (by simp)
  | c :: s, 0, h, hq => by
    rw [List.takeWhile_cons]
    refine ⟨fun h1 => ?_, fun h1 => ?_⟩
    · rw [if_pos (by simpa using h1)]; simp
    · rw [if_neg (by simpa using h1)]; rfl
  | c :: s, q + 1, h, hq => by
    rw [List.takeWhile_cons] at hq ⊢
    split at hq
    · rename_i h1
      simp only [List.length_cons] at hq h
      have := run_go p (s := s) (q := q) (by omega) (by omega)
      rw [if_pos h1]
      refine ⟨fun h2 => ?_, fun h2 => ?_⟩
      · exact Nat.succ_le_succ (this.1 h2)
      · exact congrArg (· + 1) (this.2 h2)
    · simp at hq
theorem dig_dec (c : UInt8) : digJ c = (decide (48 ≤ ((c.toNat : Nat) : Int)) && decide (((c.toNat : Nat) : Int) ≤ 57)) := by
  unfold digJ
  congr 1
  · rw [decide_eq_decide]; omega
  · rw [decide_eq_decide]; omega

theorem json_reading_number.spec {gs : List Nat} (hO : JsonF P N gs) {S : St} (hw : S.Wf) (hG : GV gs S) {i : Nat} {s : Bs8} (h : LeftAt S i s) (hl : s.length ≤ 1048576) {KP : V → St → Prop} {K : Int → St → Prop} (h0 : numJ s = none → ∀ S', Upd [i] S S' → KP (wrongV N) S')
    (h1 : ∀ v r, numJ s = some (v, r) → ∀ S', Upd [i] S S' → LeftAt S' i r → K v S') : CallA P (N Fn.json_reading_number) [.ptr i 0] S (retK [.one (.int .i64)] KP K) := by
  refine json_reading_number.run hO.number (CallA.np (json_reading_comes.spec hO.comes hO.cut hw h fun S1 u1 l1 n1 => ?_))
  rw [(sign_comes s).1] at l1
  rw [(sign_comes s).2]
  unfold numJ at h0 h1
  have hsl : (signJ s).2.length ≤ s.length := by unfold signJ; split <;> simp
  generalize (signJ s).2 = t at l1 h0 h1 hsl
  generalize (signJ s).1 = m at h0 h1
  have hrl := run_le digJ t
  refine Join1.mid (fun x S' => S' = S1 ∧ x = ((t.takeWhile digJ).length : Nat)) ?_ ?_
  · refine Loop1.ind (fun k x S' => S' = S1 ∧ ∃ q : Nat, x = q ∧ k = t.length - q ∧ q ≤ (t.takeWhile digJ).length) t.length ⟨rfl, 0, rfl, rfl, Nat.zero_le _⟩ ?_
    rintro k _ _ ⟨rfl, q, rfl, rfl, hq⟩
    refine ⟨rfl, ifS_mk (a := .ptr i 0) rfl ⟨_, ld l1 rfl, ifC_dec (fun hx => ?_) fun hx => ⟨rfl, by omega⟩⟩⟩
    have hx : q < t.length := by omega
    have hgo := run_go digJ hx hq
    rw [dig_dec] at hgo
    refine ⟨rfl, ifS_mk (a := .ptr i 0) rfl ⟨_, ld l1 rfl, _, idx_str hx, ifC_dec (fun h48 => ?_) fun h48 => ⟨rfl, ?_⟩⟩⟩
    · refine ⟨rfl, ifS_mk (a := .ptr i 0) rfl ⟨_, ld l1 rfl, _, idx_str hx, ifC_dec (fun h57 => ?_) fun h57 => ⟨rfl, ?_⟩⟩⟩
      · refine setI_mk (n := ((q + 1 : Nat) : Int)) (wrap_nat (by omega)) ⟨t.length - (q + 1), by omega, rfl, q + 1, rfl, rfl, hgo.1 (by simp [h48, h57])⟩
      · rw [← hgo.2 (by simp [h57])]
    · rw [← hgo.2 (by simp [h48])]
  rintro _ _ ⟨rfl, rfl⟩
  obtain ⟨rt, rd⟩ := run_take digJ t
  refine ⟨rfl, ifS_mk (a := .ptr i 0) rfl ⟨_, ld l1 rfl, t.takeWhile digJ, ?_, rfl, ifS_mk (a := .ptr i 0) rfl ⟨_, ld l1 rfl, t.dropWhile digJ, ?_, rfl, ifS_mk (a := .ptr i 0) rfl (left_st u1.wf l1 fun S4 u4 l4 n4 => ?_)⟩⟩⟩
  · rw [sliceStr_to hrl, rt]
  · rw [sliceStr_from hrl, rd]
  have u04 := u1.trans u4
  generalize hds : t.takeWhile digJ = ds at *
  have hdig : ∀ b ∈ ds, digJ b = true := by
    rw [← hds]; exact run_all digJ t
  refine Join0.mid (fun S' => S' = S4 ∧ badNum m ds = false) ?_ ?_
  · refine ifC_dec (fun hx => ?_) fun hx => json_is.spec hO.is (fun _ => h0 (if_pos ?_) S4 u04) fun hb => by cases hb
    · match ds, hx with
      | c :: ds', _ =>
        have at0 : idxStrV (.str (c :: ds')) (.int .i64 0) = some (.int .u8 (c.toNat : Nat)) := idx_str (s := c :: ds') (j := 0) (by simp)
        refine ⟨_, at0, ifC_ndec (fun hc => json_is.spec hO.is (fun hb => by cases hb) fun _ => ⟨rfl, ?_⟩) fun hc => ?_⟩
        · have : c ≠ 48 := fun e => hc ((byte_int c 48 (by omega)).mpr e)
          simp [badNum, this]
        · have hc : c = 48 := (byte_int c 48 (by omega)).mp hc
          subst hc
          refine ifC_dec (fun h1l => ?_) fun h1l => json_is.spec hO.is (fun _ => h0 (if_pos ?_) S4 u04) fun hb => by cases hb
          · have hn : ds' = [] := by
              match ds', h1l with
              | [], _ => rfl
              | _ :: _, h => simp at h; omega
            subst hn
            refine json_is.spec hO.is (fun hb => h0 (if_pos ?_) S4 u04) fun hb => ⟨rfl, ?_⟩
            · cases m with
              | true => rfl
              | false => cases hb
            · cases m with
              | true => cases hb
              | false => rfl
          · match ds', h1l with
            | [], h => exact absurd rfl h
            | _ :: _, _ => simp [badNum]
      | [], hx => simp at hx
    · match ds, hx with
      | [], _ => rfl
      | _ :: _, hx => exact absurd (by simp) hx
  rintro _ ⟨rfl, hbad⟩
  rw [if_neg (by rw [hbad]; simp)] at h1
  have hne : ds ≠ [] := fun e => by rw [e] at hbad; simp [badNum] at hbad
  refine CallA.np (hO.atoi u04.wf (hG.left u04 h) hne hdig (by omega) fun v x o S5 g5 he ht hf => ?_)
  have u05 := u04.trans (g5.mono (by simp))
  refine Join1.mid (fun n S' => S' = S5 ∧ n = (min (valJ ds) (maxNum + 1) : Nat)) ⟨o, he, ?_⟩ ?_
  · cases o with
    | true =>
      refine ifC_ff rfl ?_
      have hv := ht rfl
      refine ifC_dec (fun hx => ⟨rfl, ?_⟩) fun hx => ⟨rfl, ?_⟩
      · unfold maxNum; omega
      · unfold maxNum; omega
    | false =>
      have hv := hf rfl
      refine ifC_tt rfl ⟨rfl, ?_⟩
      rw [Nat.min_eq_right (by omega)]; rfl
  rintro _ _ ⟨rfl, rfl⟩
  have l5 := g5.get l4
  have fin := h1 (valN m ds) _ rfl _ u05 l5
  refine ifC_tt_ff (fun hm => ?_) fun hm => by rw [hm] at fin; exact fin
  refine setI_mk (n := -((min (valJ ds) (maxNum + 1) : Nat) : Int)) ?_ (by rw [hm] at fin; exact fin)
  have hmn : min (valJ ds) (maxNum + 1) ≤ 1000000000000000 := by unfold maxNum; omega
  generalize min (valJ ds) (maxNum + 1) = z at hmn
  rw [Int.zero_sub]
  exact i64_int (by omega) (by omega)

end Go.Th.L
end

section
/- json: elements up to an end. -/
set_option linter.unusedSimpArgs false
set_option linter.unusedVariables false
set_option maxHeartbeats 2000000
namespace Go.Th.L
open Go Go.Th Go.Th.Pure
variable {P : Program} {N : Nat → Nat}

def EachJ (P : Program) (N : Nat → Nat) (f : FuncId) (args : List V) (nm : Bool) (b : Nat) (J : List JV → List Bs8 → Bs8 → St → Prop) (Bad : St → Prop) : Prop :=
  ∀ {l : List JV} {ns : List Bs8} {s : Bs8} {S : St} {KP : V → St → Prop} {K : St → Prop}, s.length < b → J l ns s S →
    (headJ nm ns s = none → ∀ S', Bad S' → KP (wrongV N) S') → (∀ ns2 s2, headJ nm ns s = some (ns2, s2) → pvJ s2 = none → ∀ S', Bad S' → KP (wrongV N) S') →
    (∀ ns2 s2 v r, headJ nm ns s = some (ns2, s2) → pvJ s2 = some (v, r) → ∀ S', J (l ++ [v]) ns2 r S' → K S') → CallA P f args S (retK [] KP K)

theorem comesD_le (w s : Bs8) : ((comesJ w s).getD s).length ≤ s.length := by
  cases h : comesJ w s with
  | none => exact Nat.le_refl _
  | some r => have := comes_le h; simp only [Option.getD_some]; omega

theorem json_reading_list.spec {gs : List Nat} (hO : JsonF P N gs) (hL : json_reading_list.Ok P N) {e : UInt8} {nm : Bool} {x2 : V} {f : FuncId} {args : List V} (hc : calleeV (envP P) x2 [] = some (f, args)) {i b : Nat} {J : List JV → List Bs8 → Bs8 → St → Prop} {Bad : St → Prop}
    (hw : ∀ {l ns s S}, J l ns s S → S.Wf ∧ LeftAt S i s) (hm : ∀ {l ns s t S S'}, J l ns s S → Upd [i] S S' → LeftAt S' i t → t.length ≤ s.length → J l ns t S') (hb : ∀ {l ns s S}, J l ns s S → Bad S) (hE : EachJ P N f args nm b J Bad)
    {s : Bs8} {S : St} (h : J [] [] s S) (hl : s.length < b) {KP : V → St → Prop} {K : St → Prop}
    (hx : ∀ r, comesJ [e] (blanksJ s) = some r → ∀ S', J [] [] r S' → K S')
    (h0 : comesJ [e] (blanksJ s) = none → pitJ e nm [] [] (blanksJ s) = none → ∀ S', Bad S' → KP (wrongV N) S')
    (h1 : ∀ l ns r, comesJ [e] (blanksJ s) = none → pitJ e nm [] [] (blanksJ s) = some (l, ns, r) → ∀ S', J l ns r S' → K S') : CallA P (N Fn.json_reading_list) [.ptr i 0, .str [e], x2] S (retK [] KP K) := by
  have hbs := blanks_le s
  refine json_reading_list.run hL (CallA.np (json_reading_blanks.spec hO.blanks hO.trim (hw h).1 (hw h).2 fun S1 u1 l1 n1 => CallA.np (json_reading_comes.spec hO.comes hO.cut u1.wf l1 fun S2 u2 l2 n2 => ?_)))
  have j1 := hm h u1 l1 (blanks_le _)
  have j2 := hm j1 u2 l2 (comesD_le _ _)
  cases hq : comesJ [e] (blanksJ s) with
  | some r =>
    rw [hq] at j2
    exact ifC_tt rfl (hx r hq S2 j2)
  | none =>
    rw [hq] at j2
    simp only [Option.getD_none] at j2
    refine ifC_ff rfl ?_
    generalize hR : pitJ e nm [] [] (blanksJ s) = R at h0 h1
    refine Loop0.ind (fun n S' => ∃ l ns t, J l ns t S' ∧ t.length < n ∧ t.length < b ∧ pitJ e nm l ns t = R) ((blanksJ s).length + 1) ⟨[], [], _, j2, by omega, by omega, hR⟩ ?_
    rintro n S3 ⟨l, ns, t, j3, hn, htb, hR3⟩
    rw [pitJ_eq] at hR3
    refine ifS_mk hc (hE htb j3 (fun e1 S4 b4 => ?_) (fun ns2 s2 e1 e2 S4 b4 => ?_) fun ns2 s2 v r e1 e2 S4 j4 => ?_)
    · rw [e1] at hR3
      exact h0 hq hR3.symm S4 b4
    · rw [e1] at hR3
      simp only [e2] at hR3
      exact h0 hq hR3.symm S4 b4
    rw [e1] at hR3
    simp only [e2] at hR3
    have g1 := head_le e1
    have g2 := (left_len _).1 e2
    have g3 := blanks_le r
    refine CallA.np (json_reading_blanks.spec hO.blanks hO.trim (hw j4).1 (hw j4).2 fun S5 u5 l5 n5 => CallA.np (json_reading_comes.spec hO.comes hO.cut u5.wf l5 fun S6 u6 l6 n6 => ?_))
    have j6 := hm (hm j4 u5 l5 (blanks_le _)) u6 l6 (comesD_le _ _)
    cases hq2 : comesJ [e] (blanksJ r) with
    | some r2 =>
      rw [hq2] at j6 hR3
      exact ifC_tt rfl (h1 _ _ _ hq hR3.symm S6 j6)
    | none =>
      rw [hq2] at j6 hR3
      simp only [Option.getD_none] at j6 hR3
      refine ifC_ff rfl (CallA.np (json_reading_comes.spec hO.comes hO.cut (hw j6).1 (hw j6).2 fun S7 u7 l7 n7 => ?_))
      have j7 := hm j6 u7 l7 (comesD_le _ _)
      refine json_is.spec hO.is (fun hf => ?_) fun ht => ?_
      · cases hq3 : comesJ [44] (blanksJ r) with
        | some r2 => rw [hq3] at hf; cases hf
        | none =>
          rw [hq3] at hR3
          exact h0 hq hR3.symm S7 (hb j7)
      · cases hq3 : comesJ [44] (blanksJ r) with
        | none => rw [hq3] at ht; cases ht
        | some r2 =>
          rw [hq3] at hR3 j7
          simp only [Option.getD_some] at j7 hR3
          have g4 := comes_le hq3
          have g5 := blanks_le r2
          simp at g4
          refine CallA.np (json_reading_blanks.spec hO.blanks hO.trim (hw j7).1 (hw j7).2 fun S8 u8 l8 n8 => ⟨t.length, hn, _, _, _, hm j7 u8 l8 (blanks_le _), by omega, by omega, hR3⟩)

end Go.Th.L
end

section
/- json: values in memory. -/
set_option linter.unusedSimpArgs false
set_option linter.unusedVariables false
set_option maxHeartbeats 1000000
namespace Go.Th.L
open Go Go.Th Go.Th.Pure

mutual
def VAt (S : St) (b : Nat) : JV → V → V → List Nat → Prop
  | .mk _ _ _ l ns, lv, nv, F => ∃ es F1, Acc S b 5 lv l.length es.flatten ∧ (∀ e ∈ es, e.length = 5) ∧ Acc S b 1 nv ns.length (ns.map V.str) ∧ EAt S b l es F1 ∧ (∀ i ∈ lv.block, i ∉ F1 ∧ i ∉ nv.block) ∧ (∀ i ∈ nv.block, i ∉ F1) ∧ F = lv.block ++ (nv.block ++ F1)
def EAt (S : St) (b : Nat) : List JV → List (List V) → List Nat → Prop
  | [], es, F => es = [] ∧ F = []
  | v :: l, es, F => ∃ lv nv es' F1 F2, es = [.int .i64 v.sort, .int .i64 v.num, .str v.text, lv, nv] :: es' ∧ VAt S b v lv nv F1 ∧ EAt S b l es' F2 ∧ F = F1 ++ F2
end

mutual
theorem VAt.keep {S S' : St} {b : Nat} {D : List Nat} (u : Upd D S S') : ∀ (v : JV) {lv nv : V} {F : List Nat}, VAt S b v lv nv F → (∀ i ∈ D, i ∉ F) → VAt S' b v lv nv F
  | .mk so n t l ns, lv, nv, F, h, hD => by
    simp only [VAt] at h ⊢
    obtain ⟨es, F1, a1, a2, a3, a4, a5, a6, rfl⟩ := h
    refine ⟨es, F1, a1.upd u fun i hi hd => hD i hd (by simp [hi]), a2, a3.upd u fun i hi hd => hD i hd (by simp [hi]), EAt.keep u l a4 fun i hi hF => ?_, a5, a6, rfl⟩
    exact hD i hi (by simp [hF])
theorem EAt.keep {S S' : St} {b : Nat} {D : List Nat} (u : Upd D S S') : ∀ (l : List JV) {es : List (List V)} {F : List Nat}, EAt S b l es F → (∀ i ∈ D, i ∉ F) → EAt S' b l es F
  | [], es, F, h, hD => by
    simp only [EAt] at h ⊢
    exact h
  | v :: l, es, F, h, hD => by
    simp only [EAt] at h ⊢
    obtain ⟨lv, nv, es', F1, F2, rfl, h1, h2, rfl⟩ := h
    exact ⟨lv, nv, es', F1, F2, rfl, VAt.keep u v h1 fun i hi hF => hD i hi (by simp [hF]), EAt.keep u l h2 fun i hi hF => hD i hi (by simp [hF]), rfl⟩
end

def vcells (v : JV) (lv nv : V) : List V := [.int .i64 v.sort, .int .i64 v.num, .str v.text, lv, nv]
section
variable {S S' : St} {b : Nat}
theorem VAt.grow {v : JV} {lv nv : V} {F : List Nat} (h : VAt S b v lv nv F) (g : Grow S S') : VAt S' b v lv nv F := VAt.keep g v h (by simp)
theorem VAt.nil (S : St) (b : Nat) (so n : Int) (t : Bs8) : VAt S b (.mk so n t [] []) .nilSlice .nilSlice [] := by
  simp only [VAt]
  exact ⟨[], [], Acc.nil _ _ _, by simp, Acc.nil _ _ _, (by unfold EAt; exact ⟨rfl, rfl⟩), by simp [V.block], by simp [V.block], by simp [V.block]⟩
end
mutual
theorem VAt.own {S : St} {b : Nat} : ∀ (v : JV) {lv nv : V} {F : List Nat}, VAt S b v lv nv F → ∀ i ∈ F, b ≤ i ∧ ∃ cs, S.get i = some (.cells cs true)
  | .mk so n t l ns, lv, nv, F, h, i, hi => by
    simp only [VAt] at h
    obtain ⟨es, F1, a1, a2, a3, a4, a5, a6, rfl⟩ := h
    rcases List.mem_append.mp hi with hi | hi
    · exact a1.own i hi
    · rcases List.mem_append.mp hi with hi | hi
      · exact a3.own i hi
      · exact EAt.own l a4 i hi
theorem EAt.own {S : St} {b : Nat} : ∀ (l : List JV) {es : List (List V)} {F : List Nat}, EAt S b l es F → ∀ i ∈ F, b ≤ i ∧ ∃ cs, S.get i = some (.cells cs true)
  | [], es, F, h, i, hi => by
    simp only [EAt] at h
    rw [h.2] at hi; cases hi
  | v :: l, es, F, h, i, hi => by
    simp only [EAt] at h
    obtain ⟨lv, nv, es', F1, F2, rfl, h1, h2, rfl⟩ := h
    rcases List.mem_append.mp hi with hi | hi
    · exact VAt.own v h1 i hi
    · exact EAt.own l h2 i hi
end
mutual
theorem VAt.below {S : St} {b b' : Nat} (hb : b' ≤ b) : ∀ (v : JV) {lv nv : V} {F : List Nat}, VAt S b v lv nv F → VAt S b' v lv nv F
  | .mk so n t l ns, lv, nv, F, h => by
    simp only [VAt] at h ⊢
    obtain ⟨es, F1, a1, a2, a3, a4, a5, a6, rfl⟩ := h
    exact ⟨es, F1, a1.below hb, a2, a3.below hb, EAt.below hb l a4, a5, a6, rfl⟩
theorem EAt.below {S : St} {b b' : Nat} (hb : b' ≤ b) : ∀ (l : List JV) {es : List (List V)} {F : List Nat}, EAt S b l es F → EAt S b' l es F
  | [], es, F, h => by
    simp only [EAt] at h ⊢
    exact h
  | v :: l, es, F, h => by
    simp only [EAt] at h ⊢
    obtain ⟨lv, nv, es', F1, F2, rfl, h1, h2, rfl⟩ := h
    exact ⟨lv, nv, es', F1, F2, rfl, VAt.below hb v h1, EAt.below hb l h2, rfl⟩
end
theorem EAt.snoc {S : St} {b : Nat} {v : JV} {lv nv : V} {F2 : List Nat} (h2 : VAt S b v lv nv F2) : ∀ (l : List JV) {es : List (List V)} {F : List Nat}, EAt S b l es F → EAt S b (l ++ [v]) (es ++ [vcells v lv nv]) (F ++ F2)
  | [], es, F, h => by
    simp only [EAt] at h
    obtain ⟨rfl, rfl⟩ := h
    simp only [List.nil_append, EAt]
    exact ⟨lv, nv, [], F2, [], rfl, h2, ⟨rfl, rfl⟩, by simp⟩
  | w :: l, es, F, h => by
    simp only [EAt] at h
    obtain ⟨lw, nw, es', F1, F3, rfl, h1, h3, rfl⟩ := h
    simp only [List.cons_append, EAt]
    exact ⟨lw, nw, _, F1, F3 ++ F2, rfl, h1, EAt.snoc h2 l h3, by simp⟩
theorem EAt.len {S : St} {b : Nat} : ∀ (l : List JV) {es : List (List V)} {F : List Nat}, EAt S b l es F → es.length = l.length ∧ ∀ e ∈ es, e.length = 5
  | [], es, F, h => by
    simp only [EAt] at h
    rw [h.1]; simp
  | w :: l, es, F, h => by
    simp only [EAt] at h
    obtain ⟨lw, nw, es', F1, F3, rfl, h1, h3, rfl⟩ := h
    have := EAt.len l h3
    refine ⟨by simp [this.1], fun e he => ?_⟩
    rcases List.mem_cons.mp he with rfl | he
    · rfl
    · exact this.2 e he

end Go.Th.L
end

section
/- json: an empty element joined to a list, and filled. -/
set_option linter.unusedSimpArgs false
set_option linter.unusedVariables false
set_option maxHeartbeats 1000000
namespace Go.Th.L
open Go Go.Th Go.Th.Pure

def slotJ0 : List V := [.int .i64 0, .int .i64 0, .str [], .nilSlice, .nilSlice]
theorem slot_app {S : St} (hw : S.Wf) {b n g : Nat} {x : V} {es : List (List V)} (hb : b ≤ S.next) (hx : Acc S b 5 x n es.flatten) (hn : n ≤ 1048576) (hg : S.get g = some (.cells slotJ0 true)) {K : V → St → Prop}
    (hk : ∀ x' S', Acc S' b 5 x' (n + 1) (es ++ [slotJ0]).flatten → Upd x.block S S' → (∀ i ∈ x'.block, i ∈ x.block ∨ S.next ≤ i) → K x' S') : ifP (appV S 5 80 x (.slice g 0 1 1 5 true)) K := by
  have hs : srcV 5 S (.slice g 0 1 1 5 true) = some (1, slotJ0) := by
    simp only [srcV, if_true]
    rw [St.loads_of hg (by simp [slotJ0])]
    rfl
  obtain ⟨x', S', e1, a1, u1, t1⟩ := hx.app hw hb hs rfl rfl (bytes := 80) (by omega) (by omega)
  exact ifP_mk e1 (hk x' S' (by rw [List.flatten_append, List.flatten_cons, List.flatten_nil, List.append_nil]; exact a1) u1 t1)

theorem slot_idx {S : St} {b n : Nat} {x : V} {es : List (List V)} (hx : Acc S b 5 x (n + 1) (es ++ [slotJ0]).flatten) : idxAddrV 5 x (.int .i64 (n : Int)) = some (eltV 5 x n 0) := SlAt.idx hx.at_ (by omega)

theorem slot_put {S : St} (hw : S.Wf) {b n : Nat} {x : V} {es : List (List V)} (hx : Acc S b 5 x (n + 1) (es ++ [slotJ0]).flatten) (he : ∀ e ∈ es, e.length = 5) (hl : es.length = n) {v : JV} {lv nv : V} (h1 : lv.one = true) (h2 : nv.one = true) {K : St → Prop}
    (hk : ∀ S', Acc S' b 5 x (n + 1) (es ++ [vcells v lv nv]).flatten → Upd x.block S S' → K S') : ifS (storeV S 5 (eltV 5 x n 0) (.agg (vcells v lv nv))) K := by
  have hf : es.flatten.length = n * 5 := by rw [flatten_len he, hl]
  obtain ⟨S', e1, a1, u1⟩ := hx.put hw (m := n) (off := 0) (x := .agg (vcells v lv nv)) (by omega) (by simp [V.cells, vcells]) (show (V.one _ && (V.one _ && (V.one _ && (lv.one && (nv.one && true))))) = true by rw [h1, h2]; rfl) (by simp [V.cells, vcells])
  refine ifS_mk e1 (hk S' ?_ u1)
  have : over (es ++ [slotJ0]).flatten (n * 5 + 0) (V.agg (vcells v lv nv)).cells = (es ++ [vcells v lv nv]).flatten := by
    rw [List.flatten_append, List.flatten_append, List.flatten_cons, List.flatten_nil, List.append_nil, List.flatten_cons, List.flatten_nil, List.append_nil, Nat.add_zero]
    rw [over_at (by simp [hf, V.cells, vcells, slotJ0])]
    simp only [V.cells]
    rw [← hf, List.take_left, List.drop_of_length_le (by simp [slotJ0, vcells]), List.append_nil]
  rw [← this]
  exact a1

end Go.Th.L
end

section
/- json: what is known while a list or an object is read. -/
set_option linter.unusedSimpArgs false
set_option linter.unusedVariables false
set_option maxHeartbeats 1000000
namespace Go.Th.L
open Go Go.Th Go.Th.Pure
variable {P : Program} {N : Nat → Nat}

structure OutJ (gs : List Nat) (S0 : St) (i o p b : Nat) (so : Int) (l : List JV) (ns : List Bs8) (s : Bs8) (S : St) : Prop where
  u : Upd [i] S0 S
  ii : i < S0.next
  oo : S0.next ≤ o ∧ o < b
  pp : p ≠ i ∧ p < o
  bb : b ≤ S.next
  lf : LeftAt S i s
  gv : GV gs S
  at_ : S.get p = some (.cells [.ptr i 0] true)
  ex : ∃ lv nv es F, S.get o = some (.cells [.int .i64 so, .int .i64 0, .str [], lv, nv] true) ∧ Acc S b 5 lv l.length es.flatten ∧ Acc S b 1 nv ns.length (ns.map V.str) ∧ EAt S b l es F ∧
    (∀ j ∈ lv.block, j ∉ F ∧ j ∉ nv.block) ∧ (∀ j ∈ nv.block, j ∉ F)
section
variable {gs : List Nat} {S0 S S' : St} {i o p b : Nat} {so : Int} {l : List JV} {ns : List Bs8} {s t : Bs8}
theorem OutJ.st (h : OutJ gs S0 i o p b so l ns s S) : S.Wf ∧ LeftAt S i s := ⟨h.u.wf, h.lf⟩
theorem OutJ.left (h : OutJ gs S0 i o p b so l ns s S) (u : Upd [i] S S') (m : LeftAt S' i t) : OutJ gs S0 i o p b so l ns t S' := by
  have hi := h.ii
  have ho := h.oo
  have hp := h.pp
  obtain ⟨lv, nv, es, F, e1, e2, e3, e4, e5, e6⟩ := h.ex
  refine ⟨h.u.trans u, hi, ho, hp, Nat.le_trans h.bb u.le, m, h.gv.left u h.lf, u.get h.at_ (by simp only [List.mem_singleton]; omega), lv, nv, es, F, u.get e1 (by simp only [List.mem_singleton]; omega), e2.upd u fun j hj hd => ?_, e3.upd u fun j hj hd => ?_, EAt.keep u l e4 fun j hj hF => ?_, e5, e6⟩
  · rw [List.mem_singleton.mp hd] at hj; have := (e2.own i hj).1; omega
  · rw [List.mem_singleton.mp hd] at hj; have := (e3.own i hj).1; omega
  · rw [List.mem_singleton.mp hj] at hF; have := (EAt.own l e4 i hF).1; omega
theorem OutJ.val (h : OutJ gs S0 i o p b so l ns s S) : ∃ lv nv F, S.get o = some (.cells (vcells (.mk so 0 [] l ns) lv nv) true) ∧ VAt S S0.next (.mk so 0 [] l ns) lv nv F := by
  have ho := h.oo
  obtain ⟨lv, nv, es, F, e1, e2, e3, e4, e5, e6⟩ := h.ex
  refine ⟨lv, nv, lv.block ++ (nv.block ++ F), e1, VAt.below (b := b) (by omega) _ ?_⟩
  unfold VAt
  exact ⟨es, F, e2, (EAt.len l e4).2, e3, e4, e5, e6, rfl⟩
end
def ValueOk (P : Program) (N : Nat → Nat) (gs : List Nat) (n : Nat) : Prop := ∀ {S : St} {i : Nat} {s : Bs8} {KP : V → St → Prop} {K : Int → Int → Bs8 → V → V → St → Prop}, S.Wf → GV gs S → LeftAt S i s → s.length < n → s.length ≤ 1048576 →
  (pvJ s = none → ∀ S', Upd [i] S S' → KP (wrongV N) S') →
  (∀ v r lv nv F, pvJ s = some (v, r) → ∀ S', Upd [i] S S' → LeftAt S' i r → VAt S' S.next v lv nv F → K v.sort v.num v.text lv nv S') →
  CallA P (N Fn.json_reading_value) [.ptr i 0] S (retK [.agg [.int .i64, .int .i64, .str, .any, .any]] KP K)

end Go.Th.L
end

section
/- json: an element that has been read joined to its list. -/
set_option linter.unusedSimpArgs false
set_option linter.unusedVariables false
set_option maxHeartbeats 1000000
namespace Go.Th.L
open Go Go.Th Go.Th.Pure
variable {P : Program} {N : Nat → Nat}

theorem OutJ.joined {gs : List Nat} {S0 S S2 : St} {i o p b : Nat} {so : Int} {l : List JV} {ns : List Bs8} {s : Bs8} (h : OutJ gs S0 i o p b so l ns s S) {lv nv x : V} {es : List (List V)} {F : List Nat}
    (e2 : Acc S b 5 lv l.length es.flatten) (e3 : Acc S b 1 nv ns.length (ns.map V.str)) (e4 : EAt S b l es F) (e5 : ∀ j ∈ lv.block, j ∉ F ∧ j ∉ nv.block) (e6 : ∀ j ∈ nv.block, j ∉ F)
    {v : JV} {lw nw : V} {G : List Nat} (hv : VAt S b v lw nw G) (hG : ∀ j ∈ G, j ∉ lv.block ∧ j ∉ nv.block ∧ j < S.next)
    (hx : ∀ j ∈ x.block, j ∈ lv.block ∨ S.next ≤ j) (hFn : ∀ j ∈ F, j < S.next) (hNn : ∀ j ∈ nv.block, j < S.next) (u : Upd (o :: (x.block ++ lv.block)) S S2) (hb : ∀ j ∈ x.block, b ≤ j) (ha : Acc S2 b 5 x (l.length + 1) (es ++ [vcells v lw nw]).flatten)
    (ho : S2.get o = some (.cells [.int .i64 so, .int .i64 0, .str [], x, nv] true)) : OutJ gs S0 i o p b so (l ++ [v]) ns s S2 := by
  have hi := h.ii
  have hoo := h.oo
  have hpp := h.pp
  have hlb : ∀ j ∈ lv.block, b ≤ j := fun j hj => (e2.own j hj).1
  have out : ∀ j, j < b → j ≠ o → j ∉ o :: (x.block ++ lv.block) := fun j hj hne hm => by
    rcases List.mem_cons.mp hm with rfl | hm
    · exact hne rfl
    · rcases List.mem_append.mp hm with hm | hm
      · have := hb j hm; omega
      · have := hlb j hm; omega
  have far : ∀ j, b ≤ j → j < S.next → j ∉ lv.block → j ∉ o :: (x.block ++ lv.block) := fun j hj hn hl hm => by
    rcases List.mem_cons.mp hm with rfl | hm
    · omega
    · rcases List.mem_append.mp hm with hm | hm
      · rcases hx j hm with h' | h'
        · exact hl h'
        · omega
      · exact hl hm
  refine ⟨h.u.after u fun j hj => .inl ?_, hi, hoo, hpp, Nat.le_trans h.bb u.le, u.get h.lf (out i (by omega) (by omega)), h.gv.upd u fun j hj => ?_, u.get h.at_ (out p (by omega) (by omega)), x, nv, es ++ [vcells v lw nw], F ++ G, ho, ?_, e3.upd u fun j hj => ?_, EAt.snoc (VAt.keep u v hv fun j hj hg => ?_) l (EAt.keep u l e4 fun j hj hF => ?_), fun j hj => ⟨fun hm => ?_, fun hm => ?_⟩, fun j hj hm => ?_⟩
  · rcases List.mem_cons.mp hj with rfl | hj
    · exact hoo.1
    · rcases List.mem_append.mp hj with hj | hj
      · have := hb j hj; omega
      · have := hlb j hj; omega
  · rcases List.mem_cons.mp hj with rfl | hj
    · obtain ⟨_, _, _, _, q, _⟩ := h.ex; exact .inl ⟨_, q⟩
    · rcases List.mem_append.mp hj with hj | hj
      · rcases hx j hj with h' | h'
        · exact .inl (e2.own j h').2
        · exact .inr h'
      · exact .inl (e2.own j hj).2
  · rw [List.length_append]; exact ha
  · exact far j (e3.own j hj).1 (hNn j hj) fun hl => (e5 j hl).2 hj
  · exact far j (VAt.own v hv j hg).1 (hG j hg).2.2 (hG j hg).1 hj
  · exact far j (EAt.own l e4 j hF).1 (hFn j hF) (fun hl => (e5 j hl).1 hF) hj
  · rcases List.mem_append.mp hm with hm | hm
    · rcases hx j hj with h' | h'
      · exact (e5 j h').1 hm
      · have := hFn j hm; omega
    · rcases hx j hj with h' | h'
      · exact (hG j hm).1 h'
      · have := (hG j hm).2.2; omega
  · rcases hx j hj with h' | h'
    · exact (e5 j h').2 hm
    · have := hNn j hm; omega
  · rcases List.mem_append.mp hm with hm | hm
    · exact e6 j hj hm
    · exact (hG j hm).2.1 hj

end Go.Th.L
end

section
/- json: an element joined, in either order of the stores. -/
set_option linter.unusedSimpArgs false
set_option linter.unusedVariables false
set_option maxHeartbeats 1000000
namespace Go.Th.L
open Go Go.Th Go.Th.Pure

theorem Acc.one {S : St} {b k n : Nat} {x : V} {cs : List V} (h : Acc S b k x n cs) : x.one = true := by
  rcases h.at_.2.2 with ⟨rfl, _⟩ | ⟨i, o, c, t, rfl, _⟩ <;> rfl

theorem Acc.cell {S : St} {b k n : Nat} {x : V} {cs : List V} (h : Acc S b k x n cs) : x.cells = [x] := by
  rcases h.at_.2.2 with ⟨rfl, _⟩ | ⟨i, o, c, t, rfl, _⟩ <;> rfl

theorem tailJ {gs : List Nat} {S0 S : St} {i o p b : Nat} {so : Int} {l : List JV} {ns : List Bs8} {s : Bs8} (h : OutJ gs S0 i o p b so l ns s S) {lv nv : V} {es : List (List V)} {F : List Nat}
    (e1 : S.get o = some (.cells [.int .i64 so, .int .i64 0, .str [], lv, nv] true)) (e2 : Acc S b 5 lv l.length es.flatten) (e3 : Acc S b 1 nv ns.length (ns.map V.str)) (e4 : EAt S b l es F) (e5 : ∀ j ∈ lv.block, j ∉ F ∧ j ∉ nv.block) (e6 : ∀ j ∈ nv.block, j ∉ F)
    {v : JV} {lw nw : V} {G : List Nat} (hv : VAt S b v lw nw G) (hG : ∀ j ∈ G, j ∉ lv.block ∧ j ∉ nv.block) (o1 : lw.one = true) (o2 : nw.one = true) {g : Nat} (hg : S.get g = some (.cells slotJ0 true)) (hn : l.length ≤ 1048576) {K : St → Prop}
    (hk : ∀ S', OutJ gs S0 i o p b so (l ++ [v]) ns s S' → K S') :
    ifP (appV S 5 80 lv (.slice g 0 1 1 5 true)) fun x8 S3 => ifS (idxAddrV 5 x8 (.int .i64 ((l.length : Nat) : Int))) fun x9 => ifS (fieldAddrV 3 (.ptr o 0)) fun x10 =>
      (ifS (storeV S3 5 x9 (.agg (vcells v lw nw))) fun S4 => ifS (storeV S4 1 x10 x8) fun S5 => K S5) ∧ (ifS (storeV S3 1 x10 x8) fun S6 => ifS (storeV S6 5 x9 (.agg (vcells v lw nw))) fun S7 => K S7) := by
  have hw := h.u.wf
  have hoo := h.oo
  have lt : ∀ {j : Nat}, (∃ cs, S.get j = some (.cells cs true)) → j < S.next := fun ⟨_, e⟩ => hw.lt e
  have olt : o < S.next := hw.lt e1
  refine slot_app hw h.bb e2 hn hg fun x S3 a3 u3 t3 => ?_
  have hxb : ∀ j ∈ x.block, b ≤ j := fun j hj => (a3.own j hj).1
  have c3 : S3.get o = some (.cells [.int .i64 so, .int .i64 0, .str [], lv, nv] true) := u3.get e1 fun hm => by have := (e2.own o hm).1; omega
  have fin := fun S2 u ha ho => hk S2 (h.joined (x := x) e2 e3 e4 e5 e6 hv (fun j hj => ⟨(hG j hj).1, (hG j hj).2, lt (VAt.own v hv j hj).2⟩) t3 (fun j hj => lt (EAt.own l e4 j hj).2) (fun j hj => lt (e3.own j hj).2) u hxb ha ho)
  have u3' : Upd (o :: (x.block ++ lv.block)) S S3 := u3.mono fun j hj => .inl (by simp [hj])
  refine ifS_mk (slot_idx a3) (ifS_mk (a := .ptr o 3) rfl ⟨?_, ?_⟩)
  · refine slot_put u3.wf a3 (EAt.len l e4).2 (EAt.len l e4).1 o1 o2 fun S4 a4 u4 => ?_
    have c4 := u4.get c3 fun hm => by have := hxb o hm; omega
    refine st_mk u4.wf c4 (by rw [Acc.cell a3]; rfl) (by rw [Acc.cell a3]; simp) (by rw [Acc.cell a3]; simp [Acc.one a3]) fun S5 u5 m5 n5 => fin S5 ?_ ?_ ?_
    · exact (u3'.trans (u4.mono fun j hj => .inl (by simp [hj]))).trans (u5.mono fun j hj => .inl (by simp at hj; simp [hj]))
    · exact a4.upd u5 fun j hj hd => by rw [List.mem_singleton.mp hd] at hj; have := hxb o hj; omega
    · rw [m5, Acc.cell a3]; rfl
  · refine st_mk u3.wf c3 (by rw [Acc.cell a3]; rfl) (by rw [Acc.cell a3]; simp) (by rw [Acc.cell a3]; simp [Acc.one a3]) fun S5 u5 m5 n5 => ?_
    refine slot_put u5.wf (a3.upd u5 fun j hj hd => by rw [List.mem_singleton.mp hd] at hj; have := hxb o hj; omega) (EAt.len l e4).2 (EAt.len l e4).1 o1 o2 fun S6 a6 u6 => fin S6 ?_ a6 ?_
    · exact (u3'.trans (u5.mono fun j hj => .inl (by simp at hj; simp [hj]))).trans (u6.mono fun j hj => .inl (by simp [hj]))
    · rw [Acc.cell a3] at m5; exact u6.get m5 fun hm => by have := hxb o hm; omega

end Go.Th.L
end

section
/- json: a value's list and names are one cell each. -/
set_option linter.unusedSimpArgs false
set_option linter.unusedVariables false
set_option maxHeartbeats 1000000
namespace Go.Th.L
open Go Go.Th Go.Th.Pure
variable {P : Program} {N : Nat → Nat}

theorem VAt.ones {S : St} {b : Nat} {v : JV} {lw nw : V} {G : List Nat} (h : VAt S b v lw nw G) : lw.one = true ∧ nw.one = true := by
  cases v
  unfold VAt at h
  obtain ⟨es, F1, a1, a2, a3, _⟩ := h
  exact ⟨Acc.one a1, Acc.one a3⟩

end Go.Th.L
end

section
/- json: a name joined. -/
set_option linter.unusedSimpArgs false
set_option linter.unusedVariables false
set_option maxHeartbeats 1000000
namespace Go.Th.L
open Go Go.Th Go.Th.Pure

theorem nameJ {gs : List Nat} {S0 S : St} {i o p b : Nat} {so : Int} {l : List JV} {ns : List Bs8} {s t : Bs8} (h : OutJ gs S0 i o p b so l ns s S) {lv nv : V} {es : List (List V)} {F : List Nat}
    (e1 : S.get o = some (.cells [.int .i64 so, .int .i64 0, .str [], lv, nv] true)) (e2 : Acc S b 5 lv l.length es.flatten) (e3 : Acc S b 1 nv ns.length (ns.map V.str)) (e4 : EAt S b l es F) (e5 : ∀ j ∈ lv.block, j ∉ F ∧ j ∉ nv.block) (e6 : ∀ j ∈ nv.block, j ∉ F)
    {g : Nat} (hg : S.get g = some (.cells [.str t] true)) (hn : ns.length ≤ 1048576) {K : St → Prop} (hk : ∀ S', OutJ gs S0 i o p b so l (ns ++ [t]) s S' → K S') :
    ifP (appV S 1 16 nv (.slice g 0 1 1 1 true)) fun x S3 => ifS (fieldAddrV 4 (.ptr o 0)) fun y => ifS (storeV S3 1 y x) K := by
  have hw := h.u.wf
  have hi := h.ii
  have hoo := h.oo
  have hpp := h.pp
  have hbb := h.bb
  have lt : ∀ {j : Nat}, (∃ cs, S.get j = some (.cells cs true)) → j < S.next := fun ⟨_, e⟩ => hw.lt e
  have nb : ∀ {j : Nat}, j < b → j ∉ nv.block := fun hj hm => by have := (e3.own _ hm).1; omega
  have hs : srcV 1 S (.slice g 0 1 1 1 true) = some (1, [V.str t]) := by
    simp only [srcV, if_true]
    rw [St.loads_of hg (by simp)]
    rfl
  obtain ⟨x, S3, q1, a3, u3, t3⟩ := e3.app hw hbb hs rfl rfl (bytes := 16) (by omega) (by omega)
  refine ifP_mk q1 (ifS_mk (a := .ptr o 4) rfl ?_)
  have c3 := u3.get e1 (nb hoo.2)
  have hxb : ∀ j ∈ x.block, b ≤ j := fun j hj => (a3.own j hj).1
  refine st_mk u3.wf c3 (by rw [Acc.cell a3]; rfl) (by rw [Acc.cell a3]; simp) (by rw [Acc.cell a3]; simp [Acc.one a3]) fun S5 u5 m5 n5 => hk S5 ?_
  rw [Acc.cell a3] at m5
  have no : ∀ {j : Nat}, j ≠ o → j ∉ [o] := fun hj hm => hj (List.mem_singleton.mp hm)
  have f3 : Upd [i] S0 S3 := h.u.after u3 fun j hj => .inl (by have := (e3.own j hj).1; omega)
  refine ⟨f3.after u5 fun j hj => .inl (by rw [List.mem_singleton.mp hj]; exact hoo.1), hi, hoo, hpp, Nat.le_trans hbb (Nat.le_trans u3.le u5.le), u5.get (u3.get h.lf (nb (by omega))) (no (by omega)), ?_, u5.get (u3.get h.at_ (nb (by omega))) (no (by omega)), lv, x, es, F, m5, ?_, ?_, ?_, fun j hj => ⟨(e5 j hj).1, fun hm => ?_⟩, fun j hj hF => ?_⟩
  · exact (h.gv.upd u3 fun j hj => .inl (e3.own j hj).2).upd u5 fun j hj => .inl (by rw [List.mem_singleton] at hj; subst hj; exact ⟨_, c3⟩)
  · exact (e2.upd u3 fun j hj => (e5 j hj).2).upd u5 fun j hj => no (by have := (e2.own j hj).1; omega)
  · rw [List.length_append, List.map_append]
    exact a3.upd u5 fun j hj => no (by have := hxb j hj; omega)
  · exact EAt.keep u5 l (EAt.keep u3 l e4 fun j hj hF => e6 j hj hF) fun j hj hF => no (by have := (EAt.own l e4 j hF).1; omega) hj
  · rcases t3 j hm with h' | h'
    · exact (e5 j hj).2 h'
    · have := lt (e2.own j hj).2; omega
  · rcases t3 j hj with h' | h'
    · exact e6 j h' hF
    · have := lt (EAt.own l e4 j hF).2; omega

end Go.Th.L
end

section
/- json: an element of an object. -/
set_option linter.unusedSimpArgs false
set_option linter.unusedVariables false
set_option maxHeartbeats 1000000
namespace Go.Th.L
open Go Go.Th Go.Th.Pure
variable {P : Program} {N : Nat → Nat}

theorem bothJ {gs : List Nat} {n : Nat} (hV : ValueOk P N gs n) {S0 S : St} {i o p b : Nat} {so : Int} {l : List JV} {ns : List Bs8} {s : Bs8} (h : OutJ gs S0 i o p b so l ns s S) {lv nv : V} {es : List (List V)} {F : List Nat}
    (e1 : S.get o = some (.cells [.int .i64 so, .int .i64 0, .str [], lv, nv] true)) (e2 : Acc S b 5 lv l.length es.flatten) (e3 : Acc S b 1 nv ns.length (ns.map V.str)) (e4 : EAt S b l es F) (e5 : ∀ j ∈ lv.block, j ∉ F ∧ j ∉ nv.block) (e6 : ∀ j ∈ nv.block, j ∉ F)
    (hs : s.length < n) (hs2 : s.length ≤ 1048576) (hl : l.length ≤ 1048576) {KP : V → St → Prop} {K : St → Prop} (k1 : pvJ s = none → ∀ S', Upd [i] S0 S' → KP (wrongV N) S') (k2 : ∀ v r, pvJ s = some (v, r) → ∀ S', OutJ gs S0 i o p b so (l ++ [v]) ns r S' → K S') :
    (CallA P (N Fn.json_reading_value) [.ptr i 0] S (retK [(.agg [(.int .i64), (.int .i64), .str, .any, .any])] KP fun (x5_a : Int) (x5_b : Int) (x5_c : List UInt8) (x5_d : V) (x5_e : V) (S1 : St) =>
      sameK (V.block lv ++ (V.block (.ptr o 3) ++ [])) S S1 (newS S1 (.cells [(V.int .i64 0), (V.int .i64 0), (V.str ([] : List UInt8)), V.nilSlice, V.nilSlice] true) fun S2 =>
      sameK (V.block lv ++ (V.block (.ptr p 0) ++ (V.block (.ptr o 3) ++ []))) S1 S2 (ifP (appV S2 5 80 lv (V.slice S1.next 0 1 1 5 true)) fun x8 S3 =>
      ifS (idxAddrV 5 x8 (V.int .i64 ((l.length : Nat) : Int))) fun x9 =>
      ifS (fieldAddrV 3 (.ptr o 0)) fun x10 =>
      (ifS (storeV S3 5 x9 (V.agg [(V.int .i64 x5_a), (V.int .i64 x5_b), (V.str x5_c), x5_d, x5_e])) fun S4 =>
       ifS (storeV S4 1 x10 x8) fun S5 =>
       K  S5) ∧
      (ifS (storeV S3 1 x10 x8) fun S6 =>
       ifS (storeV S6 5 x9 (V.agg [(V.int .i64 x5_a), (V.int .i64 x5_b), (V.str x5_c), x5_d, x5_e])) fun S7 =>
       K  S7))))) ∧
    (newS S (.cells [(V.int .i64 0), (V.int .i64 0), (V.str ([] : List UInt8)), V.nilSlice, V.nilSlice] true) fun S8 =>
      sameK (V.block lv ++ (V.block (.ptr p 0) ++ (V.block (.ptr o 3) ++ []))) S S8 (CallA P (N Fn.json_reading_value) [.ptr i 0] S8 (retK [(.agg [(.int .i64), (.int .i64), .str, .any, .any])] KP fun (x5_a_1 : Int) (x5_b_1 : Int) (x5_c_1 : List UInt8) (x5_d_1 : V) (x5_e_1 : V) (S9 : St) =>
      sameK (V.block lv ++ (V.block (.ptr o 3) ++ [])) S8 S9 (ifP (appV S9 5 80 lv (V.slice S.next 0 1 1 5 true)) fun x8_1 S10 =>
      ifS (idxAddrV 5 x8_1 (V.int .i64 ((l.length : Nat) : Int))) fun x9_1 =>
      ifS (fieldAddrV 3 (.ptr o 0)) fun x10_1 =>
      (ifS (storeV S10 5 x9_1 (V.agg [(V.int .i64 x5_a_1), (V.int .i64 x5_b_1), (V.str x5_c_1), x5_d_1, x5_e_1])) fun S11 =>
       ifS (storeV S11 1 x10_1 x8_1) fun S12 =>
       K  S12) ∧
      (ifS (storeV S10 1 x10_1 x8_1) fun S13 =>
       ifS (storeV S13 5 x9_1 (V.agg [(V.int .i64 x5_a_1), (V.int .i64 x5_b_1), (V.str x5_c_1), x5_d_1, x5_e_1])) fun S14 =>
       K  S14))))) := by
  have hw := h.u.wf
  have hi := h.ii
  have hoo := h.oo
  have hpp := h.pp
  have hbb := h.bb
  have lt : ∀ {j : Nat}, (∃ cs, S.get j = some (.cells cs true)) → j < S.next := fun ⟨_, e⟩ => hw.lt e
  have nx : ∀ {j : Nat}, S0.next ≤ j → j ∉ [i] := fun hj hm => by rw [List.mem_singleton.mp hm] at hj; omega
  have inR : ∀ {j : Nat}, j ∈ V.block lv ++ (V.block (.ptr p 0) ++ (V.block (.ptr o 3) ++ [])) → j ∉ [i] ∧ j < S.next := fun {j} hj => by
    simp only [List.mem_append] at hj
    rcases hj with hj | hj | hj | hj
    · exact ⟨nx (by have := (e2.own j hj).1; omega), lt (e2.own j hj).2⟩
    · rw [List.mem_singleton.mp hj]; exact ⟨fun hm => hpp.1 (List.mem_singleton.mp hm), hw.lt h.at_⟩
    · rw [List.mem_singleton.mp hj]; exact ⟨nx hoo.1, hw.lt e1⟩
    · cases hj
  have inR2 : ∀ {j : Nat}, j ∈ V.block lv ++ (V.block (.ptr o 3) ++ []) → j ∉ [i] ∧ j < S.next := fun {j} hj => inR (by simp only [List.mem_append] at hj ⊢; rcases hj with hj | hj | hj; exact .inl hj; exact .inr (.inr (.inl hj)); cases hj)
  refine ⟨?_, ?_⟩
  · refine hV hw h.gv h.lf hs hs2 (fun e S' u => k1 e S' (h.u.trans u)) fun v r lw nw G e S1 u1 l1 v1 => ?_
    refine sameK_mk (fun j hj => ?_) (newS_mk u1.wf fun S2 g2 m2 n2 => sameK_mk (Same.of_grow g2 fun j hj => ?_) ?_)
    · exact u1.keep j (inR2 hj).2 (inR2 hj).1
    · have := (inR hj).2; have := u1.le; omega
    have u2 : Upd [i] S S2 := u1.trans (g2.mono (by simp))
    refine tailJ (h.left u2 (g2.get l1)) (u2.get e1 (nx hoo.1)) (e2.upd u2 fun j hj => nx (by have := (e2.own j hj).1; omega)) (e3.upd u2 fun j hj => nx (by have := (e3.own j hj).1; omega)) (EAt.keep u2 l e4 fun j hj hF => nx (by have := (EAt.own l e4 j hF).1; omega) hj) e5 e6
      (VAt.below hbb v (v1.grow g2)) (fun j hj => ?_) v1.ones.1 v1.ones.2 m2 hl fun S' hJ => k2 v r e S' hJ
    have := (VAt.own v v1 j hj).1
    exact ⟨fun hm => by have := lt (e2.own j hm).2; omega, fun hm => by have := lt (e3.own j hm).2; omega⟩
  · refine newS_mk hw fun S8 g8 m8 n8 => sameK_mk (Same.of_grow g8 fun j hj => (inR hj).2) ?_
    have u8 : Upd [i] S S8 := g8.mono (by simp)
    have h8 := h.left u8 (g8.get h.lf)
    refine hV h8.u.wf h8.gv h8.lf hs hs2 (fun e S' u => k1 e S' (h8.u.trans u)) fun v r lw nw G e S1 u1 l1 v1 => ?_
    have u2 : Upd [i] S S1 := u8.trans u1
    refine sameK_mk (fun j hj => u1.keep j (by have := (inR2 hj).2; have := u8.le; omega) (inR2 hj).1) ?_
    refine tailJ (h8.left u1 l1) (u2.get e1 (nx hoo.1)) (e2.upd u2 fun j hj => nx (by have := (e2.own j hj).1; omega)) (e3.upd u2 fun j hj => nx (by have := (e3.own j hj).1; omega)) (EAt.keep u2 l e4 fun j hj hF => nx (by have := (EAt.own l e4 j hF).1; omega) hj) e5 e6
      (VAt.below (by have := u8.le; omega) v v1) (fun j hj => ?_) v1.ones.1 v1.ones.2 (u1.get m8 (nx (by omega))) hl fun S' hJ => k2 v r e S' hJ
    have := (VAt.own v v1 j hj).1
    have := u8.le
    exact ⟨fun hm => by have := lt (e2.own j hm).2; omega, fun hm => by have := lt (e3.own j hm).2; omega⟩

theorem json_reading_value_1.each {gs : List Nat} (hF : json_reading_value_1.Ok P N) {n : Nat} (hV : ValueOk P N gs n) {S0 : St} {i o p b : Nat} :
    EachJ P N (N Fn.json_reading_value_1) [.ptr o 0, .ptr p 0] false n (fun l ns s S => OutJ gs S0 i o p b 6 l ns s S ∧ l.length + s.length ≤ 1048576) (Upd [i] S0) := by
  rintro l ns s S KP K hs ⟨h, hln⟩ k0 k1 k2
  obtain ⟨lv, nv, es, F, e1, e2, e3, e4, e5, e6⟩ := h.ex
  refine json_reading_value_1.run hF (ifS_mk (a := .ptr o 3) rfl (ifS_mk (ld e1 rfl) (ifS_mk (ld h.at_ rfl) ⟨_, e2.at_.len, ?_⟩)))
  refine bothJ hV h e1 e2 e3 e4 e5 e6 hs (by omega) (by omega) (fun e S' u => k1 ns s rfl e S' u) fun v r e S' hJ => ?_
  have := (left_len _).1 e
  exact k2 ns s v r rfl e S' ⟨hJ, by simp; omega⟩

theorem json_reading_value_2.each {gs : List Nat} (hO : JsonF P N gs) (hF : json_reading_value_2.Ok P N) {n : Nat} (hV : ValueOk P N gs n) {S0 : St} {i o p b : Nat} :
    EachJ P N (N Fn.json_reading_value_2) [.ptr p 0, .ptr o 0] true n (fun l ns s S => OutJ gs S0 i o p b 7 l ns s S ∧ l.length + s.length ≤ 1048576 ∧ ns.length + s.length ≤ 1048576) (Upd [i] S0) := by
  rintro l ns s S KP K hs ⟨h, hln, hnn⟩ k0 k1 k2
  have hi := h.ii
  have hoo := h.oo
  have hpp := h.pp
  refine json_reading_value_2.run hF (ifS_mk (ld h.at_ rfl) (CallA.np (json_reading_comes.spec hO.comes hO.cut h.u.wf h.lf fun S1 u1 l1 n1 => ?_)))
  cases hq : comesJ [34] s with
  | none => exact json_is.spec hO.is (fun _ => k0 (by unfold headJ; rw [if_pos rfl, hq]) S1 (h.u.trans u1)) fun hb => by cases hb
  | some r0 =>
  have hr0 := comes_le hq
  refine json_is.spec hO.is (fun hb => by cases hb) fun _ => ?_
  rw [hq] at l1
  simp only [Option.getD_some] at l1
  have h1 := h.left u1 l1
  obtain ⟨lv, nv, es, F, e1, e2, e3, e4, e5, e6⟩ := h1.ex
  have hd : ∀ {q : Option (List Bs8 × Bs8)}, (match textJ (r0.length + 1) [] r0 with
      | some (t, r) => (comesJ [58] (blanksJ r)).map fun r => (ns ++ [t], blanksJ r)
      | none => none) = q → headJ true ns s = q := fun e => by unfold headJ; rw [if_pos rfl, hq]; exact e
  refine ifS_mk (a := .ptr o 4) rfl (ifS_mk (ld e1 rfl) (ifS_mk (ld h1.at_ rfl) (json_reading_text.spec hO h1.u.wf h1.gv h1.lf (by omega) (fun e S' u => k0 (hd (by rw [e])) S' (h1.u.trans u)) fun t r e S2 u2 l2 => ?_)))
  have hr := text_len e
  rw [e] at hd
  simp only at hd
  have nx : ∀ {j : Nat}, S0.next ≤ j → j ∉ [i] := fun hj hm => by rw [List.mem_singleton.mp hm] at hj; omega
  have olt := h1.u.wf.lt e1
  have plt := h1.u.wf.lt h1.at_
  refine sameK_mk (fun j hj => u2.keep j ?_ ?_) (newS_mk u2.wf fun S3 g3 m3 n3 => sameK_mk (Same.of_grow g3 fun j hj => ?_) ?_)
  · simp [V.block] at hj; omega
  · simp [V.block] at hj; simp; omega
  · have := u2.le; simp [V.block] at hj; omega
  have u3 : Upd [i] S1 S3 := u2.trans (g3.mono (by simp))
  refine nameJ (h1.left u3 (g3.get l2)) (u3.get e1 (nx hoo.1)) (e2.upd u3 fun j hj => nx (by have := (e2.own j hj).1; omega)) (e3.upd u3 fun j hj => nx (by have := (e3.own j hj).1; omega)) (EAt.keep u3 l e4 fun j hj hF => nx (by have := (EAt.own l e4 j hF).1; omega) hj) e5 e6 m3 (by omega) fun S4 h4 => ?_
  have b1 := blanks_le r
  refine ifS_mk (ld h4.at_ rfl) (CallA.np (json_reading_blanks.spec hO.blanks hO.trim h4.u.wf h4.lf fun S5 u5 l5 n5 => ?_))
  have h5 := h4.left u5 l5
  refine ifS_mk (ld h5.at_ rfl) (CallA.np (json_reading_comes.spec hO.comes hO.cut h5.u.wf h5.lf fun S6 u6 l6 n6 => ?_))
  cases hq2 : comesJ [58] (blanksJ r) with
  | none => exact json_is.spec hO.is (fun _ => k0 (hd (by rw [hq2]; rfl)) S6 (h5.u.trans u6)) fun hb => by cases hb
  | some r2 =>
  have hr2 := comes_le hq2
  have b2 := blanks_le r2
  simp at hr2
  refine json_is.spec hO.is (fun hb => by cases hb) fun _ => ?_
  rw [hq2] at l6
  simp only [Option.getD_some] at l6
  have h6 := h5.left u6 l6
  refine ifS_mk (ld h6.at_ rfl) (CallA.np (json_reading_blanks.spec hO.blanks hO.trim h6.u.wf h6.lf fun S7 u7 l7 n7 => ?_))
  have h7 := h6.left u7 l7
  have hh : headJ true ns s = some (ns ++ [t], blanksJ r2) := hd (by rw [hq2]; rfl)
  obtain ⟨lv, nv, es, F, e1, e2, e3, e4, e5, e6⟩ := h7.ex
  refine ifS_mk (a := .ptr o 3) rfl (ifS_mk (ld e1 rfl) (ifS_mk (ld h7.at_ rfl) ⟨_, e2.at_.len, ?_⟩))
  refine bothJ hV h7 e1 e2 e3 e4 e5 e6 (by omega) (by omega) (by omega) (fun e S' u => k1 _ _ hh e S' u) fun v r' e S' hJ => ?_
  have := (left_len _).1 e
  exact k2 _ _ v r' hh e S' ⟨hJ, by simp; omega, by simp; omega⟩

end Go.Th.L
end

section
/- json: a value taken off. -/
set_option linter.unusedSimpArgs false
set_option linter.unusedVariables false
set_option maxHeartbeats 1000000
namespace Go.Th.L
open Go Go.Th Go.Th.Pure
variable {P : Program} {N : Nat → Nat}

structure ReadF (P : Program) (N : Nat → Nat) (gs : List Nat) : Prop where
  o : JsonF P N gs
  value : json_reading_value.Ok P N
  v1 : json_reading_value_1.Ok P N
  v2 : json_reading_value_2.Ok P N
  list : json_reading_list.Ok P N
  can1 : canEnter P (N Fn.json_reading_value_1) = true
  can2 : canEnter P (N Fn.json_reading_value_2) = true

structure InV (gs : List Nat) (S0 : St) (i p q : Nat) (s : Bs8) (S : St) : Prop where
  u : Upd [i] S0 S
  lf : LeftAt S i s
  gv : GV gs S
  pc : S.get p = some (.cells [.ptr i 0] true)
  qc : S.get q = some (.cells slotJ0 true)
  ii : i < S0.next
  pp : S0.next ≤ p
  qq : S0.next ≤ q
  ne : p ≠ q
section
variable {gs : List Nat} {S0 S S' : St} {i p q : Nat} {s t : Bs8}
theorem InV.left (h : InV gs S0 i p q s S) (u : Upd [i] S S') (m : LeftAt S' i t) : InV gs S0 i p q t S' := by
  have hi := h.ii
  have hp := h.pp
  have hq := h.qq
  exact ⟨h.u.trans u, m, h.gv.left u h.lf, u.get h.pc (by simp; omega), u.get h.qc (by simp; omega), hi, hp, hq, h.ne⟩
theorem InV.comes {gs' : List Nat} (hO : JsonF P N gs') (h : InV gs S0 i p q s S) {w : Bs8} {KP : V → St → Prop} {K1 K2 : St → Prop} (h1 : ∀ r, comesJ w s = some r → ∀ S', InV gs S0 i p q r S' → K1 S') (h2 : comesJ w s = none → ∀ S', InV gs S0 i p q s S' → K2 S') :
    ifS (loadV S (.ptr p 0)) fun x => CallA P (N Fn.json_reading_comes) [x, .str w] S (retK [.one .bool] KP fun (b : Bool) (S' : St) => ifC b (K1 S') (K2 S')) := by
  refine ifS_mk (ld h.pc rfl) (CallA.np (json_reading_comes.spec hO.comes hO.cut h.u.wf h.lf fun S3 u3 l3 n3 => ?_))
  have i3 := h.left u3 l3
  cases hq : comesJ w s with
  | some r =>
    rw [hq] at i3
    exact ifC_tt rfl (h1 r hq S3 i3)
  | none =>
    rw [hq] at i3
    exact ifC_ff rfl (h2 hq S3 i3)
end
theorem fin_mk {S : St} (hw : S.Wf) {q : Nat} (hq : S.get q = some (.cells slotJ0 true)) {a b : Int} {c : Bs8} {d e : V} (hd : d.one = true) (he : e.one = true) {K : Int → Int → Bs8 → V → V → St → Prop} (hk : ∀ S', Upd [q] S S' → K a b c d e S') :
    ifS (storeV S 5 (.ptr q 0) (.agg [.int .i64 a, .int .i64 b, .str c, d, e])) fun S4 => ∃ xa xb : Int, ∃ xc : Bs8, ∃ xd xe : V, cellNV S4 5 (.ptr q 0) = some (.agg [.int .i64 xa, .int .i64 xb, .str xc, xd, xe]) ∧ K xa xb xc xd xe S4 := by
  refine st_mk hw hq (by simp [V.cells]) (by simp [V.cells, slotJ0]) (by simp only [V.cells, List.all_cons, List.all_nil, hd, he]; rfl) fun S4 u4 m4 n4 => ⟨a, b, c, d, e, ldC m4 ?_ ?_, hk S4 u4⟩
  · simp [over, V.cells, slotJ0]
  · simp [over, V.cells, slotJ0]
theorem InV.fin {gs : List Nat} {S0 S : St} {i p q : Nat} {r : Bs8} (h : InV gs S0 i p q r S) {so n : Int} {t : Bs8} {K : Int → Int → Bs8 → V → V → St → Prop} (hk : ∀ S', Upd [i] S0 S' → LeftAt S' i r → VAt S' S0.next (.mk so n t [] []) .nilSlice .nilSlice [] → K so n t .nilSlice .nilSlice S') :
    ifS (storeV S 5 (.ptr q 0) (.agg [.int .i64 so, .int .i64 n, .str t, .nilSlice, .nilSlice])) fun S4 => ∃ xa xb : Int, ∃ xc : Bs8, ∃ xd xe : V, cellNV S4 5 (.ptr q 0) = some (.agg [.int .i64 xa, .int .i64 xb, .str xc, xd, xe]) ∧ K xa xb xc xd xe S4 := by
  have hi := h.ii
  have hq := h.qq
  refine fin_mk h.u.wf h.qc rfl rfl fun S' u => hk S' (h.u.after u fun j hj => .inl (by rw [List.mem_singleton.mp hj]; exact hq)) (u.get h.lf (by simp; omega)) (VAt.nil _ _ _ _ _)

theorem InV.out {gs : List Nat} {S0 S : St} {i p q : Nat} {r : Bs8} (h : InV gs S0 i p q r S) {so : Int} {K : St → Prop} (hk : ∀ S', OutJ gs S i S.next p S'.next so [] [] r S' → K S') :
    newS S (.cells [(V.int .i64 0), (V.int .i64 0), (V.str ([] : List UInt8)), V.nilSlice, V.nilSlice] true) fun S1 => ifS (storeV S1 5 (V.ptr S.next 0) (V.agg [(V.int .i64 so), (V.int .i64 0), (V.str ([] : List UInt8)), V.nilSlice, V.nilSlice])) K := by
  have hi := h.ii
  have hp := h.pp
  have hw := h.u.wf
  have plt := hw.lt h.pc
  have ilt := hw.lt h.lf
  refine newS_mk hw fun S1 g1 m1 n1 => st_mk g1.wf m1 (by simp [V.cells]) (by simp [V.cells]) (by simp [V.cells, V.one]) fun S2 u2 m2 n2 => hk S2 ?_
  have u02 : Upd [i] S S2 := (g1.mono (by simp)).after u2 fun j hj => .inl (by rw [List.mem_singleton.mp hj]; exact Nat.le_refl _)
  have l2 : LeftAt S2 i r := u2.get (g1.get h.lf) (by simp; omega)
  exact ⟨u02, ilt, ⟨Nat.le_refl _, by omega⟩, ⟨by omega, plt⟩, Nat.le_refl _, l2, h.gv.left u02 h.lf, u2.get (g1.get h.pc) (by simp; omega), .nilSlice, .nilSlice, [], [], m2, Acc.nil _ _ _, Acc.nil _ _ _, (by unfold EAt; exact ⟨rfl, rfl⟩), by simp [V.block], by simp [V.block]⟩

theorem InV.done {gs : List Nat} {S0 S S2 : St} {i p q o b : Nat} {r r2 : Bs8} (h : InV gs S0 i p q r S) {so : Int} {l : List JV} {ns : List Bs8} (k : OutJ gs S i o p b so l ns r2 S2) {K : Int → Int → Bs8 → V → V → St → Prop}
    (hk : ∀ lv nv F S', Upd [i] S0 S' → LeftAt S' i r2 → VAt S' S0.next (.mk so 0 [] l ns) lv nv F → K so 0 [] lv nv S') : ∃ a b : Int, ∃ c : List UInt8, ∃ d e : V, loadNV S2 5 (V.ptr o 0) = some (V.agg [(V.int .i64 a), (V.int .i64 b), (V.str c), d, e]) ∧
      ifS (storeV S2 5 (V.ptr q 0) (V.agg [(V.int .i64 a), (V.int .i64 b), (V.str c), d, e])) fun S4 =>
      ∃ xa xb : Int, ∃ xc : Bs8, ∃ xd xe : V, cellNV S4 5 (.ptr q 0) = some (.agg [.int .i64 xa, .int .i64 xb, .str xc, xd, xe]) ∧ K xa xb xc xd xe S4 := by
  have hi := h.ii
  have hq := h.qq
  obtain ⟨lv, nv, F, e1, e2⟩ := k.val
  have qlt := h.u.wf.lt h.qc
  have o2 := e2.ones
  refine ⟨so, 0, [], lv, nv, ldN e1 (by simp [vcells]) rfl, fin_mk k.u.wf (k.u.get h.qc (by simp; omega)) o2.1 o2.2 fun S' u => hk lv nv F S' ((h.u.trans k.u).after u fun j hj => .inl (by rw [List.mem_singleton.mp hj]; exact hq)) (u.get k.lf (by simp; omega)) (VAt.below h.u.le _ (VAt.keep u _ e2 fun j hj hF => ?_))⟩
  rw [List.mem_singleton.mp hj] at hF
  have := (VAt.own _ e2 q hF).1
  omega

theorem items_names : ∀ {n : Nat} {e : UInt8} {l : List JV} {ns : List Bs8} {s r : Bs8} {p : List JV} {q : List Bs8}, itemsJ n e false l ns s = some (p, q, r) → q = ns
  | 0, _, _, _, _, _, _, _, h => by simp [itemsJ] at h
  | n + 1, e, l, ns, s, r, p, q, h => by
    rw [items_eq] at h
    simp only [headJ, Bool.false_eq_true, if_false] at h
    split at h
    · cases h
    · split at h
      · simp only [Option.some.injEq, Prod.mk.injEq] at h; exact h.2.1.symm
      · split at h
        · exact items_names h
        · cases h
theorem pit_names {e : UInt8} {l : List JV} {ns : List Bs8} {s r : Bs8} {p : List JV} {q : List Bs8} (h : pitJ e false l ns s = some (p, q, r)) : q = ns := items_names h

theorem json_reading_value.next {gs : List Nat} (hO : ReadF P N gs) {n : Nat} (hV : ValueOk P N gs n) : ValueOk P N gs (n + 1) := by
  intro S i s KP K hw hG h hn hl k0 k1
  have hi := hw.lt h
  refine json_reading_value.run hO.value (newS_mk hw fun S1 g1 m1 n1 => newS_mk g1.wf fun S2 g2 m2 n2 => ?_)
  have u2 : Upd [i] S S2 := (g1.trans g2).mono (by simp)
  have i2 : InV gs S i S.next S1.next s S2 := ⟨u2, g2.get (g1.get h), hG.left u2 h, g2.get m1, m2, hi, Nat.le_refl _, by omega, by omega⟩
  have k1' : ∀ v r, pvJ s = some (v, r) → ∀ lv nv F S', Upd [i] S S' → LeftAt S' i r → VAt S' S.next v lv nv F → K v.sort v.num v.text lv nv S' := fun v r e lv nv F S' u l h => k1 v r lv nv F e S' u l h
  clear k1
  rw [pvJ_eq] at k0 k1'
  refine i2.comes hO.o (fun r e S3 i3 => ?_) fun e1 S3 i3 => ?_
  · rw [e] at k1'
    exact i3.fin fun S' u l v => k1' _ _ rfl _ _ _ S' u l v
  rw [e1] at k0 k1'
  simp only at k0 k1'
  refine i3.comes hO.o (fun r e S5 i5 => ?_) fun e1 S5 i5 => ?_
  · rw [e] at k1'
    exact i5.fin fun S' u l v => k1' _ _ rfl _ _ _ S' u l v
  rw [e1] at k0 k1'
  simp only at k0 k1'
  refine i5.comes hO.o (fun r e S7 i7 => ?_) fun e1 S7 i7 => ?_
  · rw [e] at k1'
    exact i7.fin fun S' u l v => k1' _ _ rfl _ _ _ S' u l v
  rw [e1] at k0 k1'
  simp only at k0 k1'
  refine i7.comes hO.o (fun r e S9 i9 => ?_) fun e1 S9 i9 => ?_
  · rw [e] at k1' k0
    simp only at k0 k1'
    have hr := comes_le e
    refine ifS_mk (ld i9.pc rfl) (json_reading_text.spec hO.o i9.u.wf i9.gv i9.lf (by omega) (fun e S' u => k0 (by rw [e]; rfl) S' (i9.u.trans u)) fun t r e S' u l => ?_)
    exact (i9.left u l).fin fun S' u l v => k1' _ _ (by rw [e]; rfl) _ _ _ S' u l v
  rw [e1] at k0 k1'
  simp only at k0 k1'
  refine i9.comes hO.o (fun r e S12 i12 => ?_) fun e1 S12 i12 => ?_
  · rw [e] at k1' k0
    simp only at k0 k1'
    have hr := comes_le e
    simp at hr
    refine i12.out fun S14 o14 => ifS_mk (ld o14.at_ rfl) ?_
    refine json_reading_list.spec (s := r) hO.o hO.list (callee_mk hO.can1) (nm := false) (J := fun l ns s T => OutJ gs S12 i S12.next S.next S14.next 6 l ns s T ∧ l.length + s.length ≤ 1048576) (fun h => h.1.st) (fun h u m hle => ⟨h.1.left u m, by have := h.2; omega⟩) (fun h => h.1.u) (json_reading_value_1.each hO.v1 hV) ⟨o14, by simp; omega⟩ (by omega) (fun r2 e2 S' j => ?_) (fun e2 e3 S' u => k0 (by rw [e2]; simp only; rw [e3]; rfl) S' (i12.u.trans u)) (fun l ns r2 e2 e3 S' j => ?_)
    · rw [e2] at k1'
      exact i12.done j.1 fun lv nv F S' u l v => k1' _ _ rfl lv nv F S' u l v
    · rw [e2] at k1'
      simp only at k1'
      rw [e3] at k1'
      have hns := pit_names e3
      subst hns
      exact i12.done j.1 fun lv nv F S' u l v => k1' _ _ rfl lv nv F S' u l v
  rw [e1] at k0 k1'
  simp only at k0 k1'
  refine i12.comes hO.o (fun r e S17 i17 => ?_) fun e1 S17 i17 => ?_
  · rw [e] at k1' k0
    simp only at k0 k1'
    have hr := comes_le e
    simp at hr
    refine i17.out fun S14 o14 => ifS_mk (ld o14.at_ rfl) ?_
    refine json_reading_list.spec (s := r) hO.o hO.list (callee_mk hO.can2) (nm := true) (J := fun l ns s T => OutJ gs S17 i S17.next S.next S14.next 7 l ns s T ∧ l.length + s.length ≤ 1048576 ∧ ns.length + s.length ≤ 1048576) (fun h => h.1.st) (fun h u m hle => ⟨h.1.left u m, by have := h.2.1; omega, by have := h.2.2; omega⟩) (fun h => h.1.u) (json_reading_value_2.each hO.o hO.v2 hV) ⟨o14, by simp; omega, by simp; omega⟩ (by omega) (fun r2 e2 S' j => ?_) (fun e2 e3 S' u => k0 (by rw [e2]; simp only; rw [e3]; rfl) S' (i17.u.trans u)) (fun l ns r2 e2 e3 S' j => ?_)
    · rw [e2] at k1'
      exact i17.done j.1 fun lv nv F S' u l v => k1' _ _ rfl lv nv F S' u l v
    · rw [e2] at k1'
      simp only at k1'
      rw [e3] at k1'
      exact i17.done j.1 fun lv nv F S' u l v => k1' _ _ rfl lv nv F S' u l v
  rw [e1] at k0 k1'
  simp only at k0 k1'
  refine ifS_mk (ld i17.pc rfl) (json_reading_number.spec hO.o i17.u.wf i17.gv i17.lf (by omega) (fun e S' u => k0 (by rw [e]; rfl) S' (i17.u.trans u)) fun n r e S' u l => ?_)
  exact (i17.left u l).fin fun S' u l v => k1' _ _ (by rw [e]; rfl) _ _ _ S' u l v

theorem json_reading_value.ok {gs : List Nat} (hO : ReadF P N gs) (n : Nat) : ValueOk P N gs n := by
  induction n with
  | zero =>
    intro S i s KP K hw hG h hn
    exact absurd hn (Nat.not_lt_zero _)
  | succ n ih => exact json_reading_value.next hO ih

end Go.Th.L
end

section
/- strconv.ParseUint at two hexadecimal digits. -/
set_option linter.unusedSimpArgs false
set_option linter.unusedVariables false
set_option maxHeartbeats 1000000
namespace Go.Th.L
open Go Go.Th Go.Th.Pure
variable {P : Program} {N : Nat → Nat}

theorem low_or (c : UInt8) : intBits .or .u8 ((c.toNat : Nat) : Int) (32 : Int) = ((c.toNat ||| 32 : Nat) : Int) := by
  have : ∀ m : Fin 256, intBits .or .u8 ((m.val : Nat) : Int) (32 : Int) = ((m.val ||| 32 : Nat) : Int) := by decide +kernel
  exact this ⟨c.toNat, c.toNat_lt⟩
theorem hex_cases (c : UInt8) : (48 ≤ c.toNat ∧ c.toNat ≤ 57 → hexJ c = some (c.toNat - 48)) ∧ (¬ (48 ≤ c.toNat ∧ c.toNat ≤ 57) → 97 ≤ c.toNat ||| 32 ∧ c.toNat ||| 32 ≤ 122 → ((c.toNat ||| 32) - 87 < 16 → hexJ c = some ((c.toNat ||| 32) - 87)) ∧ (16 ≤ (c.toNat ||| 32) - 87 → hexJ c = none)) ∧
    (¬ (48 ≤ c.toNat ∧ c.toNat ≤ 57) → ¬ (97 ≤ c.toNat ||| 32 ∧ c.toNat ||| 32 ≤ 122) → hexJ c = none) := by
  have : ∀ m : Fin 256, (48 ≤ m.val ∧ m.val ≤ 57 → hexJ (UInt8.ofNat m.val) = some (m.val - 48)) ∧ (¬ (48 ≤ m.val ∧ m.val ≤ 57) → 97 ≤ m.val ||| 32 ∧ m.val ||| 32 ≤ 122 → ((m.val ||| 32) - 87 < 16 → hexJ (UInt8.ofNat m.val) = some ((m.val ||| 32) - 87)) ∧ (16 ≤ (m.val ||| 32) - 87 → hexJ (UInt8.ofNat m.val) = none)) ∧
    (¬ (48 ≤ m.val ∧ m.val ≤ 57) → ¬ (97 ≤ m.val ||| 32 ∧ m.val ||| 32 ≤ 122) → hexJ (UInt8.ofNat m.val) = none) := by decide +kernel
  have := this ⟨c.toNat, c.toNat_lt⟩
  simpa only [UInt8.ofNat_toNat] using this
theorem low_lt (c : UInt8) : c.toNat ||| 32 < 256 := Nat.or_lt_two_pow (n := 8) c.toNat_lt (by omega)

theorem internal_strconv_lower.spec (hF : internal_strconv_lower.Ok P N) {S : St} {c : UInt8} {K : Int → St → Prop} (hk : K ((c.toNat ||| 32 : Nat) : Int) S) : CallA P (N Fn.internal_strconv_lower) [.int .u8 (c.toNat : Nat)] S (retT [.one (.int .u8)] K) :=
  internal_strconv_lower.run hF (setI_mk (low_or c) hk)

theorem internal_strconv_ParseUint.hex (hF : internal_strconv_ParseUint.Ok P N) (hL : internal_strconv_lower.Ok P N) {a b : UInt8} {S : St} (hw : S.Wf) {K : Int → V → St → Prop}
    (h0 : hexJ a = none ∨ hexJ b = none → ∀ v S', Grow S S' → K v (.iface (N Fn.ty_internal_strconv_Error) (.int .i64 2)) S') (h1 : ∀ h l : Nat, hexJ a = some h → hexJ b = some l → ∀ S', Grow S S' → K (16 * h + l : Nat) .nilIface S') :
    CallA P (N Fn.internal_strconv_ParseUint) [.str [a, b], .int .i64 16, .int .i64 8] S (retT [.one (.int .u64), .one .any] K) := by
  refine internal_strconv_ParseUint.run hF (ifC_ff (by simp) (Join2.mid (fun s x S' => S = S' ∧ s = [a, b] ∧ x = 16) ?_ ?_))
  · refine Join1.mid (fun x S' => S = S' ∧ x = true) ⟨?_, ?_⟩ ?_
    · exact fun _ => ⟨rfl, rfl⟩
    · intro h; cases h
    · rintro _ _ ⟨rfl, rfl⟩
      exact ifC_tt rfl ⟨rfl, rfl, rfl⟩
  rintro _ _ _ ⟨rfl, rfl, rfl⟩
  refine Join1.mid (fun x S' => S = S' ∧ x = 8) (ifC_ff rfl (Join1.mid (fun x S' => S = S' ∧ x = false) (ifC_ff rfl ⟨rfl, rfl⟩) ?_)) ?_
  · rintro _ _ ⟨rfl, rfl⟩
    exact ifC_ff rfl ⟨rfl, rfl⟩
  rintro _ _ ⟨rfl, rfl⟩
  refine Join1.mid (fun x S' => S = S' ∧ x = 1152921504606846976) (ifC_ff rfl (ifC_tt rfl ⟨rfl, rfl⟩)) ?_
  rintro _ _ ⟨rfl, rfl⟩
  refine setI_mk (n := 8) rfl ⟨by decide, setI_mk (n := 256) rfl (setI_mk (n := 255) rfl (newS_mk hw fun S12 g12 m12 n12 => ?_))⟩
  have sl : ∀ {S' : St}, S'.get S.next = some (.cells (bytesV [a, b]) false) → SlAt S' 1 (V.slice S.next 0 2 2 1 false) 2 (bytesV [a, b]) := by
    intro S' h
    refine ⟨by omega, by simp [bytesV], .inr ⟨_, _, _, _, rfl, Nat.le_refl _, ?_⟩⟩
    rw [St.loads_of h (by simp [bytesV])]
    simp [bytesV]
  refine ⟨2, (sl m12).len, ?_⟩
  refine Loop3.ind (fun m u n x S' => S12 = S' ∧ u = false ∧ ∃ j n0 : Nat, x = j ∧ j ≤ 2 ∧ m = 2 - j ∧ n = n0 ∧ n0 < 256 ∧ (j = 1 → n0 < 16) ∧ (j = 0 → n0 = 0) ∧ (j = 1 → hexJ a = some n0) ∧ (j = 2 → ∃ h l, hexJ a = some h ∧ hexJ b = some l ∧ n0 = 16 * h + l)) 2 ⟨rfl, rfl, 0, 0, rfl, by omega, rfl, rfl, by omega, by omega, fun _ => rfl, by omega, by omega⟩ ?_
  rintro m _ _ _ _ ⟨rfl, rfl, j, n0, rfl, hj, rfl, rfl, hn, hn1, e0, e1, e2⟩
  refine ifC_dec (fun hx => ?_) fun hx => ?_
  · have hj : j < 2 := by omega
    obtain ⟨c, hload, hbad, hgood, hn16⟩ : ∃ c : UInt8, loadV S12 (eltV 1 (V.slice S.next 0 2 2 1 false) j 0) = some (.int .u8 ((c.toNat : Nat) : Int)) ∧ (hexJ c = none → hexJ a = none ∨ hexJ b = none) ∧
        (∀ d, hexJ c = some d → (j + 1 = 1 → hexJ a = some (16 * n0 + d)) ∧ (j + 1 = 2 → ∃ h l, hexJ a = some h ∧ hexJ b = some l ∧ 16 * n0 + d = 16 * h + l)) ∧ n0 < 16 := by
      rcases (by omega : j = 0 ∨ j = 1) with rfl | rfl
      · have := e0 rfl
        subst this
        refine ⟨a, by rw [(sl m12).load (by omega) (by omega)]; rfl, fun h => .inl h, fun d h => ⟨fun _ => by simpa using h, fun h => by omega⟩, by omega⟩
      · exact ⟨b, by rw [(sl m12).load (by omega) (by omega)]; rfl, fun h => .inr h, fun d h => ⟨fun h => by omega, fun _ => ⟨n0, d, e1 rfl, h, rfl⟩⟩, hn1 rfl⟩
    refine ifS_mk ((sl m12).idx hj) ⟨_, hload, ?_⟩
    obtain ⟨hc1, hc2, hc3⟩ := hex_cases c
    have hcl := c.toNat_lt
    have hll := low_lt c
    have gr := g12
    refine Join2.mid (fun u d S' => S12 = S' ∧ u = false ∧ ∃ d0 : Nat, d = d0 ∧ d0 < 256 ∧ (d0 < 16 → hexJ c = some d0) ∧ (16 ≤ d0 → hexJ c = none)) ?_ ?_
    · refine Join1.mid (fun x S' => S12 = S' ∧ x = false) (ifC_dec (fun h => ⟨rfl, rfl⟩) fun h => ⟨rfl, rfl⟩) ?_
      rintro _ _ ⟨rfl, rfl⟩
      refine ifC_ff rfl (Join1.mid (fun x S' => S12 = S' ∧ x = decide (48 ≤ c.toNat ∧ c.toNat ≤ 57)) (ifC_dec (fun h => ⟨rfl, ?_⟩) fun h => ⟨rfl, ?_⟩) ?_)
      · rw [decide_eq_decide]; omega
      · rw [eq_comm, decide_eq_false_iff_not]; omega
      rintro _ _ ⟨rfl, rfl⟩
      refine ifC_dec (fun h => ?_) fun h => ?_
      · refine setI_mk (n := ((c.toNat - 48 : Nat) : Int)) (by rw [IntKind.wrap_u8]; omega) ⟨rfl, rfl, c.toNat - 48, rfl, by omega, fun _ => hc1 h, fun h' => by omega⟩
      refine Join1.mid (fun x S' => S12 = S' ∧ x = decide (97 ≤ c.toNat ||| 32 ∧ c.toNat ||| 32 ≤ 122)) (internal_strconv_lower.spec hL (ifC_dec (fun h' => internal_strconv_lower.spec hL ⟨rfl, ?_⟩) fun h' => ⟨rfl, ?_⟩)) ?_
      · rw [decide_eq_decide]; omega
      · rw [eq_comm, decide_eq_false_iff_not]; omega
      rintro _ _ ⟨rfl, rfl⟩
      refine ifC_dec (fun h' => internal_strconv_lower.spec hL ?_) fun h' => h0 (hbad (hc3 h h')) _ _ g12
      have := hc2 h h'
      refine setI_mk (n := (((c.toNat ||| 32) - 97 : Nat) : Int)) (by rw [IntKind.wrap_u8]; omega) (setI_mk (n := (((c.toNat ||| 32) - 87 : Nat) : Int)) (by rw [IntKind.wrap_u8]; omega) ⟨rfl, rfl, (c.toNat ||| 32) - 87, rfl, by omega, this.1, this.2⟩)
    rintro _ _ _ ⟨rfl, rfl, d0, rfl, hd, hd1, hd2⟩
    refine setI_mk (n := 16) rfl (ifC_dec (fun h => h0 (hbad (hd2 (by omega))) _ _ g12) fun h => ifC_ff (by rw [decide_eq_false_iff_not]; omega) ?_)
    have hg := hgood d0 (hd1 (by omega))
    refine setI_mk (n := 16) rfl (setI_mk (n := ((n0 * 16 : Nat) : Int)) (by rw [IntKind.wrap_u64]; omega) (setI_mk (n := ((d0 : Nat) : Int)) (by rw [IntKind.wrap_u64]; omega) (setI_mk (n := ((16 * n0 + d0 : Nat) : Int)) (by rw [IntKind.wrap_u64]; omega) ?_)))
    refine Join1.mid (fun x S' => S12 = S' ∧ x = false) (ifC_ff (by rw [decide_eq_false_iff_not]; omega) ⟨rfl, by rw [decide_eq_false_iff_not]; omega⟩) ?_
    rintro _ _ ⟨rfl, rfl⟩
    refine ifC_ff rfl (setI_mk (n := ((j + 1 : Nat) : Int)) (wrap_nat (by omega)) ⟨2 - (j + 1), by omega, rfl, rfl, j + 1, 16 * n0 + d0, rfl, by omega, rfl, rfl, by omega, fun h => ?_, fun h => by omega, hg.1, hg.2⟩)
    have : j = 0 := by omega
    have := e0 this
    omega
  · have hj : j = 2 := by omega
    subst hj
    obtain ⟨h, l, a1, a2, rfl⟩ := e2 rfl
    refine Join1.mid (fun x S' => S12 = S' ∧ x = false) (ifC_ff rfl ⟨rfl, rfl⟩) ?_
    rintro _ _ ⟨rfl, rfl⟩
    exact ifC_ff rfl (h1 h l a1 a2 _ g12)

def ToErrS (P : Program) (N : Nat → Nat) (gs : List Nat) : Prop := ∀ {fn s : Bs8} {x y : Int} {S : St} {K : V → St → Prop}, S.Wf → GV gs S → s.length ≤ 1048576 → (∀ t, K (.iface t .junk) S) →
  CallA P (N Fn.strconv_toError) [.str fn, .str s, .int .i64 x, .int .i64 y, .iface (N Fn.ty_internal_strconv_Error) (.int .i64 2)] S (retT [.one .any] K)

theorem strconv_ParseUint.hex {gs : List Nat} (hP : strconv_ParseUint.Ok P N) (hF : internal_strconv_ParseUint.Ok P N) (hL : internal_strconv_lower.Ok P N) (hE : ToErrS P N gs) : HexW P (N Fn.strconv_ParseUint) gs := by
  intro a b S K hw hG h0 h1
  refine strconv_ParseUint.run hP (internal_strconv_ParseUint.hex hF hL hw (fun hx v S' g => ⟨false, rfl, ifC_tt rfl (hE g.wf (hG.upd g (by simp)) (by simp) fun t => h0 hx v _ S' g rfl)⟩) fun h l e1 e2 S' g => ⟨true, rfl, ifC_ff rfl (h1 h l e1 e2 S' g)⟩)

end Go.Th.L
end

section
/- json: values that are read only. -/
set_option linter.unusedSimpArgs false
set_option linter.unusedVariables false
set_option maxHeartbeats 1000000
namespace Go.Th.L
open Go Go.Th Go.Th.Pure
variable {P : Program} {N : Nat → Nat}

mutual
def RV (S : St) (B : Nat) : JV → V → V → Prop
  | .mk _ _ _ l ns, lv, nv => ∃ es, SlE S 5 lv es ∧ RVs S B l es ∧ SlAt S 1 nv ns.length (ns.map V.str) ∧ (l ≠ [] → ∀ i ∈ lv.block, i < B) ∧ (ns ≠ [] → ∀ i ∈ nv.block, i < B)
def RVs (S : St) (B : Nat) : List JV → List (List V) → Prop
  | [], es => es = []
  | v :: l, es => ∃ lv nv es', es = vcells v lv nv :: es' ∧ RV S B v lv nv ∧ RVs S B l es'
end
theorem RVs.length {S : St} {B : Nat} : ∀ {l : List JV} {es : List (List V)}, RVs S B l es → es.length = l.length
  | [], es, h => by simp only [RVs] at h; rw [h]; rfl
  | v :: l, es, h => by
    simp only [RVs] at h
    obtain ⟨lv, nv, es', rfl, _, h2⟩ := h
    simp [RVs.length h2]
theorem RVs.get {S : St} {B : Nat} : ∀ {l : List JV} {es : List (List V)}, RVs S B l es → ∀ {j : Nat} (hj : j < l.length) (hj2 : j < es.length), ∃ lv nv, es[j] = vcells l[j] lv nv ∧ RV S B l[j] lv nv
  | [], es, h, j, hj, _ => absurd hj (by simp)
  | v :: l, es, h, j, hj, hj2 => by
    simp only [RVs] at h
    obtain ⟨lv, nv, es', rfl, h1, h2⟩ := h
    cases j with
    | zero => exact ⟨lv, nv, rfl, h1⟩
    | succ j =>
      simp only [List.length_cons] at hj hj2
      exact RVs.get h2 (j := j) (by omega) (by omega)
mutual
theorem RV.upd {S S' : St} {D : List Nat} {B B' : Nat} (u : Upd D S S') (hD : ∀ i ∈ D, B ≤ i) (hB : B ≤ B') : ∀ (v : JV) {lv nv : V}, RV S B v lv nv → RV S' B' v lv nv
  | .mk so n t l ns, lv, nv, h => by
    simp only [RV] at h ⊢
    obtain ⟨es, h1, h2, h3, h4, h5⟩ := h
    refine ⟨es, ?_, RVs.upd u hD hB l h2, ?_, fun hl i hi => Nat.lt_of_lt_of_le (h4 hl i hi) hB, fun hl i hi => Nat.lt_of_lt_of_le (h5 hl i hi) hB⟩
    · by_cases hl : l = []
      · subst hl
        simp only [RVs] at h2
        subst h2
        refine ⟨?_, h1.2⟩
        obtain ⟨a1, a2, a3⟩ := h1.1
        refine ⟨a1, a2, ?_⟩
        rcases a3 with h | ⟨i, o, c, t, e1, e2, e3⟩
        · exact .inl h
        · refine .inr ⟨i, o, c, t, e1, e2, ?_⟩
          simp [St.loads]
      · exact h1.upd u fun i hi hd => by have := h4 hl i hi; have := hD i hd; omega
    · by_cases hl : ns = []
      · subst hl
        obtain ⟨a1, a2, a3⟩ := h3
        refine ⟨a1, a2, ?_⟩
        rcases a3 with h | ⟨i, o, c, t, e1, e2, e3⟩
        · exact .inl h
        · refine .inr ⟨i, o, c, t, e1, e2, ?_⟩
          simp [St.loads]
      · exact h3.upd u fun i hi hd => by have := h5 hl i hi; have := hD i hd; omega
theorem RVs.upd {S S' : St} {D : List Nat} {B B' : Nat} (u : Upd D S S') (hD : ∀ i ∈ D, B ≤ i) (hB : B ≤ B') : ∀ (l : List JV) {es : List (List V)}, RVs S B l es → RVs S' B' l es
  | [], es, h => by simp only [RVs] at h ⊢; exact h
  | v :: l, es, h => by
    simp only [RVs] at h ⊢
    obtain ⟨lv, nv, es', rfl, h1, h2⟩ := h
    exact ⟨lv, nv, es', rfl, RV.upd u hD hB v h1, RVs.upd u hD hB l h2⟩
end
mutual
theorem VAt.rv {S : St} {b B : Nat} : ∀ (v : JV) {lv nv : V} {F : List Nat}, VAt S b v lv nv F → (∀ i ∈ F, i < B) → RV S B v lv nv
  | .mk so n t l ns, lv, nv, F, h, hF => by
    simp only [VAt, RV] at h ⊢
    obtain ⟨es, F1, a1, a2, a3, a4, a5, a6, rfl⟩ := h
    have hl := (EAt.len l a4).1
    exact ⟨es, ⟨hl ▸ a1.at_, a2⟩, EAt.rvs l a4 fun i hi => hF i (by simp [hi]), a3.at_, fun _ i hi => hF i (by simp [hi]), fun _ i hi => hF i (by simp [hi])⟩
theorem EAt.rvs {S : St} {b B : Nat} : ∀ (l : List JV) {es : List (List V)} {F : List Nat}, EAt S b l es F → (∀ i ∈ F, i < B) → RVs S B l es
  | [], es, F, h, hF => by
    simp only [EAt, RVs] at h ⊢
    exact h.1
  | v :: l, es, F, h, hF => by
    simp only [EAt, RVs] at h ⊢
    obtain ⟨lv, nv, es', F1, F2, rfl, h1, h2, rfl⟩ := h
    exact ⟨lv, nv, es', rfl, VAt.rv v h1 fun i hi => hF i (by simp [hi]), EAt.rvs l h2 fun i hi => hF i (by simp [hi])⟩
end

structure RVat (S : St) (B : Nat) (v : JV) (lv nv : V) (es : List (List V)) : Prop where
  sl : SlE S 5 lv es
  rs : RVs S B v.list es
  nm : SlAt S 1 nv v.names.length (v.names.map V.str)
  lb : v.list ≠ [] → ∀ i ∈ lv.block, i < B
  nb : v.names ≠ [] → ∀ i ∈ nv.block, i < B
section
variable {S S' : St} {B B' : Nat} {v : JV} {lv nv : V} {es : List (List V)}
theorem RV.at_ (h : RV S B v lv nv) : ∃ es, RVat S B v lv nv es := by
  cases v
  simp only [RV] at h
  obtain ⟨es, h1, h2, h3, h4, h5⟩ := h
  exact ⟨es, h1, h2, h3, h4, h5⟩
theorem RVat.rv (h : RVat S B v lv nv es) : RV S B v lv nv := by
  cases v
  simp only [RV]
  exact ⟨es, h.sl, h.rs, h.nm, h.lb, h.nb⟩
theorem RV.grow (h : RV S B v lv nv) (g : Grow S S') (hB : B ≤ B') : RV S' B' v lv nv := RV.upd g (by simp) hB v h
theorem RVat.upd {D : List Nat} (h : RVat S B v lv nv es) (u : Upd D S S') (hD : ∀ i ∈ D, B ≤ i) (hB : B ≤ B') : RVat S' B' v lv nv es := by
  obtain ⟨so, n, t, l, ns⟩ := v
  refine ⟨?_, RVs.upd u hD hB l h.rs, ?_, fun hl i hi => Nat.lt_of_lt_of_le (h.lb hl i hi) hB, fun hl i hi => Nat.lt_of_lt_of_le (h.nb hl i hi) hB⟩
  · by_cases hl : l = []
    · subst hl
      have h2 := h.rs
      simp only [JV.list, RVs] at h2
      subst h2
      refine ⟨?_, h.sl.2⟩
      obtain ⟨a1, a2, a3⟩ := h.sl.1
      refine ⟨a1, a2, ?_⟩
      rcases a3 with h | ⟨i, o, c, t, e1, e2, e3⟩
      · exact .inl h
      · refine .inr ⟨i, o, c, t, e1, e2, ?_⟩
        simp [St.loads]
    · exact h.sl.upd u fun i hi hd => by have := h.lb hl i hi; have := hD i hd; omega
  · by_cases hl : ns = []
    · subst hl
      obtain ⟨a1, a2, a3⟩ := h.nm
      refine ⟨a1, a2, ?_⟩
      rcases a3 with h | ⟨i, o, c, t, e1, e2, e3⟩
      · exact .inl h
      · refine .inr ⟨i, o, c, t, e1, e2, ?_⟩
        simp [St.loads, JV.names]
    · exact h.nm.upd u fun i hi hd => by have := h.nb hl i hi; have := hD i hd; omega
theorem RVat.grow (h : RVat S B v lv nv es) (g : Grow S S') (hB : B ≤ B') : RVat S' B' v lv nv es := h.upd g (by simp) hB
theorem RVat.len (h : RVat S B v lv nv es) : lenV S 2 lv = some (.int .i64 (v.list.length : Nat)) := by
  rw [h.sl.len, RVs.length h.rs]
theorem RVat.nlen (h : RVat S B v lv nv es) : lenV S 2 nv = some (.int .i64 (v.names.length : Nat)) := h.nm.len
theorem RVat.le (h : RVat S B v lv nv es) : v.list.length ≤ 4611686018427387904 := by
  have := h.sl.1.le
  rw [RVs.length h.rs] at this
  exact this
theorem RVat.nle (h : RVat S B v lv nv es) : v.names.length ≤ 4611686018427387904 := h.nm.le
theorem RVat.idx (h : RVat S B v lv nv es) {j : Nat} (hj : j < v.list.length) : idxAddrV 5 lv (.int .i64 (j : Int)) = some (eltV 5 lv j 0) := h.sl.idx (by rw [RVs.length h.rs]; exact hj)
theorem RVat.elt (h : RVat S B v lv nv es) {j : Nat} (hj : j < v.list.length) : ∃ lw nw, loadNV S 5 (eltV 5 lv j 0) = some (.agg (vcells v.list[j] lw nw)) ∧ RV S B v.list[j] lw nw := by
  have hj2 : j < es.length := by rw [RVs.length h.rs]; exact hj
  obtain ⟨lw, nw, e, hr⟩ := RVs.get h.rs hj hj2
  exact ⟨lw, nw, by rw [h.sl.getN hj2 (by omega), e], hr⟩
theorem RVat.nidx (h : RVat S B v lv nv es) {j : Nat} (hj : j < v.names.length) : idxAddrV 1 nv (.int .i64 (j : Int)) = some (eltV 1 nv j 0) := h.nm.idx hj
theorem RVat.name (h : RVat S B v lv nv es) {j : Nat} (hj : j < v.names.length) : loadV S (eltV 1 nv j 0) = some (.str v.names[j]) := by
  rw [h.nm.load hj (by omega)]
  simp [hj]
theorem RVat.ones (h : RVat S B v lv nv es) : lv.one = true ∧ nv.one = true := ⟨h.sl.1.one1, h.nm.one1⟩
end
theorem wrap_next {j n : Nat} (hj : j < n) (hn : n ≤ 4611686018427387904) : IntKind.i64.wrap (((j : Nat) : Int) + 1) = ((j + 1 : Nat) : Int) := wrap_nat (by omega)

end Go.Th.L
end

section
/- json: what asks a value, and all within it (the document's functions). -/
set_option linter.unusedSimpArgs false
set_option linter.unusedVariables false
set_option maxHeartbeats 1000000
namespace Go.Th.L
open Go Go.Th Go.Th.Pure
variable {P : Program} {N : Nat → Nat}

def AsksJ (P : Program) (f : FuncId) (q : JV → Bool) (n : Nat) : Prop := ∀ {S : St} {v : JV} {lv nv : V} {K : Bool → St → Prop}, S.Wf → RV S S.next v lv nv → SizeOf.sizeOf v < n → (∀ S', Grow S S' → K (q v) S') → CallA P f [.agg (vcells v lv nv)] S (retT [.one .bool] K)

theorem all_false {l : List JV} {q : JV → Bool} {j : Nat} (hj : j < l.length) (h : q l[j] = false) : l.all q = false := by
  rw [List.all_eq_false]
  exact ⟨l[j], List.getElem_mem hj, by rw [h]; simp⟩
theorem all_take {l : List JV} {q : JV → Bool} {j : Nat} (hj : j < l.length) (h : (l.take j).all q = true) (h2 : q l[j] = true) : (l.take (j + 1)).all q = true := by
  rw [← List.take_append_getElem hj, List.all_append, h]; simp [h2]

theorem each_loop {f : FuncId} {q : JV → Bool} {n : Nat} (hf : AsksJ P f q n) {S : St} (hw : S.Wf) {a : Nat} {v : JV} {lv nv : V} {es : List (List V)} (hc : S.get a = some (.cells (vcells v lv nv) true)) (hv : RVat S S.next v lv nv es) (hn : ∀ w ∈ v.list, SizeOf.sizeOf w < n) {K : Bool → St → Prop}
    (hk : ∀ S', Grow S S' → K (v.list.all q) S') : Loop1 (fun (k2 : Int → St → Prop) (x3 : Int) (S3 : St) =>
    ifS (loadV S3 (V.ptr a 3)) fun x14 =>
    ∃ x15 : Int, lenV S3 2 x14 = some (V.int .i64 x15) ∧
    ifC (decide (x3 < x15))
    (ifS (loadV S3 (V.ptr a 3)) fun x20 =>
     ifS (idxAddrV 5 x20 (V.int .i64 x3)) fun x22 =>
     ∃ x23_a x23_b : Int, ∃ x23_c : List UInt8, ∃ x23_d x23_e : V, loadNV S3 5 x22 = some (V.agg [(V.int .i64 x23_a), (V.int .i64 x23_b), (V.str x23_c), x23_d, x23_e]) ∧
     CallA P f [(V.agg [(V.int .i64 x23_a), (V.int .i64 x23_b), (V.str x23_c), x23_d, x23_e])] S3 (retT [(.one .bool)] fun (x24 : Bool) (S4 : St) =>
     ifC (!x24)
     (K false S4)
     (setI (IntKind.i64.wrap (x3 + (1 : Int))) fun x18 =>
      k2 x18 S4)))
    (K true S3))
   0 S := by
  refine Loop1.ind (fun m x S' => ∃ j : Nat, x = j ∧ j ≤ v.list.length ∧ m = v.list.length - j ∧ Grow S S' ∧ (v.list.take j).all q = true) v.list.length ⟨0, rfl, Nat.zero_le _, rfl, Upd.refl hw _, rfl⟩ ?_
  rintro m _ S3 ⟨j, rfl, hj, rfl, g, ha⟩
  have h3 := hv.grow g g.le
  have c3 := g.get hc
  refine ifS_mk (ld c3 rfl) ⟨_, h3.len, ifC_dec (fun hx => ?_) fun hx => ?_⟩
  · have hj : j < v.list.length := by omega
    obtain ⟨lw, nw, e, r⟩ := h3.elt hj
    refine ifS_mk (ld c3 rfl) (ifS_mk (h3.idx hj) ⟨_, _, _, _, _, e, hf g.wf r (hn _ (List.getElem_mem hj)) fun S4 g4 => ?_⟩)
    cases hq : q v.list[j] with
    | false =>
      have := hk S4 (g.trans g4)
      rw [all_false hj hq] at this
      exact ifC_tt rfl this
    | true =>
      refine ifC_ff rfl (setI_mk (n := ((j + 1 : Nat) : Int)) (wrap_next hj hv.le) ⟨v.list.length - (j + 1), by omega, j + 1, rfl, hj, rfl, g.trans g4, all_take hj ha hq⟩)
  · have hj : j = v.list.length := by omega
    subst hj
    rw [List.take_length] at ha
    have := hk S3 g
    rw [ha] at this
    exact this

structure RefCheckF (P : Program) (N : Nat → Nat) : Prop where
  check : ref20_Check.Ok P N
  formed : ref20_formed.Ok P N
  deep : ref20_deep.Ok P N
  small : ref20_small.Ok P N
  few : ref20_few.Ok P N
  unlike : ref20_unlike.Ok P N

theorem asks_zero {f : FuncId} {q : JV → Bool} : AsksJ P f q 0 := by
  intro S v lv nv K _ _ h
  exact absurd h (Nat.not_lt_zero _)

theorem ref20_small.asks (hF : ref20_small.Ok P N) (n : Nat) : AsksJ P (N Fn.ref20_small) (allJ small1) n := by
  induction n with
  | zero => exact asks_zero
  | succ n ih =>
    intro S v lv nv K hw hv hn hk
    refine ref20_small.run hF (newS_mk hw fun S1 g1 m1 n1 => ?_)
    obtain ⟨es, hv⟩ := hv.at_
    have v1 := hv.grow g1 g1.le
    rw [allJ_eq] at hk
    refine Join0.mid (fun S' => S1 = S' ∧ small1 v = true) ?_ ?_
    · refine ⟨v.num, ld m1 rfl, ifC_dec (fun hx => ?_) fun hx => ⟨v.num, ld m1 rfl, ifC_dec (fun hy => ?_) fun hy => ⟨rfl, ?_⟩⟩⟩
      · have : small1 v = false := by simp [small1]; omega
        rw [this] at hk
        exact hk S1 g1
      · have : small1 v = false := by simp [small1]; omega
        rw [this] at hk
        exact hk S1 g1
      · simp [small1]; omega
    rintro _ ⟨rfl, hs⟩
    rw [hs] at hk
    exact each_loop ih g1.wf m1 v1 (fun w hw => by have := JV.list_lt hw; omega) fun S' g' => hk S' (g1.trans g')

theorem ref20_few.asks (hF : ref20_few.Ok P N) (n : Nat) : AsksJ P (N Fn.ref20_few) (allJ few1) n := by
  induction n with
  | zero => exact asks_zero
  | succ n ih =>
    intro S v lv nv K hw hv hn hk
    refine ref20_few.run hF (newS_mk hw fun S1 g1 m1 n1 => ?_)
    obtain ⟨es, hv⟩ := hv.at_
    have v1 := hv.grow g1 g1.le
    rw [allJ_eq] at hk
    refine ifS_mk (ld m1 rfl) ⟨_, v1.len, ifC_dec (fun hx => ?_) fun hx => ?_⟩
    · have : few1 v = false := by simp [few1]; omega
      rw [this] at hk
      exact hk S1 g1
    · have : few1 v = true := by simp [few1]; omega
      rw [this] at hk
      exact each_loop ih g1.wf m1 v1 (fun w hw => by have := JV.list_lt hw; omega) fun S' g' => hk S' (g1.trans g')

theorem nodup_take {l : List Bs8} {j : Nat} (hj : j < l.length) : (l.take (j + 1)).Nodup ↔ (l.take j).Nodup ∧ l[j] ∉ l.take j := by
  rw [← List.take_append_getElem hj, List.nodup_append]
  simp
  intro _
  constructor
  · intro h hm
    exact h _ hm rfl
  · intro h a ha e
    exact h (e ▸ ha)

theorem ref20_unlike.asks (hF : ref20_unlike.Ok P N) (n : Nat) : AsksJ P (N Fn.ref20_unlike) (allJ unlike1) n := by
  induction n with
  | zero => exact asks_zero
  | succ n ih =>
    intro S v lv nv K hw hv hn hk
    refine ref20_unlike.run hF (newS_mk hw fun S1 g1 m1 n1 => ?_)
    obtain ⟨es, hv⟩ := hv.at_
    have v1 := hv.grow g1 g1.le
    rw [allJ_eq] at hk
    have no : ∀ {j i : Nat} (hj : j < v.names.length) (hi : i < j), v.names[j] = v.names[i]'(by omega) → K false S1 := by
      intro j i hj hi e
      have : unlike1 v = false := by
        simp only [unlike1, decide_eq_false_iff_not]
        intro hd
        exact List.pairwise_iff_getElem.mp hd i j (by omega) hj hi e.symm
      rw [this] at hk
      exact hk S1 g1
    refine Loop1.ind (fun m x S' => S1 = S' ∧ ∃ j : Nat, x = j ∧ j ≤ v.names.length ∧ m = v.names.length - j ∧ (v.names.take j).Nodup) v.names.length ⟨rfl, 0, rfl, Nat.zero_le _, rfl, by simp⟩ ?_
    rintro m _ _ ⟨rfl, j, rfl, hj, rfl, hd⟩
    refine ifS_mk (ld m1 rfl) ⟨_, v1.nlen, ifC_dec (fun hx => ?_) fun hx => ?_⟩
    · have hj : j < v.names.length := by omega
      refine Loop1.ind (fun m x S' => S1 = S' ∧ ∃ i : Nat, x = i ∧ i ≤ j ∧ m = j - i ∧ ∀ k (hk : k < i) (hk2 : k < v.names.length), v.names[j] ≠ v.names[k]) j ⟨rfl, 0, rfl, Nat.zero_le _, rfl, fun k hk => absurd hk (Nat.not_lt_zero _)⟩ ?_
      rintro m _ _ ⟨rfl, i, rfl, hi, rfl, hne⟩
      refine ifC_dec (fun hy => ?_) fun hy => ?_
      · have hi : i < j := by omega
        refine ifS_mk (ld m1 rfl) (ifS_mk (v1.nidx hj) ⟨_, v1.name hj, ifS_mk (ld m1 rfl) (ifS_mk (v1.nidx (j := i) (by omega)) ⟨_, v1.name (j := i) (by omega), ifC_dec (fun he => no hj hi he) fun he => ?_⟩)⟩)
        refine setI_mk (n := ((i + 1 : Nat) : Int)) (wrap_next (n := v.names.length) (by omega) hv.nle) ⟨j - (i + 1), by omega, rfl, i + 1, rfl, hi, rfl, fun k hk hk2 => ?_⟩
        by_cases hki : k = i
        · subst hki; exact he
        · exact hne k (by omega) hk2
      · have hij : i = j := by omega
        subst hij
        refine setI_mk (n := ((i + 1 : Nat) : Int)) (wrap_next (n := v.names.length) (by omega) hv.nle) ⟨v.names.length - (i + 1), by omega, rfl, i + 1, rfl, hj, rfl, (nodup_take hj).mpr ⟨hd, fun hm => ?_⟩⟩
        obtain ⟨k, hk, e⟩ := List.mem_take_iff_getElem.mp hm
        exact hne k (by omega) (by omega) e.symm
    · have hj : j = v.names.length := by omega
      subst hj
      rw [List.take_length] at hd
      have : unlike1 v = true := by simp only [unlike1, decide_eq_true_eq]; exact hd
      rw [this] at hk
      exact each_loop ih g1.wf m1 v1 (fun w hw => by have := JV.list_lt hw; omega) fun S' g' => hk S' (g1.trans g')

end Go.Th.L
end

section
/- json: what a value must be (the document's). -/
set_option linter.unusedSimpArgs false
set_option linter.unusedVariables false
set_option maxHeartbeats 1000000
namespace Go.Th.L
open Go Go.Th Go.Th.Pure
variable {P : Program} {N : Nat → Nat}

theorem ifC_nb {b : Bool} {X Y : Prop} (hx : b = false → X) (hy : b = true → Y) : ifC (!b) X Y := by
  cases b
  · exact ifC_tt rfl (hx rfl)
  · exact ifC_ff rfl (hy rfl)

theorem form1_iff (v : JV) : form1 v = true ↔ (1 ≤ v.sort ∧ v.sort ≤ 7 ∧ (v.sort = 4 ∨ v.num = 0) ∧ (v.sort = 5 ∨ v.text = []) ∧ (v.sort = 6 ∨ v.sort = 7 ∨ v.list.length = 0) ∧ (v.sort = 7 → v.names.length = v.list.length) ∧ (v.sort ≠ 7 → v.names.length = 0)) := by
  unfold form1
  by_cases h : v.sort = 7
  · simp [h, and_assoc]
  · simp [h, and_assoc]

theorem ref20_formed.asks (hF : ref20_formed.Ok P N) (n : Nat) : AsksJ P (N Fn.ref20_formed) (allJ form1) n := by
  induction n with
  | zero => exact asks_zero
  | succ n ih =>
    intro S v lv nv K hw hv hn hk
    refine ref20_formed.run hF (newS_mk hw fun S1 g1 m1 n1 => ?_)
    obtain ⟨es, hv⟩ := hv.at_
    have v1 := hv.grow g1 g1.le
    rw [allJ_eq] at hk
    have bad : ¬ (1 ≤ v.sort ∧ v.sort ≤ 7 ∧ (v.sort = 4 ∨ v.num = 0) ∧ (v.sort = 5 ∨ v.text = []) ∧ (v.sort = 6 ∨ v.sort = 7 ∨ v.list.length = 0) ∧ (v.sort = 7 → v.names.length = v.list.length) ∧ (v.sort ≠ 7 → v.names.length = 0)) → K false S1 := by
      intro h
      have : form1 v = false := by rw [← Bool.not_eq_true, form1_iff]; exact h
      rw [this] at hk
      exact hk S1 g1
    refine Join1.mid (fun b S' => S1 = S' ∧ b = decide (v.sort = 6 ∨ v.sort = 7)) ?_ ?_
    · refine ⟨v.sort, ld m1 rfl, ifC_dec (fun hx => ⟨rfl, ?_⟩) fun hx => ⟨v.sort, ld m1 rfl, rfl, ?_⟩⟩
      · simp [hx]
      · simp [hx]
    rintro _ _ ⟨rfl, rfl⟩
    have lists : ∀ {k : Prop}, ((v.sort = 6 ∨ v.sort = 7 ∨ v.list.length = 0) → k) → ifC (!decide (v.sort = 6 ∨ v.sort = 7)) (ifS (loadV S1 (V.ptr S.next 3)) fun x46 => ∃ x47 : Int, lenV S1 2 x46 = some (V.int .i64 x47) ∧ ifC (decide ((0 : Int) < x47)) (K false S1) k) k := by
      intro k hk
      refine ifC_ndec (fun hx => ?_) fun hx => hk (by omega)
      refine ifS_mk (ld m1 rfl) ⟨_, v1.len, ifC_dec (fun hy => bad fun h => by have := h.2.2.2.2.1; omega) fun hy => hk (by omega)⟩
    have texts : ∀ {k : Prop}, ((v.sort = 5 ∨ v.text = []) → (v.sort = 6 ∨ v.sort = 7 ∨ v.list.length = 0) → k) → ∃ x33 : Int, loadV S1 (V.ptr S.next 0) = some (V.int .i64 x33) ∧ ifC (!decide (x33 = (5 : Int))) (∃ x37 : List UInt8, loadV S1 (V.ptr S.next 2) = some (V.str x37) ∧ ifC (!decide (x37 = ([] : List UInt8))) (K false S1)
        (ifC (!decide (v.sort = 6 ∨ v.sort = 7)) (ifS (loadV S1 (V.ptr S.next 3)) fun x46 => ∃ x47 : Int, lenV S1 2 x46 = some (V.int .i64 x47) ∧ ifC (decide ((0 : Int) < x47)) (K false S1) k) k))
        (ifC (!decide (v.sort = 6 ∨ v.sort = 7)) (ifS (loadV S1 (V.ptr S.next 3)) fun x46 => ∃ x47 : Int, lenV S1 2 x46 = some (V.int .i64 x47) ∧ ifC (decide ((0 : Int) < x47)) (K false S1) k) k) := by
      intro k hk
      refine ⟨v.sort, ld m1 rfl, ifC_ndec (fun hx => ⟨v.text, ld m1 rfl, ifC_ndec (fun hy => bad fun h => ?_) fun hy => lists fun h => hk (.inr hy) h⟩) fun hx => lists fun h => hk (.inl hx) h⟩
      rcases h.2.2.2.1 with h | h
      · exact hx h
      · exact hy h
    refine Join0.mid (fun S' => S1 = S' ∧ 1 ≤ v.sort ∧ v.sort ≤ 7 ∧ (v.sort = 4 ∨ v.num = 0) ∧ (v.sort = 5 ∨ v.text = []) ∧ (v.sort = 6 ∨ v.sort = 7 ∨ v.list.length = 0)) ?_ ?_
    · refine ⟨v.sort, ld m1 rfl, ifC_dec (fun hx => bad fun h => by omega) fun hx => ⟨v.sort, ld m1 rfl, ifC_dec (fun hy => bad fun h => by omega) fun hy => ⟨v.sort, ld m1 rfl, ifC_ndec (fun hz => ⟨v.num, ld m1 rfl, ifC_ndec (fun hu => bad fun h => by have := h.2.2.1; omega) fun hu => ?_⟩) fun hz => ?_⟩⟩⟩
      · exact texts fun a b => ⟨rfl, by omega, by omega, .inr hu, a, b⟩
      · exact texts fun a b => ⟨rfl, by omega, by omega, .inl hz, a, b⟩
    rintro _ ⟨rfl, a1, a2, a3, a4, a5⟩
    have names : ∀ {k : Prop}, ((v.sort ≠ 7 → v.names.length = 0) → k) → ∃ x65 : Int, loadV S1 (V.ptr S.next 0) = some (V.int .i64 x65) ∧ ifC (!decide (x65 = (7 : Int))) (ifS (loadV S1 (V.ptr S.next 4)) fun x69 => ∃ x70 : Int, lenV S1 2 x69 = some (V.int .i64 x70) ∧ ifC (decide ((0 : Int) < x70)) (K false S1) k) k := by
      intro k hk
      refine ⟨v.sort, ld m1 rfl, ifC_ndec (fun hx => ifS_mk (ld m1 rfl) ⟨_, v1.nlen, ifC_dec (fun hy => bad fun h => by have := h.2.2.2.2.2.2 hx; omega) fun hy => hk fun _ => by omega⟩) fun hx => hk fun h => absurd hx h⟩
    refine Join0.mid (fun S' => S1 = S' ∧ (v.sort = 7 → v.names.length = v.list.length) ∧ (v.sort ≠ 7 → v.names.length = 0)) ?_ ?_
    · refine ⟨v.sort, ld m1 rfl, ifC_dec (fun hx => ?_) fun hx => names fun h => ⟨rfl, fun h => absurd h hx, h⟩⟩
      refine ifS_mk (ld m1 rfl) ⟨_, v1.nlen, ifS_mk (ld m1 rfl) ⟨_, v1.len, ifC_ndec (fun hy => bad fun h => by have := h.2.2.2.2.2.1 hx; omega) fun hy => names fun h => ⟨rfl, fun _ => by omega, h⟩⟩⟩
    rintro _ ⟨rfl, a6, a7⟩
    have : form1 v = true := (form1_iff v).mpr ⟨a1, a2, a3, a4, a5, a6, a7⟩
    rw [this] at hk
    exact each_loop ih g1.wf m1 v1 (fun w hw => by have := JV.list_lt hw; omega) fun S' g' => hk S' (g1.trans g')

def DeepsJ (P : Program) (f : FuncId) (n : Nat) : Prop := ∀ {S : St} {v : JV} {lv nv : V} {K : Int → St → Prop}, S.Wf → RV S S.next v lv nv → SizeOf.sizeOf v < n → deepJ v ≤ 4611686018427387904 → (∀ S', Grow S S' → K (deepJ v : Nat) S') → CallA P f [.agg (vcells v lv nv)] S (retT [.one (.int .i64)] K)

theorem deepsJ_take {l : List JV} {j : Nat} (hj : j < l.length) : deepsJ (l.take (j + 1)) = max (deepsJ (l.take j)) (deepJ l[j]) := by
  rw [← List.take_append_getElem hj, deepsJ_snoc]
theorem goMax_nat (a b : Nat) : goMax ((a : Nat) : Int) ((b : Nat) : Int) = ((max a b : Nat) : Int) := by
  unfold goMax; split <;> omega

theorem ref20_deep.deeps (hF : ref20_deep.Ok P N) (n : Nat) : DeepsJ P (N Fn.ref20_deep) n := by
  induction n with
  | zero =>
    intro S v lv nv K _ _ h
    exact absurd h (Nat.not_lt_zero _)
  | succ n ih =>
    intro S v lv nv K hw hv hn hd hk
    refine ref20_deep.run hF (newS_mk hw fun S1 g1 m1 n1 => ?_)
    obtain ⟨es, hv⟩ := hv.at_
    have v1 := hv.grow g1 g1.le
    rw [deepJ_eq] at hk hd
    refine Join0.mid (fun S' => S1 = S' ∧ (v.sort = 6 ∨ v.sort = 7)) ?_ ?_
    · refine ⟨v.sort, ld m1 rfl, ifC_ndec (fun hx => ⟨v.sort, ld m1 rfl, ifC_ndec (fun hy => ?_) fun hy => ⟨rfl, .inr hy⟩⟩) fun hx => ⟨rfl, .inl hx⟩⟩
      rw [if_neg (by omega)] at hk
      exact hk S1 g1
    rintro _ ⟨rfl, hs⟩
    rw [if_pos hs] at hk hd
    refine Loop2.ind (fun m y x S' => ∃ j : Nat, x = j ∧ j ≤ v.list.length ∧ m = v.list.length - j ∧ Grow S1 S' ∧ y = (deepsJ (v.list.take j) : Nat)) v.list.length ⟨0, rfl, Nat.zero_le _, rfl, Upd.refl g1.wf _, by rw [List.take_zero, deepsJ]; rfl⟩ ?_
    rintro m _ _ S3 ⟨j, rfl, hj, rfl, g, rfl⟩
    have h3 := v1.grow g g.le
    have c3 := g.get m1
    refine ifS_mk (ld c3 rfl) ⟨_, h3.len, ifC_dec (fun hx => ?_) fun hx => ?_⟩
    · have hj : j < v.list.length := by omega
      obtain ⟨lw, nw, e, r⟩ := h3.elt hj
      have hm := List.getElem_mem hj
      refine ifS_mk (ld c3 rfl) (ifS_mk (h3.idx hj) ⟨_, _, _, _, _, e, ih g.wf (r.grow (Upd.refl g.wf _) (by have := g1.le; have := g.le; omega)) (by have := JV.list_lt hm; omega) (by have := deepsJ_le hm; omega) fun S4 g4 => ?_⟩)
      exact setI_mk (n := ((j + 1 : Nat) : Int)) (wrap_next hj hv.le) ⟨v.list.length - (j + 1), by omega, j + 1, rfl, hj, rfl, g.trans g4, by rw [goMax_nat, deepsJ_take hj]⟩
    · have hj : j = v.list.length := by omega
      subst hj
      rw [List.take_length]
      exact setI_mk (n := ((deepsJ v.list + 1 : Nat) : Int)) (wrap_nat (by omega)) (hk S3 (g1.trans g))

theorem ld5 {S : St} {i : Nat} {v : JV} {lv nv : V} (h : S.get i = some (.cells (vcells v lv nv) true)) : loadNV S 5 (.ptr i 0) = some (.agg (vcells v lv nv)) := ldN h (by simp [vcells]) rfl

def ChecksJ (P : Program) (f : FuncId) : Prop := ∀ {S : St} {v : JV} {lv nv : V} {K : Int → St → Prop}, S.Wf → RV S S.next v lv nv → deepJ v ≤ 4611686018427387904 → (∀ S', Grow S S' → K (checkJ v) S') → CallA P f [.agg (vcells v lv nv)] S (retT [.one (.int .i64)] K)

theorem ref20_Check.spec (hF : RefCheckF P N) : ChecksJ P (N Fn.ref20_Check) := by
  intro S v lv nv K hw hv hd hk
  refine ref20_Check.run hF.check (newS_mk hw fun S1 g1 m1 n1 => ?_)
  have v1 := hv.grow g1 g1.le
  unfold checkJ at hk
  refine ⟨_, _, _, _, _, ld5 m1, ref20_formed.asks hF.formed _ g1.wf v1 (Nat.lt_succ_self _) fun S2 g2 => ?_⟩
  refine ifC_nb (fun h => ?_) fun h => ?_
  · rw [if_pos h] at hk
    exact hk S2 (g1.trans g2)
  rw [if_neg (by rw [h]; simp)] at hk
  have v2 := v1.grow g2 g2.le
  refine ⟨_, _, _, _, _, ld5 (g2.get m1), ref20_deep.deeps hF.deep _ g2.wf v2 (Nat.lt_succ_self _) hd fun S3 g3 => ?_⟩
  refine ifC_dec (fun h => ?_) fun h => ?_
  · rw [if_pos (by omega)] at hk
    exact hk S3 ((g1.trans g2).trans g3)
  rw [if_neg (by omega)] at hk
  have v3 := v2.grow g3 g3.le
  refine ⟨_, _, _, _, _, ld5 (g3.get (g2.get m1)), ref20_small.asks hF.small _ g3.wf v3 (Nat.lt_succ_self _) fun S4 g4 => ?_⟩
  refine ifC_nb (fun h => ?_) fun h => ?_
  · rw [if_pos h] at hk
    exact hk S4 (((g1.trans g2).trans g3).trans g4)
  rw [if_neg (by rw [h]; simp)] at hk
  have v4 := v3.grow g4 g4.le
  refine ⟨_, _, _, _, _, ld5 (g4.get (g3.get (g2.get m1))), ref20_few.asks hF.few _ g4.wf v4 (Nat.lt_succ_self _) fun S5 g5 => ?_⟩
  have g05 := (((g1.trans g2).trans g3).trans g4).trans g5
  refine ifC_nb (fun h => ?_) fun h => ?_
  · rw [if_pos h] at hk
    exact hk S5 g05
  rw [if_neg (by rw [h]; simp)] at hk
  have v5 := v4.grow g5 g5.le
  refine ⟨_, _, _, _, _, ld5 (g5.get (g4.get (g3.get (g2.get m1)))), ref20_unlike.asks hF.unlike _ g5.wf v5 (Nat.lt_succ_self _) fun S6 g6 => ?_⟩
  refine ifC_nb (fun h => ?_) fun h => ?_
  · rw [if_pos h] at hk
    exact hk S6 (g05.trans g6)
  · rw [if_neg (by rw [h]; simp)] at hk
    exact hk S6 (g05.trans g6)

end Go.Th.L
end

section
/- json's reference: a text that is cut, by bytes and words. -/
set_option linter.unusedSimpArgs false
set_option linter.unusedVariables false
set_option maxHeartbeats 1000000
namespace Go.Th.L
open Go Go.Th Go.Th.Pure
variable {P : Program} {N : Nat → Nat}

section
variable {S S' : St} {c : Nat} {s : Bs8} {o : Option Bs8}
end

end Go.Th.L
end

section
/- json's reference: a number cut. -/
set_option linter.unusedSimpArgs false
set_option linter.unusedVariables false
set_option maxHeartbeats 1000000
namespace Go.Th.L
open Go Go.Th Go.Th.Pure
variable {P : Program} {N : Nat → Nat}

end Go.Th.L
end

section
/- json's reference: characters and texts cut. -/
set_option linter.unusedSimpArgs false
set_option linter.unusedVariables false
set_option maxHeartbeats 1000000
namespace Go.Th.Pure
open Go
end Go.Th.Pure
namespace Go.Th.L
open Go Go.Th Go.Th.Pure
variable {P : Program} {N : Nat → Nat}

end Go.Th.L
end

section
/- json's reference: a text cut; lists in memory. -/
set_option linter.unusedSimpArgs false
set_option linter.unusedVariables false
set_option maxHeartbeats 1000000
namespace Go.Th.L
open Go Go.Th Go.Th.Pure
variable {P : Program} {N : Nat → Nat}

end Go.Th.L
end

section
/- json's reference: a list of values being built. -/
set_option linter.unusedSimpArgs false
set_option linter.unusedVariables false
set_option maxHeartbeats 1000000
namespace Go.Th.L
open Go Go.Th Go.Th.Pure
variable {P : Program} {N : Nat → Nat}

structure LAt (S : St) (b : Nat) (l : List JV) (ns : List Bs8) (lv nv : V) (es : List (List V)) (F : List Nat) : Prop where
  a : Acc S b 5 lv l.length es.flatten
  n : Acc S b 1 nv ns.length (ns.map V.str)
  e : EAt S b l es F
  d1 : ∀ j ∈ lv.block, j ∉ F ∧ j ∉ nv.block
  d2 : ∀ j ∈ nv.block, j ∉ F
section
variable {S S' : St} {b : Nat} {l : List JV} {ns : List Bs8} {lv nv : V} {es : List (List V)} {F : List Nat}
theorem LAt.nil (S : St) (b : Nat) : LAt S b [] [] .nilSlice .nilSlice [] [] :=
  ⟨Acc.nil _ _ _, Acc.nil _ _ _, (by unfold EAt; exact ⟨rfl, rfl⟩), by simp [V.block], by simp [V.block]⟩
theorem LAt.upd {D : List Nat} (h : LAt S b l ns lv nv es F) (u : Upd D S S') (hD : ∀ j ∈ D, j < b) : LAt S' b l ns lv nv es F :=
  ⟨h.a.upd u fun j hj hd => by have := (h.a.own j hj).1; have := hD j hd; omega, h.n.upd u fun j hj hd => by have := (h.n.own j hj).1; have := hD j hd; omega,
    EAt.keep u l h.e fun j hd hF => by have := (EAt.own l h.e j hF).1; have := hD j hd; omega, h.d1, h.d2⟩
theorem LAt.grow (h : LAt S b l ns lv nv es F) (g : Grow S S') : LAt S' b l ns lv nv es F := h.upd g (by simp)
theorem LAt.vat (h : LAt S b l ns lv nv es F) (so n : Int) (t : Bs8) : VAt S b (.mk so n t l ns) lv nv (lv.block ++ (nv.block ++ F)) := by
  unfold VAt
  exact ⟨es, F, h.a, (EAt.len l h.e).2, h.n, h.e, h.d1, h.d2, rfl⟩
theorem LAt.addv (h : LAt S b l ns lv nv es F) (hw : S.Wf) (hb : b ≤ S.next) {v : JV} {lw nw : V} {G : List Nat} (hv : VAt S b v lw nw G) (hG : ∀ j ∈ G, j ∉ lv.block ∧ j ∉ nv.block) {g : Nat} (hg : S.get g = some (.cells (vcells v lw nw) true)) (hn : l.length ≤ 1048576) {K : V → St → Prop}
    (hk : ∀ x S', Upd lv.block S S' → LAt S' b (l ++ [v]) ns x nv (es ++ [vcells v lw nw]) (F ++ G) → K x S') : ifP (appV S 5 80 lv (.slice g 0 1 1 5 true)) K := by
  have hs : srcV 5 S (.slice g 0 1 1 5 true) = some (1, vcells v lw nw) := by
    simp only [srcV, if_true]
    rw [St.loads_of hg (by simp [vcells])]
    rfl
  have o := hv.ones
  obtain ⟨x, S3, q1, a3, u3, t3⟩ := h.a.app hw hb hs rfl (by simp only [vcells, List.all_cons, List.all_nil, o.1, o.2]; rfl) (bytes := 80) (by omega) (by omega)
  have lt : ∀ {j : Nat}, (∃ cs, S.get j = some (.cells cs true)) → j < S.next := fun ⟨_, e⟩ => hw.lt e
  refine ifP_mk q1 (hk x S3 u3 ⟨?_, h.n.upd u3 fun j hj hd => (h.d1 j hd).2 hj, EAt.snoc (VAt.keep u3 v hv fun j hd hj => (hG j hj).1 hd) l (EAt.keep u3 l h.e fun j hd hj => (h.d1 j hd).1 hj), fun j hj => ⟨fun hm => ?_, fun hm => ?_⟩, fun j hj hm => ?_⟩)
  · rw [List.length_append, List.flatten_append, List.flatten_cons, List.flatten_nil, List.append_nil]; exact a3
  · rcases List.mem_append.mp hm with hm | hm
    · rcases t3 j hj with h' | h'
      · exact (h.d1 j h').1 hm
      · have := lt (EAt.own l h.e j hm).2; omega
    · rcases t3 j hj with h' | h'
      · exact (hG j hm).1 h'
      · have := lt (VAt.own v hv j hm).2; omega
  · rcases t3 j hj with h' | h'
    · exact (h.d1 j h').2 hm
    · have := lt (h.n.own j hm).2; omega
  · rcases List.mem_append.mp hm with hm | hm
    · exact h.d2 j hj hm
    · exact (hG j hm).2 hj
end

end Go.Th.L
namespace Go.Th.Pure
open Go
end Go.Th.Pure
end

section
/- json's reference: values cut. -/
set_option linter.unusedSimpArgs false
set_option linter.unusedVariables false
set_option maxHeartbeats 1000000
namespace Go.Th.L
open Go Go.Th Go.Th.Pure
variable {P : Program} {N : Nat → Nat}

end Go.Th.L
end

section
/- json's reference: values cut. -/
set_option linter.unusedSimpArgs false
set_option linter.unusedVariables false
set_option maxHeartbeats 1000000
namespace Go.Th.L
open Go Go.Th Go.Th.Pure
variable {P : Program} {N : Nat → Nat}

end Go.Th.L
end

section
/- json's reference: a text parsed. -/
set_option linter.unusedSimpArgs false
set_option linter.unusedVariables false
set_option maxHeartbeats 1000000
namespace Go.Th.L
open Go Go.Th Go.Th.Pure
variable {P : Program} {N : Nat → Nat}

end Go.Th.L
end

section
/- strings.CutPrefix, plainly. -/
set_option linter.unusedSimpArgs false
set_option linter.unusedVariables false
namespace Go.Th.L
open Go Go.Th Go.Th.Pure
variable {P : Program} {N : Nat → Nat}

theorem internal_stringslite_HasPrefix.cutJ (hF : internal_stringslite_HasPrefix.Ok P N) {s w : Bs8} {S : St} {K : Bool → St → Prop} (hk : K (decide (s.take w.length = w)) S) : CallA P (N Fn.internal_stringslite_HasPrefix) [.str s, .str w] S (retT [.one .bool] K) := by
  refine internal_stringslite_HasPrefix.run hF (ifC_dec (fun h => ⟨_, sliceStr_to (by omega), hk⟩) (fun h => ?_))
  have : s.take w.length ≠ w := fun e => by have := congrArg List.length e; rw [List.length_take] at this; omega
  rw [decide_eq_false this] at hk; exact hk
theorem internal_stringslite_CutPrefix.cutJ (hF : internal_stringslite_CutPrefix.Ok P N) (hH : internal_stringslite_HasPrefix.Ok P N) : CutJ P (N Fn.internal_stringslite_CutPrefix) := by
  intro s w S K hk
  rw [comes_take] at hk
  refine internal_stringslite_CutPrefix.run hF (internal_stringslite_HasPrefix.cutJ hH (ifC_ndec (fun h => ?_) (fun h => ?_)))
  · rw [if_neg h] at hk; exact hk
  · rw [if_pos h] at hk
    have hl : w.length ≤ s.length := by have := congrArg List.length h; rw [List.length_take] at this; omega
    exact ⟨_, sliceStr_from hl, hk⟩
theorem strings_CutPrefix.cutJ (hF : strings_CutPrefix.Ok P N) (hC : internal_stringslite_CutPrefix.Ok P N) (hH : internal_stringslite_HasPrefix.Ok P N) : CutJ P (N Fn.strings_CutPrefix) :=
  fun hk => strings_CutPrefix.run hF (internal_stringslite_CutPrefix.cutJ hC hH hk)

end Go.Th.L
end
