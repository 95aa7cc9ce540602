/- What the row of one statement stands on: a store, abstract code, functions of the program and their laws (ThHstore3, ThHstore4, ThHstore5, ThHstore6, ThHstore7, ThHstore8, ThHstore9, ThHstore10). -/
import Derived.Test.YtkjmdgejbcphjaaGreatDoorThBHstore2
import Derived.Test.YtkjmdgejbcphjaaGreatDoorThBHintsC
import Derived.Test.YtkjmdgejbcphjaaGreatDoorThBGref16

section
/- store: a change done; a change logged. -/
set_option linter.unusedSimpArgs false
set_option linter.unusedVariables false
set_option maxHeartbeats 1000000
namespace Go.Th.L
open Go Go.Th Go.Th.Pure
variable {P : Program} {N : Nat → Nat}

abbrev RsR := List (Int × List Int × V)
def doR (rs : RsR) (k id : Int) (v : List Int) (w : V) : RsR :=
  if k = 2 then rs.filter fun t => !decide (id = t.1) else match rs.findIdx? fun t => decide (id = t.1) with
    | some j => rs.set j (id, v, w)
    | none => rs ++ [(id, v, w)]

theorem doR_mem {rs : RsR} {k id : Int} {v : List Int} {w : V} {t : Int × List Int × V} (h : t ∈ doR rs k id v w) : t ∈ rs ∨ t = (id, v, w) := by
  unfold doR at h
  split at h
  · exact .inl (List.mem_filter.mp h).1
  · split at h
    · rcases List.mem_or_eq_of_mem_set h with h | h
      · exact .inl h
      · exact .inr h
    · rcases List.mem_append.mp h with h | h
      · exact .inl h
      · exact .inr (by simpa using h)

theorem doR_nod {rs : RsR} (hn : (rs.map (·.1)).Nodup) (k id : Int) (v : List Int) (w : V) : ((doR rs k id v w).map (·.1)).Nodup := by
  unfold doR
  split
  · exact (List.filter_sublist.map _).nodup hn
  · split
    · rename_i j hj
      obtain ⟨hlt, hp, _⟩ := List.findIdx?_eq_some_iff_getElem.mp hj
      have e : (rs.set j (id, v, w)).map (·.1) = rs.map (·.1) := by
        rw [List.map_set]
        apply List.ext_getElem (by simp)
        intro i h1 h2
        rw [List.getElem_set]
        split
        · rename_i e; subst e
          simpa using hp
        · rfl
      rw [e]; exact hn
    · rename_i hj
      rw [List.findIdx?_eq_none_iff] at hj
      rw [List.map_append, List.nodup_append]
      refine ⟨hn, by simp, fun a ha b hb => ?_⟩
      simp only [List.map_cons, List.map_nil, List.mem_singleton] at hb
      subst hb
      rintro rfl
      obtain ⟨t, ht, e⟩ := List.mem_map.mp ha
      have := hj t ht
      simp [e] at this

theorem StAt.map {S S' : St} {H VB : List Nat} {d ql o m : Nat} {cv : V} {s : SM} (h : StAt S H VB d ql o m cv s) (u : Upd [m] S S') {rs : RsR} (hm : MapAt S' m (rs.map entR)) (hn : (rs.map (·.1)).Nodup) (hr : ∀ t ∈ rs, IntsAt S t.2.2 t.2.1 ∧ ∀ i ∈ t.2.2.block, i ∈ VB) : StAt S' H VB d ql o m cv { s with rs := rs } := by
  have hmV : m ∉ VB := h.hv m h.mH
  refine { h with
    obj := u.get h.obj (by simp only [List.mem_singleton]; exact h.om), mp := hm, nod := hn,
    row := fun t ht => ⟨SlAt.upd (hr t ht).1 u fun i hi hx => ?_, (hr t ht).2⟩
    ch := h.ch.upd u fun i hi hx => ?_
    chg := fun t ht => ⟨SlAt.upd (h.chg t ht).1 u fun i hi hx => ?_, (h.chg t ht).2⟩
    lt := fun i hi => Nat.lt_of_lt_of_le (h.lt i hi) u.le
    ltV := fun i hi => Nat.lt_of_lt_of_le (h.ltV i hi) u.le }
  · simp only [List.mem_singleton] at hx; subst hx; exact hmV ((hr t ht).2 _ hi)
  · simp only [List.mem_singleton] at hx; subst hx; exact h.mc hi
  · simp only [List.mem_singleton] at hx; subst hx; exact hmV ((h.chg t ht).2 _ hi)

theorem store_Store_do.spec (hF : store_Store_do.Ok P N) {S : St} (hw : S.Wf) {H VB : List Nat} {d ql o m : Nat} {cv : V} {s : SM} (h : StAt S H VB d ql o m cv s) {k id : Int} {v : List Int} {w : V} (hv : IntsAt S w v) (hV : ∀ i ∈ w.block, i ∈ VB) {K : St → Prop}
    (hk : ∀ S', Upd [m] S S' → StAt S' H VB d ql o m cv { s with rs := doR s.rs k id v w } → K S') : CallA P (N Fn.store_Store_do) [.ptr o 0, .agg [.int .i64 k, .int .i64 id, w]] S (retT [] K) := by
  refine store_Store_do.run hF (newS_mk hw fun S1 g1 m1 n1 => ⟨_, ld m1 rfl, ?_⟩)
  have h1 := h.grow g1
  have hr1 : ∀ t ∈ doR s.rs k id v w, IntsAt S1 t.2.2 t.2.1 ∧ ∀ i ∈ t.2.2.block, i ∈ VB := fun t ht => by
    rcases doR_mem ht with ht | rfl
    · exact h1.row t ht
    · exact ⟨hv.grow g1, hV⟩
  have fin : ∀ {S'}, Upd [m] S1 S' → MapAt S' m ((doR s.rs k id v w).map entR) → K S' := fun {S'} u hm => hk S' ((g1.mono (by simp)).trans u) (h1.map u hm (doR_nod h.nod k id v w) hr1)
  refine ifC_dec (fun h2 => ⟨rfl, ifS_mk (a := .ptr o 3) rfl (ifS_mk (ld h1.obj rfl) ⟨_, ld m1 rfl, ?_⟩)⟩) (fun h2 => ⟨rfl, ifS_mk (a := .ptr o 3) rfl (ifS_mk (ld h1.obj rfl) ⟨_, ld m1 rfl, ifS_mk (ld m1 rfl) ?_⟩)⟩)
  · obtain ⟨S2, e2, m2, u2, n2⟩ := delete_int g1.wf h1.mp (by simpa [List.map_map, Function.comp_def, entR] using h1.nod) id
    refine ifS_mk e2 (fin u2 ?_)
    rw [List.filter_map] at m2
    have e : doR s.rs k id v w = s.rs.filter fun t => !decide (id = t.1) := by simp [doR, h2]
    rw [e]; exact m2
  · have ec : (s.rs.map entR).findIdx? (fun e => decide (id = e.1)) = s.rs.findIdx? fun t => decide (id = t.1) := by
      rw [List.findIdx?_map]; rfl
    cases hf : s.rs.findIdx? fun t => decide (id = t.1) with
    | some j =>
      obtain ⟨S2, e2, m2, u2, n2⟩ := mapUpd_old g1.wf h1.mp w (ec.trans hf)
      refine ifS_mk e2 (fin u2 ?_)
      have e : doR s.rs k id v w = s.rs.set j (id, v, w) := by simp [doR, h2, hf]
      rw [e, List.map_set]; exact m2
    | none =>
      have hn : ∀ e ∈ s.rs.map entR, e.1 ≠ id := fun e he e' => by
        rw [List.findIdx?_eq_none_iff] at hf
        obtain ⟨t, ht, rfl⟩ := List.mem_map.mp he
        have := hf t ht
        have e2 : t.1 = id := e'
        simp [e2] at this
      obtain ⟨S2, e2, m2, u2, n2⟩ := mapUpd_new g1.wf h1.mp w hn
      refine ifS_mk e2 (fin u2 ?_)
      have e : doR s.rs k id v w = s.rs ++ [(id, v, w)] := by simp [doR, h2, hf]
      rw [e, List.map_append]; exact m2

theorem store_Store_Seq.nil (hF : store_Store_Seq.Ok P N) {S : St} {K : Int → St → Prop} (hk : K 0 S) : CallA P (N Fn.store_Store_Seq) [.nilPtr] S (retT [.one (.int .i64)] K) :=
  store_Store_Seq.run hF ⟨true, rfl, ifC_tt rfl hk⟩
def SM.Ok (s : SM) : Prop := 0 ≤ s.first ∧ s.first ≤ 1099511627776 ∧ s.cs.length ≤ 1000000
theorem store_Store_Seq.spec (hF : store_Store_Seq.Ok P N) {S : St} {H VB : List Nat} {d ql o m : Nat} {cv : V} {s : SM} (h : StAt S H VB d ql o m cv s) (hs : s.Ok) {K : Int → St → Prop} (hk : K s.seq S) : CallA P (N Fn.store_Store_Seq) [.ptr o 0] S (retT [.one (.int .i64)] K) := by
  obtain ⟨h0, h1, h2⟩ := hs
  exact store_Store_Seq.run hF ⟨false, rfl, ifC_ff rfl ⟨rfl, ifS_mk (a := .ptr o 4) rfl ⟨_, ld h.obj rfl, rfl, ifS_mk (a := .ptr o 6) rfl (ifS_mk (ld h.obj rfl) ⟨_, h.clen, setI_mk (n := s.seq) (by rw [IntKind.wrap_i64]; unfold SM.seq; omega) hk⟩)⟩⟩⟩

def SX.all (x : SX) : List Nat := x.H ++ (x.G ++ x.D)
structure Kp (x : SX) (S : St) (x' : SX) (S' : St) : Prop where
  u : Upd x.all S S'
  o : x'.o = x.o
  d : x'.d = x.d
  a : ∀ i ∈ x'.all, i ∈ x.all ∨ S.next ≤ i
  v : ∀ i ∈ x'.VB, i ∈ x.VB ∨ S.next ≤ i
  b : ∀ i ∈ x'.B, i ∈ x.B ∨ S.next ≤ i
theorem Kp.refl {x : SX} {S S' : St} (g : Grow S S') : Kp x S x S' := ⟨g.mono (by simp), rfl, rfl, fun i hi => .inl hi, fun i hi => .inl hi, fun i hi => .inl hi⟩
theorem Kp.trans {x x1 x2 : SX} {S S1 S2 : St} (h : Kp x S x1 S1) (k : Kp x1 S1 x2 S2) : Kp x S x2 S2 := by
  have hl := h.u.le
  refine ⟨h.u.after k.u fun i hi => (h.a i hi).symm, k.o.trans h.o, k.d.trans h.d, fun i hi => ?_, fun i hi => ?_, fun i hi => ?_⟩
  · rcases k.a i hi with h' | h'
    · exact h.a i h'
    · exact .inr (by omega)
  · rcases k.v i hi with h' | h'
    · exact h.v i h'
    · exact .inr (by omega)
  · rcases k.b i hi with h' | h'
    · exact h.b i h'
    · exact .inr (by omega)
theorem Kp.own {x : SX} {S S' : St} {X H' VB' : List Nat} {cv' : V} (u : Upd X S S') (hX : ∀ i ∈ X, i ∈ x.H) (hH : ∀ i ∈ H', i ∈ x.H ∨ S.next ≤ i) (hV : ∀ i ∈ VB', i ∈ x.VB ∨ S.next ≤ i) : Kp x S { x with H := H', VB := VB', cv := cv' } S' := by
  refine ⟨u.mono fun i hi => .inl (List.mem_append_left _ (hX i hi)), rfl, rfl, fun i hi => ?_, hV, fun i hi => .inl hi⟩
  rcases List.mem_append.mp hi with h' | h'
  · rcases hH i h' with h' | h'
    · exact .inl (List.mem_append_left _ h')
    · exact .inr h'
  · exact .inl (List.mem_append_right _ h')
theorem Kp.log {x : SX} {S S' : St} {G' D' B' : List Nat} {q' : LP} (mv : Mvg x.G x.D x.B S G' D' B' S') : Kp x S { x with G := G', D := D', B := B', q := q' } S' := by
  refine ⟨mv.1.1.mono fun i hi => .inl (List.mem_append_right _ hi), rfl, rfl, fun i hi => ?_, fun i hi => .inl hi, mv.1.2.2⟩
  rcases List.mem_append.mp hi with h' | h'
  · exact .inl (List.mem_append_left _ h')
  · rcases List.mem_append.mp h' with h' | h'
    · rcases mv.2 i h' with h' | h'
      · exact .inl (List.mem_append_right _ (List.mem_append_left _ h'))
      · exact .inr h'
    · rcases mv.1.2.1 i h' with h' | h'
      · exact .inl (List.mem_append_right _ (List.mem_append_right _ h'))
      · exact .inr h'
theorem Kp.grow {x x1 : SX} {S S1 S2 : St} (h : Kp x S x1 S1) (g : Grow S1 S2) : Kp x S x1 S2 := h.trans (Kp.refl g)
theorem SD.lt {S0 S : St} {x : SX} {l : LogR} {r : DiskR} {s : SM} (h : SD S0 S x l r s) : ∀ i ∈ x.all, i < S.next := fun i hi => by
  rcases List.mem_append.mp hi with h' | h'
  · exact h.st.lt i h'
  · rcases List.mem_append.mp h' with h' | h'
    · exact h.ld.lg.lt i h'
    · exact h.ld.dh.ltD i h'

end Go.Th.L
end

section
/- store: a change logged, then done. -/
set_option linter.unusedSimpArgs false
set_option linter.unusedVariables false
set_option maxHeartbeats 1000000
namespace Go.Th.L
open Go Go.Th Go.Th.Pure
variable {P : Program} {N : Nat → Nat}

structure StoreF (P : Program) (N : Nat → Nat) : Prop where
  w : WalF P N
  open_ : store_Open.Ok P N
  opn1 : store_Open_1.Ok P N
  caught : store_caught.Ok P N
  must : store_must.Ok P N
  take : store_take.Ok P N
  do_ : store_Store_do.Ok P N
  change : store_Store_change.Ok P N
  lay : store_lay.Ok P N
  put : store_Store_Put.Ok P N
  delete : store_Store_Delete.Ok P N
  sync : store_Store_Sync.Ok P N
  since : store_Store_Since.Ok P N
  seq : store_Store_Seq.Ok P N
  len : store_Store_Len.Ok P N
  safe : store_Store_Safe.Ok P N
  get : store_Store_Get.Ok P N
  rows : store_Store_Rows.Ok P N
  snapshot : store_Store_Snapshot.Ok P N
  may : flat_May.Ok P N
  clone : slices_Clone_Lint.Ok P N
  check : ChecksV P (N Fn.vec_Check)
  putC : PutsC P (N Fn.codec_PutChange)
  getC : GetsCf P (N Fn.codec_GetChange)

def AppC (P : Program) (N : Nat → Nat) (S0 : St) (x : SX) (l : LogR) (r : DiskR) (t : List UInt8) (e m : Int) (l' : LogR) (r' : DiskR) : Prop :=
  ∀ {S1 : St} {K : Int → Int → St → Prop}, LD S0 S1 x.G x.D x.B x.d x.q l r → (∀ S' G' D' B' q', q'.o = x.q.o → LD S0 S' G' D' B' x.d q' l' r' → Mvg x.G x.D x.B S1 G' D' B' S' → K m e S') → CallA P (N Fn.wal_Log_Append) [.ptr x.q.o 0, .str t] S1 (retT [.one (.int .i64), .one (.int .i64)] K)
def SynC (P : Program) (N : Nat → Nat) (S0 : St) (x : SX) (l : LogR) (r : DiskR) (e : Int) (l' : LogR) (r' : DiskR) : Prop :=
  ∀ {S1 : St} {K : Int → St → Prop}, LD S0 S1 x.G x.D x.B x.d x.q l r → (∀ S' G' D' B' q', q'.o = x.q.o → LD S0 S' G' D' B' x.d q' l' r' → Mvg x.G x.D x.B S1 G' D' B' S' → K e S') → CallA P (N Fn.wal_Log_Sync) [.ptr x.q.o 0] S1 (retT [.one (.int .i64)] K)

theorem textC_le {k id : Int} {v : List Int} (hl : v.length ≤ 100) : (textC (k, id, v)).length ≤ 1000 := by
  unfold textC
  simp only [List.length_append, le_length]
  split
  · simp only [List.length_append, le_length, vecT_length]; omega
  · simp

theorem store_Store_change.spec (hO : StoreF P N) {S0 S : St} {x : SX} {l l' : LogR} {r r' : DiskR} {s : SM} (h : SD S0 S x l r s) (hs : s.Ok) (hs2 : s.cs.length < 1000000) {k id : Int} {v : List Int} {w : V} (hc : mayC (k, id, v) = 0) (hv : IntsAt S w v) (hV : ∀ i ∈ w.block, i ∈ x.VB) (hl : v.length ≤ 100)
    {e m : Int} (hA : AppC P N S0 x l r (le 8 (s.seq + 1) ++ textC (k, id, v)) e m l' r') {K : Int → Int → St → Prop}
    (h1 : e ≠ 0 → ∀ S' x', SD S0 S' x' l' r' s → Kp x S x' S' → K 0 e S')
    (h2 : e = 0 → ∀ S' x', SD S0 S' x' l' r' { s with rs := doR s.rs k id v w, cs := s.cs ++ [(k, id, v, w)] } → Kp x S x' S' → K (s.seq + 1) 0 S') :
    CallA P (N Fn.store_Store_change) [.ptr x.o 0, .agg [.int .i64 k, .int .i64 id, w]] S (retT [.one (.int .i64), .one (.int .i64)] K) := by
  obtain ⟨o0, o1, o2⟩ := hs
  have hseq : 0 ≤ s.seq ∧ s.seq ≤ 1099512627776 := by unfold SM.seq; omega
  refine store_Store_change.run hO.change (newS_mk h.wf fun S1 g1 m1 n1 => ⟨_, _, _, ldN m1 (by simp) rfl, ?_⟩)
  have H1 := h.grow g1
  have hv1 := hv.grow g1
  have ep : putC (k, id, v) = (textC (k, id, v), 0) := by simp [putC, hc]
  refine hO.putC _ _ _ _ _ _ hv1 (by omega) ?_
  rw [ep]
  refine ifC_ff rfl (store_Store_Seq.spec hO.seq H1.st ⟨o0, o1, o2⟩ (setI_mk (n := s.seq + 1) (by rw [IntKind.wrap_i64]; omega) ⟨rfl, ifS_mk (a := .ptr x.o 2) rfl (ifS_mk (ld H1.st.obj rfl) (store_lay.spec hO.lay H1.wf fun S2 g2 => sameK_mk (Same.of_grow g2 fun i hi => ?_) ⟨?_, ?_⟩))⟩))
  · simp only [V.block, List.append_nil, List.mem_singleton] at hi
    subst hi
    exact H1.st.lt _ H1.st.oH
  · have := textC_le (k := k) (id := id) hl
    simp only [le_length]; omega
  have H2 := H1.grow g2
  refine hA H2.ld fun S3 G3 D3 B3 q3 eq3 h3 mv3 => ?_
  have H3 := H2.log eq3 h3 mv3
  have k3 : Kp x S _ S3 := (Kp.refl (g1.trans g2)).trans (Kp.log (x := x) (q' := q3) mv3)
  refine ifC_ndec (fun hne => h1 hne S3 _ H3 k3) (fun hz => ?_)
  have hcell : ∀ {S' : St} {x' : SX}, Kp x S1 x' S' → S'.get S.next = some (.cells [.int .i64 k, .int .i64 id, w] true) := fun {S' x'} kk => kk.u.get m1 fun hi => by have := h.lt _ hi; omega
  have k13 : Kp x S1 _ S3 := (Kp.refl g2).trans (Kp.log (x := x) (q' := q3) mv3)
  have hVS : ∀ i ∈ w.block, i ∉ x.G ++ x.D := fun i hi hx => by
    have f := h.fV i (hV i hi)
    rcases List.mem_append.mp hx with h' | h'
    · exact f.2.1 h'
    · exact f.2.2 h'
  have hv3 : IntsAt S3 w v := SlAt.upd (hv1.grow g2) mv3.1.1 hVS
  refine ⟨_, _, _, ldN (hcell k13) (by simp) rfl, store_Store_do.spec hO.do_ H3.wf H3.st hv3 hV fun S4 u4 st4 => ?_⟩
  have H4 := H3.own (VB' := x.VB) u4 (fun i hi => by simp only [List.mem_singleton] at hi; subst hi; exact H3.st.mH) st4 (fun i hi => .inl hi) (fun i hi => .inl hi)
  have k4 := k13.trans (Kp.own (x := { x with G := G3, D := D3, B := B3, q := q3 }) (H' := x.H) (VB' := x.VB) (cv' := x.cv) u4 (fun i hi => by simp only [List.mem_singleton] at hi; subst hi; exact H3.st.mH) (fun i hi => .inl hi) (fun i hi => .inl hi))
  refine ⟨rfl, ifS_mk (a := .ptr x.o 6) rfl (ifS_mk (ld H4.st.obj rfl) ⟨_, _, _, ldN (hcell k4) (by simp) rfl, newS_mk H4.wf fun S5 g5 m5 n5 => sameK_mk (Same.of_grow g5 fun i hi => ?_) ?_⟩)⟩
  · simp only [V.block, List.append_nil, List.mem_singleton] at hi
    subst hi
    exact H4.st.lt _ H4.st.oH
  have H5 := H4.grow g5
  have hsrc : srcV 3 S5 (.slice S4.next 0 1 1 3 true) = some (1, [.int .i64 k, .int .i64 id, w]) := by
    simp only [srcV, if_true]
    rw [St.loads_of m5 (by simp)]; rfl
  have hw1 : w.one = true := SlAt.one1 hv
  obtain ⟨v6, S6, e6, a6, u6, t6⟩ := H5.st.ch.app H5.wf (Nat.zero_le _) hsrc rfl (by simp only [List.all_cons, List.all_nil, hw1]; rfl) (bytes := 40) (by simp only; omega) (by simp only; omega)
  have hcv : ∀ i ∈ x.cv.block, i ∈ x.H := H5.st.cH
  have o6 := u6.get H5.st.obj H5.st.oc
  refine ifP_mk e6 ⟨rfl, ifS_mk (a := .ptr x.o 6) rfl (st_mk u6.wf o6 (by rw [a6.at_.cells1]; rfl) (by rw [a6.at_.cells1]; simp [stC]) (by rw [a6.at_.cells1]; simp [a6.at_.one1]) fun S7 u7 m7 n7 => ?_)⟩
  rw [a6.at_.cells1] at m7
  have u57 : Upd (x.o :: x.cv.block) S5 S7 := (u6.mono fun i hi => .inl (List.mem_cons_of_mem _ hi)).after u7 fun i hi => .inr (by simp only [List.mem_singleton] at hi; simp [hi])
  have hX : ∀ i ∈ x.o :: x.cv.block, i ∈ x.H := fun i hi => by
    rcases List.mem_cons.mp hi with rfl | hi
    · exact H5.st.oH
    · exact hcv i hi
  have hXV : ∀ i ∈ x.o :: x.cv.block, i ∉ x.VB := fun i hi => H5.st.hv i (hX i hi)
  have hv6 : ∀ i ∈ v6.block, i < S6.next := fun i hi => by
    obtain ⟨_, vs, hg⟩ := a6.own i hi
    exact u6.wf.lt hg
  have st7 : StAt S7 (x.H ++ v6.block.filter fun i => decide (S5.next ≤ i)) x.VB x.d q3.o x.o x.m v6 { s with rs := doR s.rs k id v w, cs := s.cs ++ [(k, id, v, w)] } := by
    have l6 := u6.le
    have l7 := u7.le
    have s5 : StAt S5 x.H x.VB x.d q3.o x.o x.m x.cv { s with rs := doR s.rs k id v w } := H5.st
    refine ⟨?_, s5.mp.upd u57 ?_, s5.nod, fun t ht => ⟨SlAt.upd (s5.row t ht).1 u57 fun i hi hx => hXV i hx ((s5.row t ht).2 i hi), (s5.row t ht).2⟩, ?_, fun c hc => ?_, List.mem_append_left _ s5.oH, List.mem_append_left _ s5.mH, fun i hi => ?_, s5.om, fun hi => ?_, fun hi => ?_, fun i hi hx => ?_, fun i hi => ?_, fun i hi => Nat.lt_of_lt_of_le (s5.ltV i hi) u57.le⟩
    · rw [m7]; rfl
    · simp only [List.mem_cons, not_or]
      exact ⟨fun e => s5.om e.symm, s5.mc⟩
    · have := a6.upd u7 fun i hi hx => by
        simp only [List.mem_singleton] at hx
        subst hx
        rcases t6 _ hi with h' | h'
        · exact s5.oc h'
        · have := s5.lt _ s5.oH; omega
      simpa [cgE] using this
    · rcases List.mem_append.mp hc with hc | hc
      · exact ⟨SlAt.upd (s5.chg c hc).1 u57 fun i hi hx => hXV i hx ((s5.chg c hc).2 i hi), (s5.chg c hc).2⟩
      · simp only [List.mem_singleton] at hc
        subst hc
        exact ⟨SlAt.upd ((SlAt.upd hv3 u4 fun i hi hx => H3.st.hv _ (by simp only [List.mem_singleton] at hx; subst hx; exact H3.st.mH) (hV i hi)).grow g5) u57 fun i hi hx => hXV i hx (hV i hi), hV⟩
    · rcases t6 i hi with h' | h'
      · exact List.mem_append_left _ (s5.cH i h')
      · exact List.mem_append_right _ (by simp [hi, h'])
    · rcases t6 _ hi with h' | h'
      · exact s5.oc h'
      · have := s5.lt _ s5.oH; omega
    · rcases t6 _ hi with h' | h'
      · exact s5.mc h'
      · have := s5.lt _ s5.mH; omega
    · rcases List.mem_append.mp hi with hi | hi
      · exact s5.hv i hi hx
      · simp only [List.mem_filter, decide_eq_true_eq] at hi
        have := s5.ltV i hx; omega
    · rcases List.mem_append.mp hi with hi | hi
      · exact Nat.lt_of_lt_of_le (s5.lt i hi) u57.le
      · simp only [List.mem_filter, decide_eq_true_eq] at hi
        have := hv6 i hi.1; omega
  have hH7 : ∀ i ∈ x.H ++ v6.block.filter (fun i => decide (S5.next ≤ i)), i ∈ x.H ∨ S5.next ≤ i := fun i hi => by
    rcases List.mem_append.mp hi with hi | hi
    · exact .inl hi
    · simp only [List.mem_filter, decide_eq_true_eq] at hi
      exact .inr hi.2
  exact h2 hz S7 _ (H5.own u57 hX st7 hH7 fun i hi => .inl hi) ((Kp.refl g1).trans ((k4.grow g5).trans (Kp.own u57 hX hH7 fun i hi => .inl hi)))

end Go.Th.L
end

section
/- store: Put, Delete, Sync, Since, Len, Safe; no store. -/
set_option linter.unusedSimpArgs false
set_option linter.unusedVariables false
set_option maxHeartbeats 1000000
namespace Go.Th.L
open Go Go.Th Go.Th.Pure
variable {P : Program} {N : Nat → Nat}

def mayF (id : Int) (v : List Int) (dim : Int) (there : Bool) (n : Nat) : Int :=
  if id < 1 ∨ 1000000000 < id then 50 else if checkV v dim ≠ 0 then checkV v dim else if there = false ∧ 512 ≤ n then 2 else 0
theorem flat_May.spec (hF : flat_May.Ok P N) (hC : ChecksV P (N Fn.vec_Check)) {S : St} {id : Int} {v : List Int} {w : V} {dim : Int} {there : Bool} {n : Nat} {K : Int → St → Prop} (hv : IntsAt S w v) (h : K (mayF id v dim there n) S) :
    CallA P (N Fn.flat_May) [.agg [.int .i64 id, w], .int .i64 dim, .bool there, .int .i64 n] S (retT [.one (.int .i64)] K) := by
  refine CallA.gc1 rfl (mayF id v dim there n) h fun K' hw h => ?_
  have hv := IntsAt.ro hv
  generalize S.ro = R at hv hw
  refine flat_May.run hF (newS_mk hw fun S1 g1 m1 n1 => ifS_mk (ld m1 rfl) (hC _ _ _ _ _ (hv.grow g1) ?_))
  refine Join1.mid (fun b S' => S' = S1 ∧ b = decide (id < 1 ∨ 1000000000 < id)) ⟨_, ld m1 rfl, ifC_dec (fun h1 => ⟨rfl, by simp [h1]⟩) (fun h1 => ⟨_, ld m1 rfl, rfl, by simp [h1]⟩)⟩ ?_
  rintro b S2 ⟨rfl, rfl⟩
  unfold mayF at h
  refine ifC_dec (fun h1 => ?_) (fun h1 => ifC_ndec (fun h2 => ?_) (fun h2 => ?_))
  · rw [if_pos h1] at h; exact h _
  · rw [if_neg h1, if_pos h2] at h; exact h _
  · rw [if_neg h1, if_neg (by omega)] at h
    cases there with
    | true =>
      rw [if_neg (by simp)] at h
      exact ifC_ff rfl (h _)
    | false =>
      refine ifC_tt rfl (ifC_dec (fun h3 => ?_) (fun h3 => ?_))
      · rw [if_pos ⟨rfl, by omega⟩] at h; exact h _
      · rw [if_neg (by omega)] at h; exact h _

def thereR (rs : RsR) (id : Int) : Bool := rs.any fun t => decide (id = t.1)
theorem look_rows {S : St} {m : Nat} {rs : RsR} (h : MapAt S m (rs.map entR)) (id : Int) : ∃ w, lookupV S 1 .nilSlice true (.map m) (.int .i64 id) = some (.tuple [w, .bool (thereR rs id)]) ∧ (thereR rs id = true → ∃ t ∈ rs, t.1 = id ∧ t.2.2 = w) ∧ (thereR rs id = false → w = .nilSlice) := by
  have hl := lookup_int2 h .nilSlice id
  rw [List.find?_map] at hl
  cases hf : rs.find? (fun t => decide (id = t.1)) with
  | none =>
    have h0 : thereR rs id = false := by
      rw [List.find?_eq_none] at hf
      unfold thereR
      rw [List.any_eq_false]
      exact hf
    have e : rs.find? ((fun e : Int × V => decide (id = e.1)) ∘ entR) = none := hf
    rw [e] at hl
    exact ⟨.nilSlice, by rw [hl, h0]; rfl, (fun h' => by rw [h0] at h'; cases h'), fun _ => rfl⟩
  | some t =>
    have ht := List.mem_of_find?_eq_some hf
    have hp := List.find?_some hf
    have h1 : thereR rs id = true := List.any_eq_true.mpr ⟨t, ht, hp⟩
    have e : rs.find? ((fun e : Int × V => decide (id = e.1)) ∘ entR) = some t := hf
    rw [e] at hl
    exact ⟨t.2.2, by rw [hl, h1]; rfl, fun _ => ⟨t, ht, (of_decide_eq_true hp).symm, rfl⟩, fun h' => by rw [h1] at h'; cases h'⟩

theorem mayC_put {id : Int} {v : List Int} {dim : Int} {there : Bool} {n : Nat} (h : mayF id v dim there n = 0) : mayC (1, id, v) = 0 ∧ v.length ≤ 64 := by
  unfold mayF at h
  split at h
  · omega
  · rename_i h1
    split at h
    · omega
    · rename_i h2
      have h3 : checkV v dim = 0 := by omega
      obtain ⟨c1, c2, c3, c4⟩ := checkV_zero h3
      refine ⟨?_, by omega⟩
      unfold mayC
      rw [if_neg (by simp), if_neg (by simp [idOk]; omega), if_pos rfl, c3]
      exact h3

theorem store_Store_Put.nil (hO : StoreF P N) {S : St} (hw : S.Wf) {id : Int} {w : V} {K : Int → Int → St → Prop} (hk : ∀ S', Grow S S' → K 0 3 S') : CallA P (N Fn.store_Store_Put) [.nilPtr, .agg [.int .i64 id, w]] S (retT [.one (.int .i64), .one (.int .i64)] K) :=
  store_Store_Put.run hO.put (newS_mk hw fun S1 g1 m1 n1 => ⟨true, rfl, ifC_tt rfl (hk S1 g1)⟩)
theorem store_Store_Delete.nil (hO : StoreF P N) {S : St} {id : Int} {K : Int → Int → St → Prop} (hk : K 0 3 S) : CallA P (N Fn.store_Store_Delete) [.nilPtr, .int .i64 id] S (retT [.one (.int .i64), .one (.int .i64)] K) :=
  store_Store_Delete.run hO.delete ⟨true, rfl, ifC_tt rfl hk⟩
theorem store_Store_Get.nil (hO : StoreF P N) {S : St} {id : Int} {K : V → Int → St → Prop} (hk : K .nilSlice 3 S) : CallA P (N Fn.store_Store_Get) [.nilPtr, .int .i64 id] S (retT [.one .any, .one (.int .i64)] K) :=
  store_Store_Get.run hO.get ⟨true, rfl, ifC_tt rfl hk⟩
theorem store_Store_Since.nil (hO : StoreF P N) {S : St} {n : Int} {K : V → Int → St → Prop} (hk : K .nilSlice 3 S) : CallA P (N Fn.store_Store_Since) [.nilPtr, .int .i64 n] S (retT [.one .any, .one (.int .i64)] K) :=
  store_Store_Since.run hO.since (Join0.mid (fun _ => False) ⟨true, rfl, ifC_tt rfl hk⟩ fun _ h => h.elim)
theorem store_Store_Sync.nil (hO : StoreF P N) {S : St} {K : Int → St → Prop} (hk : K 3 S) : CallA P (N Fn.store_Store_Sync) [.nilPtr] S (retT [.one (.int .i64)] K) :=
  store_Store_Sync.run hO.sync ⟨true, rfl, ifC_tt rfl hk⟩
theorem store_Store_Len.nil (hO : StoreF P N) {S : St} {K : Int → St → Prop} (hk : K 0 S) : CallA P (N Fn.store_Store_Len) [.nilPtr] S (retT [.one (.int .i64)] K) :=
  store_Store_Len.run hO.len ⟨true, rfl, ifC_tt rfl hk⟩
theorem store_Store_Safe.nil (hO : StoreF P N) {S : St} {K : Int → St → Prop} (hk : K 0 S) : CallA P (N Fn.store_Store_Safe) [.nilPtr] S (retT [.one (.int .i64)] K) :=
  store_Store_Safe.run hO.safe ⟨true, rfl, ifC_tt rfl hk⟩
theorem store_Store_Rows.nil (hO : StoreF P N) {S : St} {K : V → St → Prop} (hk : K .nilSlice S) : CallA P (N Fn.store_Store_Rows) [.nilPtr] S (retT [.one .any] K) :=
  store_Store_Rows.run hO.rows ⟨true, rfl, ifC_tt rfl hk⟩
theorem store_Store_Snapshot.nil (hO : StoreF P N) {S : St} (hw : S.Wf) (hE : canEnter P (N Fn.store_caught) = true) {K : Int → St → Prop} (hk : ∀ S', Grow S S' → K 3 S') : CallA P (N Fn.store_Store_Snapshot) [.nilPtr] S (retT [.one (.int .i64)] K) := by
  refine store_Store_Snapshot.run hO.snapshot (newS_mk hw fun S1 g1 m1 n1 => ifS_mk (a := (N Fn.store_caught, [.ptr S.next 0])) (by simp [calleeD, envP, hE]) (CallA.np (store_Store_Sync.nil hO (store_must.throws hO.must (by omega) (store_caught.some hO.caught g1.wf m1 fun S2 u2 m2 n2 => ifC_tt rfl ⟨3, ldC1 m2 rfl, hk S2 ?_⟩)))))
  exact g1.after u2 fun i hi => .inl (by simp only [List.mem_singleton] at hi; omega)

theorem store_Store_Len.spec (hO : StoreF P N) {S : St} {H VB : List Nat} {d ql o m : Nat} {cv : V} {s : SM} (h : StAt S H VB d ql o m cv s) {K : Int → St → Prop} (hk : K s.rs.length S) : CallA P (N Fn.store_Store_Len) [.ptr o 0] S (retT [.one (.int .i64)] K) :=
  store_Store_Len.run hO.len ⟨false, rfl, ifC_ff rfl ⟨rfl, ifS_mk (a := .ptr o 3) rfl (ifS_mk (ld h.obj rfl) ⟨_, h.mlen, hk⟩)⟩⟩
theorem store_Store_Safe.spec (hO : StoreF P N) {S : St} {H VB : List Nat} {d ql o m : Nat} {cv : V} {s : SM} (h : StAt S H VB d ql o m cv s) {K : Int → St → Prop} (hk : K s.safe S) : CallA P (N Fn.store_Store_Safe) [.ptr o 0] S (retT [.one (.int .i64)] K) :=
  store_Store_Safe.run hO.safe ⟨false, rfl, ifC_ff rfl ⟨rfl, ifS_mk (a := .ptr o 5) rfl ⟨_, ld h.obj rfl, hk⟩⟩⟩

theorem SD.vec {S0 S S' : St} {x : SX} {l : LogR} {r : DiskR} {s : SM} (h : SD S0 S x l r s) (g : Grow S S') {Vn : List Nat} (hn : ∀ i ∈ Vn, S.next ≤ i ∧ i < S'.next) : SD S0 S' { x with VB := x.VB ++ Vn } l r s ∧ Kp x S { x with VB := x.VB ++ Vn } S' := by
  have h' := h.grow g
  have hV : ∀ i ∈ x.VB ++ Vn, i ∈ x.VB ∨ S.next ≤ i := fun i hi => by
    rcases List.mem_append.mp hi with hi | hi
    · exact .inl hi
    · exact .inr (hn i hi).1
  exact ⟨h.own (X := []) (H' := x.H) (cv' := x.cv) g (by simp) (h'.st.more fun i hi => ⟨fun hx => by have := h.st.lt i hx; have := (hn i hi).1; omega, (hn i hi).2⟩) (fun i hi => .inl hi) hV, Kp.own g (by simp) (fun i hi => .inl hi) hV⟩

theorem store_Store_Put.spec (hO : StoreF P N) {S0 S : St} {x : SX} {l l' : LogR} {r r' : DiskR} {s : SM} (h : SD S0 S x l r s) (hs : s.Ok) (hs2 : s.cs.length < 1000000) {id : Int} {v : List Int} {w : V} (hv : IntsAt S w v)
    {e m : Int} (hA : mayF id v s.dim (thereR s.rs id) s.rs.length = 0 → AppC P N S0 x l r (le 8 (s.seq + 1) ++ textC (1, id, v)) e m l' r') {K : Int → Int → St → Prop}
    (h0 : ∀ f, mayF id v s.dim (thereR s.rs id) s.rs.length = f → f ≠ 0 → ∀ S', Grow S S' → K 0 (if f = 2 then 191 else f) S')
    (h1 : mayF id v s.dim (thereR s.rs id) s.rs.length = 0 → e ≠ 0 → ∀ S' x', SD S0 S' x' l' r' s → Kp x S x' S' → K 0 e S')
    (h2 : mayF id v s.dim (thereR s.rs id) s.rs.length = 0 → e = 0 → ∀ S' x' w', SD S0 S' x' l' r' { s with rs := doR s.rs 1 id v w', cs := s.cs ++ [(1, id, v, w')] } → Kp x S x' S' → K (s.seq + 1) 0 S') :
    CallA P (N Fn.store_Store_Put) [.ptr x.o 0, .agg [.int .i64 id, w]] S (retT [.one (.int .i64), .one (.int .i64)] K) := by
  refine store_Store_Put.run hO.put (newS_mk h.wf fun S1 g1 m1 n1 => ⟨false, rfl, ifC_ff rfl ⟨rfl, ifS_mk (a := .ptr x.o 3) rfl (ifS_mk (ld (h.grow g1).st.obj rfl) ⟨_, ld m1 rfl, ?_⟩)⟩⟩)
  have H1 := h.grow g1
  obtain ⟨w0, e0, _, _⟩ := look_rows H1.st.mp id
  refine ⟨_, _, e0, _, _, ldN m1 (by simp) rfl, rfl, ifS_mk (a := .ptr x.o 0) rfl ⟨_, ld H1.st.obj rfl, rfl, ifS_mk (a := .ptr x.o 3) rfl (ifS_mk (ld H1.st.obj rfl) ⟨_, H1.st.mlen, flat_May.spec hO.may hO.check (hv.grow g1) (sameK_mk (Same.refl _ _) ?_)⟩)⟩⟩
  refine ifC_dec (fun hz => ⟨_, ld m1 rfl, ifS_mk (ld m1 rfl) ?_⟩) (fun hz => ifC_dec (fun h22 => ?_) (fun h22 => ?_))
  · obtain ⟨hc, hl⟩ := mayC_put hz
    refine slices_Clone_Lint.spec hO.clone H1.wf (hv.grow g1) (by omega) fun w' S2 b2 => ⟨Same.of_grow b2.grow (by simp; omega), b2.at_.cells1, ?_⟩
    obtain ⟨H2, k2⟩ := H1.vec b2.grow (Vn := w'.block) fun i hi => ⟨b2.from i hi, b2.lt i hi⟩
    have m2 := b2.grow.get m1
    have k12 : Kp x S _ S2 := (Kp.refl g1).trans k2
    have cell : ∀ {S' : St} {x' : SX}, Kp { x with VB := x.VB ++ w'.block } S2 x' S' → Same [S.next, S.next] S2 S' := fun kk => same_upd kk.u fun i hi => by
      simp only [List.mem_cons, List.not_mem_nil, or_false, or_self] at hi
      subst hi
      have := b2.grow.le
      exact ⟨by omega, fun hx => by have := h.lt _ hx; omega⟩
    exact store_Store_change.spec hO H2 hs hs2 hc b2.at_ (fun i hi => List.mem_append_right _ hi) (by omega) (hA hz) (fun hne S3 x3 H3 k3 => ⟨cell k3, h1 hz hne S3 x3 H3 (k12.trans k3)⟩) (fun he S3 x3 H3 k3 => ⟨cell k3, h2 hz he S3 x3 w' H3 (k12.trans k3)⟩)
  · have := h0 _ rfl hz S1 g1
    rwa [if_pos h22] at this
  · have := h0 _ rfl hz S1 g1
    rwa [if_neg h22] at this

theorem store_Store_Delete.spec (hO : StoreF P N) {S0 S : St} {x : SX} {l l' : LogR} {r r' : DiskR} {s : SM} (h : SD S0 S x l r s) (hs : s.Ok) (hs2 : s.cs.length < 1000000) {id : Int} (hid : thereR s.rs id = true → idOk id = true)
    {e m : Int} (hA : thereR s.rs id = true → AppC P N S0 x l r (le 8 (s.seq + 1) ++ textC (2, id, [])) e m l' r') {K : Int → Int → St → Prop}
    (h0 : thereR s.rs id = false → K 0 190 S)
    (h1 : thereR s.rs id = true → e ≠ 0 → ∀ S' x', SD S0 S' x' l' r' s → Kp x S x' S' → K 0 e S')
    (h2 : thereR s.rs id = true → e = 0 → ∀ S' x', SD S0 S' x' l' r' { s with rs := doR s.rs 2 id [] .nilSlice, cs := s.cs ++ [(2, id, [], .nilSlice)] } → Kp x S x' S' → K (s.seq + 1) 0 S') :
    CallA P (N Fn.store_Store_Delete) [.ptr x.o 0, .int .i64 id] S (retT [.one (.int .i64), .one (.int .i64)] K) := by
  obtain ⟨w0, e0, _, _⟩ := look_rows h.st.mp id
  refine store_Store_Delete.run hO.delete ⟨false, rfl, ifC_ff rfl ⟨rfl, ifS_mk (a := .ptr x.o 3) rfl (ifS_mk (ld h.st.obj rfl) ⟨_, _, e0, ?_⟩)⟩⟩
  cases ht : thereR s.rs id with
  | false => exact ifC_tt rfl (h0 ht)
  | true =>
    have hc : mayC (2, id, []) = 0 := by
      unfold mayC
      rw [if_neg (by simp), if_neg (by simp [hid ht]), if_neg (by simp), if_neg (by simp)]
    exact ifC_ff rfl (store_Store_change.spec hO h hs hs2 hc (nil_ints S) (by simp [V.block]) (by simp) (hA ht) (h1 ht) (h2 ht))

theorem StAt.fld {S S' : St} {H VB : List Nat} {d ql ql' o m : Nat} {cv : V} {s s' : SM} (h : StAt S H VB d ql o m cv s) (u : Upd [o] S S') (g : S'.get o = some (.cells (stC d ql' m cv s') true)) (hr : s'.rs = s.rs) (hc : s'.cs = s.cs) : StAt S' H VB d ql' o m cv s' := by
  have hoV : o ∉ VB := h.hv o h.oH
  obtain ⟨obj, mp, nod, row, ch, chg, oH, mH, cH, om, oc, mc, hv, lt, ltV⟩ := h
  refine ⟨g, ?_, ?_, fun t ht => ?_, ?_, fun c hc' => ?_, oH, mH, cH, om, oc, mc, hv, fun i hi => Nat.lt_of_lt_of_le (lt i hi) u.le, fun i hi => Nat.lt_of_lt_of_le (ltV i hi) u.le⟩
  · rw [hr]; exact mp.upd u (by simp only [List.mem_singleton]; exact fun e => om e.symm)
  · rw [hr]; exact nod
  · rw [hr] at ht
    exact ⟨SlAt.upd (row t ht).1 u fun i hi hx => by simp only [List.mem_singleton] at hx; subst hx; exact hoV ((row t ht).2 _ hi), (row t ht).2⟩
  · rw [hc]; exact ch.upd u fun i hi hx => by simp only [List.mem_singleton] at hx; subst hx; exact oc hi
  · rw [hc] at hc'
    exact ⟨SlAt.upd (chg c hc').1 u fun i hi hx => by simp only [List.mem_singleton] at hx; subst hx; exact hoV ((chg c hc').2 _ hi), (chg c hc').2⟩

theorem store_Store_Sync.spec (hO : StoreF P N) {S0 S : St} {x : SX} {l l' : LogR} {r r' : DiskR} {s : SM} (h : SD S0 S x l r s) (hs : s.Ok) {e : Int} (hA : SynC P N S0 x l r e l' r') {K : Int → St → Prop}
    (h1 : e ≠ 0 → ∀ S' x', SD S0 S' x' l' r' s → Kp x S x' S' → K e S')
    (h2 : e = 0 → ∀ S' x', SD S0 S' x' l' r' { s with safe := s.seq } → Kp x S x' S' → K 0 S') :
    CallA P (N Fn.store_Store_Sync) [.ptr x.o 0] S (retT [.one (.int .i64)] K) := by
  refine store_Store_Sync.run hO.sync ⟨false, rfl, ifC_ff rfl ⟨rfl, ifS_mk (a := .ptr x.o 2) rfl (ifS_mk (ld h.st.obj rfl) (hA h.ld fun S1 G1 D1 B1 q1 eq1 h1' mv1 => ?_))⟩⟩
  have H1 := h.log eq1 h1' mv1
  have k1 : Kp x S _ S1 := Kp.log (x := x) (q' := q1) mv1
  refine ifC_ndec (fun hne => h1 hne S1 _ H1 k1) (fun hz => store_Store_Seq.spec hO.seq H1.st hs ⟨rfl, ifS_mk (a := .ptr x.o 5) rfl (st_mk H1.wf H1.st.obj rfl (by simp [stC, V.cells]) (by simp [V.cells, V.one]) fun S2 u2 m2 n2 => ?_)⟩)
  have hX : ∀ i ∈ [x.o], i ∈ x.H := fun i hi => by simp only [List.mem_singleton] at hi; subst hi; exact H1.st.oH
  exact h2 hz S2 _ (H1.own u2 hX (H1.st.fld (ql' := q1.o) (s' := { s with safe := s.seq }) u2 (by rw [m2]; rfl) rfl rfl) (fun i hi => .inl hi) (fun i hi => .inl hi)) (k1.trans (Kp.own u2 hX (fun i hi => .inl hi) (fun i hi => .inl hi)))

end Go.Th.L
end

section
/- store: records done again. -/
set_option linter.unusedSimpArgs false
set_option linter.unusedVariables false
set_option maxHeartbeats 1000000
namespace Go.Th.L
open Go Go.Th Go.Th.Pure
variable {P : Program} {N : Nat → Nat}

def rv (rs : RsR) : List Row := rs.map fun t => (t.1, t.2.1)
def doRow (rows : List Row) (c : Chg) : List Row :=
  if c.1 = 2 then rows.filter fun t => !decide (c.2.1 = t.1) else match rows.findIdx? fun t => decide (c.2.1 = t.1) with
    | some j => rows.set j (c.2.1, c.2.2)
    | none => rows ++ [(c.2.1, c.2.2)]
theorem rv_doR (rs : RsR) (k id : Int) (v : List Int) (w : V) : rv (doR rs k id v w) = doRow (rv rs) (k, id, v) := by
  unfold doR doRow rv
  by_cases h : k = 2
  · rw [if_pos h, if_pos h, List.filter_map]; rfl
  · rw [if_neg h, if_neg h, List.findIdx?_map]
    have e : (fun t : Int × List Int × V => decide (id = t.1)) = (fun t : Row => decide ((k, id, v).2.1 = t.1)) ∘ fun t : Int × List Int × V => ((t.1, t.2.1) : Row) := rfl
    rw [← e]
    cases hf : List.findIdx? (fun t : Int × List Int × V => decide (id = t.1)) rs <;> simp [List.map_set]

def repR : List (Int × Chg) → Int → List Row → Option (Int × List Row)
  | [], f, rows => some (f, rows)
  | p :: ps, f, rows => if p.1 ≤ f then repR ps f rows else if p.1 = f + 1 then repR ps p.1 (doRow rows p.2) else none

theorem store_replay (hO : StoreF P N) {S0 S : St} {x : SX} {l : LogR} {r : DiskR} {s : SM} (h : SD S0 S x l r s) (hc : s.cs = []) {pS : Nat} (hp : S.get pS = some (.cells [.ptr x.o 0] true)) (hp2 : pS ∉ x.all) {v : V} {recs : List (Int × List UInt8)} (hv : SlE S 2 v (recE recs)) (hvb : ∀ i ∈ v.block, i ∉ x.all ∧ i < S.next) (hl : recs.length ≤ 1000000)
    {rc : List (Int × Chg)} (hrc : recs.map (·.2) = rc.map fun p => le 8 p.1 ++ textC p.2) (hok : ∀ p ∈ rc, mayC p.2 = 0 ∧ 0 ≤ p.1 ∧ p.1 ≤ 1099511627776 ∧ p.2.2.2.length ≤ 100) (h0 : 0 ≤ s.first ∧ s.first ≤ 1099511627776) {f : Int} {rows : List Row} (hr : repR rc s.first (rv s.rs) = some (f, rows))
    {KP1 KP2 KP3 KP4 : V → St → Prop} {Z : St → Prop}
    (hZ : ∀ S' x' s', SD S0 S' x' l r s' → Kp x S x' S' → S'.get pS = some (.cells [.ptr x.o 0] true) → s'.cs = [] → s'.dim = s.dim → s'.safe = s.safe → s'.first = f → 0 ≤ f → f ≤ 1099511627776 → rv s'.rs = rows → Z S') :
    Loop1 (fun (k6 : Int → St → Prop) (x113 : Int) (S71 : St) =>
           ifC (decide (x113 < (recs.length : Int)))
           (ifS (idxAddrV 2 v (V.int .i64 x113)) fun x115 =>
            ∃ x116_a : Int, ∃ x116_b : List UInt8, loadNV S71 2 x115 = some (V.agg [(V.int .i64 x116_a), (V.str x116_b)]) ∧
            newS S71 (.cells [(V.int .i64 0), (V.str ([] : List UInt8))] true) fun S72 =>
            ifS (storeV S72 2 (V.ptr S71.next 0) (V.agg [(V.int .i64 x116_a), (V.str x116_b)])) fun S73 =>
            ∃ x119 : List UInt8, loadV S73 (V.ptr S71.next 1) = some (V.str x119) ∧
            CallA P (N Fn.store_take) [(V.str x119)] S73 (retK [(.one (.int .i64)), (.one .str)] KP1 fun (x120a : Int) (x120b : List UInt8) (S74 : St) =>
            ifS (loadV S74 (V.ptr pS 0)) fun x124 =>
            nilV x124 = some x124 ∧
            ifS (fieldAddrV 4 x124) fun x126 =>
            ∃ x127 : Int, loadV S74 x126 = some (V.int .i64 x127) ∧
            ifC (decide (x120a ≤ x127))
            (setI (IntKind.i64.wrap (x113 + (1 : Int))) fun x153 =>
             k6 x153 S74)
            (CallA P (N Fn.codec_GetChange) [(V.str x120b)] S74 (retK [(.agg [(.int .i64), (.int .i64), .any]), (.one (.int .i64))] KP2 fun (x131a_a : Int) (x131a_b : Int) (x131a_c : V) (x131b : Int) (S79 : St) =>
             newS S79 (.cells [(V.int .i64 0), (V.int .i64 0), V.nilSlice] true) fun S84 =>
             ifS (storeV S84 3 (V.ptr S79.next 0) (V.agg [(V.int .i64 x131a_a), (V.int .i64 x131a_b), x131a_c])) fun S85 =>
             Join0 (fun (k7 : St → Prop) =>
              Join1 (fun (k8 : Bool → St → Prop) =>
               ifC (!decide (x131b = (0 : Int)))
               (k8 true S85)
               (ifS (loadV S85 (V.ptr pS 0)) fun x138 =>
               nilV x138 = some x138 ∧
               ifS (fieldAddrV 4 x138) fun x140 =>
               ∃ x141 : Int, loadV S85 x140 = some (V.int .i64 x141) ∧
               setI (IntKind.i64.wrap (x141 + (1 : Int))) fun x142 =>
               k8 (!decide (x120a = x142)) S85))
              (fun (x144 : Bool) (S87 : St) =>
               ifC x144
               (CallA P (N Fn.store_must) [(V.int .i64 192)] S87 (retK [] KP3 fun (S88 : St) =>
                k7  S88))
               (k7  S87)))
             (fun (S86 : St) =>
              ifS (loadV S86 (V.ptr pS 0)) fun x146 =>
              ∃ x147_a x147_b : Int, ∃ x147_c : V, loadNV S86 3 (V.ptr S79.next 0) = some (V.agg [(V.int .i64 x147_a), (V.int .i64 x147_b), x147_c]) ∧
              CallA P (N Fn.store_Store_do) [x146, (V.agg [(V.int .i64 x147_a), (V.int .i64 x147_b), x147_c])] S86 (retK [] KP4 fun (S93 : St) =>
              ifS (loadV S93 (V.ptr pS 0)) fun x149 =>
              nilV x149 = some x149 ∧
              ifS (fieldAddrV 4 x149) fun x152 =>
              ifS (storeV S93 1 x152 (V.int .i64 x120a)) fun S98 =>
              setI (IntKind.i64.wrap (x113 + (1 : Int))) fun x153_1 =>
              k6 x153_1 S98))))))
            (Z S71))
       0 S := by
  have hlen : recs.length = rc.length := by
    have := congrArg List.length hrc
    simpa using this
  have hrl : (recE recs).length = recs.length := recE_len recs
  have plt : pS < S.next := h.wf.lt hp
  refine Loop1.ind (fun m z S' => ∃ (j : Nat) (x' : SX) (s' : SM), z = j ∧ j + m = rc.length ∧ SD S0 S' x' l r s' ∧ Kp x S x' S' ∧ s'.cs = [] ∧ s'.dim = s.dim ∧ s'.safe = s.safe ∧ 0 ≤ s'.first ∧ s'.first ≤ 1099511627776 ∧ repR (rc.drop j) s'.first (rv s'.rs) = some (f, rows)) rc.length
    ⟨0, x, s, rfl, by omega, h, Kp.refl (Upd.refl h.wf _), hc, rfl, rfl, h0.1, h0.2, hr⟩ ?_
  rintro m z S1 ⟨j, x1, s1, rfl, hj, H1, k1, c1, d1, f1, a1, b1, r1⟩
  have pcell : ∀ {S' : St} {x' : SX}, Kp x S x' S' → S'.get pS = some (.cells [.ptr x.o 0] true) := fun k => k.u.get hp hp2
  have vcell : ∀ {S' : St} {x' : SX}, Kp x S x' S' → SlE S' 2 v (recE recs) := fun k => hv.upd k.u fun i hi => (hvb i hi).1
  refine ifC_dec (fun hlt => ?_) (fun hge => ?_)
  · have hj1 : j < recs.length := by omega
    have hj2 : j < rc.length := by omega
    have hje : j < (recE recs).length := by omega
    have hge : (recE recs)[j] = [.int .i64 recs[j].1, .str recs[j].2] := by simp [recE]
    have hdat : recs[j].2 = le 8 rc[j].1 ++ textC rc[j].2 := by
      have e1 : (recs.map (·.2))[j]'(by simpa using hj1) = recs[j].2 := by simp
      have e2 : (rc.map fun p => le 8 p.1 ++ textC p.2)[j]'(by simpa using hj2) = le 8 rc[j].1 ++ textC rc[j].2 := by simp
      rw [← e1, ← e2]
      congr 1
    obtain ⟨m0, m1, m2, m3⟩ := hok _ (List.getElem_mem hj2)
    have hdrop : rc.drop j = rc[j] :: rc.drop (j + 1) := List.drop_eq_getElem_cons hj2
    rw [hdrop, repR] at r1
    generalize hp : rc[j] = p at *
    obtain ⟨n, k, id, vec⟩ := p
    simp only at m0 m1 m2 m3 r1 hdat
    have hget : loadNV S1 2 (eltV 2 v j 0) = some (.agg [.int .i64 recs[j].1, .str recs[j].2]) := by
      rw [(vcell k1).getN hje (by omega), hge]
    refine ifS_mk ((vcell k1).idx hje) ⟨_, _, hget, newS_mk H1.wf fun S2 g2 q2 n2 => st_mk g2.wf q2 rfl (by simp [V.cells]) (by simp [V.cells, V.one]) fun S3 u3 q3 n3 => ⟨_, ld q3 rfl, ?_⟩⟩
    have g3 : Grow S1 S3 := g2.after u3 fun i hi => .inl (by simp only [List.mem_singleton] at hi; omega)
    have H3 := H1.grow g3
    have k3 := k1.grow g3
    have ox : x1.o = x.o := k1.o
    have hwi : IntKind.i64.wrap ((j : Int) + 1) = ((j + 1 : Nat) : Int) := by rw [IntKind.wrap_i64]; omega
    have ob3 := H3.st.obj
    rw [ox] at ob3
    rw [hdat]
    refine store_take.laid hO.take ⟨m1, by omega⟩ (ifS_mk (ld (pcell k3) rfl) ⟨rfl, ifS_mk (a := .ptr x.o 4) rfl ⟨_, ld ob3 rfl, ?_⟩⟩)
    refine ifC_dec (fun hle => setI_mk hwi ?_) (fun hgt => ?_)
    · rw [if_pos hle] at r1
      exact ⟨m - 1, by omega, j + 1, x1, s1, rfl, by omega, H3, k3, c1, d1, f1, a1, b1, r1⟩
    · rw [if_neg hgt] at r1
      have hn1 : n = s1.first + 1 := by
        by_cases hh : n = s1.first + 1
        · exact hh
        · rw [if_neg hh] at r1; cases r1
      rw [if_pos hn1] at r1
      have htl := textC_le (k := k) (id := id) m3
      refine CallA.np (hO.getC _ _ _ H3.wf (by omega) fun w S4 g4 hw4 hb4 => ?_)
      rw [getC_textC m0] at hw4 ⊢
      simp only at hw4 ⊢
      have hw1 : w.one = true := SlAt.one1 hw4
      have hwc : V.cells w = [w] := SlAt.cells1 hw4
      obtain ⟨H4, k4'⟩ := H3.vec g4 (Vn := w.block) hb4
      have k4 := k3.trans k4'
      refine newS_mk H4.wf fun S5 g5 q5 n5 => st_mk g5.wf q5 (by simp [V.cells]) (by simp [V.cells]) (by simp only [V.cells, List.all_cons, List.all_nil, hw1]; rfl) fun S6 u6 q6 n6 => ?_
      have g6 : Grow S4 S6 := g5.after u6 fun i hi => .inl (by simp only [List.mem_singleton] at hi; omega)
      have H6 := H4.grow g6
      have k6 := k4.grow g6
      have ob6 : S6.get x.o = some (.cells (stC x1.d x1.q.o x1.m x1.cv s1) true) := by rw [← ox]; exact H6.st.obj
      refine Join0.mid (fun S' => S' = S6) ?_ ?_
      · refine Join1.mid (fun b S' => b = false ∧ S' = S6) (ifC_ff rfl (ifS_mk (ld (pcell k6) rfl) ⟨rfl, ifS_mk (a := .ptr x.o 4) rfl ⟨_, ld ob6 rfl, setI_mk (n := n) (by rw [IntKind.wrap_i64]; omega) ⟨by simp, rfl⟩⟩⟩)) ?_
        rintro b S7 ⟨rfl, rfl⟩
        exact ifC_ff rfl rfl
      · rintro S7 rfl
        simp only [over, V.cells] at q6
        have st6 := H6.st
        refine ifS_mk (ld (pcell k6) rfl) ⟨_, _, _, ldN q6 (by simp) rfl, CallA.np ?_⟩
        rw [← ox]
        refine store_Store_do.spec hO.do_ H6.wf st6 (hw4.grow g6) (fun i hi => List.mem_append_right _ hi) fun S8 u8 st8 => ?_
        have hX8 : ∀ i ∈ [x1.m], i ∈ x1.H := fun i hi => by simp only [List.mem_singleton] at hi; subst hi; exact st6.mH
        have H8 := H6.own (VB' := x1.VB ++ w.block) u8 hX8 st8 (fun i hi => .inl hi) (fun i hi => .inl hi)
        have k8 := k6.trans (Kp.own (x := { x1 with VB := x1.VB ++ w.block }) (H' := x1.H) (VB' := x1.VB ++ w.block) (cv' := x1.cv) u8 hX8 (fun i hi => .inl hi) (fun i hi => .inl hi))
        have pc8 := pcell k8
        rw [← ox] at pc8
        refine ifS_mk (ld pc8 rfl) ⟨rfl, ifS_mk (a := .ptr x1.o 4) rfl (st_mk H8.wf H8.st.obj rfl (by simp [stC, V.cells]) (by simp [V.cells, V.one]) fun S9 u9 q9 n9 => setI_mk hwi ?_)⟩
        have hX9 : ∀ i ∈ [x1.o], i ∈ x1.H := fun i hi => by simp only [List.mem_singleton] at hi; subst hi; exact st6.oH
        have H9 := H8.own (VB' := x1.VB ++ w.block) u9 hX9 (H8.st.fld (ql' := x1.q.o) (s' := { s1 with rs := doR s1.rs k id vec w, first := n }) u9 (by rw [q9]; rfl) rfl rfl) (fun i hi => .inl hi) (fun i hi => .inl hi)
        have k9 := k8.trans (Kp.own (x := { x1 with VB := x1.VB ++ w.block }) (H' := x1.H) (VB' := x1.VB ++ w.block) (cv' := x1.cv) u9 hX9 (fun i hi => .inl hi) (fun i hi => .inl hi))
        refine ⟨m - 1, by omega, j + 1, _, _, rfl, by omega, H9, k9, c1, d1, f1, m1, m2, ?_⟩
        simp only [rv_doR]
        exact r1
  · have hjn : j = rc.length := by omega
    subst hjn
    rw [List.drop_length, repR] at r1
    simp only [Option.some.injEq, Prod.mk.injEq] at r1
    exact hZ S1 x1 s1 H1 k1 (pcell k1) c1 d1 f1 r1.1 (by omega) (by omega) r1.2

end Go.Th.L
end

section
/- store: a store opened. -/
set_option linter.unusedSimpArgs false
set_option linter.unusedVariables false
set_option maxHeartbeats 1000000
namespace Go.Th.L
open Go Go.Th Go.Th.Pure
variable {P : Program} {N : Nat → Nat}

theorem SD.upd {S0 S S' : St} {x : SX} {l : LogR} {r : DiskR} {s : SM} {X : List Nat} (h : SD S0 S x l r s) (u : Upd X S S') (hX : ∀ i ∈ X, S0.next ≤ i ∧ i ∉ x.all ∧ i ∉ x.VB ∧ i ∉ x.B) : SD S0 S' x l r s := by
  have hH : ∀ i ∈ X, i ∉ x.H := fun i hi hx => (hX i hi).2.1 (List.mem_append_left _ hx)
  have hG : ∀ i ∈ X, i ∉ x.G := fun i hi hx => (hX i hi).2.1 (List.mem_append_right _ (List.mem_append_left _ hx))
  have hD : ∀ i ∈ X, i ∉ x.D := fun i hi hx => (hX i hi).2.1 (List.mem_append_right _ (List.mem_append_right _ hx))
  exact ⟨⟨h.ld.lg.upd u hG, h.ld.dh.upd u hD fun i hi => (hX i hi).2.2.2, h.ld.g.after u fun i hi => .inl (hX i hi).1, h.ld.fG, h.ld.fD, h.ld.ap⟩, h.st.upd u hH fun i hi => (hX i hi).2.2.1, h.fH, h.fV⟩

theorem store_Open.nil (hO : StoreF P N) (hE : canEnter P (N Fn.store_caught) = true) (hE1 : canEnter P (N Fn.store_Open_1) = true) {S : St} (hw : S.Wf) {dim : Int} {K : V → Int → St → Prop} (hk : ∀ S', Grow S S' → K .nilPtr 3 S') :
    CallA P (N Fn.store_Open) [.nilPtr, .int .i64 dim] S (retT [.one .any, .one (.int .i64)] K) := by
  refine store_Open.run hO.open_ (newS_mk hw fun S1 g1 m1 n1 => newS_mk g1.wf fun S2 g2 m2 n2 => ifS_mk (a := (N Fn.store_Open_1, [.ptr S1.next 0, .ptr S.next 0])) (by simp [calleeD, envP, hE1]) (ifS_mk (a := (N Fn.store_caught, [.ptr S1.next 0])) (by simp [calleeD, envP, hE]) ⟨true, rfl, ifC_tt rfl ?_⟩))
  refine st_mk g2.wf (g2.get m1) rfl (by simp [V.cells]) (by simp [V.cells, V.one]) fun S3 u3 m3 n3 => ?_
  have q3 := u3.get m2 (by simp only [List.mem_singleton]; omega)
  refine st_mk u3.wf q3 rfl (by simp [V.cells]) (by simp [V.cells, V.one]) fun S4 u4 m4 n4 => ?_
  have q4 := u4.get m3 (by simp only [List.mem_singleton]; omega)
  refine store_caught.none hO.caught (store_Open_1.spec hO.opn1 u4.wf m4 q4 (fun h => by omega) fun _ S5 u5 m5 n5 => ?_)
  have q5 := u5.get m4 (by simp only [List.mem_singleton]; omega)
  refine ⟨_, ldC1 m5 rfl, _, ldC1 q5 rfl, hk S5 ?_⟩
  have hne : ∀ {j : Nat}, S.next ≤ j → ∀ i ∈ [j], i ∈ ([] : List Nat) ∨ S.next ≤ i := fun hj i hi => by
    simp only [List.mem_singleton] at hi; exact .inr (by omega)
  exact (((g1.trans g2).after u3 fun i hi => (hne (Nat.le_refl _) i hi).symm).after u4 fun i hi => (hne (by omega) i hi).symm).after u5 fun i hi => (hne (Nat.le_refl _) i hi).symm

def OpnC (P : Program) (N : Nat → Nat) (S0 : St) (D B : List Nat) (d : Nat) (r : DiskR) (recs : List (Int × List UInt8)) (l' : LogR) (r' : DiskR) : Prop :=
  ∀ {S1 : St} {K : V → V → Int → St → Prop}, Fd S0 S1 D B d r → (∀ S' G' D' B' q' v, LD S0 S' G' D' B' d q' l' r' → Opn D B S1 G' D' B' S' → SlE S' 2 v (recE recs) → (∀ i ∈ v.block, S1.next ≤ i ∧ i < S'.next ∧ i ∉ G' ∧ i ∉ D') → K (.ptr q'.o 0) v 0 S') → CallA P (N Fn.wal_Open) [.ptr d 0] S1 (retT [.one .any, .one .any, .one (.int .i64)] K)

def nowB : Nm := [115, 110, 97, 112, 46, 110, 111, 119]
theorem store_Open.plain (hO : StoreF P N) (hE : canEnter P (N Fn.store_caught) = true) (hE1 : canEnter P (N Fn.store_Open_1) = true) {S0 S : St} {D B : List Nat} {d : Nat} {r : DiskR} (h : Fd S0 S D B d r) {M : Nat} (hok : OkR M r) {dim : Int} (hdim : 1 ≤ dim ∧ dim ≤ 64) {b : List UInt8} (hrd : readR r nowB = (b, 172))
    {recs : List (Int × List UInt8)} (hl : recs.length ≤ 1000000) {l' : LogR} {r' : DiskR} (hA : OpnC P N S0 D B d r recs l' r')
    {rc : List (Int × Chg)} (hrc : recs.map (·.2) = rc.map fun p => le 8 p.1 ++ textC p.2) (hcs : ∀ p ∈ rc, mayC p.2 = 0 ∧ 0 ≤ p.1 ∧ p.1 ≤ 1099511627776 ∧ p.2.2.2.length ≤ 100) {f : Int} {rows : List Row} (hr : repR rc 0 [] = some (f, rows)) {K : V → Int → St → Prop}
    (hk : ∀ S' x' s', SD S0 S' x' l' r' s' → x'.d = d → Upd D S S' → (∀ i ∈ x'.all, i ∈ D ∨ S.next ≤ i) → (∀ i ∈ x'.VB, S.next ≤ i) → (∀ i ∈ x'.B, i ∈ B ∨ S.next ≤ i) → s'.cs = [] → s'.dim = dim → s'.safe = f → s'.first = f → 0 ≤ f → f ≤ 1099511627776 → rv s'.rs = rows → K (.ptr x'.o 0) 0 S') :
    CallA P (N Fn.store_Open) [.ptr d 0, .int .i64 dim] S (retT [.one .any, .one (.int .i64)] K) := by
  refine store_Open.run hO.open_ (newS_mk h.wf fun S1 g1 m1 n1 => newS_mk g1.wf fun S2 g2 m2 n2 => ifS_mk (a := (N Fn.store_Open_1, [.ptr S1.next 0, .ptr S.next 0])) (by simp [calleeD, envP, hE1]) (ifS_mk (a := (N Fn.store_caught, [.ptr S1.next 0])) (by simp [calleeD, envP, hE]) ⟨false, rfl, ifC_ff rfl (Join1.mid (fun b S' => b = false ∧ S' = S2) (ifC_ff (by rw [decide_eq_false_iff_not]; omega) ⟨by rw [decide_eq_false_iff_not]; omega, rfl⟩) ?_)⟩))
  rintro _ S2' ⟨rfl, rfl⟩
  refine ifC_ff rfl (newS_mk g2.wf fun S3 g3 m3 n3 => ⟨rfl, rfl, newS_mk g3.wf fun S4 g4 m4 n4 => ?_⟩)
  have pS4 := g4.get (g3.get (g2.get m1))
  refine st_mk g4.wf pS4 rfl (by simp [V.cells]) (by simp [V.cells, V.one]) fun S5 u5 m5 n5 => ?_
  have gne : ∀ {j : Nat}, S.next ≤ j → ∀ i ∈ [j], S.next ≤ i ∨ i ∈ ([] : List Nat) := fun hj i hi => by
    simp only [List.mem_singleton] at hi; exact .inl (by omega)
  have g05 : Grow S S5 := (((g1.trans g2).trans g3).trans g4).after u5 (gne (Nat.le_refl _))
  have l2 := g2.le
  have l3 := g3.le
  have l4 := g4.le
  have pE5 := u5.get (g4.get (g3.get m2)) (by simp only [List.mem_singleton]; omega)
  have mp5 := u5.get (g4.get m3) (by simp only [List.mem_singleton]; omega)
  have ob5 := u5.get m4 (by simp only [List.mem_singleton]; omega)
  have F5 := h.grow g05
  refine CallA.np (DH.read hO.w.d F5.dh F5.wf hok hrd fun xb S6 b6 => ?_)
  have g6 := b6.grow
  refine st_mk g6.wf (g6.get pE5) rfl (by simp [V.cells]) (by simp [V.cells, V.one]) fun S7 u7 m7 n7 => ⟨172, ld m7 rfl, ifC_ff rfl ⟨172, ld m7 rfl, ifC_ff rfl (CallA.np ?_)⟩⟩
  have g57 : Grow S S7 := (g05.trans g6).after u7 (gne (by omega))
  have l6 := g6.le
  have pS7 := u7.get (g6.get m5) (by simp only [List.mem_singleton]; omega)
  have mp7 := u7.get (g6.get mp5) (by simp only [List.mem_singleton]; omega)
  have ob7 := u7.get (g6.get ob5) (by simp only [List.mem_singleton]; omega)
  have F7 := h.grow g57
  refine hA F7 fun S8 G8 D8 B8 q8 v8 h8 o8 sl8 vb8 => ?_
  have hD : ∀ i ∈ D, i < S.next := h.dh.ltD
  have hB : ∀ i ∈ B, i < S.next := h.dh.ltB
  have nD : ∀ {j : Nat}, S.next ≤ j → j ∉ D := fun hj hi => by have := hD _ hi; omega
  have pS8 := o8.1.get pS7 (nD (Nat.le_refl _))
  have pE8 := o8.1.get m7 (nD (by omega))
  have mp8 := o8.1.get mp7 (nD (by omega))
  have ob8 := o8.1.get ob7 (nD (by omega))
  have l7 := u7.le
  have l8 := o8.1.le
  have l5 := u5.le
  refine st_mk o8.1.wf pE8 rfl (by simp [V.cells, over]) (by simp [V.cells, V.one]) fun S9 u9 m9 n9 => ⟨0, ld m9 rfl, store_must.ok hO.must ?_⟩
  have pS9 := u9.get pS8 (by simp only [List.mem_singleton]; omega)
  have mp9 := u9.get mp8 (by simp only [List.mem_singleton]; omega)
  have ob9 := u9.get ob8 (by simp only [List.mem_singleton]; omega)
  refine ifS_mk (ld pS9 rfl) ⟨rfl, ifS_mk (a := .ptr S3.next 2) rfl (st_mk u9.wf ob9 rfl (by simp [V.cells]) (by simp [V.cells, V.one]) fun S10 u10 m10 n10 => ?_)⟩
  have pS10 := u10.get pS9 (by simp only [List.mem_singleton]; omega)
  have pE10 := u10.get m9 (by simp only [List.mem_singleton]; omega)
  have mp10 := u10.get mp9 (by simp only [List.mem_singleton]; omega)
  have l9 := u9.le
  have l10 := u10.le
  have u810 : Upd [S1.next, S3.next] S8 S10 := (u9.mono fun i hi => .inl (by simp only [List.mem_singleton] at hi; simp [hi])).after u10 fun i hi => .inr (by simp only [List.mem_singleton] at hi; simp [hi])
  have fr : ∀ {i : Nat}, i < S7.next → S.next ≤ i → i ∉ G8 ∧ i ∉ D8 ∧ i ∉ B8 := fun {i} h1 h2 => by
    refine ⟨fun hx => ?_, fun hx => ?_, fun hx => ?_⟩
    · have := o8.2.2.2 i hx; omega
    · rcases o8.2.1 i hx with h' | h'
      · have := hD i h'; omega
      · omega
    · rcases o8.2.2.1 i hx with h' | h'
      · have := hB i h'; omega
      · omega
  have fE := fr (i := S1.next) (by omega) (by omega)
  have fO := fr (i := S3.next) (by omega) (by omega)
  have fM := fr (i := S2'.next) (by omega) (by omega)
  have in2 : ∀ {i : Nat}, i ∈ [S1.next, S3.next] → i = S1.next ∨ i = S3.next := fun hi => by simpa using hi
  have hs0 := h.g.le
  have L10 : LD S0 S10 G8 D8 B8 d q8 l' r' := by
    refine ⟨h8.lg.upd u810 fun i hi => ?_, h8.dh.upd u810 (fun i hi => ?_) (fun i hi => ?_), h8.g.after u810 fun i hi => .inl ?_, h8.fG, h8.fD, h8.ap⟩
    · rcases in2 hi with rfl | rfl
      · exact fE.1
      · exact fO.1
    · rcases in2 hi with rfl | rfl
      · exact fE.2.1
      · exact fO.2.1
    · rcases in2 hi with rfl | rfl
      · exact fE.2.2
      · exact fO.2.2
    · rcases in2 hi with rfl | rfl <;> omega
  have H10 : SD S0 S10 ⟨[S3.next, S2'.next], [], G8, D8, B8, d, q8, S3.next, S2'.next, .nilSlice⟩ l' r' ⟨dim, 0, 0, [], []⟩ := by
    refine ⟨L10, ⟨?_, mp10, by simp, by simp, ?_, by simp, by simp, by simp, by simp [V.block], by simp only; omega, by simp [V.block], by simp [V.block], by simp, fun i hi => ?_, by simp⟩, fun i hi => ?_, by simp⟩
    · rw [m10]; rfl
    · exact Acc.nil _ _ _
    · simp only [List.mem_cons, List.not_mem_nil, or_false] at hi
      rcases hi with rfl | rfl <;> omega
    · simp only [List.mem_cons, List.not_mem_nil, or_false] at hi
      rcases hi with rfl | rfl
      · exact ⟨by omega, fO⟩
      · exact ⟨by omega, fM⟩
  have hall : ∀ i ∈ (⟨[S3.next, S2'.next], [], G8, D8, B8, d, q8, S3.next, S2'.next, .nilSlice⟩ : SX).all, i = S3.next ∨ i = S2'.next ∨ i ∈ G8 ∨ i ∈ D8 := fun i hi => by
    simp only [SX.all, List.mem_append, List.mem_cons, List.not_mem_nil, or_false] at hi
    rcases hi with (h' | h') | h' | h'
    · exact .inl h'
    · exact .inr (.inl h')
    · exact .inr (.inr (.inl h'))
    · exact .inr (.inr (.inr h'))
  have pall : ∀ {j : Nat}, S.next ≤ j → j < S7.next → j ≠ S3.next → j ≠ S2'.next → j ∉ (⟨[S3.next, S2'.next], [], G8, D8, B8, d, q8, S3.next, S2'.next, .nilSlice⟩ : SX).all := fun {j} h1 h2 h3 h4 hi => by
    rcases hall j hi with h' | h' | h' | h'
    · exact h3 h'
    · exact h4 h'
    · exact (fr h2 h1).1 h'
    · exact (fr h2 h1).2.1 h'
  refine ⟨_, (sl8.upd u810 fun i hi hx => ?_).len, ?_⟩
  · have := vb8 i hi
    rcases in2 hx with rfl | rfl <;> omega
  rw [recE_len]
  refine store_replay hO H10 rfl pS10 (pall (Nat.le_refl _) (by omega) (by omega) (by omega)) (sl8.upd u810 fun i hi hx => ?_) (fun i hi => ?_) hl hrc hcs ⟨by simp, by simp⟩ hr fun S11 x11 s11 H11 k11 pS11 c11 d11 f11 a11 e11 e12 e13 => ?_
  · have := vb8 i hi
    rcases in2 hx with rfl | rfl <;> omega
  · have vi := vb8 i hi
    refine ⟨fun hx => ?_, by omega⟩
    rcases hall i hx with h' | h' | h' | h'
    · omega
    · omega
    · exact vi.2.2.1 h'
    · exact vi.2.2.2 h'
  have o11 : x11.o = S3.next := k11.o
  have pE11 := k11.u.get pE10 (pall (by omega) (by omega) (by omega) (by omega))
  have ob11 := H11.st.obj
  rw [o11] at ob11
  refine ifS_mk (ld pS11 rfl) (ifS_mk (ld pS11 rfl) ⟨rfl, ifS_mk (a := .ptr S3.next 4) rfl ⟨_, ld ob11 rfl, rfl, ifS_mk (a := .ptr S3.next 5) rfl (st_mk H11.wf ob11 rfl (by simp [stC, V.cells]) (by simp [V.cells, V.one]) fun S12 u12 m12 n12 => ?_)⟩⟩)
  have hX12 : ∀ i ∈ [S3.next], i ∈ x11.H := fun i hi => by simp only [List.mem_singleton] at hi; subst hi; rw [← o11]; exact H11.st.oH
  have st12 : StAt S12 x11.H x11.VB x11.d x11.q.o x11.o x11.m x11.cv { s11 with safe := s11.first } := by
    refine H11.st.fld (by rw [o11]; exact u12) ?_ rfl rfl
    rw [o11, m12]; rfl
  have H12 := H11.own u12 hX12 st12 (fun i hi => .inl hi) (fun i hi => .inl hi)
  have k12 := k11.trans (Kp.own (x := x11) (H' := x11.H) (VB' := x11.VB) (cv' := x11.cv) u12 hX12 (fun i hi => .inl hi) (fun i hi => .inl hi))
  have hlt10 : S7.next ≤ S10.next := by omega
  have out : ∀ {j : Nat}, S.next ≤ j → j < S7.next → j ≠ S3.next → j ≠ S2'.next → j ∉ x11.all := fun {j} h1 h2 h3 h4 hx => by
    rcases k12.a j hx with h' | h'
    · exact pall h1 h2 h3 h4 h'
    · omega
  have pS12 := u12.get pS11 (by simp only [List.mem_singleton]; omega)
  have pE12 := u12.get pE11 (by simp only [List.mem_singleton]; omega)
  refine ifS_mk (ld pS12 rfl) (st_mk u12.wf pS12 rfl (by simp [V.cells]) (by simp [V.cells, V.one]) fun S13 u13 m13 n13 => ?_)
  have pE13 := u13.get pE12 (by simp only [List.mem_singleton]; omega)
  refine st_mk u13.wf pE13 rfl (by simp [V.cells, over]) (by simp [V.cells, V.one]) fun S14 u14 m14 n14 => ?_
  have pS14 := u14.get m13 (by simp only [List.mem_singleton]; omega)
  refine store_caught.none hO.caught (store_Open_1.spec hO.opn1 u14.wf m14 pS14 (fun _ => ⟨_, ldC1 pS14 rfl, _, ldC1 m14 rfl, ?_⟩) fun h => absurd rfl h)
  have hb11 : ∀ {j : Nat}, S.next ≤ j → j < S7.next → j ∉ x11.VB ∧ j ∉ x11.B := fun {j} h1 h2 => by
    refine ⟨fun hx => ?_, fun hx => ?_⟩
    · rcases k12.v j hx with h' | h'
      · simp at h'
      · omega
    · rcases k12.b j hx with h' | h'
      · exact (fr h2 h1).2.2 h'
      · omega
  have H14 := (H12.upd u13 fun i hi => by
    simp only [List.mem_singleton] at hi
    subst hi
    exact ⟨by omega, out (Nat.le_refl _) (by omega) (by omega) (by omega), hb11 (Nat.le_refl _) (by omega)⟩).upd u14 fun i hi => by
    simp only [List.mem_singleton] at hi
    subst hi
    exact ⟨by omega, out (by omega) (by omega) (by omega) (by omega), hb11 (by omega) (by omega)⟩
  have aD : ∀ {i : Nat}, i ∈ (⟨[S3.next, S2'.next], [], G8, D8, B8, d, q8, S3.next, S2'.next, .nilSlice⟩ : SX).all → S.next ≤ i ∨ i ∈ D := fun {i} hi => by
    rcases hall i hi with h' | h' | h' | h'
    · exact .inl (by omega)
    · exact .inl (by omega)
    · have := o8.2.2.2 i h'; exact .inl (by omega)
    · rcases o8.2.1 i h' with h' | h'
      · exact .inr h'
      · exact .inl (by omega)
  have U8 : Upd D S S8 := ((Upd.refl h.wf D).after g57 (by simp)).after o8.1 fun i hi => .inr hi
  have U10 : Upd D S S10 := U8.after u810 fun i hi => .inl (by rcases in2 hi with rfl | rfl <;> omega)
  have U12 : Upd D S S12 := U10.after k12.u fun i hi => aD hi
  have U14 : Upd D S S14 := (U12.after u13 fun i hi => .inl (by simp only [List.mem_singleton] at hi; omega)).after u14 fun i hi => .inl (by simp only [List.mem_singleton] at hi; omega)
  rw [← o11]
  refine hk S14 x11 _ H14 k12.d U14 (fun i hi => ?_) (fun i hi => ?_) (fun i hi => ?_) c11 d11 a11 a11 e11 e12 e13
  · rcases k12.a i hi with h' | h'
    · exact (aD h').symm
    · exact .inr (by omega)
  · rcases k12.v i hi with h' | h'
    · simp at h'
    · omega
  · rcases k12.b i hi with h' | h'
    · rcases o8.2.2.1 i h' with h' | h'
      · exact .inl h'
      · exact .inr (by omega)
    · exact .inr (by omega)

end Go.Th.L
end

section
/- store: the changes since a number. -/
set_option linter.unusedSimpArgs false
set_option linter.unusedVariables false
set_option maxHeartbeats 1000000
namespace Go.Th.L
open Go Go.Th Go.Th.Pure
variable {P : Program} {N : Nat → Nat}

theorem flatten_dropN {α : Type} {k : Nat} : ∀ {es : List (List α)} (_ : ∀ e ∈ es, e.length = k) (m : Nat), es.flatten.drop (m * k) = (es.drop m).flatten
  | [], _, m => by simp
  | e :: es, h, 0 => by simp
  | e :: es, h, m + 1 => by
    have he := h e (by simp)
    have ih := flatten_dropN (es := es) (fun e he => h e (by simp [he])) m
    simp only [List.flatten_cons, List.drop_succ_cons]
    rw [List.drop_append, List.drop_of_length_le (by rw [he, Nat.add_mul]; omega), he, List.nil_append]
    rw [show (m + 1) * k - k = m * k by rw [Nat.add_mul]; omega]
    exact ih
theorem SlE.rest {S : St} {k : Nat} {v : V} {es : List (List V)} (h : SlE S k v es) {m : Nat} (hm : m ≤ es.length) : ∃ v', sliceSlV k v (some (.int .i64 (m : Nat))) none none = some v' ∧ SlE S k v' (es.drop m) ∧ ∀ i ∈ v'.block, i ∈ v.block := by
  obtain ⟨v', e, a, b⟩ := SlAt.sub h.1 (lo := some (.int .i64 (m : Nat))) (hi := none) (l := m) (h := es.length) (c := 0) (fun cap hc => bnds_l (l := m) hm) hm (Nat.le_refl _)
  refine ⟨v', e, ⟨?_, fun x hx => h.2 x (List.mem_of_mem_drop hx)⟩, b⟩
  have hfl : es.flatten.length = es.length * k := h.1.2.1
  rw [List.take_of_length_le (by rw [List.length_drop, hfl, Nat.sub_mul]; omega), flatten_dropN h.2] at a
  rw [List.length_drop]; exact a

def qC (c : Int × Int × List Int × V) : Chg := (c.1, c.2.1, c.2.2.1)
theorem store_Store_Since.spec (hO : StoreF P N) {S : St} (hw : S.Wf) {H VB : List Nat} {d ql o m : Nat} {cv : V} {s : SM} (h : StAt S H VB d ql o m cv s) (hs : s.Ok) (hcl : ∀ c ∈ s.cs, c.2.2.1.length ≤ 100) {n : Int} {K : V → Int → St → Prop}
    (h0 : n < s.first ∨ s.seq < n → K .nilSlice 193 S)
    (h1 : ∀ j : Nat, n = s.first + j → j ≤ s.cs.length → ∀ v' S' cs', Built S S' 3 v' (cgE cs') → cs'.map qC = (s.cs.drop j).map qC → (∀ c ∈ cs', IntsAt S' c.2.2.2 c.2.2.1 ∧ ∀ i ∈ c.2.2.2.block, S.next ≤ i ∧ i < S'.next ∧ i ∉ v'.block) → K v' 0 S') :
    CallA P (N Fn.store_Store_Since) [.ptr o 0, .int .i64 n] S (retT [.one .any, .one (.int .i64)] K) := by
  obtain ⟨o0, o1, o2⟩ := id hs
  refine store_Store_Since.run hO.since (Join0.mid (fun S' => S' = S ∧ s.first ≤ n ∧ n ≤ s.seq) ⟨false, rfl, ifC_ff rfl ⟨rfl, ifS_mk (a := .ptr o 4) rfl ⟨_, ld h.obj rfl, ifC_dec (fun hlt => h0 (.inl hlt)) fun hge => store_Store_Seq.spec hO.seq h hs (ifC_dec (fun hlt => h0 (.inr hlt)) fun hge2 => ⟨rfl, by omega, by omega⟩)⟩⟩⟩ ?_)
  rintro S1 ⟨rfl, a0, a1⟩
  obtain ⟨j, hj⟩ : ∃ j : Nat, n = s.first + j := ⟨(n - s.first).toNat, by omega⟩
  have hjl : j ≤ s.cs.length := by unfold SM.seq at a1; omega
  have h1 := h1 j hj hjl
  refine ⟨rfl, ifS_mk (a := .ptr o 6) rfl (ifS_mk (ld h.obj rfl) ⟨rfl, ifS_mk (a := .ptr o 4) rfl ⟨_, ld h.obj rfl, setI_mk (n := (j : Int)) (by rw [IntKind.wrap_i64]; omega) ?_⟩⟩)⟩
  obtain ⟨vr, er, slr, br⟩ := SlE.rest h.sle (m := j) (by rw [cgE_len]; exact hjl)
  refine ifS_mk er ⟨_, slr.len, ?_⟩
  have hdl : ((cgE s.cs).drop j).length = (s.cs.drop j).length := by simp [cgE]
  refine Loop2.ind (fun q y z S' => ∃ (i : Nat) (cs' : List (Int × Int × List Int × V)), z = i ∧ i + q = (s.cs.drop j).length ∧ Built S1 S' 3 y (cgE cs') ∧ cs'.map qC = ((s.cs.drop j).take i).map qC ∧ ∀ c ∈ cs', IntsAt S' c.2.2.2 c.2.2.1 ∧ ∀ i ∈ c.2.2.2.block, S1.next ≤ i ∧ i < S'.next ∧ i ∉ y.block) (s.cs.drop j).length
    ⟨0, [], rfl, by omega, Built.nil (Upd.refl hw _) 3, by simp, by simp⟩ ?_
  rintro q y _ S2 ⟨i, cs', rfl, hi, b2, e2, v2⟩
  rw [hdl]
  have hlen' : cs'.length = i := by
    have := congrArg List.length e2
    simp only [List.length_map, List.length_take] at this
    omega
  have hdle : (s.cs.drop j).length ≤ s.cs.length := by rw [List.length_drop]; omega
  refine ifC_dec (fun hlt => ?_) (fun hge => ?_)
  · have hi1 : i < (s.cs.drop j).length := by omega
    have hi2 : i < ((cgE s.cs).drop j).length := by omega
    have hel : ((cgE s.cs).drop j)[i] = [.int .i64 (s.cs.drop j)[i].1, .int .i64 (s.cs.drop j)[i].2.1, (s.cs.drop j)[i].2.2.2] := by simp [cgE]
    have hmem : (s.cs.drop j)[i] ∈ s.cs := List.mem_of_mem_drop (List.getElem_mem hi1)
    have htk : (s.cs.drop j).take (i + 1) = (s.cs.drop j).take i ++ [(s.cs.drop j)[i]] := by
      rw [List.take_add_one, List.getElem?_eq_getElem hi1]; rfl
    generalize hc : (s.cs.drop j)[i] = c at hel hmem htk
    obtain ⟨k, id, vec, w⟩ := c
    have hst := h.grow b2.grow
    have hwv : IntsAt S2 w vec := (hst.chg _ hmem).1
    have hw1 : w.one = true := SlAt.one1 hwv
    have hwc : V.cells w = [w] := SlAt.cells1 hwv
    have hvl : vec.length ≤ 100 := hcl _ hmem
    have slr2 := slr.grow b2.grow
    refine ifS_mk (slr2.idx hi2) ⟨_, _, _, by rw [slr2.getN hi2 (by omega), hel], newS_mk b2.grow.wf fun S3 g3 m3 n3 => st_mk g3.wf m3 (by simp [V.cells]) (by simp [V.cells]) (by simp only [V.cells, List.all_cons, List.all_nil, hw1]; rfl) fun S4 u4 m4 n4 => ?_⟩
    have g4 : Grow S2 S4 := g3.after u4 fun i hi => .inl (by simp only [List.mem_singleton] at hi; omega)
    simp only [over, V.cells] at m4
    refine ifS_mk (ld m4 rfl) (slices_Clone_Lint.spec hO.clone g4.wf (hwv.grow g4) (by omega) fun w' S5 b5 => ?_)
    have m5 := b5.grow.get m4
    have hwc' : V.cells w' = [w'] := SlAt.cells1 b5.at_
    have hw1' : w'.one = true := SlAt.one1 b5.at_
    have l4 := g4.le
    have l3 := g3.le
    have l5 := b5.grow.le
    have l2 := b2.grow.le
    refine st_mk b5.grow.wf m5 (by rw [hwc']; rfl) (by rw [hwc']; simp) (by rw [hwc']; simp [hw1']) fun S6 u6 m6 n6 => ?_
    rw [hwc'] at m6
    have g26 : Grow S2 S6 := (g4.trans b5.grow).after u6 fun i hi => .inl (by simp only [List.mem_singleton] at hi; omega)
    have b6 := b2.next g26
    refine ⟨_, _, _, ldN m6 (by simp [over]) rfl, ?_⟩
    refine b6.push (e := [.int .i64 k, .int .i64 id, w']) rfl (by simp only [List.all_cons, List.all_nil, hw1']; rfl) (by rw [cgE_len]; omega) (by rw [cgE_len]; omega) fun y' S7 b7 u7 t7 => setI_mk (n := ((i + 1 : Nat) : Int)) (by rw [IntKind.wrap_i64]; omega) ?_
    have l6 := u6.le
    have l7 := u7.le
    have hy2 := b2.lt
    refine ⟨q - 1, by omega, i + 1, cs' ++ [(k, id, vec, w')], rfl, by omega, by simpa [cgE] using b7, ?_, fun c hc' => ?_⟩
    · rw [htk, List.map_append, List.map_append, e2]; rfl
    · rcases List.mem_append.mp hc' with hc' | hc'
      · obtain ⟨p1, p2⟩ := v2 c hc'
        refine ⟨SlAt.upd (p1.grow g26) u7 fun i hi => (p2 i hi).2.2, fun i hi => ?_⟩
        obtain ⟨p3, p4, p5⟩ := p2 i hi
        refine ⟨p3, by omega, fun hx => ?_⟩
        rcases t7 i hx with h' | h'
        · exact p5 h'
        · omega
      · simp only [List.mem_singleton] at hc'
        subst hc'
        have bw : ∀ i ∈ w'.block, S4.next ≤ i ∧ i < S5.next := fun i hi => ⟨b5.from i hi, b5.lt i hi⟩
        have hyw : ∀ i ∈ w'.block, i ∉ y.block := fun i hi hx => by
          have := bw i hi; have := hy2 i hx; omega
        refine ⟨SlAt.upd (SlAt.upd b5.at_ u6 fun i hi hx => ?_) u7 hyw, fun i hi => ?_⟩
        · have := bw i hi
          simp only [List.mem_singleton] at hx; omega
        · have b' := bw i hi
          refine ⟨by omega, by omega, fun hx => ?_⟩
          rcases t7 i hx with h' | h'
          · exact hyw i hi h'
          · omega
  · have hin : i = (s.cs.drop j).length := by omega
    rw [hin, List.take_length] at e2
    exact h1 y S2 cs' b2 e2 v2

end Go.Th.L
end

section
/- store: the document's examples; no disk, no store. -/
set_option linter.unusedSimpArgs false
set_option linter.unusedVariables false
set_option maxHeartbeats 1000000
set_option maxRecDepth 10000
namespace Go.Th.L
open Go Go.Th Go.Th.Pure
variable {P : Program} {N : Nat → Nat}

theorem syncSegs_ok : ∀ {l : List SegR} {r : DiskR} {M : Nat}, OkR M r → OkR (M + l.length) (syncSegs l r).2.2
  | [], r, M, h => h
  | s :: t, r, M, h => by
    have h1 := syncR_ok h s.name
    simp only [syncSegs]
    split
    · split
      · exact (syncSegs_ok (l := t) h1).mono (by simp only [List.length_cons]; omega)
      · exact h1.mono (by simp only [List.length_cons]; omega)
    · exact (syncSegs_ok (l := t) h).mono (by simp only [List.length_cons]; omega)
theorem logSyncR_ok {l : LogR} {r : DiskR} {M : Nat} (h : OkR M r) : OkR (M + l.segs.length + 1) (logSyncR l r).2.2 := by
  have h1 := syncSegs_ok (l := l.segs) h
  simp only [logSyncR]
  split
  · split
    · split
      · exact syncDirR_ok h1
      · exact syncDirR_ok h1
    · exact h1.mono (by omega)
  · exact h1.mono (by omega)

theorem AppC.lay (hO : WalF P N) {S0 : St} {x : SX} {l : LogR} {r : DiskR} {M : Nat} (hok : OkR M r) (hM : M ≤ 1000000) (hl : 0 < l.segs.length ∧ l.segs.length ≤ 1000) (hs : SegsOk l.segs) (hz : ∀ s ∈ l.segs, 0 ≤ s.size ∧ s.size ≤ 16384) (hq : 0 ≤ lastR l ∧ lastR l < 4611686018427387904) {t : Nm} (ht : t.length ≤ 65536) :
    AppC P N S0 x l r t (layR l r (lastR l + 1) t).1 (if (layR l r (lastR l + 1) t).1 = 0 then lastR l + 1 else 0) (layR l r (lastR l + 1) t).2.1 (layR l r (lastR l + 1) t).2.2 :=
  fun h hk => wal_Log_Append.spec hO h hok hM hl hs hz hq ht fun S' D' B' h' mv => hk S' x.G D' B' x.q rfl h' mv.g
theorem SynC.of (hO : WalF P N) {S0 : St} {x : SX} {l : LogR} {r : DiskR} {M : Nat} (hok : OkR M r) (hl : l.segs.length ≤ 1000) (hM : M + l.segs.length + 1 ≤ 1000000) (hs : SegsOk l.segs) : SynC P N S0 x l r (logSyncR l r).1 (logSyncR l r).2.1 (logSyncR l r).2.2 :=
  fun h hk => wal_Log_Sync.spec hO h hok hl hM hs fun S' D' B' h' _ mv => hk S' x.G D' B' x.q rfl h' mv.g

def t1 : Nm := le 8 1 ++ textC (1, 1, [3, 4])
def t2 : Nm := le 8 2 ++ textC (1, 2, [5, 5])
def t3 : Nm := le 8 3 ++ textC (2, 1, [])
def va : Int × LogR × DiskR := layR l1 wc.2.2 (lastR l1 + 1) t1
def vb : Int × LogR × DiskR := logSyncR va.2.1 va.2.2
def vc : Int × LogR × DiskR := layR vb.2.1 vb.2.2 (lastR vb.2.1 + 1) t2
def vd : Int × LogR × DiskR := layR vc.2.1 vc.2.2 (lastR vc.2.1 + 1) t3
def ve : DiskR := crashR [] vd.2.2
def vt : List UInt8 := (readR ve (nameB 0)).1
def vf : Int × LogR × DiskR := logSyncR ⟨[⟨nameB 0, 1, 1 + (1 : Nat), vt.length, true⟩], 0, true, 0 + 1⟩ ve
theorem va_0 : va.1 = 0 := by decide +kernel
theorem vb_0 : vb.1 = 0 := by decide +kernel
theorem vc_0 : vc.1 = 0 := by decide +kernel
theorem vd_0 : vd.1 = 0 := by decide +kernel
theorem vf_0 : vf.1 = 0 := by decide +kernel
theorem va_o : okB va.2.1 = true ∧ va.2.1.segs.length = 1 ∧ lastR va.2.1 = 1 := by decide +kernel
theorem vb_o : okB vb.2.1 = true ∧ vb.2.1.segs.length = 1 ∧ lastR vb.2.1 = 1 := by decide +kernel
theorem vc_o : okB vc.2.1 = true ∧ vc.2.1.segs.length = 1 ∧ lastR vc.2.1 = 2 := by decide +kernel
theorem vf_o : okB vf.2.1 = true ∧ vf.2.1.segs.length = 1 := by decide +kernel
theorem ve_n : namesR ve = [nameB 0] ∧ downR ve = false ∧ (readR ve (nameB 0)).2 = 0 := by decide +kernel
theorem vt_b : beginsB vt = (1, true) ∧ vt.length = 16 + 16 + t1.length ∧ recsB vt.length (vt.drop 16) 1 = ([(1, t1)], true) := by decide +kernel
theorem ve_r : readR ve nowB = ([], 172) := by decide +kernel
theorem w0_r : readR w0 nowB = ([], 172) := by decide +kernel

theorem beginR_ok {l : LogR} {r : DiskR} {M : Nat} {first : Int} (h : OkR M r) : OkR (M + 3) (beginR l r first).2.2 := by
  simp only [beginR]
  split
  · split
    · exact (appendR_ok (createR_ok h _) _ _).mono (by omega)
    · exact removeR_ok (appendR_ok (createR_ok h _) _ _) _
  · exact (createR_ok h _).mono (by omega)
theorem okc : OkR 100 wc.2.2 := (logSyncR_ok (l := wb.2.1) (beginR_ok (l := wa.2.1) (first := 1) (logSyncR_ok (l := { newL with names := true }) (newR_ok (room := 4194304) (by omega))))).mono (by rw [wb_o.2]; simp [newL])
theorem oka : OkR 101 va.2.2 := layR_ok (l := l1) okc _ t1
theorem okb : OkR 103 vb.2.2 := (logSyncR_ok (l := va.2.1) oka).mono (by rw [va_o.2.1]; omega)
theorem okd : OkR 105 vd.2.2 := layR_ok (l := vc.2.1) (layR_ok (l := vb.2.1) okb _ t2) _ t3
theorem oke : OkR 105 ve := crashR_ok okd []
theorem vt_e : readR ve (nameB 0) = (vt, 0) := Prod.ext rfl ve_n.2.2
theorem vf_e : logSyncR ⟨[⟨nameB 0, 1, 1 + (([(1, t1)] : List (Int × List UInt8)).length : Nat), vt.length, true⟩], 0, true, 0 + 1⟩ ve = (0, vf.2.1, vf.2.2) := prw3 vf_0
theorem m50 {b : Bool} {n : Nat} : mayF 0 [3, 4] 2 b n = 50 := by simp [mayF]
theorem t1_len : t1.length ≤ 100 := by decide
theorem t2_len : t2.length ≤ 100 := by decide
theorem t3_len : t3.length ≤ 100 := by decide

theorem two_at {S : St} {i : Nat} {a b : Int} (h : S.get i = some (.cells [.int .i64 a, .int .i64 b] true)) : IntsAt S (.slice i 0 2 2 1 true) [a, b] := SlAt.ints (sl_of (own := true) (n := 2) (cs := intsV .i64 [a, b]) h rfl (by omega))

theorem law19_awake.spec (hO : StoreF P N) (hE : canEnter P (N Fn.store_caught) = true) (hE1 : canEnter P (N Fn.store_Open_1) = true) {S : St} (hI : ItoaW P (N Fn.strconv_Itoa) S) (hP : PrefixW P (N Fn.strings_HasPrefix)) (hA : AtoiW P (N Fn.strconv_Atoi)) (hF : law19_awake.Ok P N) (hw : S.Wf) {K : Bool → St → Prop} (hk : ∀ S', K true S') :
    CallA P (N Fn.law19_awake) [] S (retT [.one .bool] K) := by
  refine law19_awake.run hF (disk_New.spec hO.w.d.new hw (fun h => absurd (by omega) h) fun _ S1 D1 d g1 h1 n1 => ?_)
  have o0 : OkR 0 w0 := newR_ok (by omega)
  have F1 : Fd S S1 D1 [] d w0 := ⟨h1, g1, n1, by simp⟩
  refine store_Open.plain hO hE hE1 F1 o0 (by omega) w0_r (recs := []) (by simp) (l' := l1) (r' := wc.2.2) (fun h hk => wal_Open.fresh hO.w hI h o0 (by omega) rfl rfl ea wa_e.1 wa_e.2 eb (by rw [wb_o.2]; omega) (okB.segs wb_o.1) ec (by rw [wc_o.2]; omega) (okB.segs wc_o.1) fun S' G' D' B' q' h' _ op => hk S' G' D' B' q' .nilSlice h' op ⟨Acc.nil S' 0 2 |>.at_, by simp [recE]⟩ (by simp [V.block])) (rc := []) rfl (by simp) rfl fun S2 x2 s2 H2 d2 _ _ _ _ c2 dim2 sf2 f2 _ _ rv2 => ?_
  obtain ⟨dim, first, safe, rs, cs⟩ := s2
  simp only at c2 dim2 sf2 f2 rv2
  subst c2 dim2 sf2 f2
  have hrs : rs = [] := List.map_eq_nil_iff.mp rv2
  subst hrs
  refine Join0.mid (fun S' => S' = S2) ⟨false, rfl, ifC_ff rfl ⟨false, rfl, ifC_ff rfl (ifC_ff rfl (ifC_ff rfl rfl))⟩⟩ ?_
  rintro S3 rfl
  refine newS_mk H2.wf fun S4 g4 m4 n4 => ⟨rfl, ?_⟩
  have H4 := H2.grow g4
  refine store_Store_Put.spec hO H4 ⟨by simp, by simp, by simp⟩ (by simp) (two_at m4) (fun _ => AppC.lay hO.w (t := t1) okc (by omega) (by rw [l1_o.2.1]; omega) (okB.segs l1_o.1) (okB.size l1_o.1) (by rw [l1_o.2.2]; omega) (by have := t1_len; omega)) (fun f hf hne => absurd (hf.symm.trans (by decide)) hne) (fun _ h => absurd va_0 h) fun _ _ S5 x5 w5 H5 k5 => ?_
  replace H5 : SD S S5 x5 va.2.1 va.2.2 ⟨2, 0, 0, [(1, [3, 4], w5)], [(1, 1, [3, 4], w5)]⟩ := H5
  refine newS_mk H5.wf fun S6 g6 m6 n6 => ⟨rfl, ?_⟩
  have H6 := H5.grow g6
  rw [show x2.o = x5.o from k5.o.symm]
  refine store_Store_Put.spec hO H6 ⟨by simp, by simp, by simp⟩ (by simp) (two_at m6) (e := 0) (m := 0) (l' := l1) (r' := w0) (fun h => absurd (m50.symm.trans h) (by decide)) (fun f hf hne S7 g7 => ?_) (fun h => absurd (m50.symm.trans h) (by decide)) (fun h => absurd (m50.symm.trans h) (by decide))
  obtain rfl : f = 50 := hf.symm.trans m50
  have H7 := H6.grow g7
  refine store_Store_Sync.spec hO H7 ⟨by simp, by simp, by simp⟩ (SynC.of hO.w oka (by rw [va_o.2.1]; omega) (by rw [va_o.2.1]; omega) (okB.segs va_o.1)) (fun h => absurd vb_0 h) fun _ S8 x8 H8 k8 => ?_
  replace H8 : SD S S8 x8 vb.2.1 vb.2.2 ⟨2, 0, 1, [(1, [3, 4], w5)], [(1, 1, [3, 4], w5)]⟩ := H8
  refine newS_mk H8.wf fun S9 g9 m9 n9 => ⟨rfl, ?_⟩
  have H9 := H8.grow g9
  rw [show x5.o = x8.o from k8.o.symm]
  refine store_Store_Put.spec hO H9 ⟨by simp, by simp, by simp⟩ (by simp) (two_at m9) (fun _ => AppC.lay hO.w (t := t2) okb (by omega) (by rw [vb_o.2.1]; omega) (okB.segs vb_o.1) (okB.size vb_o.1) (by rw [vb_o.2.2]; omega) (by have := t2_len; omega)) (fun f hf hne => absurd (hf.symm.trans (show mayF 2 [5, 5] 2 false 1 = 0 by decide)) hne) (fun _ h => absurd vc_0 h) fun _ _ S10 x10 w10 H10 k10 => ?_
  replace H10 : SD S S10 x10 vc.2.1 vc.2.2 ⟨2, 0, 1, [(1, [3, 4], w5), (2, [5, 5], w10)], [(1, 1, [3, 4], w5), (1, 2, [5, 5], w10)]⟩ := H10
  rw [show x8.o = x10.o from k10.o.symm]
  refine store_Store_Delete.spec hO H10 ⟨by simp, by simp, by simp⟩ (by simp) (fun _ => by decide) (fun _ => AppC.lay hO.w (t := t3) (layR_ok (l := vb.2.1) okb _ t2) (by omega) (by rw [vc_o.2.1]; omega) (okB.segs vc_o.1) (okB.size vc_o.1) (by rw [vc_o.2.2]; omega) (by have := t3_len; omega)) (fun h => absurd h (by simp [thereR])) (fun _ h => absurd vd_0 h) fun _ _ S11 x11 H11 k11 => ?_
  replace H11 : SD S S11 x11 vd.2.1 vd.2.2 ⟨2, 0, 1, [(2, [5, 5], w10)], [(1, 1, [3, 4], w5), (1, 2, [5, 5], w10), (2, 1, [], .nilSlice)]⟩ := H11
  rw [show x10.o = x11.o from k11.o.symm]
  refine store_Store_Since.spec hO H11.wf H11.st ⟨by simp, by simp, by simp⟩ (by simp) (fun h => ?_) fun j hj hjl v12 S12 cs12 b12 e12 v12p => ?_
  · exfalso; simp [SM.seq] at h
  have hj1 : j = 1 := by simp only at hj; omega
  subst hj1
  have H12 := H11.grow b12.grow
  have ed : x11.d = d := by rw [k11.d, k10.d, k8.d, k5.d, d2]
  have dh12 : DH S12 x11.D x11.B d vd.2.2 := ed ▸ H12.ld.dh
  refine DH.crash hO.w.d H12.wf dh12 okd (by omega) (x := .nilSlice) (cs := []) ⟨by simp, rfl, .inl ⟨rfl, rfl⟩⟩ (fun h => absurd rfl h) (fun h => absurd rfl h) (by simp) rfl fun S13 D13 B13 h13 f13 => ?_
  change DH _ _ _ _ ve at h13
  have l12 := b12.grow.le
  have bl12 : ∀ i ∈ v12.block, i ∉ x11.D := fun i hi hx => by
    have := b12.from i hi; have := H11.lt i (List.mem_append_right _ (List.mem_append_right _ hx)); omega
  have sl13 : SlE S13 3 v12 (cgE cs12) := b12.sl.upd f13.2.2 bl12
  have lt12 := b12.lt
  have bl13 : ∀ i ∈ v12.block, i ∉ D13 := fun i hi hx => by
    rcases f13.1 i hx with h' | h'
    · exact bl12 i hi h'
    · have := lt12 i hi; omega
  refine store_Open.plain hO hE hE1 (Fd.of f13.2.2.wf h13) oke (by omega) ve_r (recs := [(1, t1)]) (by simp) (l' := { vf.2.1 with synced := lastR vf.2.1 }) (r' := vf.2.2) (fun h hk => wal_Open.one hO.w hP hA h oke (by omega) (k := 0) (by omega) ve_n.1 ve_n.2.1 (b := vt) vt_e vt_b.1 (by rw [vt_b.2.1]; have := t1_len; omega) vt_b.2.2 (by simp) vf_e (by rw [vf_o.2]; omega) (okB.segs vf_o.1) fun _ S' G' D' B' q' v _ h' _ sl op bl => hk S' G' D' B' q' v h' op sl bl) (rc := [(1, (1, 1, [3, 4]))]) rfl (by simp only [List.mem_singleton]; rintro p rfl; decide) (f := 1) (rows := [(1, [3, 4])]) (by decide) fun S14 x14 s14 H14 d14 u14 _ _ _ c14 dim14 sf14 f14 _ _ rv14 => ?_
  have sl14 : SlE S14 3 v12 (cgE cs12) := sl13.upd u14 bl13
  obtain ⟨dim, first, safe, rs, cs⟩ := s14
  simp only at c14 dim14 sf14 f14 rv14
  subst c14 dim14 sf14 f14
  have hl14 : rs.length = 1 := by
    have := congrArg List.length rv14
    simpa [rv] using this
  refine Join0.mid (fun S' => S' = S14) ⟨false, rfl, ifC_ff rfl (ifC_ff rfl rfl)⟩ ?_
  rintro S15 rfl
  have hcl : cs12.length = 2 := by
    have := congrArg List.length e12
    simpa using this
  have hlen : lenV S15 2 v12 = some (.int .i64 2) := by
    have := sl14.len
    rwa [cgE_len, hcl] at this
  obtain ⟨c0, c1, rfl⟩ : ∃ a b, cs12 = [a, b] := by
    match cs12, hcl with
    | [a, b], _ => exact ⟨a, b, rfl⟩
  have hid : c1.2.1 = 1 := by
    simp only [List.drop_succ_cons, List.drop_zero, List.map_cons, List.map_nil, qC, List.cons.injEq, Prod.mk.injEq] at e12
    exact e12.2.1.2.1
  have hld : loadV S15 (eltV 3 v12 1 1) = some (.int .i64 1) := by
    rw [sl14.get (j := 1) (by simp [cgE]) (by omega), ← hid]; rfl
  refine Join1.mid (fun b S' => b = true ∧ S' = S15) ?_ ?_
  · refine ifC_tt rfl (ifC_tt rfl (ifC_tt rfl (ifC_tt rfl (ifC_tt rfl (ifC_tt rfl (ifC_tt rfl (ifC_tt rfl (ifC_tt rfl ⟨2, hlen, ifC_tt rfl (ifS_mk (sl14.idx (j := 1) (by simp [cgE])) (ifS_mk (sl14.fld (j := 1) (by simp [cgE]) 1) ⟨1, hld, rfl, rfl⟩))⟩))))))))
  · rintro b S16 ⟨rfl, rfl⟩
    have ok15 : SM.Ok ⟨2, 1, 1, rs, []⟩ := ⟨by simp, by simp, by simp⟩
    refine ifC_tt rfl (store_Store_Seq.spec hO.seq H14.st ok15 (ifC_tt rfl (store_Store_Seq.spec hO.seq H14.st ok15 (ifC_tt rfl (store_Store_Safe.spec hO H14.st (store_Store_Seq.spec hO.seq H14.st ok15 (ifC_tt rfl (store_Store_Len.spec hO H14.st ?_))))))))
    rw [show ((⟨2, 1, 1, rs, []⟩ : SM).rs.length) = 1 from hl14]
    exact hk _

end Go.Th.L
end

section
/- store: StoreNil. -/
set_option linter.unusedSimpArgs false
set_option linter.unusedVariables false
set_option maxHeartbeats 1000000
namespace Go.Th.L
open Go Go.Th Go.Th.Pure
variable {P : Program} {N : Nat → Nat}

theorem law19_large.one (hF : law19_large.Ok P N) {S : St} {b : Nat} {k id n rid : Int} {w ch : V} (m : S.get b = some (.cells [.int .i64 k, .int .i64 id, .int .i64 n, .int .i64 rid, w, ch] true)) {a c : Int} (ha : lenV S 2 w = some (.int .i64 a)) (hc : lenV S 2 ch = some (.int .i64 c)) {K : Bool → St → Prop} (h1 : K true S) (h2 : K false S) :
    CallA P (N Fn.law19_large) [.slice b 0 1 1 6 true] S (retT [.one .bool] K) := by
  refine law19_large.run hF ⟨1, rfl, ifC_ff rfl ?_⟩
  refine Loop1.ind (fun q z S' => S' = S ∧ ((q = 1 ∧ z = 0) ∨ (q = 0 ∧ z = 1))) 1 ⟨rfl, .inl ⟨rfl, rfl⟩⟩ ?_
  rintro q z S' ⟨rfl, ⟨rfl, rfl⟩ | ⟨rfl, rfl⟩⟩
  · refine ⟨1, rfl, ifC_tt rfl (ifS_mk (a := .ptr b 0) rfl (ifS_mk (a := .ptr b 3) rfl (ifS_mk (a := .ptr b 4) rfl (ifS_mk (ld m rfl) ⟨a, ha, ifC_dec (fun _ => h1) fun _ => ifS_mk (a := .ptr b 0) rfl (ifS_mk (a := .ptr b 5) rfl (ifS_mk (ld m rfl) ⟨c, hc, ifC_dec (fun _ => h1) fun _ => setI_mk (n := 1) rfl ⟨0, by omega, rfl, .inr ⟨rfl, rfl⟩⟩⟩))⟩))))⟩
  · exact ⟨1, rfl, ifC_ff rfl h2⟩

theorem ItoaW.grow {f : FuncId} {S0 S1 : St} (h : ItoaW P f S0) (g : Grow S0 S1) : ItoaW P f S1 := fun g' h1 h2 h3 => h (g.trans g') h1 h2 h3

theorem law19_StoreNil.spec (hO : StoreF P N) (hE : canEnter P (N Fn.store_caught) = true) (hE1 : canEnter P (N Fn.store_Open_1) = true) {S : St} (hI : ItoaW P (N Fn.strconv_Itoa) S) (hP : PrefixW P (N Fn.strings_HasPrefix)) (hA : AtoiW P (N Fn.strconv_Atoi)) (hW : law19_awake.Ok P N) (hL : law19_large.Ok P N) (hF : law19_StoreNil.Ok P N) (hw : S.Wf)
    {k id n rid dim : Int} {w ch : V} (ow : w.one = true) (oc : ch.one = true) {a c : Int} (ha : ∀ S', lenV S' 2 w = some (.int .i64 a)) (hc : ∀ S', lenV S' 2 ch = some (.int .i64 c)) {K : Bool → St → Prop} (hk : ∀ S', K true S') :
    CallA P (N Fn.law19_StoreNil) [.agg [.int .i64 k, .int .i64 id, .int .i64 n, .int .i64 rid, w, ch], .int .i64 dim] S (retT [.one .bool] K) := by
  refine law19_StoreNil.run hF (newS_mk hw fun S1 g1 m1 n1 => ⟨_, _, _, _, _, _, ldN m1 (by simp) rfl, newS_mk g1.wf fun S2 g2 m2 n2 => ?_⟩)
  have g12 : Grow S S2 := g1.trans g2
  refine law19_large.one hL m2 (ha S2) (hc S2) (ifC_tt rfl (hk S2)) (ifC_ff rfl (store_Open.nil hO hE hE1 g2.wf fun S4 g4 => ?_))
  have g14 : Grow S1 S4 := g2.trans g4
  refine Join0.mid (fun S' => S' = S4) ⟨true, rfl, ifC_ff rfl (ifC_ff rfl rfl)⟩ ?_
  rintro S5 rfl
  have m5 := g14.get m1
  refine ⟨_, _, ldN m5 (by simp) rfl, store_Store_Put.nil hO g4.wf fun S6 g6 => ?_⟩
  have m6 := g6.get m5
  refine ⟨_, ld m6 rfl, store_Store_Delete.nil hO ⟨_, ld m6 rfl, store_Store_Get.nil hO ⟨_, ld m6 rfl, store_Store_Since.nil hO ?_⟩⟩⟩
  refine law19_awake.spec hO hE hE1 (hI.grow ((g12.trans g4).trans g6)) hP hA hW g6.wf fun S10 => ifC_tt rfl (ifC_tt rfl (ifC_tt rfl (ifC_tt rfl (ifC_tt rfl (store_Store_Sync.nil hO (ifC_tt rfl ?_))))))
  refine CallA.wfT fun hw10 => store_Store_Snapshot.nil hO hw10 hE fun S11 g11 => ifC_tt rfl (store_Store_Len.nil hO (ifC_tt rfl (store_Store_Rows.nil hO ⟨0, rfl, ifC_tt rfl (store_Store_Seq.nil hO.seq (ifC_tt rfl (store_Store_Safe.nil hO (hk _))))⟩)))

end Go.Th.L
end
