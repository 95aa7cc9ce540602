/- What the row of one statement stands on: a store, abstract code, functions of the program and their laws (ThQ7, ThQ8, ThQ9, ThQ10). -/
import Derived.Test.YtmaocfcjbabelaaThBQ6

section
/- Lists that a call builds: bytes, numbers, rows. Reading a text. -/
set_option linter.unusedSimpArgs false
set_option linter.unusedVariables false
namespace Go.Th
open Go

/-- Elements of k cells each, built since the store was S0. -/
structure Built (S0 S : St) (k : Nat) (v : V) (es : List (List V)) : Prop where
  grow : Grow S0 S
  acc : Acc S S0.next k v es.length es.flatten
  each : ∀ e ∈ es, e.length = k

theorem Built.nil {S0 S : St} (g : Grow S0 S) (k : Nat) : Built S0 S k .nilSlice [] := ⟨g, Acc.nil _ _ _, by simp⟩
theorem Built.from {S0 S : St} {k : Nat} {v : V} {es : List (List V)} (h : Built S0 S k v es) : ∀ i ∈ v.block, S0.next ≤ i := fun i hi => (h.acc.own i hi).1
theorem Built.sl {S0 S : St} {k : Nat} {v : V} {es : List (List V)} (h : Built S0 S k v es) : SlE S k v es := ⟨h.acc.at_, h.each⟩
theorem Built.next {S0 S S' : St} {k : Nat} {v : V} {es : List (List V)} (h : Built S0 S k v es) (g : Grow S S') : Built S0 S' k v es := ⟨h.grow.trans g, h.acc.grow g, h.each⟩
theorem Built.upd {D : List Nat} {S0 S S' : St} {k : Nat} {v : V} {es : List (List V)} (h : Built S0 S k v es) (g : Upd D S S') (hD : ∀ i ∈ D, S0.next ≤ i) (hv : ∀ i ∈ v.block, i ∉ D) : Built S0 S' k v es :=
  ⟨h.grow.after g (fun i hi => .inl (hD i hi)), h.acc.upd g hv, h.each⟩
theorem Built.one {S0 S : St} {k : Nat} {v : V} {es : List (List V)} (h : Built S0 S k v es) : v.one = true := h.acc.at_.one1
theorem Built.lt {S0 S : St} {k : Nat} {v : V} {es : List (List V)} (h : Built S0 S k v es) : ∀ i ∈ v.block, i < S.next := fun i hi => by
  obtain ⟨_, vs, hg⟩ := h.acc.own i hi
  exact h.grow.wf.lt hg

/-- More elements behind. -/
theorem Built.app {S0 S : St} {k : Nat} {v y : V} {es ds : List (List V)} (h : Built S0 S k v es) (hy : srcV k S y = some (ds.length, ds.flatten)) (hd : ∀ e ∈ ds, e.length = k) (ho : ds.flatten.all V.one = true) {bytes : Nat}
    (hb : (es.length + ds.length) * bytes ≤ 140737488355328) (hn : es.length + ds.length ≤ 4611686018427387904) {K : V → St → Prop}
    (hk : ∀ v' S', Built S0 S' k v' (es ++ ds) → Upd v.block S S' → (∀ i ∈ v'.block, i ∈ v.block ∨ S.next ≤ i) → K v' S') : ifP (appV S k bytes v y) K := by
  obtain ⟨v', S', e1, a1, u1, t1⟩ := h.acc.app h.grow.wf h.grow.le hy (flatten_len hd) ho hb hn
  refine ifP_mk e1 (hk v' S' ⟨h.grow.after u1 (fun i hi => .inl (h.from i hi)), ?_, ?_⟩ u1 t1)
  · rw [List.length_append, List.flatten_append]; exact a1
  · intro e he
    rcases List.mem_append.mp he with he | he
    · exact h.each e he
    · exact hd e he

/-- One more element. -/
theorem Built.push {S0 S : St} {k : Nat} {v : V} {es : List (List V)} (h : Built S0 S k v es) {e : List V} (he : e.length = k) (ho : e.all V.one = true) {bytes : Nat}
    (hb : (es.length + 1) * bytes ≤ 140737488355328) (hn : es.length + 1 ≤ 4611686018427387904) {K : V → St → Prop}
    (hk : ∀ v' S', Built S0 S' k v' (es ++ [e]) → Upd v.block S S' → (∀ i ∈ v'.block, i ∈ v.block ∨ S.next ≤ i) → K v' S') :
    newS S (.cells e true) fun S1 => ifP (appV S1 k bytes v (.slice S.next 0 1 1 k true)) K := by
  refine newS_mk h.grow.wf fun S1 g1 m1 n1 => ?_
  have hs : srcV k S1 (.slice S.next 0 1 1 k true) = some ([e].length, [e].flatten) := by
    simp only [srcV, if_true]
    rw [St.loads_of m1 (by omega)]
    simp [List.take_of_length_le (Nat.le_of_eq he)]
  refine (h.next g1).app hs (by simp [he]) (by simpa using ho) hb hn fun v' S' b' u t => hk v' S' b' (g1.mono (by simp) |>.trans u) fun i hi => ?_
  rcases t i hi with h' | h'
  · exact .inl h'
  · exact .inr (by omega)

/-- One element written. -/
theorem Built.set {S0 S : St} {k : Nat} {v : V} {es : List (List V)} (h : Built S0 S k v es) {j : Nat} (hj : j < es.length) (hk : 0 < k) {x : V} (hx : x.cells.length = k) (ho : x.cells.all V.one = true) {K : St → Prop}
    (hK : ∀ S', Built S0 S' k v (es.set j x.cells) → Upd v.block S S' → K S') : ifS (storeV S k (eltV k v j 0) x) K := by
  obtain ⟨S', e1, a1, u1⟩ := h.acc.put h.grow.wf (m := j) (off := 0) (x := x) hj (by omega) ho (by omega)
  rw [hx] at e1
  refine ifS_mk e1 (hK S' ⟨h.grow.after u1 (fun i hi => .inl (h.from i hi)), ?_, ?_⟩ u1)
  · have : over es.flatten (j * k + 0) x.cells = (es.set j x.cells).flatten := by
      rw [Nat.add_zero]
      have hfl := flatten_len h.each
      have hjk : (j + 1) * k ≤ es.length * k := Nat.mul_le_mul_right _ hj
      rw [Nat.add_mul, Nat.one_mul] at hjk
      rw [over_at (by omega), hx]
      have key : ∀ (es : List (List V)) (j : Nat), (∀ e ∈ es, e.length = k) → j < es.length → es.flatten.take (j * k) ++ x.cells ++ es.flatten.drop (j * k + k) = (es.set j x.cells).flatten := by
        intro es
        induction es with
        | nil => intro j _ hj; simp at hj
        | cons a es ih =>
          intro j he hj
          have ha := he a (by simp)
          cases j with
          | zero => simp [← ha]
          | succ j =>
            have := ih j (fun e h => he e (by simp [h])) (by simpa using hj)
            simp only [List.flatten_cons, List.set_cons_succ, ← this]
            rw [Nat.add_mul, Nat.one_mul, Nat.add_comm (j * k) k, List.take_append, List.drop_append, List.take_of_length_le (by omega), List.drop_of_length_le (by omega), ha]
            simp only [List.nil_append, List.append_assoc]
            congr 3
            · congr 1; omega
            · congr 1; omega
      exact key es j h.each hj
    rw [this] at a1
    rw [List.length_set]; exact a1
  · intro e he
    rcases List.mem_or_eq_of_mem_set he with he | rfl
    · exact h.each e he
    · exact hx

/-! ## bytes, numbers -/
def byteE (bs : List UInt8) : List (List V) := bs.map fun b => [V.int .u8 (b.toNat : Nat)]
def intE (l : List Int) : List (List V) := l.map fun x => [V.int .i64 x]
theorem byteE_flat (bs : List UInt8) : (byteE bs).flatten = bytesV bs := by
  induction bs with
  | nil => rfl
  | cons b bs ih => simp only [byteE, bytesV, List.map_cons, List.flatten_cons] at ih ⊢; rw [ih]; rfl
theorem intE_flat (l : List Int) : (intE l).flatten = intsV .i64 l := by
  induction l with
  | nil => rfl
  | cons b bs ih => simp only [intE, intsV, List.map_cons, List.flatten_cons] at ih ⊢; rw [ih]; rfl
theorem byteE_len (bs : List UInt8) : (byteE bs).length = bs.length := by simp [byteE]
theorem intE_len (l : List Int) : (intE l).length = l.length := by simp [intE]

abbrev BuiltB (S0 S : St) (v : V) (bs : List UInt8) : Prop := Built S0 S 1 v (byteE bs)
abbrev BuiltI (S0 S : St) (v : V) (l : List Int) : Prop := Built S0 S 1 v (intE l)
theorem BuiltB.at_ {S0 S : St} {v : V} {bs : List UInt8} (h : BuiltB S0 S v bs) : BytesAt S v bs := by
  have := h.acc.at_
  rwa [byteE_flat, byteE_len] at this
theorem BuiltI.at_ {S0 S : St} {v : V} {l : List Int} (h : BuiltI S0 S v l) : IntsAt S v l := by
  have := h.acc.at_
  rwa [intE_flat, intE_len] at this

theorem BuiltB.app {S0 S : St} {v y : V} {bs ds : List UInt8} (h : BuiltB S0 S v bs) (hy : srcV 1 S y = some (ds.length, bytesV ds)) (hl : bs.length + ds.length ≤ 140737488355328) {K : V → St → Prop}
    (hk : ∀ v' S', BuiltB S0 S' v' (bs ++ ds) → Upd v.block S S' → (∀ i ∈ v'.block, i ∈ v.block ∨ S.next ≤ i) → K v' S') : ifP (appV S 1 1 v y) K := by
  refine Built.app h (ds := byteE ds) (by rw [byteE_flat, byteE_len]; exact hy) (by simp [byteE]) (by rw [byteE_flat]; exact bytesV_ones _) (by simp only [byteE_len]; omega) (by simp only [byteE_len]; omega) fun v' S' b => hk v' S' ?_
  simpa [BuiltB, byteE] using b
theorem BuiltB.push {S0 S : St} {v : V} {bs : List UInt8} (h : BuiltB S0 S v bs) (b : UInt8) (hl : bs.length + 1 ≤ 140737488355328) {K : V → St → Prop}
    (hk : ∀ v' S', BuiltB S0 S' v' (bs ++ [b]) → Upd v.block S S' → (∀ i ∈ v'.block, i ∈ v.block ∨ S.next ≤ i) → K v' S') :
    newS S (.cells [V.int .u8 (b.toNat : Nat)] true) fun S1 => ifP (appV S1 1 1 v (.slice S.next 0 1 1 1 true)) K := by
  refine Built.push h rfl rfl (by simp only [byteE_len]; omega) (by simp only [byteE_len]; omega) fun v' S' b => hk v' S' ?_
  simpa [BuiltB, byteE] using b
theorem BuiltI.push {S0 S : St} {v : V} {l : List Int} (h : BuiltI S0 S v l) (x : Int) (hl : (l.length + 1) * 8 ≤ 140737488355328) {K : V → St → Prop}
    (hk : ∀ v' S', BuiltI S0 S' v' (l ++ [x]) → Upd v.block S S' → (∀ i ∈ v'.block, i ∈ v.block ∨ S.next ≤ i) → K v' S') :
    newS S (.cells [V.int .i64 x] true) fun S1 => ifP (appV S1 1 8 v (.slice S.next 0 1 1 1 true)) K := by
  refine Built.push h rfl rfl (by simp only [intE_len]; omega) (by simp only [intE_len]; omega) fun v' S' b => hk v' S' ?_
  simpa [BuiltI, intE] using b

theorem SlAt.bytes {S : St} {v : V} {n : Nat} {bs : List UInt8} (h : SlAt S 1 v n (bytesV bs)) : BytesAt S v bs := by
  have hl := h.2.1
  rw [bytesV_length, Nat.mul_one] at hl
  subst hl; exact h
theorem SlAt.ints {S : St} {v : V} {n : Nat} {l : List Int} (h : SlAt S 1 v n (intsV .i64 l)) : IntsAt S v l := by
  have hl := h.2.1
  rw [intsV_length, Nat.mul_one] at hl
  subst hl; exact h

theorem bytes_str {S : St} {v : V} {bs : List UInt8} (h : BytesAt S v bs) : convBSV S v = some (.str bs) := by
  rcases h.2.2 with ⟨rfl, h0⟩ | ⟨i, o, c, t, rfl, hc, hl⟩
  · have : bs = [] := List.length_eq_zero_iff.mp h0
    subst this; rfl
  · rw [Nat.mul_one] at hl
    simp only [convBSV, hl, bytesOf_bytesV, Option.map_some]

/-! ## reading a text -/
def rd (s : List UInt8) (bad : Bool) (n : Nat) : List UInt8 × Bool × List UInt8 :=
  if bad = true ∨ s.length < n then (s, true, List.replicate n 0) else (s.drop n, false, s.take n)
theorem rd_length (s bad n) : (rd s bad n).2.2.length = n := by
  unfold rd; split
  · simp
  · rename_i h; simp; omega
abbrev RdAt (S : St) (i : Nat) (s : List UInt8) (bad : Bool) : Prop := S.get i = some (.cells [.str s, .bool bad] true)

theorem num_take_succ {bs : List UInt8} {j : Nat} (h : j < bs.length) : num (bs.take (j + 1)) = num (bs.take j) + 256 ^ j * bs[j].toNat := by
  rw [List.take_add_one, num_append, List.getElem?_eq_getElem h, List.length_take, Nat.min_eq_left (by omega)]
  simp [num]
theorem num_take_lt (bs : List UInt8) (j : Nat) : num (bs.take j) < 256 ^ j := by
  refine Nat.lt_of_lt_of_le (num_lt _) (Nat.pow_le_pow_right (by omega) ?_)
  rw [List.length_take]; exact Nat.min_le_left _ _
theorem pow_le6 {j : Nat} (h : j ≤ 6) : 256 ^ j ≤ 281474976710656 := by
  have h1 : 256 ^ j ≤ 256 ^ 6 := Nat.pow_le_pow_right (by omega) h
  have h2 : (256 ^ 6 : Nat) = 281474976710656 := by decide
  omega
theorem shl_byte {x j : Nat} (hx : x < 256) (hj : j < 7) : IntKind.i64.wrap ((x : Int) * 2 ^ (min (Int.toNat ((8 * j : Nat) : Int)) (IntKind.bits .i64))) = ((256 ^ j * x : Nat) : Int) := by
  have h1 : min (Int.toNat ((8 * j : Nat) : Int)) (IntKind.bits .i64) = 8 * j := by
    have : IntKind.bits .i64 = 64 := rfl
    omega
  rw [h1]
  have h2 : (x : Int) * 2 ^ (8 * j) = ((256 ^ j * x : Nat) : Int) := by
    rw [Int.natCast_mul, Int.mul_comm, Int.pow_mul]; simp
  rw [h2]
  refine i64_nat ?_
  have := pow_le6 (j := j) (by omega)
  have h3 : 256 ^ j * x ≤ 256 ^ j * 255 := Nat.mul_le_mul_left _ (by omega)
  omega
theorem or_byte {a x j : Nat} (ha : a < 256 ^ j) (hx : x < 256) (hj : j < 7) : intBits .or .i64 a ((256 ^ j * x : Nat) : Int) = ((a + 256 ^ j * x : Nat) : Int) := by
  have h1 := pow_le6 (j := j) (by omega)
  have h3 : 256 ^ j * x ≤ 256 ^ j * 255 := Nat.mul_le_mul_left _ (by omega)
  rw [or_i64 (by omega) (by omega)]
  have e : 256 ^ j = 2 ^ (8 * j) := by rw [Nat.pow_mul]
  rw [e] at ha ⊢
  have := Nat.two_pow_add_eq_or_of_lt ha x
  rw [Nat.or_comm, ← this, Nat.add_comm]
theorem idx_str {s : List UInt8} {j : Nat} (h : j < s.length) : idxStrV (.str s) (.int .i64 (j : Int)) = some (.int .u8 (s[j].toNat : Nat)) := by
  simp only [idxStrV]
  rw [if_pos (by omega), Int.toNat_natCast, List.getElem?_eq_getElem h]; rfl

end Go.Th
end

section
/- Calls of plain results, their store kept. -/
set_option linter.unusedVariables false
namespace Go.Th
open Go

theorem CallA.gc1 {P : Program} {f : FuncId} {args : List V} {S : St} {t : Ty} (ht : t.flat = true) {K : t.den → St → Prop} (x : t.den) (hK : K x S)
    (h : ∀ K' : t.den → St → Prop, S.ro.Wf → (∀ S', K' x S') → CallA P f args S.ro (retT [.one t] K')) : CallA P f args S (retT [.one t] K) := by
  refine CallA.gcT (ds := [.one t]) (by simp [flats, DT.tys, ht]) (CallA.wfT fun hw => ?_)
  exact h (fun x _ => K x S) hw fun _ => hK

theorem CallA.gc2 {P : Program} {f : FuncId} {args : List V} {S : St} {t u : Ty} (ht : t.flat = true) (hu : u.flat = true) {K : t.den → u.den → St → Prop} (x : t.den) (y : u.den) (hK : K x y S)
    (h : ∀ K' : t.den → u.den → St → Prop, S.ro.Wf → (∀ S', K' x y S') → CallA P f args S.ro (retT [.one t, .one u] K')) : CallA P f args S (retT [.one t, .one u] K) := by
  refine CallA.gcT (ds := [.one t, .one u]) (by simp [flats, DT.tys, ht, hu]) (CallA.wfT fun hw => ?_)
  exact h (fun x y _ => K x y S) hw fun _ => hK

theorem CallA.gc4 {P : Program} {f : FuncId} {args : List V} {S : St} {t u v w : Ty} (ht : t.flat = true) (hu : u.flat = true) (hv : v.flat = true) (hw : w.flat = true) {K : t.den → u.den → v.den → w.den → St → Prop} (a : t.den) (b : u.den) (c : v.den) (d : w.den) (hK : K a b c d S)
    (h : ∀ K' : t.den → u.den → v.den → w.den → St → Prop, S.ro.Wf → (∀ S', K' a b c d S') → CallA P f args S.ro (retT [.one t, .one u, .one v, .one w] K')) : CallA P f args S (retT [.one t, .one u, .one v, .one w] K) := by
  refine CallA.gcT (ds := [.one t, .one u, .one v, .one w]) (by simp [flats, DT.tys, ht, hu, hv, hw]) (CallA.wfT fun hwf => ?_)
  exact h (fun x y z w _ => K x y z w S) hwf fun _ => hK

theorem Same.of_grow {S S' : St} (g : Grow S S') {R : List Nat} (h : ∀ i ∈ R, i < S.next) : Same R S S' := fun i hi => g.keep i (h i hi) (by simp)
theorem Same.refl (R : List Nat) (S : St) : Same R S S := fun _ _ => rfl

end Go.Th
end

section
/- Readings of arguments: rows. -/
set_option linter.unusedVariables false
set_option linter.unusedSimpArgs false
namespace Go.Th
open Go

def shRow : Sh := .agg (.cons 1 (.int .i64) (.cons 1 (.slice 1 8 (.int .i64)) .nil))

theorem has_row {S : St} {cs : List V} (h : Has S shRow cs) : ∃ (r : Row) (w : V), cs = rowC r w ∧ IntsAt S w r.2 ∧ (∀ x ∈ r.2, -9223372036854775808 ≤ x ∧ x ≤ 9223372036854775807) ∧ (-9223372036854775808 ≤ r.1 ∧ r.1 ≤ 9223372036854775807) ∧ r.2.length ≤ 17592186044416 := by
  simp only [shRow, Has, HasF] at h
  obtain ⟨⟨i, hi, hiw⟩, ⟨w, n, es, hw, hsl, hr, hes⟩, hd⟩ := h
  obtain ⟨l, hl, rfl, hlw⟩ := has_i64s (S := S) hsl.2.1 (fun m hm => by simp only [Has]; exact hes m hm)
  subst hl
  refine ⟨(i, l), w, ?_, hsl, hlw, lit_i64 hiw, ?_⟩
  · match cs with
    | [] => simp at hi
    | [a] => simp at hw
    | a :: b :: c :: r => simp at hd
    | [a, b] =>
      simp only [List.take_succ_cons, List.take_zero, List.drop_succ_cons, List.drop_zero, List.cons.injEq, and_true] at hi hw
      simp only [rowC, hi, hw]
  · simp only
    have : reachBytes = 140737488351232 := rfl
    omega

theorem has_rows {S : St} {v : V} {n : Nat} {es : List V} (hs : SlAt S 2 v n es) (hr : n * 32 ≤ reachBytes) (h : ∀ m, m < n → Has S shRow ((es.drop (m * 2)).take 2)) : ∃ rs : List Row, RowsAt S v rs ∧ rs.length ≤ 17592186044416 ∧
    (∀ r ∈ rs, r.2.length ≤ 17592186044416) ∧ (∀ r ∈ rs, (-9223372036854775808 ≤ r.1 ∧ r.1 ≤ 9223372036854775807) ∧ ∀ x ∈ r.2, -9223372036854775808 ≤ x ∧ x ≤ 9223372036854775807) := by
  have key : ∀ (n : Nat) (es : List V), es.length = n * 2 → (∀ m, m < n → Has S shRow ((es.drop (m * 2)).take 2)) → ∃ (rs : List Row) (ws : List V), ws.length = rs.length ∧ rs.length = n ∧ es = (rowsC rs ws).flatten ∧
      (∀ j (hr : j < rs.length) (hw : j < ws.length), IntsAt S ws[j] rs[j].2) ∧ (∀ r ∈ rs, r.2.length ≤ 17592186044416) ∧ (∀ r ∈ rs, (-9223372036854775808 ≤ r.1 ∧ r.1 ≤ 9223372036854775807) ∧ ∀ x ∈ r.2, -9223372036854775808 ≤ x ∧ x ≤ 9223372036854775807) := by
    intro n
    induction n with
    | zero => intro es hl _; exact ⟨[], [], rfl, rfl, by simp [rowsC, List.length_eq_zero_iff.mp (by omega : es.length = 0)], fun j h => by simp at h, by simp, by simp⟩
    | succ n ih =>
      intro es hl h
      obtain ⟨rs, ws, h1, h2, h3, h4, h5, h6⟩ := ih (es.drop 2) (by rw [List.length_drop]; omega) fun m hm => by
        have := h (m + 1) (by omega)
        rw [List.drop_drop]
        rwa [show 2 + m * 2 = (m + 1) * 2 by omega]
      have h0 := h 0 (by omega)
      rw [Nat.zero_mul, List.drop_zero] at h0
      obtain ⟨r, w, hr, hw, hx, hi, hl'⟩ := has_row h0
      refine ⟨r :: rs, w :: ws, by simp [h1], by simp [h2], ?_, ?_, ?_, ?_⟩
      · simp only [rowsC, List.flatten_cons, ← h3, ← hr, List.take_append_drop]
      · intro j q1 q2
        cases j with
        | zero => exact hw
        | succ j => exact h4 j (by simpa using q1) (by simpa using q2)
      · intro q hq
        rcases List.mem_cons.mp hq with rfl | hq
        · exact hl'
        · exact h5 q hq
      · intro q hq
        rcases List.mem_cons.mp hq with rfl | hq
        · exact ⟨hi, hx⟩
        · exact h6 q hq
  obtain ⟨rs, ws, h1, h2, h3, h4, h5, h6⟩ := key n es hs.2.1 h
  subst h2; subst h3
  have hre : reachBytes = 140737488351232 := rfl
  refine ⟨rs, ⟨ws, h1, ⟨by rw [rowsC_length h1]; exact hs, rowsC_two⟩, h4⟩, by omega, h5, h6⟩

theorem retT_true {r : Res} {S : St} (h : retT [.one .bool] (fun b _ => b = true) r S) : r = .ret (.bool true) := by
  obtain ⟨b, h1, rfl⟩ := h
  exact h1

end Go.Th
end

section
/- What stays; what is lent: more. -/
set_option linter.unusedSimpArgs false
set_option linter.unusedVariables false
namespace Go.Th
open Go

theorem same_upd {R D : List Nat} {S S' : St} (g : Upd D S S') (h : ∀ i ∈ R, i < S.next ∧ i ∉ D) : Same R S S' := fun i hi => g.keep i (h i hi).1 (h i hi).2
theorem sameK_mk {R : List Nat} {S S' : St} {k : Prop} (h : Same R S S') (hk : k) : sameK R S S' k := by
  cases R with
  | nil => exact hk
  | cons i R => exact ⟨h, hk⟩
theorem eltV_block {k m off : Nat} {v : V} : ∀ i ∈ (eltV k v m off).block, i ∈ v.block := by
  cases v <;> simp [eltV, V.block]

theorem SlE.block_lt {S : St} (hw : S.Wf) {k : Nat} {v : V} {es : List (List V)} (h : SlE S k v es) {j : Nat} (hj : j < es.length) (hk : 0 < k) : ∀ i ∈ v.block, i < S.next :=
  SlAt.block_lt hw h.1 (Nat.mul_pos (by omega) hk)

theorem Lent.lt {S : St} (hw : S.Wf) {B k : Nat} {x : V} {n q : Nat} {cs ms : List V} (h : Lent S B k x n q cs ms) : ∀ i ∈ x.block, i < S.next := by
  obtain ⟨j, rfl, _, ha⟩ := h
  intro i hi
  obtain ⟨_, vs, hg⟩ := ha.own i hi
  exact hw.lt hg

end Go.Th
end
