/- What the row of one statement stands on: a store, abstract code, functions of the program and their laws (ThHhttp6, ThHhttp7, ThHhttp8, ThHhttp9, ThHhttp10). -/
import Derived.Test.YtkmmkfiekamgpaaGreatDoorThBHhttp5
import Derived.Test.YtkmmkfiekamgpaaGreatDoorThBGslicesByte
import Derived.Test.YtkmmkfiekamgpaaGreatDoorThBPhttp3

section
/- http: bytes tested; the parser's object; a line taken. -/
set_option linter.unusedSimpArgs false
set_option linter.unusedVariables false
namespace Go.Th.L
open Go Go.Th Go.Th.Pure
variable {P : Program} {N : Nat → Nat}

/-! ## all bytes -/
structure PredS (P : Program) (f : Nat) (pred : UInt8 → Bool) : Prop where
  can : canEnter P f = true
  run : ∀ (c : UInt8) (S : St) (K : Bool → St → Prop), K (pred c) S → CallA P f [.int .u8 (c.toNat : Nat)] S (retT [.one .bool] K)

theorem idxf {P : Program} {N : Nat → Nat} (hF : slices_IndexFunc_Lbyte.Ok P N) (h1 : http_all_1.Ok P N) (hc : canEnter P (N Fn.http_all_1) = true) {f : Nat} {pred : UInt8 → Bool} (hp : PredS P f pred) {v : V} {l : Bs} {i : Nat} {S : St} {K : Int → St → Prop}
    (hv : BytesAt S v l) (hi : S.get i = some (.cells [.func (.func f) [] []] true)) (hk : ∀ x : Int, decide ((0 : Int) ≤ x) = !l.all pred → K x S) : CallA P (N Fn.slices_IndexFunc_Lbyte) [v, .func (.func (N Fn.http_all_1)) [] [.ptr i 0]] S (retT [.one (.int .i64)] K) := by
  have hle : l.length ≤ 4611686018427387904 := hv.1
  refine slices_IndexFunc_Lbyte.run hF ⟨_, hv.len, Loop1.ind (fun n x S' => S' = S ∧ ∃ j : Nat, x = j ∧ j + n = l.length ∧ ∀ a (ha : a < l.length), a < j → pred l[a] = true) l.length ⟨rfl, 0, rfl, by omega, fun a ha h => by omega⟩ ?_⟩
  rintro n _ S' ⟨e, j, rfl, hj, hall⟩
  rw [e]; clear e S'
  refine ifC_dec (fun hlt => ?_) (fun hge => ?_)
  · have hjl : j < l.length := by omega
    refine ifS_mk (hv.idx hjl) ⟨_, BytesAt.get hv hjl, ifS_mk (callee_mk hc) ?_⟩
    refine http_all_1.run h1 (ifS_mk (ld hi rfl) (ifS_mk (callee_mk hp.can) ?_))
    refine hp.run _ _ _ ?_
    cases hq : pred l[j] with
    | false =>
      refine ifC_tt rfl (hk _ ?_)
      rw [decide_eq_true (by omega)]
      have : l.all pred = false := by
        rw [Bool.eq_false_iff]
        intro h
        have := List.all_eq_true.mp h _ (List.getElem_mem hjl)
        rw [hq] at this; cases this
      rw [this]; rfl
    | true =>
      refine ifC_ff rfl (setI_mk (wrap_succ (by omega)) ⟨n - 1, by omega, rfl, j + 1, rfl, by omega, fun a ha haj => ?_⟩)
      by_cases e : a = j
      · subst e; exact hq
      · exact hall a ha (by omega)
  · refine hk _ ?_
    have : l.all pred = true := List.all_eq_true.mpr fun c hc => by
      obtain ⟨a, ha, rfl⟩ := List.getElem_of_mem hc
      exact hall a ha (by omega)
    rw [this]; rfl

def AllS (P : Program) (f : Nat) : Prop := ∀ (s : Bs) (g : Nat) (pred : UInt8 → Bool) (S : St) (K : Bool → St → Prop), PredS P g pred → s.length ≤ 1099511627776 → (∀ S', Grow S S' → K (s.all pred) S') →
  CallA P f [.str s, .func (.func g) [] []] S (retT [.one .bool] K)
theorem http_all.spec (hF : http_all.Ok P N) (hC : slices_ContainsFunc_Lbyte.Ok P N) (hI : slices_IndexFunc_Lbyte.Ok P N) (h1 : http_all_1.Ok P N) (hc : canEnter P (N Fn.http_all_1) = true) : AllS P (N Fn.http_all) := by
  intro s g pred S K hp hl hk
  refine CallA.wfT fun hw => http_all.run hF (newS_mk hw fun S1 g1 m1 n1 => new_bytes g1.wf (by omega) fun S2 g2 hb => ?_)
  refine slices_ContainsFunc_Lbyte.run hC (idxf hI h1 hc hp hb (g2.get m1) fun x hx => ?_)
  rw [hx]
  show K (!(!(s.all pred))) S2
  rw [Bool.not_not]
  exact hk _ (g1.trans g2)

theorem http_Parser_first_1.spec (hF : http_Parser_first_1.Ok P N) (hc : canEnter P (N Fn.http_Parser_first_1) = true) : PredS P (N Fn.http_Parser_first_1) isUp := by
  refine ⟨hc, fun c S K hk => http_Parser_first_1.run hF (ifC_dec (fun h => ?_) (fun h => ?_))⟩
  · have : decide ((c.toNat : Int) ≤ 90) = isUp c := by unfold isUp; exact decide_eq_decide.mpr (by omega)
    rw [this]; exact hk
  · have : isUp c = false := by unfold isUp; exact decide_eq_false (by omega)
    rw [this] at hk; exact hk
theorem http_Parser_first_2.spec (hF : http_Parser_first_2.Ok P N) (hc : canEnter P (N Fn.http_Parser_first_2) = true) : PredS P (N Fn.http_Parser_first_2) isVis := by
  refine ⟨hc, fun c S K hk => http_Parser_first_2.run hF (ifC_dec (fun h => ?_) (fun h => ?_))⟩
  · have : decide ((c.toNat : Int) < 127) = isVis c := by unfold isVis; exact decide_eq_decide.mpr (by omega)
    rw [this]; exact hk
  · have : isVis c = false := by unfold isVis; exact decide_eq_false (by omega)
    rw [this] at hk; exact hk
theorem http_Parser_head_2.spec (hF : http_Parser_head_2.Ok P N) (hc : canEnter P (N Fn.http_Parser_head_2) = true) : PredS P (N Fn.http_Parser_head_2) isPr := by
  refine ⟨hc, fun c S K hk => http_Parser_head_2.run hF (ifC_dec (fun h => ?_) (fun h => ?_))⟩
  · have : decide ((c.toNat : Int) < 127) = isPr c := by unfold isPr; exact decide_eq_decide.mpr (by omega)
    rw [this]; exact hk
  · have : isPr c = false := by unfold isPr; exact decide_eq_false (by omega)
    rw [this] at hk; exact hk
theorem http_Parser_head_3.spec (hF : http_Parser_head_3.Ok P N) (hc : canEnter P (N Fn.http_Parser_head_3) = true) : PredS P (N Fn.http_Parser_head_3) isDig := by
  refine ⟨hc, fun c S K hk => http_Parser_head_3.run hF (ifC_dec (fun h => ?_) (fun h => ?_))⟩
  · have : decide ((c.toNat : Int) ≤ 57) = isDig c := by unfold isDig; exact decide_eq_decide.mpr (by omega)
    rw [this]; exact hk
  · have : isDig c = false := by unfold isDig; exact decide_eq_false (by omega)
    rw [this] at hk; exact hk
theorem http_Parser_head_1.spec (hF : http_Parser_head_1.Ok P N) (hc : canEnter P (N Fn.http_Parser_head_1) = true) : PredS P (N Fn.http_Parser_head_1) isNm := by
  refine ⟨hc, fun c S K hk => http_Parser_head_1.run hF ?_⟩
  have hT : isNm c = true → K true S := fun h => by rw [h] at hk; exact hk
  have hl : ¬ (97 ≤ c.toNat ∧ c.toNat ≤ 122 ∨ 65 ≤ c.toNat ∧ c.toNat ≤ 90 ∨ 48 ≤ c.toNat ∧ c.toNat ≤ 57) → K (decide ((c.toNat : Int) = 45)) S := fun h => by
    have : decide ((c.toNat : Int) = 45) = isNm c := by unfold isNm; exact decide_eq_decide.mpr (by omega)
    rw [this]; exact hk
  have up : ¬ (97 ≤ c.toNat ∧ c.toNat ≤ 122) → ifC (decide ((65 : Int) ≤ c.toNat)) (ifC (decide ((c.toNat : Int) ≤ 90)) (K true S) (ifC (decide ((48 : Int) ≤ c.toNat)) (ifC (decide ((c.toNat : Int) ≤ 57)) (K true S) (K (decide ((c.toNat : Int) = 45)) S)) (K (decide ((c.toNat : Int) = 45)) S))) (ifC (decide ((48 : Int) ≤ c.toNat)) (ifC (decide ((c.toNat : Int) ≤ 57)) (K true S) (K (decide ((c.toNat : Int) = 45)) S)) (K (decide ((c.toNat : Int) = 45)) S)) := fun h => by
    refine ifC_dec (fun h1 => ifC_dec (fun h2 => hT (decide_eq_true (by omega))) (fun h2 => ifC_dec (fun h3 => ifC_dec (fun h4 => hT (decide_eq_true (by omega))) (fun h4 => hl (by omega))) (fun h3 => hl (by omega)))) (fun h1 => ifC_dec (fun h3 => ifC_dec (fun h4 => hT (decide_eq_true (by omega))) (fun h4 => hl (by omega))) (fun h3 => hl (by omega)))
  exact ifC_dec (fun h1 => ifC_dec (fun h2 => hT (decide_eq_true (by omega))) (fun h2 => up (by omega))) (fun h1 => up (by omega))

/-! ## the parser -/
structure Raw where
  b : Bs
  fn : V
  w : Int
  ov : Bool
  q : Rq
  hd : Int
  len : Int
  told : List Rq
abbrev rqC (q : Rq) : List V := [.str q.m, .str q.p, .str q.u, .str q.bd, .bool q.cl]
abbrev cellsP (r : Raw) (vb vt : V) : List V := [vb, r.fn, .int .i64 r.w, .bool r.ov, .str r.q.m, .str r.q.p, .str r.q.u, .str r.q.bd, .bool r.q.cl, .int .i64 r.hd, .int .i64 r.len, vt]
structure PR (B : Nat) (S : St) (i : Nat) (r : Raw) (vb vt : V) : Prop where
  obj : S.get i = some (.cells (cellsP r vb vt) true)
  b : Acc S B 1 vb r.b.length (bytesV r.b)
  t : Acc S B 5 vt r.told.length (r.told.map rqC).flatten
  ib : i ∉ vb.block
  it : i ∉ vt.block
  bt : ∀ j ∈ vb.block, j ∉ vt.block
  iB : B ≤ i
theorem PR.upd {D : List Nat} {B : Nat} {S S' : St} {i : Nat} {r : Raw} {vb vt : V} (h : PR B S i r vb vt) (u : Upd D S S') (hi : i ∉ D) (hb : ∀ j ∈ vb.block, j ∉ D) (ht : ∀ j ∈ vt.block, j ∉ D) : PR B S' i r vb vt :=
  ⟨u.get h.obj hi, h.b.upd u hb, h.t.upd u ht, h.ib, h.it, h.bt, h.iB⟩
theorem PR.grow {B : Nat} {S S' : St} {i : Nat} {r : Raw} {vb vt : V} (h : PR B S i r vb vt) (g : Grow S S') : PR B S' i r vb vt := h.upd g (by simp) (by simp) (by simp)
theorem PR.lt {B : Nat} {S : St} (hw : S.Wf) {i : Nat} {r : Raw} {vb vt : V} (h : PR B S i r vb vt) : i < S.next := hw.lt h.obj
theorem _root_.Go.Th.Acc.blt {S : St} (hw : S.Wf) {B k n : Nat} {v : V} {cs : List V} (h : Acc S B k v n cs) : ∀ j ∈ v.block, j < S.next := fun j hj => by
  obtain ⟨_, vs, hg⟩ := h.own j hj
  exact hw.lt hg
theorem PR.st {B : Nat} {S : St} (hw : S.Wf) {i : Nat} {r : Raw} {vb vt : V} (h : PR B S i r vb vt) (r' : Raw) {off n : Nat} {x : V} (hn : x.cells.length = n) (hl : off + n ≤ 12) (ho : x.cells.all V.one = true) (hb : r'.b = r.b) (ht : r'.told = r.told)
    (hc : over (cellsP r vb vt) off x.cells = cellsP r' vb vt) {K : St → Prop} (hk : ∀ S', Upd [i] S S' → PR B S' i r' vb vt → K S') : ifS (storeV S n (.ptr i off) x) K := by
  refine st_mk hw h.obj hn (by simp [cellsP]; omega) ho fun S' u m _ => hk S' u ⟨by rw [m, hc], ?_, ?_, h.ib, h.it, h.bt, h.iB⟩
  · rw [hb]; exact h.b.upd u fun j hj e => by simp only [List.mem_singleton] at e; subst e; exact h.ib hj
  · rw [ht]; exact h.t.upd u fun j hj e => by simp only [List.mem_singleton] at e; subst e; exact h.it hj
theorem PR.ld {B : Nat} {S : St} {i : Nat} {r : Raw} {vb vt : V} (h : PR B S i r vb vt) {off : Nat} {v : V} (hc : (cellsP r vb vt)[off]? = some v) : loadV S (.ptr i off) = some v := Go.Th.ld h.obj hc

theorem _root_.Go.Th.Acc.from_ {S : St} {B k n : Nat} {v : V} {cs : List V} (h : Acc S B k v n cs) {l : Nat} (hl : l ≤ n) : ∃ v', sliceSlV k v (some (.int .i64 (l : Int))) none none = some v' ∧ Acc S B k v' (n - l) (cs.drop (l * k)) ∧ ∀ i ∈ v'.block, i ∈ v.block := by
  have hcs := h.at_.2.1
  have hones : (cs.drop (l * k)).all V.one = true := List.all_eq_true.mpr fun x hx => List.all_eq_true.mp h.ones x (List.mem_of_mem_drop hx)
  have hmul : (n - l) * k + l * k = n * k := by rw [← Nat.add_mul]; congr 1; omega
  rcases h.at_.2.2 with ⟨rfl, rfl⟩ | ⟨i, o, c, t, rfl, hc, hld⟩
  · have : l = 0 := by omega
    subst this
    refine ⟨.nilSlice, by simp only [sliceSlV, bnds_l (len := 0) (cap := 0) (l := 0) (k := .i64) (Nat.le_refl 0), Option.map_some], ?_, by simp [V.block]⟩
    simpa using h
  · refine ⟨.slice i (o + l * k) (n - l) (c - l) k (t || false), by simp [sliceSlV, bnds_l (k := .i64) hl], ⟨⟨by have := h.at_.1; omega, by rw [List.length_drop]; omega, .inr ⟨_, _, _, _, rfl, by omega, ?_⟩⟩, hones, ?_, ?_⟩, by simp [V.block]⟩
    · by_cases hz : (n - l) * k = 0
      · rw [hz]
        have : cs.drop (l * k) = [] := List.drop_of_length_le (by omega)
        rw [this]; simp [St.loads]
      · obtain ⟨vs, own, hg, h4, rfl⟩ := St.loads_pos hld (by omega)
        rw [St.loads_of hg (by omega), List.drop_take, List.drop_drop]
        congr 2; omega
    · intro j hj; exact h.own j hj
    · obtain ⟨vs, hg, hr⟩ := h.room
      refine ⟨vs, hg, ?_⟩
      have : (c - l) * k + l * k = c * k := by rw [← Nat.add_mul]; congr 1; omega
      omega
theorem PR.cut {B : Nat} {S : St} (hw : S.Wf) {i : Nat} {r : Raw} {vb vt vb' : V} {l : Bs} (h : PR B S i r vb vt) (hb : Acc S B 1 vb' l.length (bytesV l)) (hs : ∀ j ∈ vb'.block, j ∈ vb.block) {K : St → Prop}
    (hk : ∀ S', Upd [i] S S' → PR B S' i { r with b := l } vb' vt → K S') : ifS (storeV S 1 (.ptr i 0) vb') K := by
  have hone : vb'.one = true := hb.at_.one1
  have hcell : V.cells vb' = [vb'] := hb.at_.cells1
  refine st_mk hw h.obj (by rw [hcell]; rfl) (by rw [hcell]; simp [cellsP]) (by rw [hcell]; simp [hone]) fun S' u m _ => hk S' u ⟨by rw [m, hcell]; rfl, ?_, ?_, fun hj => h.ib (hs i hj), h.it, fun j hj => h.bt j (hs j hj), h.iB⟩
  · exact hb.upd u fun j hj e => by simp only [List.mem_singleton] at e; subst e; exact h.ib (hs _ hj)
  · exact h.t.upd u fun j hj e => by simp only [List.mem_singleton] at e; subst e; exact h.it hj

theorem http_Parser_bad.spec (hF : http_Parser_bad.Ok P N) {B : Nat} {S : St} {i : Nat} {r : Raw} {vb vt : V} {e : Int} {K : Bool → St → Prop} (hw : S.Wf) (h : PR B S i r vb vt) (hk : ∀ S', Upd [i] S S' → PR B S' i { r with w := e } vb vt → K false S') :
    CallA P (N Fn.http_Parser_bad) [.ptr i 0, .int .i64 e] S (retT [.one .bool] K) :=
  http_Parser_bad.run hF ⟨rfl, ifS_mk rfl (h.st hw { r with w := e } rfl (by simp [V.cells]) rfl rfl rfl rfl fun S' u p => hk S' u p)⟩

def LineS (P : Program) (f : Nat) : Prop := ∀ (B : Nat) (S : St) (i : Nat) (r : Raw) (vb vt : V) (K : Bs → Bool → St → Prop), S.Wf → HG S → PR B S i r vb vt → r.b.length ≤ 1073741824 →
  (lineR r.b = .wait → ∀ S', Upd [i] S S' → PR B S' i r vb vt → K [] false S') → (lineR r.b = .large → ∀ S', Upd [i] S S' → PR B S' i { r with w := 223 } vb vt → K [] false S') →
  (∀ l b', lineR r.b = .got l b' → ∀ S' vb', Upd [i] S S' → (∀ j ∈ vb'.block, j ∈ vb.block) → PR B S' i { r with b := b' } vb' vt → K l true S') → CallA P f [.ptr i 0] S (retT [.one .str, .one .bool] K)
theorem goMin_nat (n : Nat) : goMin (n : Int) 1026 = ((min n 1026 : Nat) : Int) := by unfold goMin; split <;> omega
theorem http_Parser_line.spec (hF : http_Parser_line.Ok P N) (hI : BIndexS P (N Fn.bytes_Index)) (hB : http_Parser_bad.Ok P N) : LineS P (N Fn.http_Parser_line) := by
  intro B S i r vb vt K hw hg h hl k1 k2 k3
  have hbl := h.b.blt hw
  have hil := h.lt hw
  have hmem : ∀ j ∈ V.block vb ++ (V.block (.ptr i 0) ++ (V.block (.ptr i 0) ++ [])), j < S.next := by
    intro j hj
    simp only [V.block, List.mem_append, List.mem_singleton, List.not_mem_nil, or_false] at hj
    rcases hj with hj | rfl | rfl
    · exact hbl j hj
    · exact hil
    · exact hil
  refine http_Parser_line.run hF ⟨rfl, ifS_mk rfl (ifS_mk (h.ld rfl) ⟨rfl, ifS_mk rfl (ifS_mk (h.ld rfl) ⟨_, h.b.at_.len, ?_⟩)⟩)⟩
  rw [goMin_nat]
  obtain ⟨v1, e1, a1, _⟩ := SlAt.sub (c := 0) h.b.at_ (lo := none) (hi := some (.int .i64 ((min r.b.length 1026 : Nat) : Int))) (l := 0) (h := min r.b.length 1026) (fun cap hcap => bnds_h (by omega)) (Nat.zero_le _) (by omega)
  refine ifS_mk e1 (newS_mk hw fun S1 g1 m1 n1 => sameK_mk (Same.of_grow g1 hmem) (ifS_mk (a := .slice S.next 0 2 2 1 true) (by simp only [convBBV, m1]) (sameK_refl ?_)))
  have ht : BytesAt S1 v1 (r.b.take 1026) := by
    have : bytesV (r.b.take 1026) = ((bytesV r.b).drop (0 * 1)).take ((min r.b.length 1026 - 0) * 1) := by
      simp only [bytesV, List.map_take, Nat.zero_mul, List.drop_zero, Nat.sub_zero, Nat.mul_one]
      rw [List.take_eq_take_iff]
      simp [Nat.min_comm]
    rw [← this] at a1
    exact (SlAt.bytes a1).grow g1
  have h2 : BytesAt S1 (.slice S.next 0 2 2 1 true) [13, 10] := ⟨by decide, rfl, .inr ⟨_, _, _, _, rfl, Nat.le_refl _, by rw [St.loads_of m1 (by simp)]; rfl⟩⟩
  refine hI v1 _ _ _ S1 _ (hg.grow g1) ht h2 (by simp) (by rw [List.length_take]; omega) ⟨_, rfl, sameK_refl ?_⟩
  have h1 := h.grow g1
  have u1 : Upd [i] S S1 := g1.mono (by simp)
  rw [findL_index]
  cases hf : findL [13, 10] (r.b.take 1026) with
  | none =>
    refine ifC_pos (by decide) ⟨rfl, ifS_mk rfl (ifS_mk (h1.ld rfl) ⟨_, h1.b.at_.len, ifC_dec (fun h5 => ?_) (fun h5 => ?_)⟩)⟩
    · exact http_Parser_bad.spec hB g1.wf h1 fun S' u p => k2 (by unfold lineR; rw [hf]; simp only; rw [if_pos (by omega)]) S' (u1.trans u) p
    · exact k1 (by unfold lineR; rw [hf]; simp only; rw [if_neg (by omega)]) S1 u1 h1
  | some p =>
    obtain ⟨l, q⟩ := p
    have e := findL_eq _ _ _ _ hf
    have el := congrArg List.length e
    simp only [List.length_append, List.length_take, List.length_cons, List.length_nil] at el
    have hll : l.length + 2 ≤ r.b.length := by omega
    have hlt : r.b.take l.length = l := by
      have : (r.b.take 1026).take l.length = l := by rw [e, List.append_assoc, List.take_left' rfl]
      rw [List.take_take, Nat.min_eq_left (by omega)] at this
      exact this
    obtain ⟨v3, e3, a3, _⟩ := SlAt.sub (c := 0) h1.b.at_ (lo := none) (hi := some (.int .i64 ((l.length : Nat) : Int))) (l := 0) (h := l.length) (fun cap hcap => bnds_h (by omega)) (Nat.zero_le _) (by omega)
    have hb3 : BytesAt S1 v3 l := by
      have : bytesV l = ((bytesV r.b).drop (0 * 1)).take ((l.length - 0) * 1) := by
        simp only [Nat.zero_mul, List.drop_zero, Nat.sub_zero, Nat.mul_one]
        rw [bytesV, bytesV, ← List.map_take, hlt]
      rw [← this] at a3
      exact SlAt.bytes a3
    obtain ⟨v4, e4, a4, s4⟩ := h1.b.from_ (l := l.length + 2) hll
    refine ifC_neg (by simp) ⟨rfl, ifS_mk rfl (ifS_mk (h1.ld rfl) (ifS_mk e3 ⟨_, bytes_str hb3, rfl, ifS_mk rfl (ifS_mk (h1.ld rfl) (setI_mk (wrap_two (by omega)) (ifS_mk e4 ⟨rfl, ifS_mk rfl ?_⟩)))⟩))⟩
    have a4' : Acc S1 B 1 v4 (r.b.drop (l.length + 2)).length (bytesV (r.b.drop (l.length + 2))) := by
      rw [List.length_drop]
      have : bytesV (r.b.drop (l.length + 2)) = (bytesV r.b).drop ((l.length + 2) * 1) := by simp [bytesV, List.map_drop]
      rw [this]; exact a4
    exact PR.cut g1.wf h1 a4' s4 fun S' u p => k3 l _ (by unfold lineR; rw [hf]) S' v4 (u1.trans u) s4 p
end Go.Th.L
end

section
/- http: a request's line, a header, a body taken. -/
set_option linter.unusedSimpArgs false
set_option linter.unusedVariables false
namespace Go.Th.L
open Go Go.Th Go.Th.Pure
variable {P : Program} {N : Nat → Nat}

def nextV (f i : Nat) : V := .func (.func f) [.ptr i 0] []
def PhR (N : Nat → Nat) (i : Nat) (ph : Phase) (r : Raw) : Prop := match ph with
  | .first => r.fn = nextV (N Fn.http_Parser_first) i ∧ r.w = 0 ∧ r.ov = false
  | .head q n len => r.fn = nextV (N Fn.http_Parser_head) i ∧ r.w = 0 ∧ r.ov = false ∧ r.q = q ∧ r.hd = n ∧ r.len = len ∧ n ≤ 32
  | .body q len => r.fn = nextV (N Fn.http_Parser_body) i ∧ r.w = 0 ∧ r.ov = false ∧ r.q = q ∧ r.len = len
  | .wrong e => r.w = e ∧ e ≠ 0
  | .over => r.w = 0 ∧ r.ov = true

abbrev foot (i : Nat) (vb vt : V) : List Nat := i :: (vb.block ++ vt.block)
structure Moved (S S' : St) (i : Nat) (vb vt vb' vt' : V) : Prop where
  u : Upd (foot i vb vt) S S'
  fb : ∀ j ∈ vb'.block, j ∈ vb.block ∨ S.next ≤ j
  ft : ∀ j ∈ vt'.block, j ∈ vt.block ∨ S.next ≤ j
theorem Moved.f {S S' : St} {i : Nat} {vb vt vb' vt' : V} (h : Moved S S' i vb vt vb' vt') : ∀ j ∈ foot i vb' vt', j ∈ foot i vb vt ∨ S.next ≤ j := fun j hj => by
  rcases List.mem_cons.mp hj with rfl | hj
  · exact .inl List.mem_cons_self
  · rcases List.mem_append.mp hj with hj | hj
    · exact (h.fb j hj).imp (fun h => List.mem_cons_of_mem _ (List.mem_append_left _ h)) id
    · exact (h.ft j hj).imp (fun h => List.mem_cons_of_mem _ (List.mem_append_right _ h)) id
theorem Moved.trans {S S1 S2 : St} {i : Nat} {a b c d e f : V} (h : Moved S S1 i a b c d) (k : Moved S1 S2 i c d e f) : Moved S S2 i a b e f :=
  ⟨h.u.after k.u (fun j hj => (h.f j hj).symm), fun j hj => by
    rcases k.fb j hj with h1 | h1
    · exact h.fb j h1
    · exact .inr (Nat.le_trans h.u.le h1), fun j hj => by
    rcases k.ft j hj with h1 | h1
    · exact h.ft j h1
    · exact .inr (Nat.le_trans h.u.le h1)⟩
theorem Moved.of {S S' : St} {i : Nat} {vb vt vb' : V} (u : Upd [i] S S') (hb : ∀ j ∈ vb'.block, j ∈ vb.block) : Moved S S' i vb vt vb' vt :=
  ⟨u.mono (by intro j hj; simp only [List.mem_singleton] at hj; subst hj; exact .inl List.mem_cons_self), fun j hj => .inl (hb j hj), fun j hj => .inl hj⟩

/-- What a function that takes the next does. -/
def NextS (P : Program) (N : Nat → Nat) (f : Nat) (ph : Phase) : Prop := ∀ (B : Nat) (S : St) (i : Nat) (r : Raw) (vb vt : V) (K : Bool → St → Prop), S.Wf → HG S → B ≤ S.next → PR B S i r vb vt → PhR N i ph r → r.b.length ≤ 1073741824 → r.told.length ≤ 1073741824 →
  (stepM ph r.b = none → ∀ S', Moved S S' i vb vt vb vt → PR B S' i r vb vt → K false S') →
  (∀ ph' b' tl, stepM ph r.b = some (ph', b', tl) → ∀ S' r' vb' vt', Moved S S' i vb vt vb' vt' → PR B S' i r' vb' vt' → PhR N i ph' r' → r'.b = b' → r'.told = r.told ++ tl → K (!ph'.stop) S') → CallA P f [.ptr i 0] S (retT [.one .bool] K)

theorem pr_len {l a : Bs} (b : Bs) (h : lineR b = .got l a) (hl : b.length ≤ 1073741824) : l.length ≤ 1073741824 ∧ a.length ≤ 1073741824 := by
  have := (lineR_got h []).2; omega
theorem cutL_le (s t : Bs) : (cutL s t).1.length ≤ s.length ∧ (cutL s t).2.1.length ≤ s.length := cut_len s t

theorem http_Parser_first.spec (hF : http_Parser_first.Ok P N) (hL : LineS P (N Fn.http_Parser_line)) (hc : CutS P (N Fn.strings_Cut)) (hA : AllS P (N Fn.http_all)) (h1 : PredS P (N Fn.http_Parser_first_1) isUp) (h2 : PredS P (N Fn.http_Parser_first_2) isVis)
    (hP : PrefixS P (N Fn.strings_HasPrefix)) (hB : http_Parser_bad.Ok P N) : NextS P N (N Fn.http_Parser_first) .first := by
  intro B S i r vb vt K hw hg hBS h hr hl htl k0 k1
  refine http_Parser_first.run hF (hL B S i r vb vt _ hw hg h hl (fun e S' u p => ?_) (fun e S' u p => ?_) (fun l b' e S1 vb' u s p => ?_))
  · exact ifC_tt rfl (k0 (by simp only [stepM, e]) S' (Moved.of u fun _ h => h) p)
  · refine ifC_tt rfl (k1 (.wrong 223) r.b [] (by simp only [stepM, e]) S' { r with w := 223 } vb vt (Moved.of u fun _ h => h) p ⟨rfl, by decide⟩ rfl (by simp))
  refine ifC_ff rfl ?_
  have hll := (pr_len _ e hl).1
  have hcl := cutL_le l [32]
  have hg1 : HG S1 := hg.upd u (by intro j hj; simp only [List.mem_singleton] at hj; subst hj; exact .inl ⟨_, h.obj⟩)
  have mv := Moved.of (vt := vt) u s
  refine hc l [32] S1 _ hg1 (by omega) ⟨_, _, _, rfl, hc _ [32] S1 _ hg1 (by omega) ⟨_, _, _, rfl, ?_⟩⟩
  have hst : stepM .first r.b = if firstOk l then some (.head (firstQ l) 0 (-1), b', []) else some (.wrong 220, b', []) := by simp only [stepM, e]
  have hcl2 := cutL_le (cutL l [32]).2.1 [32]
  unfold firstOk firstQ at hst
  generalize cutL l [32] = c1 at hcl hcl2 hst ⊢
  obtain ⟨m, rest, c1b⟩ := c1
  simp only at hcl hcl2 hst ⊢
  generalize cutL rest [32] = c2 at hcl2 hst ⊢
  obtain ⟨tg, ver, c2b⟩ := c2
  simp only at hcl2 hst ⊢
  have w1 := u.wf
  refine Join1.mid (fun t S' => Grow S1 S' ∧ t = (decide (1 ≤ m.length) && decide (m.length ≤ 16) && m.all isUp)) ?_ ?_
  · refine ifC_dec (fun a1 => ifC_dec (fun a2 => hA m _ isUp S1 _ h1 (by omega) fun S' g => ⟨g, ?_⟩) (fun a2 => ⟨Upd.refl w1 [], ?_⟩)) (fun a1 => ⟨Upd.refl w1 [], ?_⟩)
    · rw [decide_eq_true (show 1 ≤ m.length by omega), decide_eq_true (show m.length ≤ 16 by omega)]; rfl
    · rw [decide_eq_false (show ¬ m.length ≤ 16 by omega), Bool.and_false]; rfl
    · rw [decide_eq_false (show ¬ 1 ≤ m.length by omega)]; rfl
  rintro t S2 ⟨g2, ht⟩
  rw [← ht] at hst
  refine Join1.mid (fun s' S' => Grow S1 S' ∧ s' = !(t && decide (ver = wVer) && Lib.hasPrefix tg [47] && tg.all isVis)) ?_ ?_
  · cases t with
    | false => exact ifC_tt rfl ⟨g2, rfl⟩
    | true =>
      refine ifC_ff rfl (ifC_ndec (fun hv => ⟨g2, ?_⟩) (fun hv => hP tg [47] S2 _ ⟨_, rfl, ?_⟩))
      · rw [decide_eq_false (show ¬ ver = wVer from hv)]; rfl
      · rw [decide_eq_true (show ver = wVer from hv)]
        cases hpf : Lib.hasPrefix tg [47] with
        | false => exact ifC_tt rfl ⟨g2, rfl⟩
        | true => exact ifC_ff rfl (hA tg _ isVis S2 _ h2 (by omega) fun S' g => ⟨g2.trans g, by simp⟩)
  rintro s' S3 ⟨g3, hs'⟩
  have p3 := p.grow g3
  have mv3 : Moved S S3 i vb vt vb' vt := ⟨mv.u.after g3 (by simp), mv.fb, mv.ft⟩
  refine ifC_tt_ff (fun h => ?_) (fun h => ?_)
  · have hno : ¬ (t && decide (ver = wVer) && Lib.hasPrefix tg [47] && tg.all isVis) = true := fun h3 => by rw [hs', h3] at h; cases h
    rw [if_neg hno] at hst
    exact http_Parser_bad.spec hB g3.wf p3 fun S' u4 p4 => k1 _ _ _ hst S' _ _ _ (mv3.trans (Moved.of u4 fun _ h => h)) p4 ⟨rfl, by decide⟩ rfl (by simp)
  have hyes : (t && decide (ver = wVer) && Lib.hasPrefix tg [47] && tg.all isVis) = true := by rw [h] at hs'; simpa using hs'
  rw [if_pos hyes] at hst
  refine hc tg [63] S3 _ (hg1.grow g3) (by omega) ⟨_, _, _, rfl, ?_⟩
  refine ⟨rfl, ifS_mk rfl (p3.st g3.wf { r with b := b', q := ⟨m, (cutL tg [63]).1, (cutL tg [63]).2.1, [], false⟩ } (by simp [V.cells]) (by decide) (by simp [V.cells, V.one]) rfl rfl (by simp [over, V.cells]) fun S4 u4 p4 => ?_)⟩
  refine ⟨rfl, ifS_mk rfl (p4.st u4.wf { r with b := b', q := ⟨m, (cutL tg [63]).1, (cutL tg [63]).2.1, [], false⟩, hd := 0 } rfl (by simp [V.cells]) rfl rfl rfl rfl fun S5 u5 p5 => ?_)⟩
  refine ⟨rfl, ifS_mk rfl (p5.st u5.wf { r with b := b', q := ⟨m, (cutL tg [63]).1, (cutL tg [63]).2.1, [], false⟩, hd := 0, len := -1 } rfl (by simp [V.cells]) rfl rfl rfl rfl fun S6 u6 p6 => ?_)⟩
  refine ⟨rfl, ifS_mk rfl (p6.st u6.wf { r with b := b', q := ⟨m, (cutL tg [63]).1, (cutL tg [63]).2.1, [], false⟩, hd := 0, len := -1, fn := nextV (N Fn.http_Parser_head) i } rfl (by simp [V.cells]) rfl rfl rfl rfl fun S7 u7 p7 => ?_)⟩
  exact k1 _ _ _ hst S7 _ _ _ (mv3.trans (Moved.of (((u4.trans u5).trans u6).trans u7) fun _ h => h)) p7 ⟨rfl, hr.2.1, hr.2.2, rfl, rfl, rfl, by decide⟩ rfl (by simp)
end Go.Th.L
end

section
/- http: a body, a header taken. -/
set_option linter.unusedSimpArgs false
set_option linter.unusedVariables false
namespace Go.Th.L
open Go Go.Th Go.Th.Pure
variable {P : Program} {N : Nat → Nat}

theorem goMax_nat (n : Int) : goMax 0 n = (((max 0 n).toNat : Nat) : Int) := by unfold goMax; split <;> omega
/-- The told list grows. -/
theorem PR.tell {B : Nat} {S : St} (hw : S.Wf) (hBS : B ≤ S.next) {i : Nat} {r : Raw} {vb vt : V} (h : PR B S i r vb vt) (htl : r.told.length ≤ 1073741824) {K : V → St → Prop}
    (hk : ∀ vt' S', Upd vt.block S S' → Acc S' B 5 vt' (r.told ++ [r.q]).length ((r.told ++ [r.q]).map rqC).flatten → (∀ j ∈ vt'.block, j ∈ vt.block ∨ S.next ≤ j) → K vt' S') :
    newS S (.cells (rqC r.q) true) fun S1 => ifP (appV S1 5 72 vt (.slice S.next 0 1 1 5 true)) K := by
  refine newS_mk hw fun S1 g1 m1 n1 => ?_
  have hs : srcV 5 S1 (.slice S.next 0 1 1 5 true) = some (1, rqC r.q) := by
    simp only [srcV, if_true]
    rw [St.loads_of m1 (by simp)]
    simp
  obtain ⟨v', S', e1, a1, u1, t1⟩ := (h.t.grow g1).app g1.wf (Nat.le_trans hBS g1.le) hs (by simp) (by simp [V.one]) (bytes := 72) (by omega) (by omega)
  have e : (r.told.map rqC).flatten ++ rqC r.q = ((r.told ++ [r.q]).map rqC).flatten := by simp
  rw [e] at a1
  refine ifP_mk e1 (hk v' S' ((g1.mono (by simp)).trans u1) (by rw [List.length_append]; exact a1) fun j hj => ?_)
  rcases t1 j hj with h' | h'
  · exact .inl h'
  · exact .inr (Nat.le_trans g1.le h')

theorem http_Parser_body.spec (hF : http_Parser_body.Ok P N) (q : Rq) (len : Int) : NextS P N (N Fn.http_Parser_body) (.body q len) := by
  intro B S i r vb vt K hw hg hBS h hr hl htl k0 k1
  obtain ⟨hfn, hwr, hov, rfl, rfl⟩ := hr
  have hil := h.lt hw
  refine http_Parser_body.run hF ⟨rfl, ifS_mk rfl ⟨_, h.ld rfl, rfl, ifS_mk rfl (ifS_mk (h.ld rfl) ⟨_, h.b.at_.len, ?_⟩)⟩⟩
  rw [goMax_nat]
  have hst : stepM (.body r.q r.len) r.b = if r.b.length < (max 0 r.len).toNat then none else some (if r.q.cl then .over else .first, r.b.drop (max 0 r.len).toNat, [{ r.q with bd := r.b.take (max 0 r.len).toNat }]) := rfl
  generalize (max 0 r.len).toNat = k at hst ⊢
  refine ifC_dec (fun hlt => ?_) (fun hge => ?_)
  · rw [if_pos (by omega)] at hst
    exact k0 hst S ⟨Upd.refl hw _, fun j hj => .inl hj, fun j hj => .inl hj⟩ h
  rw [if_neg (by omega)] at hst
  have hkl : k ≤ r.b.length := by omega
  obtain ⟨v1, e1, a1, _⟩ := SlAt.sub (c := 0) h.b.at_ (lo := none) (hi := some (.int .i64 ((k : Nat) : Int))) (l := 0) (h := k) (fun cap hcap => bnds_h (by omega)) (Nat.zero_le _) hkl
  have hb1 : BytesAt S v1 (r.b.take k) := by
    have : bytesV (r.b.take k) = ((bytesV r.b).drop (0 * 1)).take ((k - 0) * 1) := by
      simp only [Nat.zero_mul, List.drop_zero, Nat.sub_zero, Nat.mul_one, bytesV, List.map_take]
    rw [← this] at a1
    exact SlAt.bytes a1
  refine ⟨rfl, ifS_mk rfl (ifS_mk (h.ld rfl) (ifS_mk e1 ⟨_, bytes_str hb1, rfl, ifS_mk rfl (ifS_mk rfl ?_)⟩))⟩
  refine h.st hw { r with q := { r.q with bd := r.b.take k } } rfl (by simp [V.cells]) rfl rfl rfl rfl fun S1 u1 p1 => ?_
  obtain ⟨v4, e4, a4, s4⟩ := p1.b.from_ (l := k) hkl
  have a4' : Acc S1 B 1 v4 (r.b.drop k).length (bytesV (r.b.drop k)) := by
    rw [List.length_drop]
    have : bytesV (r.b.drop k) = (bytesV r.b).drop (k * 1) := by simp [bytesV, List.map_drop]
    rw [this]; exact a4
  refine ⟨rfl, ifS_mk rfl (ifS_mk (p1.ld rfl) (ifS_mk e4 ⟨rfl, ifS_mk rfl ?_⟩))⟩
  refine PR.cut u1.wf p1 a4' s4 fun S2 u2 p2 => ?_
  have hBS2 : B ≤ S2.next := Nat.le_trans hBS (u1.trans u2).le
  refine ⟨rfl, ifS_mk rfl (ifS_mk (p2.ld rfl) ⟨rfl, ifS_mk rfl ⟨_, _, _, _, _, ldN p2.obj (by simp) rfl, ?_⟩⟩)⟩
  have hi2 := p2.lt u2.wf
  refine newS_mk u2.wf fun S3 g3 m3 n3 => sameK_mk (Same.of_grow g3 (by simp [V.block]; exact hi2)) ?_
  have p3 := p2.grow g3
  have hs : srcV 5 S3 (.slice S2.next 0 1 1 5 true) = some (1, rqC { r.q with bd := r.b.take k }) := by
    simp only [srcV, if_true]
    rw [St.loads_of m3 (by simp)]
    simp
  obtain ⟨vt', S4, e5, a5, u5, t5⟩ := p3.t.app g3.wf (Nat.le_trans hBS2 g3.le) hs (by simp) (by simp [V.one]) (bytes := 72) (by simp only; omega) (by simp only; omega)
  have e : (r.told.map rqC).flatten ++ rqC { r.q with bd := r.b.take k } = ((r.told ++ [{ r.q with bd := r.b.take k }]).map rqC).flatten := by simp
  simp only at a5
  rw [e] at a5
  have hit4 : i ∉ vt.block := h.it
  have p3o := u5.get p3.obj hit4
  refine ifP_mk e5 (sameK_mk (fun j hj => ?_) ⟨rfl, ifS_mk rfl ?_⟩)
  · simp only [V.block, List.append_nil, List.mem_singleton] at hj
    subst hj
    rw [p3o, p3.obj]
  have hone : vt'.one = true := a5.at_.one1
  have hcell : V.cells vt' = [vt'] := a5.at_.cells1
  have tlt : ∀ j ∈ vt'.block, j ∈ vt.block ∨ S2.next ≤ j := fun j hj => by
    rcases t5 j hj with h' | h'
    · exact .inl h'
    · exact .inr (Nat.le_trans g3.le h')
  have hit' : i ∉ vt'.block := fun hj => by
    rcases tlt i hj with h' | h'
    · exact h.it h'
    · omega
  have hbt' : ∀ j ∈ v4.block, j ∉ vt'.block := fun j hj hj2 => by
    rcases tlt j hj2 with h' | h'
    · exact h.bt j (s4 j hj) h'
    · have := p2.b.blt u2.wf j hj; omega
  refine st_mk u5.wf p3o (by rw [hcell]; rfl) (by rw [hcell]; simp [cellsP]) (by rw [hcell]; simp [hone]) fun S5 u6 m6 n6 => ?_
  have p5 : PR B S5 i { r with q := { r.q with bd := r.b.take k }, b := r.b.drop k, told := r.told ++ [{ r.q with bd := r.b.take k }] } v4 vt' := by
    refine ⟨by rw [m6, hcell]; rfl, ?_, ?_, p2.ib, hit', hbt', h.iB⟩
    · exact (p3.b.upd u5 (fun j hj => h.bt j (s4 j hj))).upd u6 fun j hj e => by simp only [List.mem_singleton] at e; subst e; exact p2.ib hj
    · exact (show Acc S4 B 5 vt' (r.told ++ [{ r.q with bd := r.b.take k }]).length _ from by rw [List.length_append]; exact a5).upd u6 fun j hj e => by simp only [List.mem_singleton] at e; subst e; exact hit' hj
  refine ⟨rfl, ifS_mk rfl (ifS_mk rfl ⟨_, p5.ld rfl, rfl, ifS_mk rfl ?_⟩)⟩
  refine p5.st u6.wf { r with q := { r.q with bd := r.b.take k }, b := r.b.drop k, told := r.told ++ [{ r.q with bd := r.b.take k }], ov := r.q.cl } rfl (by simp [V.cells]) rfl rfl rfl rfl fun S6 u7 p6 => ?_
  refine ⟨rfl, ifS_mk rfl (p6.st u7.wf { r with q := { r.q with bd := r.b.take k }, b := r.b.drop k, told := r.told ++ [{ r.q with bd := r.b.take k }], ov := r.q.cl, fn := nextV (N Fn.http_Parser_first) i } rfl (by simp [V.cells]) rfl rfl rfl rfl fun S7 u8 p7 => ?_)⟩
  refine ⟨rfl, ifS_mk rfl ⟨_, p7.ld rfl, ?_⟩⟩
  have mv : Moved S S7 i vb vt v4 vt' := by
    refine ⟨?_, fun j hj => .inl (s4 j hj), fun j hj => (tlt j hj).imp id fun h' => Nat.le_trans (u1.trans u2).le h'⟩
    have hi : ∀ j ∈ [i], j ∈ foot i vb vt ∨ S.next ≤ j := fun j hj => by simp only [List.mem_singleton] at hj; subst hj; exact .inl List.mem_cons_self
    have a := (u1.trans u2).mono hi
    have b := (a.after g3 (by simp)).after u5 (fun j hj => .inr (List.mem_cons_of_mem _ (List.mem_append_right _ hj)))
    exact b.after ((u6.trans u7).trans u8) (fun j hj => (hi j hj).symm)
  have := k1 _ _ _ hst S7 _ _ _ mv p7
  cases hcl : r.q.cl with
  | true =>
    rw [hcl] at this
    exact this ⟨hwr, rfl⟩ rfl rfl
  | false =>
    rw [hcl] at this
    exact this ⟨rfl, hwr, rfl⟩ rfl rfl

/-! ## headers -/
def meansV (tL tE tN : Nat) (nm x : Bs) : V := if Lib.toLowerA nm = wContent then .iface tL (.str x) else if Lib.toLowerA nm = wConn then .iface tE (.str x) else if Lib.toLowerA nm = wTE then .iface tN (.str x) else .nilIface
theorem http_means.spec (hF : http_means.Ok P N) (hl : LowerS P (N Fn.strings_ToLower)) {nm x : Bs} {S : St} {K : V → St → Prop} (hn : nm.length ≤ 64) (ha : nm.all isNm = true)
    (hk : K (meansV (N Fn.ty_http_length) (N Fn.ty_http_end) (N Fn.ty_http_no) nm x) S) : CallA P (N Fn.http_means) [.str nm, .str x] S (retT [.one .any] K) := by
  refine http_means.run hF (hl nm S _ (by omega) ?_ ⟨_, rfl, ?_⟩)
  · refine List.all_eq_true.mpr fun c hc => ?_
    have := List.all_eq_true.mp ha c hc
    unfold isNm at this
    simp only [decide_eq_true_eq] at this ⊢
    omega
  · unfold meansV at hk
    refine ifC_dec (fun h => by rw [if_pos (show Lib.toLowerA nm = wContent from h)] at hk; exact hk) (fun h => ?_)
    rw [if_neg (show ¬ Lib.toLowerA nm = wContent from h)] at hk
    refine ifC_dec (fun h => by rw [if_pos (show Lib.toLowerA nm = wConn from h)] at hk; exact hk) (fun h => ?_)
    rw [if_neg (show ¬ Lib.toLowerA nm = wConn from h)] at hk
    refine ifC_dec (fun h => by rw [if_pos (show Lib.toLowerA nm = wTE from h)] at hk; exact hk) (fun h => ?_)
    rw [if_neg (show ¬ Lib.toLowerA nm = wTE from h)] at hk
    exact hk

theorem trimB_len (l : Bs) (c : UInt8) : (Lib.trimB l c).length ≤ l.length := by
  unfold Lib.trimB Lib.trimLeftB Lib.trimRightB
  have h1 : ∀ (p : UInt8 → Bool) (l : Bs), (l.dropWhile p).length ≤ l.length := fun p l => (List.dropWhile_sublist p).length_le
  refine Nat.le_trans (h1 _ _) ?_
  rw [List.length_reverse]
  refine Nat.le_trans (h1 _ _) ?_
  rw [List.length_reverse]; exact Nat.le_refl _
theorem assert_hit {t : TypeId} {s : Bs} {z : V} : assertV t true z (.iface t (.str s)) = some (.tuple [.str s, .bool true]) := by simp [assertV]
theorem assert_miss {t u : TypeId} {v z : V} (h : u ≠ t) : assertV t true z (.iface u v) = some (.tuple [z, .bool false]) := by simp [assertV, h]
theorem assert_nil {t : TypeId} {z : V} : assertV t true z .nilIface = some (.tuple [z, .bool false]) := rfl

structure TysOk (N : Nat → Nat) : Prop where
  le : N Fn.ty_http_length ≠ N Fn.ty_http_end
  ln : N Fn.ty_http_length ≠ N Fn.ty_http_no
  en : N Fn.ty_http_end ≠ N Fn.ty_http_no

theorem http_Parser_head.spec (hF : http_Parser_head.Ok P N) (hL : LineS P (N Fn.http_Parser_line)) (hc : CutS P (N Fn.strings_Cut)) (hA : AllS P (N Fn.http_all)) (h1 : PredS P (N Fn.http_Parser_head_1) isNm) (h2 : PredS P (N Fn.http_Parser_head_2) isPr) (h3 : PredS P (N Fn.http_Parser_head_3) isDig)
    (hT : TrimS P (N Fn.strings_Trim)) (hM : http_means.Ok P N) (hLo : LowerS P (N Fn.strings_ToLower)) (hAt : AtoiS P (N Fn.strconv_Atoi)) (hty : TysOk N) (hB : http_Parser_bad.Ok P N) (q : Rq) (n : Nat) (len : Int) : NextS P N (N Fn.http_Parser_head) (.head q n len) := by
  intro B S i r vb vt K hw hg hBS h hr hl htl k0 k1
  obtain ⟨hfn, hwr, hov, rfl, hhd, rfl, hn32⟩ := hr
  refine http_Parser_head.run hF (hL B S i r vb vt _ hw hg h hl (fun e S' u p => ?_) (fun e S' u p => ?_) (fun l b' e S1 vb' u s p => ?_))
  · exact ifC_tt rfl (k0 (by simp only [stepM, e]) S' (Moved.of u fun _ h => h) p)
  · exact ifC_tt rfl (k1 (.wrong 223) r.b [] (by simp only [stepM, e]) S' { r with w := 223 } vb vt (Moved.of u fun _ h => h) p ⟨rfl, by decide⟩ rfl (by simp))
  refine ifC_ff rfl ?_
  have hll := (pr_len _ e hl).1
  have hg1 : HG S1 := hg.upd u (by intro j hj; simp only [List.mem_singleton] at hj; subst hj; exact .inl ⟨_, h.obj⟩)
  have mv := Moved.of (vt := vt) u s
  have w1 := u.wf
  have hst : stepM (.head r.q n r.len) r.b = if l = [] then some (.body r.q r.len, b', []) else some (headS r.q n r.len b' (headF n r.len l)) := by simp only [stepM, e]
  refine ifC_dec (fun hl0 => ?_) (fun hl0 => ?_)
  · rw [if_pos hl0] at hst
    refine ⟨rfl, ifS_mk rfl (p.st w1 { r with b := b', fn := nextV (N Fn.http_Parser_body) i } rfl (by simp [V.cells]) rfl rfl rfl rfl fun S2 u2 p2 => ?_)⟩
    exact k1 _ _ _ hst S2 _ _ _ (mv.trans (Moved.of u2 fun _ h => h)) p2 ⟨rfl, hwr, hov, rfl, rfl⟩ rfl (by simp)
  rw [if_neg hl0] at hst
  have hw1' : IntKind.i64.wrap (r.hd + 1) = ((n + 1 : Nat) : Int) := by rw [hhd]; exact wrap_succ (by omega)
  refine ⟨rfl, ifS_mk rfl ⟨_, p.ld rfl, setI_mk hw1' ⟨rfl, ifS_mk rfl (p.st w1 { r with b := b', hd := ((n + 1 : Nat) : Int) } rfl (by simp [V.cells]) rfl rfl rfl rfl fun S2 u2 p2 => ?_)⟩⟩⟩
  have hg2 : HG S2 := hg1.upd u2 (by intro j hj; simp only [List.mem_singleton] at hj; subst hj; exact .inl ⟨_, p.obj⟩)
  have mv2 := mv.trans (Moved.of u2 fun _ h => h : Moved S1 S2 i vb' vt vb' vt)
  have hcl := cutL_le l [58]
  refine hc l [58] S2 _ hg2 (by omega) ⟨_, _, _, rfl, ?_⟩
  unfold headF headOk at hst
  generalize cutL l [58] = c1 at hcl hst ⊢
  obtain ⟨nm, val, col⟩ := c1
  simp only at hcl hst ⊢
  refine Join1.mid (fun t S' => Grow S2 S' ∧ t = (decide (1 ≤ nm.length) && decide (nm.length ≤ 64) && nm.all isNm)) ?_ ?_
  · refine ifC_dec (fun a1 => ifC_dec (fun a2 => hA nm _ isNm S2 _ h1 (by omega) fun S' g => ⟨g, ?_⟩) (fun a2 => ⟨Upd.refl u2.wf [], ?_⟩)) (fun a1 => ⟨Upd.refl u2.wf [], ?_⟩)
    · rw [decide_eq_true (show 1 ≤ nm.length by omega), decide_eq_true (show nm.length ≤ 64 by omega)]; rfl
    · rw [decide_eq_false (show ¬ nm.length ≤ 64 by omega), Bool.and_false]; rfl
    · rw [decide_eq_false (show ¬ 1 ≤ nm.length by omega)]; rfl
  rintro t S3 ⟨g3, ht⟩
  have p3 := p2.grow g3
  refine Join1.mid (fun s' S' => Grow S2 S' ∧ s' = !(decide (n + 1 ≤ 32) && col && t && val.all isPr)) ?_ ?_
  · refine ⟨rfl, ifS_mk rfl ⟨_, p3.ld rfl, ifC_dec (fun a1 => ⟨g3, ?_⟩) (fun a1 => ?_)⟩⟩
    · rw [decide_eq_false (show ¬ n + 1 ≤ 32 by have a2 : (32 : Int) < ((n + 1 : Nat) : Int) := a1; omega)]; rfl
    · rw [decide_eq_true (show n + 1 ≤ 32 by have a2 : ¬ (32 : Int) < ((n + 1 : Nat) : Int) := a1; omega)]
      cases col with
      | false => exact ifC_tt rfl ⟨g3, rfl⟩
      | true =>
        refine ifC_ff rfl ?_
        cases t with
        | false => exact ifC_tt rfl ⟨g3, rfl⟩
        | true => exact ifC_ff rfl (hA val _ isPr S3 _ h2 (by omega) fun S' g => ⟨g3.trans g, by simp⟩)
  rintro s' S4 ⟨g4, hs'⟩
  have p4 := p2.grow g4
  have mv4 : Moved S S4 i vb vt vb' vt := ⟨mv2.u.after g4 (by simp), mv2.fb, mv2.ft⟩
  rw [ht] at hs'
  have bad : ∀ (S5 : St) (e : Int), e ≠ 0 → Grow S2 S5 → stepM (.head r.q n r.len) r.b = some (.wrong e, b', []) → CallA P (N Fn.http_Parser_bad) [.ptr i 0, .int .i64 e] S5 (retT [.one .bool] fun (x : Bool) (S9 : St) => K x S9) := fun S5 e he g5 hs5 =>
    http_Parser_bad.spec hB g5.wf (p2.grow g5) fun S' u6 p6 => k1 _ _ _ hs5 S' _ _ _ ((⟨mv2.u.after g5 (by simp), mv2.fb, mv2.ft⟩ : Moved S S5 i vb vt vb' vt).trans (Moved.of u6 fun _ h => h)) p6 ⟨rfl, he⟩ rfl (by simp)
  refine ifC_tt_ff (fun h => ?_) (fun h => ?_)
  · rw [if_neg (fun h3 => by rw [hs', h3] at h; cases h)] at hst
    exact bad S4 221 (by decide) g4 hst
  have hyes : (decide (n + 1 ≤ 32) && col && (decide (1 ≤ nm.length) && decide (nm.length ≤ 64) && nm.all isNm) && val.all isPr) = true := by rw [h] at hs'; simpa using hs'
  rw [if_pos hyes] at hst
  simp only [Bool.and_eq_true, decide_eq_true_eq] at hyes
  obtain ⟨⟨⟨hn1, hcol⟩, ⟨hnm1, hnm2⟩, hnm3⟩, hval⟩ := hyes
  refine hT val 32 S4 _ (by decide) (by omega) ⟨_, rfl, ?_⟩
  have hxl := trimB_len val 32
  generalize Lib.trimB val 32 = x at hxl hst ⊢
  refine http_means.spec hM hLo hnm2 hnm3 ?_
  unfold meansR at hst
  unfold meansV
  by_cases c1 : Lib.toLowerA nm = wContent
  · rw [if_pos c1] at hst ⊢
    refine ⟨_, _, assert_hit, ifC_tt rfl (hAt.both (hg2.grow g4) (by omega) fun v w hvw => ?_)⟩
    refine Join1.mid (fun s' S' => Grow S2 S' ∧ (s' = true → numR' r.len x = .bad 222) ∧ (s' = false → Lib.atoiAll x = .ok v ∧ ¬ (0 ≤ r.len ∨ 9 < x.length ∨ x.all isDig = false))) ?_ ?_
    · have bad2 : (0 ≤ r.len ∨ 9 < x.length ∨ x.all isDig = false) → numR' r.len x = .bad 222 := fun h => by
        unfold numR'; split
        · rw [if_pos h]
        · rfl
      refine ⟨rfl, ifS_mk rfl ⟨_, p4.ld rfl, ifC_dec (fun a1 => ⟨g4, fun _ => bad2 (.inl (by simpa using a1)), fun h => by cases h⟩) (fun a1 => ifC_dec (fun a2 => ⟨g4, fun _ => bad2 (.inr (.inl (by omega))), fun h => by cases h⟩) (fun a2 => ?_))⟩⟩
      rcases hvw with ⟨rfl, hok⟩ | ⟨⟨t, rfl⟩, hno⟩
      · refine ⟨true, rfl, ifC_ff rfl (hA x _ isDig S4 _ h3 (by omega) fun S' g => ⟨g4.trans g, fun h => ?_, fun h => ⟨hok, fun h5 => ?_⟩⟩)⟩
        · exact bad2 (.inr (.inr (by simpa using h)))
        · rcases h5 with h5 | h5 | h5
          · exact a1 (by simpa using h5)
          · omega
          · rw [h5] at h; cases h
      · refine ⟨false, rfl, ifC_tt rfl ⟨g4, fun _ => ?_, fun h => by cases h⟩⟩
        unfold numR'; split
        · rename_i v' hv'; exact absurd hv' (hno _)
        · rfl
    rintro s' S5 ⟨g5, hs1, hs2⟩
    refine ifC_tt_ff (fun h => ?_) (fun h => ?_)
    · rw [hs1 h] at hst
      exact bad S5 222 (by decide) g5 hst
    obtain ⟨hok, hno⟩ := hs2 h
    have hnum : numR' r.len x = if 16384 < v then .bad 223 else .len v := by unfold numR'; rw [hok]; simp only; rw [if_neg hno]
    rw [hnum] at hst
    refine ifC_dec (fun a1 => ?_) (fun a1 => ?_)
    · rw [if_pos a1] at hst
      exact bad S5 223 (by decide) g5 hst
    · rw [if_neg a1] at hst
      refine ⟨rfl, ifS_mk rfl ((p2.grow g5).st g5.wf { r with b := b', hd := ((n + 1 : Nat) : Int), len := v } rfl (by simp [V.cells]) rfl rfl rfl rfl fun S6 u6 p6 => ?_)⟩
      exact k1 _ _ _ hst S6 _ _ _ ((⟨mv2.u.after g5 (by simp), mv2.fb, mv2.ft⟩ : Moved S S5 i vb vt vb' vt).trans (Moved.of u6 fun _ h => h)) p6 ⟨hfn, hwr, hov, rfl, rfl, rfl, hn1⟩ rfl (by simp)
  rw [if_neg c1] at hst ⊢
  by_cases c2 : Lib.toLowerA nm = wConn
  · rw [if_pos c2] at hst ⊢
    refine ⟨_, _, assert_miss (fun e => hty.le e.symm), ifC_ff rfl ⟨_, _, assert_hit, ifC_tt rfl ⟨rfl, ifS_mk rfl (ifS_mk rfl ⟨_, p4.ld rfl, ?_⟩)⟩⟩⟩
    refine ifC_tt_ff (fun hq => ⟨rfl, ifS_mk rfl (ifS_mk rfl (p4.st g4.wf { r with b := b', hd := ((n + 1 : Nat) : Int), q := { r.q with cl := true } } rfl (by simp [V.cells]) rfl rfl rfl rfl fun S6 u6 p6 => ?_))⟩)
      (fun hq => ⟨rfl, ifS_mk rfl (ifS_mk rfl (p4.st g4.wf { r with b := b', hd := ((n + 1 : Nat) : Int), q := { r.q with cl := decide (x = wcl) } } rfl (by simp [V.cells]) rfl rfl rfl rfl fun S6 u6 p6 => ?_))⟩)
    · have mv6 := mv4.trans (Moved.of u6 fun _ h => h : Moved S4 S6 i vb' vt vb' vt)
      by_cases hx : x = wcl
      · rw [if_pos hx] at hst
        exact k1 _ _ _ hst S6 _ _ _ mv6 p6 ⟨hfn, hwr, hov, rfl, rfl, rfl, hn1⟩ rfl (by simp)
      · rw [if_neg hx] at hst
        refine k1 _ _ _ hst S6 _ _ _ mv6 p6 ⟨hfn, hwr, hov, ?_, rfl, rfl, hn1⟩ rfl (by simp)
        have hq' : r.q.cl = true := hq
        rw [← hq']
    · have mv6 := mv4.trans (Moved.of u6 fun _ h => h : Moved S4 S6 i vb' vt vb' vt)
      by_cases hx : x = wcl
      · rw [if_pos hx] at hst
        refine k1 _ _ _ hst S6 _ _ _ mv6 p6 ⟨hfn, hwr, hov, ?_, rfl, rfl, hn1⟩ rfl (by simp)
        simp [hx]
      · rw [if_neg hx] at hst
        refine k1 _ _ _ hst S6 _ _ _ mv6 p6 ⟨hfn, hwr, hov, ?_, rfl, rfl, hn1⟩ rfl (by simp)
        have hq' : r.q.cl = false := hq
        simp only [decide_eq_false hx]
        rw [← hq']
  rw [if_neg c2] at hst ⊢
  have skip : stepM (.head r.q n r.len) r.b = some (headS r.q n r.len b' .skip) → K true S4 := fun hs5 => k1 _ _ _ hs5 S4 _ _ _ mv4 p4 ⟨hfn, hwr, hov, rfl, rfl, rfl, hn1⟩ rfl (by simp)
  by_cases c3 : Lib.toLowerA nm = wTE
  · rw [if_pos c3] at hst ⊢
    exact ⟨_, _, assert_miss (fun e => hty.ln e.symm), ifC_ff rfl ⟨_, _, assert_miss (fun e => hty.en e.symm), ifC_ff rfl ⟨_, _, assert_hit, ifC_tt rfl (bad S4 221 (by decide) g4 hst)⟩⟩⟩
  · rw [if_neg c3] at hst ⊢
    exact ⟨_, _, assert_nil, ifC_ff rfl ⟨_, _, assert_nil, ifC_ff rfl ⟨_, _, assert_nil, ifC_ff rfl (skip hst)⟩⟩⟩
end Go.Th.L
end

section
/- http: the parser fed. -/
set_option linter.unusedSimpArgs false
set_option linter.unusedVariables false
namespace Go.Th.Pure
open Go
def cr : Phase → Nat
  | .head _ _ _ => 1
  | .body _ _ => 1
  | _ => 0
theorem step_cr {ph ph' : Phase} {b b' : Bs} {t : List Rq} (h : stepM ph b = some (ph', b', t)) : t.length + b'.length + cr ph' ≤ b.length + cr ph := by
  cases ph with
  | first =>
    simp only [stepM] at h
    cases hl : lineR b with
    | wait => rw [hl] at h; cases h
    | large => rw [hl] at h; cases h; simp [cr]
    | got l r =>
      have := (lineR_got hl []).2
      rw [hl] at h
      simp only at h
      split at h <;> cases h <;> simp only [cr, List.length_nil] <;> omega
  | head q n len =>
    simp only [stepM] at h
    cases hl : lineR b with
    | wait => rw [hl] at h; cases h
    | large => rw [hl] at h; cases h; simp [cr]
    | got l r =>
      have := (lineR_got hl []).2
      rw [hl] at h
      simp only at h
      split at h
      · cases h; simp only [cr, List.length_nil]; omega
      · simp only [Option.some.injEq] at h
        cases hh : headF n len l <;> rw [hh] at h <;> cases h <;> simp only [cr, List.length_nil] <;> omega
  | body q len =>
    simp only [stepM] at h
    split at h
    · cases h
    · cases h
      rw [List.length_drop]
      split <;> simp only [cr, List.length_cons, List.length_nil] <;> omega
  | wrong e => cases h
  | over => cases h
theorem run_cr : ∀ (k : Nat) (ph : Phase) (b : Bs), meas ph b < k → (runAll ph b).2.2.length + (runAll ph b).2.1.length ≤ b.length + cr ph
  | 0, _, _, h => by omega
  | k + 1, ph, b, h => by
    cases hs : stepM ph b with
    | none => rw [run_none hs]; simp
    | some p =>
      obtain ⟨ph', b', t⟩ := p
      have hm := step_meas hs
      have hc := step_cr hs
      have ih := run_cr k ph' b' (by omega)
      rw [run_some hs, List.length_append]
      simp only
      omega
theorem feeds_snoc : ∀ (xs : List Bs) (s : Phase × Bs) (x : Bs), feedsM s (xs ++ [x]) = ((feedM (feedsM s xs).1 x).1, (feedsM s xs).2 ++ (feedM (feedsM s xs).1 x).2)
  | [], s, x => by simp [feedsM]
  | y :: xs, s, x => by
    simp only [List.cons_append, feedsM, feeds_snoc xs, List.append_assoc]
end Go.Th.Pure
namespace Go.Th.L
open Go Go.Th Go.Th.Pure
variable {P : Program} {N : Nat → Nat}

theorem PR.foot_ge {B : Nat} {S : St} {i : Nat} {r : Raw} {vb vt : V} (h : PR B S i r vb vt) : ∀ j ∈ foot i vb vt, B ≤ j := fun j hj => by
  rcases List.mem_cons.mp hj with rfl | hj
  · exact h.iB
  · rcases List.mem_append.mp hj with hj | hj
    · exact (h.b.own j hj).1
    · exact (h.t.own j hj).1
theorem PR.foot_lt {B : Nat} {S : St} (hw : S.Wf) {i : Nat} {r : Raw} {vb vt : V} (h : PR B S i r vb vt) : ∀ j ∈ foot i vb vt, j < S.next := fun j hj => by
  rcases List.mem_cons.mp hj with rfl | hj
  · exact h.lt hw
  · rcases List.mem_append.mp hj with hj | hj
    · exact h.b.blt hw j hj
    · exact h.t.blt hw j hj
theorem PR.hg {B : Nat} {S S' : St} {i : Nat} {r : Raw} {vb vt : V} (h : PR B S i r vb vt) (hg : HG S) (u : Upd (foot i vb vt) S S') : HG S' :=
  hg.upd u fun j hj => .inl (by
    rcases List.mem_cons.mp hj with rfl | hj
    · exact ⟨_, h.obj⟩
    · rcases List.mem_append.mp hj with hj | hj
      · exact (h.b.own j hj).2
      · exact (h.t.own j hj).2)
theorem PR.away {D : List Nat} {B : Nat} {S S' : St} {i : Nat} {r : Raw} {vb vt : V} (h : PR B S i r vb vt) (u : Upd D S S') (hd : ∀ j ∈ foot i vb vt, j ∉ D) : PR B S' i r vb vt :=
  h.upd u (hd i List.mem_cons_self) (fun j hj => hd j (List.mem_cons_of_mem _ (List.mem_append_left _ hj))) (fun j hj => hd j (List.mem_cons_of_mem _ (List.mem_append_right _ hj)))

def raw0 (N : Nat → Nat) (i : Nat) : Raw := ⟨[], nextV (N Fn.http_Parser_first) i, 0, false, ⟨[], [], [], [], false⟩, 0, 0, []⟩
theorem http_New.spec (hF : http_New.Ok P N) {S : St} {B : Nat} {K : V → St → Prop} (hB : B ≤ S.next) (hk : ∀ S', Grow S S' → PR B S' S.next (raw0 N S.next) .nilSlice .nilSlice → K (.ptr S.next 0) S') : CallA P (N Fn.http_New) [] S (retT [.one .any] K) := by
  refine CallA.wfT fun hw => http_New.run hF (newS_mk hw fun S1 g1 m1 n1 => ⟨rfl, ?_⟩)
  refine st_mk g1.wf m1 rfl (by simp [V.cells]) rfl fun S2 u2 m2 n2 => ?_
  have g2 : Grow S S2 := g1.after u2 (fun i hi => by simp only [List.mem_singleton] at hi; subst hi; exact .inl (Nat.le_refl _))
  exact hk S2 g2 ⟨by simpa [over, V.cells, raw0, nextV] using m2, Acc.nil _ _ _, Acc.nil _ _ _, by simp [V.block], by simp [V.block], by simp [V.block], hB⟩
theorem raw0_ph (i : Nat) : PhR N i .first (raw0 N i) := ⟨rfl, rfl, rfl⟩

abbrev RqsAt (B : Nat) (S : St) (v : V) (ts : List Rq) : Prop := Acc S B 5 v ts.length (ts.map rqC).flatten

theorem PR.untell {B : Nat} {S : St} (hw : S.Wf) {i : Nat} {r : Raw} {vb vt : V} (h : PR B S i r vb vt) {K : St → Prop}
    (hk : ∀ S', Upd [i] S S' → PR B S' i { r with told := [] } vb .nilSlice → RqsAt B S' vt r.told → K S') : ifS (storeV S 1 (.ptr i 11) .nilSlice) K :=
  st_mk hw h.obj rfl (by simp [V.cells, cellsP]) rfl fun S' u m _ => hk S' u
    ⟨by simpa [over, V.cells] using m, h.b.upd u fun j hj e => by (simp only [List.mem_singleton] at e; subst e; exact h.ib hj), Acc.nil _ _ _, h.ib, by simp [V.block], by simp [V.block], h.iB⟩
    (h.t.upd u fun j hj e => by (simp only [List.mem_singleton] at e; subst e; exact h.it hj))

structure NextsOk (P : Program) (N : Nat → Nat) : Prop where
  c1 : canEnter P (N Fn.http_Parser_first) = true
  c2 : canEnter P (N Fn.http_Parser_head) = true
  c3 : canEnter P (N Fn.http_Parser_body) = true
  n1 : NextS P N (N Fn.http_Parser_first) .first
  n2 : ∀ q n len, NextS P N (N Fn.http_Parser_head) (.head q n len)
  n3 : ∀ q len, NextS P N (N Fn.http_Parser_body) (.body q len)
theorem NextsOk.at_ (h : NextsOk P N) {ph : Phase} {r : Raw} {i : Nat} (hr : PhR N i ph r) (hs : ph.stop = false) : ∃ f, r.fn = nextV f i ∧ canEnter P f = true ∧ NextS P N f ph := by
  cases ph with
  | first => exact ⟨_, hr.1, h.c1, h.n1⟩
  | head q n len => exact ⟨_, hr.1, h.c2, h.n2 q n len⟩
  | body q len => exact ⟨_, hr.1, h.c3, h.n3 q len⟩
  | wrong e => cases hs
  | over => cases hs
theorem PhR.err {i : Nat} {ph : Phase} {r : Raw} (h : PhR N i ph r) : r.w = ph.err := by
  cases ph with
  | first => exact h.2.1
  | head q n len => exact h.2.1
  | body q len => exact h.2.1
  | wrong e => exact h.1
  | over => exact h.1
theorem PhR.stops {i : Nat} {ph : Phase} {r : Raw} (h : PhR N i ph r) : (!decide (r.w = 0) || r.ov) = ph.stop := by
  cases ph with
  | first => rw [h.2.1, h.2.2]; rfl
  | head q n len => rw [h.2.1, h.2.2.1]; rfl
  | body q len => rw [h.2.1, h.2.2.1]; rfl
  | wrong e => rw [h.1, decide_eq_false h.2]; rfl
  | over => rw [h.1, h.2]; rfl
theorem PhR.untell {i : Nat} {ph : Phase} {r : Raw} (h : PhR N i ph r) : PhR N i ph { r with told := [] } := by
  cases ph <;> exact h

def FeedS (P : Program) (N : Nat → Nat) (f : Nat) : Prop := ∀ (B : Nat) (S : St) (i : Nat) (ph : Phase) (r : Raw) (vb x : V) (l : Bs) (K : V → Int → St → Prop), S.Wf → HG S → B ≤ S.next → PR B S i r vb .nilSlice → PhR N i ph r → r.told = [] → BytesAt S x l → r.b.length + l.length ≤ 1073741820 →
  (∀ S' r' vb' v, Moved S S' i vb .nilSlice vb' .nilSlice → PR B S' i r' vb' .nilSlice → PhR N i (feedM (ph, r.b) l).1.1 r' → r'.b = (feedM (ph, r.b) l).1.2 → r'.told = [] → RqsAt B S' v (feedM (ph, r.b) l).2 →
    (∀ j ∈ v.block, S.next ≤ j ∧ j ∉ foot i vb' .nilSlice) → K v (feedM (ph, r.b) l).1.1.err S') → CallA P f [.ptr i 0, x] S (retT [.one .any, .one (.int .i64)] K)

theorem http_Parser_Feed.spec (hF : http_Parser_Feed.Ok P N) (hN : NextsOk P N) : FeedS P N (N Fn.http_Parser_Feed) := by
  intro B S i ph r vb x l K hw hg hBS h hr htold hx hlen hk
  have hstop := hr.stops
  have herr := hr.err
  refine http_Parser_Feed.run hF ⟨false, rfl, ifC_ff rfl ?_⟩
  refine Join1.mid (fun t S' => S' = S ∧ t = ph.stop) ⟨rfl, ifS_mk rfl ⟨_, h.ld rfl, ifC_ndec (fun h1 => ⟨rfl, ?_⟩) (fun h1 => ⟨rfl, ifS_mk rfl ⟨_, h.ld rfl, rfl, ?_⟩⟩)⟩⟩ ?_
  · rw [← hstop, decide_eq_false h1]; rfl
  · rw [← hstop, decide_eq_true h1]; rfl
  rintro t S' ⟨e, ht⟩
  rw [e]; clear e S'
  unfold feedM at hk
  refine ifC_tt_ff (fun h1 => ⟨rfl, ifS_mk rfl ⟨_, h.ld rfl, ?_⟩⟩) (fun h1 => ?_)
  · have hs : ph.stop = true := by rw [← ht]; exact h1
    rw [if_pos hs] at hk
    have := hk S r vb .nilSlice ⟨Upd.refl hw _, fun j hj => .inl hj, fun j hj => .inl hj⟩ h hr rfl htold (Acc.nil _ _ _) (by simp [V.block])
    rw [herr]; exact this
  have hs : ph.stop = false := by rw [← ht]; exact h1
  simp only [hs, Bool.false_eq_true, if_false] at hk
  refine ⟨rfl, ifS_mk rfl (ifS_mk (h.ld rfl) ?_)⟩
  obtain ⟨v1, S1, e1, a1, u1, t1⟩ := h.b.app hw hBS hx.src (by rw [bytesV_length, Nat.mul_one]) (bytesV_ones _) (bytes := 1) (by omega) (by omega)
  refine ifP_mk e1 ⟨rfl, ifS_mk rfl ?_⟩
  have hob := u1.get h.obj h.ib
  have hone : v1.one = true := a1.at_.one1
  have hcell : V.cells v1 = [v1] := a1.at_.cells1
  have eb : bytesV r.b ++ bytesV l = bytesV (r.b ++ l) := by simp [bytesV]
  rw [eb] at a1
  have hil := h.lt hw
  have hi1 : i ∉ v1.block := fun hj => by
    rcases t1 i hj with h' | h'
    · exact h.ib h'
    · omega
  refine st_mk u1.wf hob (by rw [hcell]; rfl) (by rw [hcell]; simp [cellsP]) (by rw [hcell]; simp [hone]) fun S2 u2 m2 n2 => ?_
  have p2 : PR B S2 i { r with b := r.b ++ l } v1 .nilSlice := ⟨by rw [m2, hcell]; rfl, (show Acc S1 B 1 v1 (r.b ++ l).length _ from by rw [List.length_append]; exact a1).upd u2 fun j hj e => by (simp only [List.mem_singleton] at e; subst e; exact hi1 hj), by
    have : ({ r with b := r.b ++ l } : Raw).told = [] := htold
    rw [this]; exact Acc.nil _ _ _, hi1, by simp [V.block], by simp [V.block], h.iB⟩
  have mv2 : Moved S S2 i vb .nilSlice v1 .nilSlice := by
    exact ⟨(u1.mono fun j hj => .inl (List.mem_cons_of_mem _ (List.mem_append_left _ hj))).after u2 fun j hj => .inr (by simp only [List.mem_singleton] at hj; subst hj; exact List.mem_cons_self), t1, by simp [V.block]⟩
  have ph2 : PhR N i ph { r with b := r.b ++ l } := by cases ph <;> exact hr
  have hcr : cr ph ≤ 1 := by cases ph <;> simp [cr]
  refine Loop0.ind (fun n S4 => ∃ ph1 r1 vb1 vt1, n = meas ph1 r1.b ∧ Moved S S4 i vb .nilSlice vb1 vt1 ∧ PR B S4 i r1 vb1 vt1 ∧ PhR N i ph1 r1 ∧ ph1.stop = false ∧ r1.told.length + r1.b.length + cr ph1 ≤ 1073741824 ∧
    runAll ph (r.b ++ l) = ((runAll ph1 r1.b).1, (runAll ph1 r1.b).2.1, r1.told ++ (runAll ph1 r1.b).2.2)) (meas ph (r.b ++ l)) ⟨ph, { r with b := r.b ++ l }, v1, .nilSlice, rfl, mv2, p2, ph2, hs, by simp only [htold, List.length_nil, List.length_append]; omega, by simp only [htold, List.nil_append]⟩ ?_
  rintro n S4 ⟨ph1, r1, vb1, vt1, rfl, mv4, p4, hr4, hs4, hb4, hrun⟩
  have w4 := mv4.u.wf
  obtain ⟨f, hfn, hcan, hnx⟩ := hN.at_ hr4 hs4
  refine ⟨rfl, ifS_mk rfl (ifS_mk (p4.ld rfl) ?_)⟩
  rw [hfn]
  refine ifS_mk (callee_mk hcan) ?_
  have fin : ∀ (S5 : St) (phE : Phase) (rE : Raw) (vbE vtE : V), Moved S4 S5 i vb1 vt1 vbE vtE → PR B S5 i rE vbE vtE → PhR N i phE rE → runAll ph (r.b ++ l) = (phE, rE.b, rE.told) →
      nilV (.ptr i 0) = some (.ptr i 0) ∧ ifS (fieldAddrV 11 (.ptr i 0)) fun x40 => ifS (loadV S5 x40) fun x41 => nilV (.ptr i 0) = some (.ptr i 0) ∧ ifS (fieldAddrV 11 (.ptr i 0)) fun x44 => ifS (storeV S5 1 x44 V.nilSlice) fun S6 => nilV (.ptr i 0) = some (.ptr i 0) ∧ ifS (fieldAddrV 2 (.ptr i 0)) fun x48 => ∃ x49 : Int, loadV S6 x48 = some (V.int .i64 x49) ∧ K x41 x49 S6 := by
    intro S5 phE rE vbE vtE mv5 p5 hr5 hrE
    refine ⟨rfl, ifS_mk rfl (ifS_mk (p5.ld rfl) ⟨rfl, ifS_mk rfl (p5.untell mv5.u.wf fun S6 u6 p6 a6 => ⟨rfl, ifS_mk rfl ⟨_, p6.ld rfl, ?_⟩⟩)⟩)⟩
    have mvA := mv4.trans mv5
    have mv6 : Moved S S6 i vb .nilSlice vbE .nilSlice := by
      exact ⟨mvA.u.after u6 fun j hj => .inr (by simp only [List.mem_singleton] at hj; subst hj; exact List.mem_cons_self), mvA.fb, by simp [V.block]⟩
    have := hk S6 { rE with told := [] } vbE vtE mv6 p6
    rw [hrE] at this
    simp only at this
    have hw' : ({ rE with told := [] } : Raw).w = phE.err := hr5.err
    rw [hw']
    refine this hr5.untell trivial trivial a6 fun j hj => ⟨?_, fun hj2 => ?_⟩
    · rcases mvA.ft j hj with h' | h'
      · simp [V.block] at h'
      · exact h'
    · rcases List.mem_cons.mp hj2 with rfl | hj2
      · exact p5.it hj
      · rcases List.mem_append.mp hj2 with h' | h'
        · exact p5.bt j h' hj
        · simp [V.block] at h'
  refine hnx B S4 i r1 vb1 vt1 _ w4 (h.hg hg mv4.u) (Nat.le_trans hBS mv4.u.le) p4 hr4 (by omega) (by omega) (fun hno S5 mv5 p5 => ?_) (fun ph' b' tl hst S5 r5 vb5 vt5 mv5 p5 hr5 hb5 ht5 => ?_)
  · refine ifC_ff rfl (fin S5 ph1 r1 vb1 vt1 mv5 p5 hr4 ?_)
    rw [hrun, run_none hno, List.append_nil]
  · have hm := step_meas hst
    have hc5 := step_cr hst
    have hrun5 : runAll ph (r.b ++ l) = ((runAll ph' r5.b).1, (runAll ph' r5.b).2.1, r5.told ++ (runAll ph' r5.b).2.2) := by
      rw [hrun, run_some hst, hb5, ht5, List.append_assoc]
    cases hsp : ph'.stop with
    | true =>
      refine ifC_ff rfl (fin S5 ph' r5 vb5 vt5 mv5 p5 hr5 ?_)
      rw [hrun5, run_stop hsp, List.append_nil]
    | false =>
      refine ifC_tt rfl ⟨meas ph' r5.b, by rw [hb5]; exact hm, ph', r5, vb5, vt5, rfl, mv4.trans mv5, p5, hr5, hsp, ?_, hrun5⟩
      rw [ht5, List.length_append, hb5]; omega
end Go.Th.L
end

section
/- http: in whatever parts bytes come. -/
set_option linter.unusedSimpArgs false
set_option linter.unusedVariables false
namespace Go.Th.L
open Go Go.Th Go.Th.Pure
variable {P : Program} {N : Nat → Nat}

theorem eqQ (a b : Rq) : eqV 6 [2, 2, 2, 2, 0] (.agg (rqC a)) (.agg (rqC b)) = some (decide (a = b)) := by
  obtain ⟨m, p, u, bd, cl⟩ := a
  obtain ⟨m', p', u', bd', cl'⟩ := b
  cases cl <;> cases cl' <;> simp [eqV, eqA, eqL, eqT]
abbrev QsAt (S : St) (v : V) (ts : List Rq) : Prop := SlAt S 5 v ts.length (ts.map rqC).flatten
theorem QsAt.get {S : St} {v : V} {ts : List Rq} (h : QsAt S v ts) {j : Nat} (hj : j < ts.length) : loadNV S 5 (eltV 5 v j 0) = some (.agg (rqC ts[j])) := by
  rw [h.loadN hj (by decide), flatten_elt (by simp) (by simpa using hj)]
  simp
def SameS (P : Program) (f : Nat) : Prop := ∀ (x y : V) (a b : List Rq) (S : St) (K : Bool → St → Prop), QsAt S x a → QsAt S y b → K (decide (a = b)) S → CallA P f [x, y] S (retT [.one .bool] K)
theorem law22_same.spec (hF : law22_same.Ok P N) : SameS P (N Fn.law22_same) := by
  intro x y a b S K hx hy h
  have hle := hx.le
  refine law22_same.run hF ⟨_, hx.len, _, hy.len, ifC_ndec (fun hne => ?_) (fun heq => ?_)⟩
  · have e : a ≠ b := fun e => hne (by rw [e])
    rwa [decide_eq_false e] at h
  · refine Loop1.ind (fun n x S' => S' = S ∧ ∃ j : Nat, x = j ∧ j + n = a.length ∧ a.take j = b.take j) a.length ⟨rfl, 0, rfl, by omega, by simp⟩ ?_
    rintro n _ S' ⟨e, j, rfl, hj, hab⟩
    rw [e]; clear e S'
    refine ⟨_, hx.len, ifC_dec (fun hlt => ?_) (fun hge => ?_)⟩
    · have hja : j < a.length := by omega
      have hjb : j < b.length := by omega
      refine ifS_mk (hx.idx hja) ⟨_, _, _, _, _, QsAt.get hx hja, ifS_mk (hy.idx hjb) ⟨_, _, _, _, _, QsAt.get hy hjb, _, eqQ _ _, ifC_ndec (fun hne => ?_) (fun heq => ?_)⟩⟩
      · rwa [decide_eq_false (ne_of_get hja hjb hne)] at h
      · exact setI_mk (wrap_succ (by omega)) ⟨n - 1, by omega, rfl, j + 1, rfl, by omega, take_succ_eq hab hja hjb heq⟩
    · have : a = b := by
        rw [List.take_of_length_le (by omega), List.take_of_length_le (by omega)] at hab
        exact hab
      rwa [decide_eq_true this] at h

/-- Where the next part ends. -/
theorem law22_cut.spec (hF : law22_cut.Ok P N) {v : V} {l : List Int} {j at_ n : Nat} {S : St} {K : Int → St → Prop} (hv : IntsAt S v l) (hat : at_ ≤ n) (hn : n ≤ 1073741824)
    (hk : ∀ e : Nat, at_ ≤ e → e ≤ n → (l.length ≤ j → e = n) → K (e : Nat) S) : CallA P (N Fn.law22_cut) [v, .int .i64 (j : Nat), .int .i64 (at_ : Nat), .int .i64 (n : Nat)] S (retT [.one (.int .i64)] K) := by
  refine law22_cut.run hF (Join0.mid (fun S' => S' = S ∧ ∃ (h : j < l.length), 0 ≤ l[j] ∧ l[j] ≤ (n : Int) - at_) ?_ ?_)
  · refine ⟨_, hv.len, ifC_dec (fun h => hk n hat (Nat.le_refl _) (fun _ => rfl)) (fun h => ?_)⟩
    have hj : j < l.length := by omega
    refine ifS_mk (hv.idx hj) ⟨_, IntsAt.get hv hj, ifC_dec (fun h1 => hk n hat (Nat.le_refl _) (fun _ => rfl)) (fun h1 => ifS_mk (hv.idx hj) ⟨_, IntsAt.get hv hj, setI_mk (n := (n : Int) - at_) (by rw [IntKind.wrap_i64]; omega) (ifC_dec (fun h2 => hk n hat (Nat.le_refl _) (fun _ => rfl)) (fun h2 => ⟨rfl, hj, by omega, by omega⟩))⟩)⟩
  · rintro S' ⟨e, hj, h1, h2⟩
    rw [e]; clear e S'
    refine ifS_mk (hv.idx hj) ⟨_, IntsAt.get hv hj, setI_mk (n := ((at_ + (l[j]).toNat : Nat) : Int)) (by rw [IntKind.wrap_i64]; omega) (hk _ (by omega) (by omega) (fun h => by omega))⟩

theorem http_Parser_Wrong.spec (hF : http_Parser_Wrong.Ok P N) {B : Nat} {S : St} {i : Nat} {r : Raw} {vb vt : V} {K : Int → St → Prop} (h : PR B S i r vb vt) (hk : K r.w S) : CallA P (N Fn.http_Parser_Wrong) [.ptr i 0] S (retT [.one (.int .i64)] K) :=
  http_Parser_Wrong.run hF ⟨false, rfl, ifC_ff rfl ⟨rfl, ifS_mk rfl ⟨_, h.ld rfl, hk⟩⟩⟩

structure PartsOk (P : Program) (N : Nat → Nat) : Prop where
  new : http_New.Ok P N
  feed : FeedS P N (N Fn.http_Parser_Feed)
  wrong : http_Parser_Wrong.Ok P N
  same : SameS P (N Fn.law22_same)
  cut : law22_cut.Ok P N
  awake : AwakeG P (N Fn.law22_awake)

theorem first_none : stepM .first [] = none := rfl
theorem feed_run (b : Bs) : (feedM (.first, []) b).1.1 = (runAll .first b).1 ∧ (feedM (.first, []) b).2 = (runAll .first b).2.2 := ⟨rfl, rfl⟩
theorem run_told (b : Bs) : (runAll .first b).2.2.length ≤ b.length := by
  have := run_cr _ .first b (Nat.lt_succ_self _)
  simp only [cr] at this; omega
theorem feeds_first (xs : List Bs) : (feedsM (.first, []) xs).2 = (runAll .first xs.flatten).2.2 ∧ (feedsM (.first, []) xs).1.1 = (runAll .first xs.flatten).1 := feeds_all xs .first [] first_none
theorem feeds_rest : ∀ (xs : List Bs) (s : Phase × Bs), (feedsM s xs).1.2.length ≤ s.2.length + xs.flatten.length
  | [], s => by simp [feedsM]
  | x :: xs, s => by
    have ih := feeds_rest xs (feedM s x).1
    have : (feedM s x).1.2.length ≤ s.2.length + x.length := by
      unfold feedM
      split
      · simp
      · have hc : ∀ ph : Phase, cr ph ≤ 1 := fun ph => by cases ph <;> simp [cr]
        have hle : ∀ (k : Nat) (ph : Phase) (b : Bs), meas ph b < k → (runAll ph b).2.1.length ≤ b.length := by
          intro k
          induction k with
          | zero => intro _ _ h; omega
          | succ k ih =>
            intro ph b h
            cases hs : stepM ph b with
            | none => rw [run_none hs]; exact Nat.le_refl _
            | some p =>
              obtain ⟨ph', b', t⟩ := p
              have hm := step_meas hs
              have h2 := ih ph' b' (by omega)
              rw [run_some hs]
              have h3 : b'.length ≤ b.length := by
                cases ph with
                | first =>
                  simp only [stepM] at hs
                  cases hl : lineR b with
                  | wait => rw [hl] at hs; cases hs
                  | large => rw [hl] at hs; cases hs; exact Nat.le_refl _
                  | got l r =>
                    have := (lineR_got hl []).2
                    rw [hl] at hs
                    simp only at hs
                    split at hs <;> cases hs <;> omega
                | head q n len =>
                  simp only [stepM] at hs
                  cases hl : lineR b with
                  | wait => rw [hl] at hs; cases hs
                  | large => rw [hl] at hs; cases hs; exact Nat.le_refl _
                  | got l r =>
                    have := (lineR_got hl []).2
                    rw [hl] at hs
                    simp only at hs
                    split at hs
                    · cases hs; omega
                    · simp only [Option.some.injEq] at hs
                      cases hh : headF n len l <;> rw [hh] at hs <;> cases hs <;> omega
                | body q len =>
                  simp only [stepM] at hs
                  split at hs
                  · cases hs
                  · cases hs; rw [List.length_drop]; omega
                | wrong e => cases hs
                | over => cases hs
              simp only; omega
        have := hle _ s.1 (s.2 ++ x) (Nat.lt_succ_self _)
        rw [List.length_append] at this
        exact this
    simp only [feedsM, List.flatten_cons, List.length_append]
    omega

theorem law22_HttpParts.spec (hF : law22_HttpParts.Ok P N) (hO : PartsOk P N) {v w : V} {b : Bs} {cuts : List Int} {S : St} {K : Bool → St → Prop} (hw : S.Wf) (hg : HG S) (hv : BytesAt S v b) (hcu : IntsAt S w cuts) (hk : ∀ S', K true S') :
    CallA P (N Fn.law22_HttpParts) [v, w] S (retT [.one .bool] K) := by
  refine law22_HttpParts.run hF (Join0.mid (fun S' => S' = S ∧ b.length ≤ 131072 ∧ cuts.length ≤ 200) ?_ ?_)
  · exact ⟨_, hv.len, ifC_dec (fun _ => hk _) (fun h1 => ⟨_, hcu.len, ifC_dec (fun _ => hk _) (fun h2 => ⟨rfl, by omega, by omega⟩)⟩)⟩
  rintro S' ⟨e, hbl, hcl⟩
  rw [e]; clear e S'
  refine http_New.spec hO.new (B := S.next) (Nat.le_refl _) fun S1 g1 p1 => http_New.spec hO.new (B := S.next) g1.le fun S2 g2 q2 => ?_
  have p2 := p1.grow g2
  refine Join0.mid (fun S' => S' = S2) ⟨false, rfl, ifC_ff rfl ⟨false, rfl, ifC_ff rfl rfl⟩⟩ ?_
  rintro S' e
  rw [e]; clear e S'
  have g12 := g1.trans g2
  have hip : S.next < S1.next := p1.lt g1.wf
  have hiq : S1.next < S2.next := q2.lt g2.wf
  refine hO.feed S.next S2 S.next .first _ _ v b _ g2.wf (hg.grow g12) g12.le p2 (raw0_ph _) rfl (hv.grow g12) (by simp only [raw0, List.length_nil]; omega) fun S3 rp vbp vwant mv3 p3 hp3 hpb hpt hwant hwf => ?_
  have hfr := feed_run b
  have e0 : (raw0 N S.next).b = [] := rfl
  rw [e0, hfr.1] at hp3
  rw [e0, hfr.2] at hwant
  rw [e0, hfr.1]
  have q3 : PR S.next S3 S1.next (raw0 N S1.next) .nilSlice .nilSlice := q2.away mv3.u (by
    intro j hj hj2
    simp only [foot, V.block, List.append_nil, List.mem_singleton] at hj hj2
    omega)
  have g3 : Grow S S3 := g12.after mv3.u (fun j hj => .inl (p2.foot_ge j hj))
  have hBp := p3.foot_ge
  refine Loop3.ind (fun n vg a x S6 => ∃ (j at_ : Nat) (xs : List Bs) (vbq : V) (rq : Raw), x = j ∧ a = at_ ∧ j + n = cuts.length + 1 ∧ at_ ≤ b.length ∧ (n = 0 → at_ = b.length) ∧ xs.flatten = b.take at_ ∧ Grow S S6 ∧
      PR S.next S6 S.next rp vbp .nilSlice ∧ RqsAt S.next S6 vwant (runAll .first b).2.2 ∧ PR S.next S6 S1.next rq vbq .nilSlice ∧ PhR N S1.next (feedsM (.first, []) xs).1.1 rq ∧ rq.b = (feedsM (.first, []) xs).1.2 ∧ rq.told = [] ∧ RqsAt S.next S6 vg (feedsM (.first, []) xs).2 ∧
      (∀ z ∈ foot S1.next vbq .nilSlice, z ∉ foot S.next vbp .nilSlice) ∧ (∀ z ∈ foot S1.next vbq .nilSlice, z ∉ vwant.block) ∧ (∀ z ∈ vg.block, z ∉ foot S.next vbp .nilSlice) ∧ (∀ z ∈ vg.block, z ∉ vwant.block) ∧ (∀ z ∈ vg.block, z ∉ foot S1.next vbq .nilSlice)) (cuts.length + 1)
    ⟨0, 0, [], .nilSlice, raw0 N S1.next, rfl, rfl, by omega, Nat.zero_le _, by omega, by simp, g3, p3, hwant, q3, raw0_ph _, rfl, rfl, Acc.nil _ _ _, ?_, ?_, by simp [V.block], by simp [V.block], by simp [V.block]⟩ ?_
  · intro z hz hz2
    simp only [foot, V.block, List.append_nil, List.mem_singleton] at hz
    subst hz
    rcases mv3.f _ hz2 with h' | h'
    · simp only [foot, V.block, List.append_nil, List.mem_singleton] at h'; omega
    · omega
  · intro z hz hz2
    simp only [foot, V.block, List.append_nil, List.mem_singleton] at hz
    subst hz
    have := (hwf _ hz2).1; omega
  rintro n vg _ _ S6 ⟨j, at_, xs, vbq, rq, rfl, rfl, hj, hat, hend, hxs, g6, p6, hwant6, q6, hq6, hqb, hqt, hg6, d1, d2, d3, d4, d5⟩
  have w6 := g6.wf
  have hcu6 := hcu.grow g6
  have hv6 := hv.grow g6
  refine ⟨_, hcu6.len, ifC_dec (fun hlt => ?_) (fun hge => ?_)⟩
  · refine ⟨_, hv6.len, law22_cut.spec hO.cut hcu6 hat (by omega) fun en h1 h2 h3 => ?_⟩
    obtain ⟨v5, e5, a5, _⟩ := SlAt.sub (c := 0) hv6 (lo := some (.int .i64 (at_ : Nat))) (hi := some (.int .i64 (en : Nat))) (l := at_) (h := en) (fun cap hcap => bnds_lh h1 (by omega)) h1 h2
    have hb5 : BytesAt S6 v5 ((b.take en).drop at_) := by
      have : bytesV ((b.take en).drop at_) = ((bytesV b).drop (at_ * 1)).take ((en - at_) * 1) := by
        simp only [Nat.mul_one, bytesV, List.map_drop, List.map_take, List.drop_take]
      rw [← this] at a5
      exact SlAt.bytes a5
    refine ifS_mk e5 ?_
    have hrl := feeds_rest xs (.first, [])
    have hxl : xs.flatten.length ≤ 131072 := by rw [hxs, List.length_take]; omega
    simp only [List.length_nil] at hrl
    refine hO.feed S.next S6 S1.next _ rq vbq v5 _ _ w6 (hg.grow g6) g6.le q6 hq6 hqt hb5 (by rw [hqb, List.length_drop, List.length_take]; omega) fun S7 r7 vb7 vl mv7 q7 hq7 hqb7 hqt7 hl7 hf7 => ?_
    have g7 : Grow S S7 := g6.after mv7.u (fun z hz => .inl (q6.foot_ge z hz))
    have w7 := mv7.u.wf
    rw [hqb] at hq7 hqb7 hl7
    have eta : ((feedsM (.first, []) xs).1.1, (feedsM (.first, []) xs).1.2) = (feedsM (.first, []) xs).1 := rfl
    rw [eta] at hq7 hqb7 hl7
    have p7 := p6.away mv7.u (fun z hz hz2 => d1 z hz2 hz)
    have hw7 := hwant6.upd mv7.u (fun z hz hz2 => d2 z hz2 hz)
    have hg7 := hg6.upd mv7.u (fun z hz hz2 => d5 z hz hz2)
    have hsn := feeds_snoc xs (.first, []) ((b.take en).drop at_)
    have hflat : (xs ++ [(b.take en).drop at_]).flatten = b.take en := by
      rw [List.flatten_append, hxs]
      simp only [List.flatten_cons, List.flatten_nil, List.append_nil]
      have := List.take_append_drop at_ (b.take en)
      rw [List.take_take, Nat.min_eq_left h1] at this
      exact this
    have hcnt : ((feedsM (.first, []) (xs ++ [(b.take en).drop at_])).2).length ≤ 131072 := by
      rw [(feeds_first _).1, hflat]
      have := run_told (b.take en)
      rw [List.length_take] at this; omega
    rw [hsn, List.length_append] at hcnt
    obtain ⟨vg', S8, e8, a8, u8, t8⟩ := hg7.app w7 g7.le hl7.at_.src (by have := hl7.at_.2.1; exact this) hl7.ones (bytes := 72) (by omega) (by omega)
    refine ifP_mk e8 (setI_mk (wrap_succ (by omega)) ⟨n - 1, by omega, j + 1, en, xs ++ [(b.take en).drop at_], vb7, r7, rfl, rfl, by omega, h2, fun h => h3 (by omega), hflat, ?_⟩)
    have lt6 : ∀ z ∈ foot S.next vbp .nilSlice, z < S6.next := p6.foot_lt w6
    have ltw : ∀ z ∈ vwant.block, z < S6.next := hwant6.blt w6
    have ltg : ∀ z ∈ vg.block, z < S6.next := hg6.blt w6
    have lt7 : ∀ z ∈ foot S1.next vb7 .nilSlice, z < S7.next := q7.foot_lt w7
    have d57 : ∀ z ∈ vg.block, z ∉ foot S1.next vb7 .nilSlice := fun z hz hz2 => by
      rcases mv7.f z hz2 with h' | h'
      · exact d5 z hz h'
      · have := ltg z hz; omega
    have dp8 : ∀ z ∈ foot S.next vbp .nilSlice, z ∉ vg.block := fun z hz hz2 => d3 z hz2 hz
    have e1 : (feedsM (.first, []) (xs ++ [(b.take en).drop at_])).1 = (feedM (feedsM (.first, []) xs).1 ((b.take en).drop at_)).1 := by rw [hsn]
    have e2 : (feedsM (.first, []) (xs ++ [(b.take en).drop at_])).2 = (feedsM (.first, []) xs).2 ++ (feedM (feedsM (.first, []) xs).1 ((b.take en).drop at_)).2 := by rw [hsn]
    refine ⟨g7.after u8 (fun z hz => .inl (hg7.own z hz).1), p7.away u8 dp8, hw7.upd u8 (fun z hz hz2 => d4 z hz2 hz), q7.away u8 (fun z hz hz2 => d57 z hz2 hz), by rw [e1]; exact hq7, by rw [e1]; exact hqb7, hqt7, ?_, ?_, ?_, ?_, ?_, ?_⟩
    · rw [e2]
      have : ((feedsM (.first, []) xs).2.map rqC).flatten ++ ((feedM (feedsM (.first, []) xs).1 ((b.take en).drop at_)).2.map rqC).flatten = (((feedsM (.first, []) xs).2 ++ (feedM (feedsM (.first, []) xs).1 ((b.take en).drop at_)).2).map rqC).flatten := by simp
      rw [this] at a8
      show Acc S8 S.next 5 vg' _ _
      rw [List.length_append]
      exact a8
    · intro z hz hz2
      rcases mv7.f z hz with h' | h'
      · exact d1 z h' hz2
      · have := lt6 z hz2; omega
    · intro z hz hz2
      rcases mv7.f z hz with h' | h'
      · exact d2 z h' hz2
      · have := ltw z hz2; omega
    · intro z hz hz2
      rcases t8 z hz with h' | h'
      · exact d3 z h' hz2
      · have := lt6 z hz2; have := mv7.u.le; omega
    · intro z hz hz2
      rcases t8 z hz with h' | h'
      · exact d4 z h' hz2
      · have := ltw z hz2; have := mv7.u.le; omega
    · intro z hz hz2
      rcases t8 z hz with h' | h'
      · exact d57 z h' hz2
      · have := lt7 z hz2; omega
  · have hn0 : n = 0 := by omega
    have hate : at_ = b.length := hend hn0
    rw [hate, List.take_length] at hxs
    have hfin := feeds_first xs
    rw [hxs] at hfin
    rw [hfin.1] at hg6
    refine hO.awake S6 _ (hg.grow g6) (ifC_tt rfl (hO.same vg vwant _ _ S6 _ hg6.at_ hwant6.at_ (ifC_pos rfl ?_)))
    refine http_Parser_Wrong.spec hO.wrong q6 (ifC_pos ?_ (http_Parser_Wrong.spec hO.wrong p6 ?_))
    · rw [hq6.err, hfin.2]
    · rw [hp3.err, decide_eq_true rfl]; exact hk _
end Go.Th.L
end
