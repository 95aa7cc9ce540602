/- What the row of one statement stands on: a store, abstract code, functions of the program and their laws (ThG). -/
import Derived.Test.YtdpehfhhbmmhjaaThBTopkOrder6

section
/- Built-in functions, maps, calls. -/
set_option linter.unusedSimpArgs false
set_option linter.unusedVariables false
namespace Go.Th
open Go.RowKit Go.Lib

theorem exec_builtin {P : Program} {o : Oper} {a : Act} {b : Builtin} {args : Array Operand} {ts : Array TypeId} (ho : o.op = .call ⟨.builtin b, args, ts⟩) (w : World) :
    ∃ cs, (execOp a.eval o).run P w = (builtin b ts o.type cs (args.map a.eval)).run P w := by
  refine ⟨?cs, ?h⟩
  rotate_left
  · simp only [execOp, ho, resolve, pure_bind, invoke]
    rfl

theorem getObj_map {P : Program} {w : World} {r : Nat} {es : Array MapEntry} {clock : Nat} (hb : w.heap[r]? = some (.map es clock)) : (getObj r).run P w = .ok (.map es clock) w := by
  simp [getObj, Sem.run, hb]

/-! ## len -/
def rLen (x : AX) : List V → St → AR := fun fr S =>
  match x.ev fr with
  | .str s => .val (.int .i64 s.length) S
  | .slice _ _ l _ _ _ => .val (.int .i64 l) S
  | .nilSlice => .val (.int .i64 0) S
  | .nilMap => .val (.int .i64 0) S
  | .map i => match S.get i with
    | some (.map es _) => .val (.int .i64 es.length) S
    | _ => .stuck
  | _ => .stuck

def lenKind : TypeDesc → Nat
  | .string => 1
  | .slice _ => 2
  | .map _ _ => 3
  | _ => 0

def rLenK (n : Nat) (x : AX) : List V → St → AR := fun fr S =>
  match n, x.ev fr with
  | 1, .str s => .val (.int .i64 s.length) S
  | 2, .slice _ _ l _ _ _ => .val (.int .i64 l) S
  | 2, .nilSlice => .val (.int .i64 0) S
  | 3, .nilMap => .val (.int .i64 0) S
  | 3, .map i => match S.get i with
    | some (.map es _) => .val (.int .i64 es.length) S
    | _ => .stuck
  | _, _ => .stuck

theorem EntR.length {m : LM} : ∀ {es : List (V × V)} {ces : List MapEntry}, EntR m es ces → ces.length = es.length
  | [], _, h => by simp only [EntR] at h; simp [h]
  | (k, v) :: es, _, h => by
    obtain ⟨e, es', rfl, _, _, h3⟩ := h
    simp [h3.length]

theorem ok_len {P : Program} {o : Oper} {x : Operand} {ax : AX} {t : TypeId} {d : TypeDesc} (ho : o.op = .call ⟨.builtin .len, #[x], #[t]⟩) (hx : AX.of x = some ax) (ht : P.underlying t = some d) : OpOk P o (rLenK (lenKind d) ax) :=
  OpOk.pure fun m S base w0 w fr a hS hf => by
    have rx := AX.of_rel hx hf
    unfold rLenK
    split
    · rename_i s h1 he
      rw [he] at rx
      cases d <;> simp [lenKind] at h1
      exact .inr ⟨_, .int .i64 s.length, rfl, by obtain ⟨cs, hcs⟩ := exec_builtin (P := P) (a := a) ho w; rw [hcs]; simp [builtin, Builtin.len_, run_underlying ht, rx.str_inv, size_mk, goInt], VR.int_mk _ _ _⟩
    · rename_i l _ _ _ h1 he
      rw [he] at rx
      cases d <;> simp [lenKind] at h1
      obtain ⟨L, y, c', hL, hu, hok⟩ := rx.slice_inv
      exact .inr ⟨_, .int .i64 l, rfl, by obtain ⟨cs, hcs⟩ := exec_builtin (P := P) (a := a) ho w; rw [hcs]; simp [builtin, Builtin.len_, run_underlying ht, hu, goInt], VR.int_mk _ _ _⟩
    · rename_i h1 he
      rw [he] at rx
      cases d <;> simp [lenKind] at h1
      exact .inr ⟨_, .int .i64 0, rfl, by obtain ⟨cs, hcs⟩ := exec_builtin (P := P) (a := a) ho w; rw [hcs]; simp [builtin, Builtin.len_, run_underlying ht, rx.nilSlice_inv, goInt], VR.int_mk _ _ _⟩
    · rename_i h1 he
      rw [he] at rx
      cases d <;> simp [lenKind] at h1
      exact .inr ⟨_, .int .i64 0, rfl, by obtain ⟨cs, hcs⟩ := exec_builtin (P := P) (a := a) ho w; rw [hcs]; simp [builtin, Builtin.len_, run_underlying ht, rx.nilMap_inv, goInt], VR.int_mk _ _ _⟩
    · rename_i i h1 he
      rw [he] at rx
      cases d <;> simp [lenKind] at h1
      split
      · rename_i es own hg
        obtain ⟨L, hL, hu⟩ := rx.map_inv
        obtain ⟨L', g1, ⟨ces, clock, g2, g3, _⟩, _⟩ := hS.blk _ _ hg
        rw [hL] at g1; cases g1
        have hl : ces.size = es.length := by have := g3.length; simpa using this
        exact .inr ⟨_, .int .i64 es.length, rfl, by obtain ⟨cs, hcs⟩ := exec_builtin (P := P) (a := a) ho w; rw [hcs]; simp [builtin, Builtin.len_, run_underlying ht, hu, goInt, getObj_map g2, hl], VR.int_mk _ _ _⟩
      · exact .inl rfl
    · exact .inl rfl

/-! ## min, max -/
def foldMM (f : Int → Int → Int) : Int → List V → Option Int
  | a, [] => some a
  | a, .int _ b :: r => foldMM f (f a b) r
  | _, _ :: _ => none

def rMinMax (f : Int → Int → Int) (xs : List AX) : List V → St → AR := fun fr S =>
  match (xs.map (·.ev fr) : List V) with
  | V.int k a :: r => match foldMM f a r with
    | some n => .val (.int k n) S
    | none => .stuck
  | _ => .stuck

def goMin (a b : Int) : Int := if b < a then b else a
def goMax (a b : Int) : Int := if b > a then b else a

theorem run_foldMin {P : Program} {m : LM} (w : World) {k : IntKind} : ∀ (r : List V) (us : List Value) (a n : Int), foldMM goMin a r = some n → VRs m r us → (us.foldlM Builtin.min2 (.int k a)).run P w = .ok (.int k n) w
  | [], us, a, n, h, hr => by
    simp only [foldMM, Option.some.injEq] at h; subst h
    simp only [VRs] at hr; subst hr; simp
  | v :: r, us, a, n, h, hr => by
    simp only [VRs] at hr
    obtain ⟨u, us', rfl, h1, h2⟩ := hr
    cases v <;> simp only [foldMM] at h <;> try (cases h; done)
    rw [h1.int_inv]
    simp only [List.foldlM_cons, Builtin.min2, pure_bind]
    exact run_foldMin w r us' _ n h h2

theorem run_foldMax {P : Program} {m : LM} (w : World) {k : IntKind} : ∀ (r : List V) (us : List Value) (a n : Int), foldMM goMax a r = some n → VRs m r us → (us.foldlM Builtin.max2 (.int k a)).run P w = .ok (.int k n) w
  | [], us, a, n, h, hr => by
    simp only [foldMM, Option.some.injEq] at h; subst h
    simp only [VRs] at hr; subst hr; simp
  | v :: r, us, a, n, h, hr => by
    simp only [VRs] at hr
    obtain ⟨u, us', rfl, h1, h2⟩ := hr
    cases v <;> simp only [foldMM] at h <;> try (cases h; done)
    rw [h1.int_inv]
    simp only [List.foldlM_cons, Builtin.max2, pure_bind]
    exact run_foldMax w r us' _ n h h2

theorem ok_min {P : Program} {o : Oper} {xs : Array Operand} {axs : List AX} {ts : Array TypeId} (ho : o.op = .call ⟨.builtin .min, xs, ts⟩) (hx : AX.ofs xs.toList = some axs) : OpOk P o (rMinMax goMin axs) :=
  OpOk.pure fun m S base w0 w fr a hS hf => by
    have rx := AX.ofs_rel hf hx
    unfold rMinMax
    split
    · rename_i k n0 r he
      rw [he] at rx
      simp only [VRs] at rx
      obtain ⟨u, us, hus, h1, h2⟩ := rx
      split
      · rename_i n hn
        refine .inr ⟨_, .int k n, rfl, ?_, VR.int_mk _ _ _⟩
        obtain ⟨cs, hcs⟩ := exec_builtin (P := P) (a := a) ho w
        rw [hcs]
        have hl : (xs.map a.eval).toList = u :: us := by rw [Array.toList_map]; exact hus
        rw [h1.int_inv] at hl
        simp only [builtin, Builtin.min_, hl, Sem.run_bind, run_foldMin w r us n0 n hn h2, Result.andThen_ok, Sem.run_pure]
      · exact .inl rfl
    · exact .inl rfl

theorem ok_max {P : Program} {o : Oper} {xs : Array Operand} {axs : List AX} {ts : Array TypeId} (ho : o.op = .call ⟨.builtin .max, xs, ts⟩) (hx : AX.ofs xs.toList = some axs) : OpOk P o (rMinMax goMax axs) :=
  OpOk.pure fun m S base w0 w fr a hS hf => by
    have rx := AX.ofs_rel hf hx
    unfold rMinMax
    split
    · rename_i k n0 r he
      rw [he] at rx
      simp only [VRs] at rx
      obtain ⟨u, us, hus, h1, h2⟩ := rx
      split
      · rename_i n hn
        refine .inr ⟨_, .int k n, rfl, ?_, VR.int_mk _ _ _⟩
        obtain ⟨cs, hcs⟩ := exec_builtin (P := P) (a := a) ho w
        rw [hcs]
        have hl : (xs.map a.eval).toList = u :: us := by rw [Array.toList_map]; exact hus
        rw [h1.int_inv] at hl
        simp only [builtin, Builtin.max_, hl, Sem.run_bind, run_foldMax w r us n0 n hn h2, Result.andThen_ok, Sem.run_pure]
      · exact .inl rfl
    · exact .inl rfl

/-! ## what is appended or copied -/
/-- How many elements, as cells of k each. -/
def srcV (k : Nat) (S : St) (y : V) : Option (Nat × List V) :=
  match y with
  | .nilSlice => some (0, [])
  | .slice i o l _ k' _ => if k' = k then (S.loads i o (l * k)).map fun vs => (l, vs) else none
  | .str s => if k = 1 then some (s.length, bytesV s) else none
  | _ => none

theorem srcV_rel {P : Program} {m : LM} {S : St} {base : Nat} {w0 w : World} (hS : Sim m S base w0 w) {k n : Nat} {y : V} {vs : List V} {u : Value} (hy : srcV k S y = some (n, vs)) (hr : VR m y u) :
    (Builtin.lenOf u).run P w = .ok n w ∧ ∃ us, (∀ w', w'.heap = w.heap → (Builtin.firstCells k n u).run P w' = .ok us.toArray w') ∧ VRs m vs us ∧ vs.length = n * k := by
  unfold srcV at hy
  split at hy
  · cases hy
    rw [hr.nilSlice_inv]
    exact ⟨by simp [Builtin.lenOf], [], fun w' _ => by simp [Builtin.firstCells], by simp [VRs], by simp⟩
  · rename_i i o l c k' t
    split at hy
    · rename_i hk
      subst hk
      cases hl : S.loads i o (l * k') with
      | none => rw [hl] at hy; cases hy
      | some vs' =>
        rw [hl] at hy; cases hy
        obtain ⟨L, x, c', hL, hu, hok⟩ := hr.slice_inv
        subst hu
        have hlen : vs.length = n * k' := St.loads_len hl
        refine ⟨by simp [Builtin.lenOf], ?_⟩
        by_cases hn : n = 0
        · subst hn
          have : vs = [] := List.length_eq_zero_iff.mp (by simpa using hlen)
          subst this
          exact ⟨[], fun w' _ => by simp [Builtin.firstCells, loadCells, loadCellsFrom], by simp [VRs], by simp⟩
        · have hx := slice_addr hok (by omega)
          subst hx
          obtain ⟨us, h1, h2, h3, h4⟩ := hS.loads (P := P) hl hL
          refine ⟨us, fun w' hw' => ?_, h2, hlen⟩
          have := run_loadCells_list (P := P) w' ⟨L.block, L.off + o, none⟩ us (fun j v hj => by
            rw [addr_add]
            have := h3 j v hj
            simpa [World.cell?, hw'] using this)
          rw [h4] at this
          simpa [Builtin.firstCells] using this
    · cases hy
  · rename_i s
    split at hy
    · rename_i hk
      subst hk
      cases hy
      rw [hr.str_inv]
      refine ⟨by simp [Builtin.lenOf, size_mk], s.map fun b => Value.int .u8 b.toNat, fun w' _ => ?_, bytesV_rel m s, by simp [bytesV]⟩
      simp only [Builtin.firstCells, Sem.run_pure, extract_mk]
      congr 1
      apply Array.ext'
      simp
    · cases hy
  · cases hy

/-! ## append -/
def rApp (k bytes : Nat) (x y : AX) : List V → St → AR := fun fr S =>
  match srcV k S (y.ev fr) with
  | none => .stuck
  | some (n, news) =>
    match x.ev fr with
    | .nilSlice =>
      if n = 0 then .val .nilSlice S
      else if n * bytes ≤ 140737488355328 ∧ n ≤ 4611686018427387904 then .val (.slice S.next 0 n n k false) (S.new (.cells news true))
      else .stuck
    | .slice i o l c k' t =>
      if k' ≠ k then .stuck
      else if n = 0 then .val (.slice i o l c k t) S
      else if l + n ≤ c then
        match S.stores i (o + l * k) news with
        | some S' => .val (.slice i o (l + n) c k t) S'
        | none => .stuck
      else if (l + n) * bytes ≤ 140737488355328 ∧ l + n ≤ 4611686018427387904 then
        match S.get i with
        | some (.cells vs own) =>
          if o + l * k ≤ vs.length then
            if t then .val (.slice S.next 0 (l + n) (l + n) k false) (S.new (.cells ((vs.drop o).take (l * k) ++ news) true))
            else if own && news.all V.one then .val (.slice S.next 0 (l + n) (l + n) k false) ((S.put i none).new (.cells ((vs.drop o).take (l * k) ++ news) true))
            else .stuck
          else .stuck
        | _ => .stuck
      else .stuck
    | _ => .stuck

section appendRuns
variable {P : Program} {s u e : TypeId} {i : TypeInfo} {z : Value} (hs : P.underlying s = some (.slice e)) (hu : (∃ e', P.underlying u = some (.slice e')) ∨ P.underlying u = some .string)
  (hi : P.info? e = some i) (hz : i.zero = some z)
include hs hu hi

theorem run_app_room {w w' : World} {ty : TypeId} {b : Option Addr} {l c n : Nat} {y : Value} {us : List Value} (hlen : (Builtin.lenOf y).run P w = .ok n w) (hc : (Builtin.firstCells i.size n y).run P w = .ok us.toArray w) (hroom : l + n ≤ c)
    (hst : match b with | some a => (storeCells (a.add (l * i.size)) us).run P w = .ok () w' | none => w' = w) :
    (Builtin.append_ #[s, u] ty #[.slice b l c, y]).run P w = .ok (.slice b (l + n) c) w' := by
  cases b with
  | none =>
    subst hst
    rcases hu with ⟨e', hu⟩ | hu <;> simp [Builtin.append_, run_underlying hs, run_underlying hu, sizeOf, typeInfo, hi, hlen, hroom, hc]
  | some a =>
    rcases hu with ⟨e', hu⟩ | hu <;> simp [Builtin.append_, run_underlying hs, run_underlying hu, sizeOf, typeInfo, hi, hlen, hroom, hc, hst]

include hz
theorem run_app_grow {w : World} {ty : TypeId} {b : Option Addr} {l c n : Nat} {y : Value} {us olds : List Value} (hlen : (Builtin.lenOf y).run P w = .ok n w) (hc : (Builtin.firstCells i.size n y).run P w.drew = .ok us.toArray w.drew)
    (ho : (Builtin.firstCells i.size l (.slice b l c)).run P w.drew = .ok olds.toArray w.drew) (hg : c < l + n) (h63 : l + n ≤ 4611686018427387904) (hfit : (l + n) * i.bytes ≤ 140737488355328) :
    (Builtin.append_ #[s, u] ty #[.slice b l c, y]).run P w = .ok (.slice (some ⟨w.heap.size, 0, none⟩) (l + n) (grownCap w (l + n) c e))
      (w.drew.alloc (.cells (olds ++ us ++ (Builtin.zeroCells z.cells (grownCap w (l + n) c e - (l + n))).toList).toArray e)) := by
  have hn : ¬ (l + n ≤ c) := by omega
  have h63' : ¬ (9223372036854775807 < ((l : Int) + (n : Int))) := by omega
  have h48' : ¬ (281474976710656 < Builtin.nextslicecap (l + n) c * i.bytes) := by
    have := growslice_fits hg hfit
    omega
  rcases hu with ⟨e', hu⟩ | hu <;> simp [Builtin.append_, run_underlying hs, run_underlying hu, sizeOf, typeInfo, zeroValue, hi, hz, hlen, hn, h63', h48', Question.forced, hc, ho, newRow, grownCap]
  all_goals
    congr 2
    apply Array.ext'
    simp
end appendRuns

theorem zeroCells_size (z : Array Value) (n : Nat) : (Builtin.zeroCells z n).size = n * z.size := by simp [Builtin.zeroCells]

theorem drop_take_loads {S : St} {i o n : Nat} {vs : List V} {own : Bool} (hg : S.get i = some (.cells vs own)) (hle : o + n ≤ vs.length) : S.loads i o n = some ((vs.drop o).take n) := by
  exact St.loads_of hg hle

set_option maxHeartbeats 1000000 in
theorem ok_app {P : Program} {o : Oper} {s u e : TypeId} {x y : Operand} {ax ay : AX} {i : TypeInfo} {z : Value} (ho : o.op = .call ⟨.builtin .append, #[x, y], #[s, u]⟩) (hx : AX.of x = some ax) (hy : AX.of y = some ay)
    (hs : P.underlying s = some (.slice e)) (hu : (∃ e', P.underlying u = some (.slice e')) ∨ P.underlying u = some .string) (hi : P.info? e = some i) (hz : i.zero = some z) (hzs : z.cells.size = i.size) : OpOk P o (rApp i.size i.bytes ax ay) :=
  OpOk.world fun m S base w0 w fr a hS hf => by
    have rx := AX.of_rel hx hf
    have ry := AX.of_rel hy hf
    have hex : ∀ {v : Value} {w' : World}, (Builtin.append_ #[s, u] o.type #[a.eval x, a.eval y]).run P w = .ok v w' → (execOp a.eval o).run P w = .ok (.value v) w' := by
      intro v w' h
      obtain ⟨cs, hcs⟩ := exec_builtin (P := P) (a := a) ho w
      rw [hcs]
      have : (#[x, y].map a.eval) = #[a.eval x, a.eval y] := by simp
      rw [this]
      simp only [builtin, Sem.run_bind, h, Result.andThen_ok, Sem.run_pure]
    unfold rApp
    split
    · exact .inl rfl
    · rename_i n news hsrc
      obtain ⟨hlen, us, hcells, hus, hnl⟩ := srcV_rel (P := P) hS hsrc ry
      have husl : us.length = n * i.size := by rw [hus.length, hnl]
      have grow : ∀ (l cap' : Nat) (b : Option Addr) (olds : List Value) (oldv : List V) (S0 : St) (hS0 : Sim m S0 base w0 w) (hnx : S0.next = S.next), a.eval x = .slice b l cap' →
          (Builtin.firstCells i.size l (.slice b l cap')).run P w.drew = .ok olds.toArray w.drew → VRs m oldv olds → oldv.length = l * i.size → cap' < l + n → l + n ≤ 4611686018427387904 → (l + n) * i.bytes ≤ 140737488355328 →
          ∃ u' w' m', (execOp a.eval o).run P w = .ok (.value u') w' ∧ Ext m m' ∧ Sim m' (S0.new (.cells (oldv ++ news) true)) base w0 w' ∧ VR m' (.slice S.next 0 (l + n) (l + n) i.size false) u' := by
        intro l cap' b olds oldv S0 hS0 hnx hev hold hor hol hg h63 hfit
        have hrun := run_app_grow (P := P) (ty := o.type) (y := a.eval y) hs hu hi hz hlen (hcells w.drew rfl) hold hg h63 hfit
        rw [← hev] at hrun
        have hge := grownCap_ge w (l + n) cap' e
        have hsize : (olds ++ us ++ (Builtin.zeroCells z.cells (grownCap w (l + n) cap' e - (l + n))).toList).toArray.size = grownCap w (l + n) cap' e * i.size := by
          have h1 := hor.length
          have h2 := zeroCells_size z.cells (grownCap w (l + n) cap' e - (l + n))
          simp only [List.size_toArray, List.length_append, Array.length_toList, h1, hol, husl, h2, hzs]
          rw [← Nat.add_mul, ← Nat.add_mul]
          congr 1; omega
        have hx := hS0.draw.newCells (vs := oldv ++ news) (cs := (olds ++ us ++ (Builtin.zeroCells z.cells (grownCap w (l + n) cap' e - (l + n))).toList).toArray) (by
          have hl2 : (oldv ++ news).length = (olds ++ us).length := by simp [hor.length, hus.length]
          rw [hl2]
          show VRs m (oldv ++ news) ((olds ++ us ++ _).take (olds ++ us).length)
          rw [List.take_left']
          · exact hor.append hus
          · rfl) e (0, 0) (.inl rfl)
        rw [hnx] at hx
        refine ⟨_, _, _, hex hrun, LM.ext_put _ (hS.freshM _ (Nat.le_refl _)), hx, ?_⟩
        simp only [VR]
        refine ⟨_, _, grownCap w (l + n) cap' e, LM.put_same m _ _, rfl, ⟨Nat.le_refl _, hge, by simp, fun _ => rfl, fun _ => rfl, fun _ _ => ?_⟩⟩
        simp only [Nat.zero_add]
        rw [hsize]
        exact Nat.le_refl _
      split
      · rename_i hev
        rw [hev] at rx
        have hxe := rx.nilSlice_inv
        split
        · rename_i hn0
          subst hn0
          refine .inr ⟨_, .slice none 0 0, S, w, m, rfl, hex ?_, Ext.refl m, hS, by simp only [VR]⟩
          rw [hxe]
          exact run_app_room (P := P) (b := none) hs hu hi hlen (hcells w rfl) (Nat.le_refl _) rfl
        · rename_i hn0
          split
          · rename_i hfit
            obtain ⟨u', w', m', h1, h2, h3, h4⟩ := grow 0 0 none [] [] S hS rfl hxe (by simp [Builtin.firstCells]) (by simp [VRs]) (by simp) (by omega) (by omega) (by simpa using hfit.1)
            simp only [Nat.zero_add, List.nil_append] at h3 h4
            exact .inr ⟨_, u', _, w', m', rfl, h1, h2, h3, h4⟩
          · exact .inl rfl
      · rename_i j off l c k' t hev
        rw [hev] at rx
        split
        · exact .inl rfl
        · rename_i hk
          simp only [ne_eq, Decidable.not_not] at hk
          subst hk
          obtain ⟨L, x', cap', hL, hxe, hok⟩ := rx.slice_inv
          have hcl := hok.cap_le
          have hll := hok.len_le
          split
          · rename_i hn0
            subst hn0
            have hus0 : us = [] := List.length_eq_zero_iff.mp (by simpa using husl)
            refine .inr ⟨_, .slice (some x') l cap', S, w, m, rfl, hex ?_, Ext.refl m, hS, by simp only [VR]; exact ⟨L, x', cap', hL, rfl, hok⟩⟩
            rw [hxe]
            exact run_app_room (P := P) (b := some x') hs hu hi hlen (hcells w rfl) (by omega) (by rw [hus0]; rfl)
          · rename_i hn0
            split
            · rename_i hroom
              split
              · rename_i S' hst
                have hx' : x' = ⟨L.block, L.off + off, none⟩ := hok.place (by omega)
                subst hx'
                obtain ⟨w', hw, hS'⟩ := hS.stores (P := P) hst hL hus
                refine .inr ⟨_, .slice (some ⟨L.block, L.off + off, none⟩) (l + n) cap', S', w', m, rfl, hex ?_, Ext.refl m, hS', ?_⟩
                · rw [hxe]
                  exact run_app_room (P := P) (b := some ⟨L.block, L.off + off, none⟩) hs hu hi hlen (hcells w rfl) (by omega) (by
                    show (storeCells ((⟨L.block, L.off + off, none⟩ : Addr).add (l * i.size)) us).run P w = _
                    rw [addr_add, Nat.add_assoc]; exact hw)
                · simp only [VR]
                  exact ⟨L, _, cap', hL, rfl, ⟨hroom, hcl, hok.tight, hok.place, hok.here, hok.room⟩⟩
              · exact .inl rfl
            · rename_i hroom
              split
              · rename_i hfit
                split
                · rename_i vs own hg
                  split
                  · rename_i hle
                    have hload := drop_take_loads (n := l * i.size) hg hle
                    have holdl : ((vs.drop off).take (l * i.size)).length = l * i.size := by rw [List.length_take, List.length_drop]; omega
                    have hold : ∃ olds, (∀ w', w'.heap = w.heap → (Builtin.firstCells i.size l (.slice (some x') l cap')).run P w' = .ok olds.toArray w') ∧ VRs m ((vs.drop off).take (l * i.size)) olds := by
                      have := srcV_rel (P := P) (k := i.size) (n := l) (y := .slice j off l c i.size t) (vs := (vs.drop off).take (l * i.size)) (u := a.eval x) hS (by simp [srcV, hload]) (by rw [hxe]; simp only [VR]; exact ⟨L, x', cap', hL, rfl, hok⟩)
                      obtain ⟨_, olds, h1, h2, _⟩ := this
                      rw [hxe] at h1
                      exact ⟨olds, h1, h2⟩
                    obtain ⟨olds, hold1, hold2⟩ := hold
                    split
                    · rename_i ht
                      have hcc := hok.tight ht
                      obtain ⟨u', w', m', h1, h2, h3, h4⟩ := grow l cap' _ olds _ S hS rfl hxe (hold1 w.drew rfl) hold2 holdl (by omega) (by omega) hfit.1
                      exact .inr ⟨_, u', _, w', m', rfl, h1, h2, h3, h4⟩
                    · rename_i ht
                      split
                      · rename_i hown
                        simp only [Bool.and_eq_true] at hown
                        obtain ⟨hown, hone⟩ := hown
                        subst hown
                        by_cases hcap : l + n ≤ cap'
                        · -- in place
                          have hx' : x' = ⟨L.block, L.off + off, none⟩ := hok.place (by omega)
                          subst hx'
                          obtain ⟨L', g1, ⟨g0, gc, gr, go⟩, _⟩ := hS.blk j _ hg
                          rw [hL] at g1; cases g1
                          obtain ⟨hLo, ccs, ct, fz, hb, hsz, hfz⟩ := go rfl
                          have hroom2 := hok.room hLo (by omega)
                          have hmul : (l + n) * i.size ≤ cap' * i.size := Nat.mul_le_mul_right _ hcap
                          rw [Nat.add_mul] at hmul
                          have h1c : ∀ u ∈ us, u.oneCell' = true := by
                            intro u hu
                            obtain ⟨jj, hj⟩ := List.getElem?_of_mem hu
                            have hjl : jj < news.length := by
                              rcases Nat.lt_or_ge jj us.length with h' | h'
                              · have := hus.length; omega
                              · simp [List.getElem?_eq_none h'] at hj
                            obtain ⟨u', hu', r⟩ := hus.get (List.getElem?_eq_getElem hjl)
                            rw [hj] at hu'; cases hu'
                            refine r.one ?_
                            rw [List.all_eq_true] at hone
                            exact hone _ (List.getElem_mem hjl)
                          obtain ⟨cs', r1, r2, r3⟩ := run_stores (P := P) L.block ct fz us (L.off + off + l * i.size) 0 ccs w hb (by rw [husl]; omega) (by rw [hsz]; exact hfz) h1c
                          have hx : Ext m (m.put S.next ⟨L.block, L.off + off, L.size, true⟩) := LM.ext_put _ (hS.freshM _ (Nat.le_refl _))
                          have hmv := hS.moved (i := j) (L := L) hg rfl hL (.cells cs' ct fz) (.cells ((vs.drop off).take (l * i.size) ++ news) true) ⟨L.block, L.off + off, L.size, true⟩ rfl (by
                            refine ⟨by simpa using g0, ?_, fun _ => ?_, fun _ => ⟨rfl, cs', ct, fz, setAt_same w _ _ g0, by simp only; omega, hfz⟩⟩
                            · intro jj v hj
                              show ∃ u, (setAt w L.block (.cells cs' ct fz)).cell? ⟨L.block, L.off + off + jj, none⟩ = some u ∧ _
                              rw [cell_setAt w _ _ ct fz g0, r3]
                              rw [List.getElem?_append] at hj
                              split at hj
                              · rename_i hjl
                                rw [holdl] at hjl
                                rw [List.getElem?_take, if_pos hjl, List.getElem?_drop] at hj
                                obtain ⟨u, hu, r⟩ := gc (off + jj) v hj
                                rw [if_neg (by omega)]
                                refine ⟨u, ?_, VR.mono hx _ _ r⟩
                                rw [← hu]
                                simp [World.cell?, hb, Nat.add_assoc]
                              · rename_i hjl
                                rw [holdl] at hj hjl
                                have hjn : jj - l * i.size < news.length := by
                                  rcases Nat.lt_or_ge (jj - l * i.size) news.length with h' | h'
                                  · exact h'
                                  · simp [List.getElem?_eq_none h'] at hj
                                obtain ⟨u, hu, r⟩ := hus.get hj
                                have := hus.length
                                rw [if_pos (by omega)]
                                refine ⟨u, ?_, VR.mono hx _ _ r⟩
                                rw [← hu]; congr 1; omega
                            · simp only [List.length_append, holdl, hnl]
                              omega)
                          refine .inr ⟨_, .slice (some ⟨L.block, L.off + off, none⟩) (l + n) cap', _, _, _, rfl, hex ?_, hx, hmv, ?_⟩
                          · rw [hxe]
                            exact run_app_room (P := P) (b := some ⟨L.block, L.off + off, none⟩) hs hu hi hlen (hcells w rfl) hcap (by
                              show (storeCells ((⟨L.block, L.off + off, none⟩ : Addr).add (l * i.size)) us).run P w = _
                              rw [addr_add]; exact r1)
                          · simp only [VR]
                            exact ⟨_, _, cap', LM.put_same m _ _, rfl, ⟨Nat.le_refl _, hcap, by simp, fun _ => rfl, fun _ => rfl, fun _ _ => hroom2⟩⟩
                        · obtain ⟨u', w', m', h1, h2, h3, h4⟩ := grow l cap' _ olds _ (S.put j none) (hS.kill j) rfl hxe (hold1 w.drew rfl) hold2 holdl (by omega) (by omega) hfit.1
                          exact .inr ⟨_, u', _, w', m', rfl, h1, h2, h3, h4⟩
                      · exact .inl rfl
                  · exact .inl rfl
                · exact .inl rfl
              · exact .inl rfl
      · exact .inl rfl

end Go.Th
end
