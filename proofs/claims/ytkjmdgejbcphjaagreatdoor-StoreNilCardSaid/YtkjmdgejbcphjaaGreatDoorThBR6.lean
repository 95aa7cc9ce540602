/- What the row of one statement stands on: a store, abstract code, functions of the program and their laws (ThR5, ThR6). -/
import Derived.Test.YtkjmdgejbcphjaaGreatDoorThBR4
import Derived.RangeFuncRecord
import Derived.RangeFuncLeaves

section
/- Ranges over functions: a round is called like a function; the statement; the return of a function that holds one. -/
set_option linter.unusedSimpArgs false
set_option linter.unusedVariables false
namespace Go.Th
open Go.RowKit Go.Lib Go

def putAll (fr : List V) : List Tmp → List V → List V
  | p :: ps, v :: vs => putAll (fr.set p v) ps vs
  | _, _ => fr

theorem putAll_rel {m : LM} : ∀ (ps : List Tmp) (vs : List V) (us : List Value) {fr : List V} {t : Array Value}, VRs m fr t.toList → VRs m vs us →
    VRs m (putAll fr ps vs) ((ps.zip us).foldl (fun t (x : Tmp × Value) => t.setIfInBounds x.1 x.2) t).toList
  | [], vs, us, fr, t, h, hv => by simpa [putAll] using h
  | p :: ps, [], us, fr, t, h, hv => by simp only [VRs] at hv; subst hv; simpa [putAll] using h
  | p :: ps, v :: vs, us, fr, t, h, hv => by
    simp only [VRs] at hv
    obtain ⟨u, us', rfl, h1, h2⟩ := hv
    simp only [putAll, List.zip_cons_cons, List.foldl_cons]
    exact putAll_rel ps vs us' (by rw [Array.toList_setIfInBounds]; exact h.set p h1) h2

theorem Sim.odd {m : LM} {S : St} {base : Nat} {w0 w : World} (h : Sim m S base w0 w) {i l : Nat} {o : Obj} {fr : List V} (hi : S.get i = some (.odd l o fr)) :
    w.heap[l]? = some o ∧ VRs m fr (objTmps o) ∧ ∀ o', (VRs m fr (objTmps o) → VRs m fr (objTmps o')) → Sim m (S.put i (some (.odd l o' fr))) base w0 (w.putObj l o') := by
  obtain ⟨L, h1, h2, h3⟩ := h.blk i _ hi
  have hlt := h2.lt
  obtain ⟨g0, g1, g2, g3, g4⟩ := h2
  rw [g0] at g3 hlt
  refine ⟨g3, g4, fun o' ho => ?_⟩
  have := h.putBlk hi rfl h1 o' (.odd l o' fr) ⟨g0, g1, g2, by rw [setAt_same w _ _ (by rw [g0]; exact hlt)], ho g4⟩
  rw [g0] at this
  exact this

section
variable {P : Program} {ok : Env} (hok : EnvOk P ok)
include hok

theorem CallA.yield {S : St} {il l : Nat} {rec : Loop} {fr : List V} (hi : S.get il = some (.odd l (.loop rec) fr)) (hst : rec.state = .ready) {aa ab : AC} (ha : AC.of P rec.assign = some aa) (hb : AC.of P rec.body = some ab)
    {args : List V} (hn : args.length = rec.params.size) {Q : Post}
    (h : wpA ok (CallA P) (LoopR P (some l) []) aa (fun e fr1 S1 => match e with
      | .normal => S1.get il = some (.odd l (.loop rec) fr) ∧ wpA ok (CallA P) (LoopR P (some l) []) ab (fun e fr2 S2 => match e with
        | .normal => S2.get il = some (.odd l (.loop { rec with state := .busy }) fr) ∧ Q (.ret (.bool true)) (S2.put il (some (.odd l (.loop { rec with state := .ready, pending := none }) fr)))
        | _ => False) fr1 (S1.put il (some (.odd l (.loop { rec with state := .busy }) fr)))
      | _ => False) (putAll fr rec.params.toList args) S) : CallA P (P.funcs.size + l) args S Q := by
  intro m base w0 w args' hS hv
  obtain ⟨hh, hfr, -⟩ := hS.odd hi
  have hsz : args'.size = rec.params.size := by rw [← hn, ← hv.length, Array.length_toList]
  refine CallsX.ofY ⟨rec.fn, _, rec.assign, rec.body, run_yield hh hsz, ?_⟩
  refine roundIn_of_wpIn trivial ?_
  have hf1 : VRs m (putAll fr rec.params.toList args) ((rec.params.zip args').foldl (fun tmps (x : Tmp × Value) => tmps.setIfInBounds x.1 x.2) rec.tmps).toList := by
    have := putAll_rel rec.params.toList args args'.toList (t := rec.tmps) hfr hv
    rw [← Array.foldl_toList, Array.toList_zip]
    exact this
  have hA := wpA_okR (ro := some l) (ds := []) hok rec.assign aa ha _ _ S h m base w0 w ⟨_, []⟩ hS hf1 rfl
  refine wpIn_mono (F := FR (some l)) hA ?_
  rintro e a1 w1 ⟨e', fr1, S1, m1, hq, hx1, hS1, hv1, hd1, hR⟩
  cases e' with
  | normal =>
    cases e <;> simp only [ExR] at hR
    obtain ⟨hi1, hw⟩ := hq
    obtain ⟨hh1, _, hput1⟩ := hS1.odd hi1
    refine ⟨_, run_beginRound hh1 hst, ?_⟩
    have hB := wpA_okR (ro := some l) (ds := []) hok rec.body ab hb _ _ _ hw m1 base w0 _ a1 (hput1 _ (fun h => h)) hv1 hd1
    refine wpIn_mono (F := FR (some l)) hB ?_
    rintro e a2 w2 ⟨e', fr2, S2, m2, hq, hx2, hS2, hv2, hd2, hR⟩
    cases e' with
    | normal =>
      cases e <;> simp only [ExR] at hR
      obtain ⟨hi2, hq⟩ := hq
      obtain ⟨hh2, _, hput2⟩ := hS2.odd hi2
      refine ⟨_, _, run_endRound none hh2, ?_⟩
      refine ⟨_, _, m2, hq, hx1.trans hx2, hput2 _ (fun h => h), ?_⟩
      exact ⟨_, rfl, by simp [VR]⟩
    | exit j => exact hq.elim
    | ret => exact hq.elim
    | panic v => exact hq.elim
  | exit j => exact hq.elim
  | ret => exact hq.elim
  | panic v => exact hq.elim
end

abbrev PostW := List Deferred → PostC
def LiftW (m : LM) (base : Nat) (w0 : World) (Q : PostW) : Exit → Act → World → Prop := fun e a w' =>
  ∃ e' fr' S' m', Q a.defers e' fr' S' ∧ Ext m m' ∧ Sim m' S' base w0 w' ∧ VRs m' fr' a.tmps.toList ∧ ExR m' e' e
def CodeW (P : Program) (c : Code) (Q : PostW) (ds : List Deferred) (fr : List V) (S : St) : Prop :=
  ∀ (m : LM) (base : Nat) (w0 w : World) (a : Act), Sim m S base w0 w → VRs m fr a.tmps.toList → a.defers = ds → c.wpIn (FR none) 0 P (LiftW m base w0 Q) a w

theorem CodeW.of {P : Program} {c : Code} {Q : PostW} {ds : List Deferred} {fr : List V} {S : St} (h : CodeR P none ds c (Q ds) fr S) : CodeW P c Q ds fr S := by
  intro m base w0 w a hS hf hd
  refine wpIn_mono (h m base w0 w a hS hf hd) ?_
  rintro e a w ⟨e', fr', S', m', hq, hx, hS', hf', hd', hR⟩
  exact ⟨e', fr', S', m', by rw [hd']; exact hq, hx, hS', hf', hR⟩

theorem CodeW.seq {P : Program} {x y : Code} {Q : PostW} {ds : List Deferred} {fr : List V} {S : St}
    (h : CodeW P x (fun ds e fr S => match e with | .normal => CodeW P y Q ds fr S | e => Q ds e fr S) ds fr S) : CodeW P (.seq x y) Q ds fr S := by
  intro m base w0 w a hS hf hd
  refine wpIn_seq (wpIn_mono (h m base w0 w a hS hf hd) ?_)
  rintro e a' w' ⟨e', fr', S', m', hq, hx, hS', hf', hR⟩
  cases e' with
  | normal =>
    cases e <;> simp only [ExR] at hR
    refine wpIn_mono (hq m' base w0 w' a' hS' hf' rfl) ?_
    rintro e a w ⟨e', fr', S', m', hq, hx', hS', hf', hR⟩
    exact ⟨e', fr', S', m', hq, hx.trans hx', hS', hf', hR⟩
  | exit j =>
    cases e <;> simp only [ExR] at hR
    exact ⟨.exit j, fr', S', m', hq, hx, hS', hf', hR⟩
  | ret =>
    cases e <;> simp only [ExR] at hR
    exact ⟨.ret, fr', S', m', hq, hx, hS', hf', trivial⟩
  | panic v =>
    cases e <;> simp only [ExR] at hR
    exact ⟨.panic v, fr', S', m', hq, hx, hS', hf', hR⟩

theorem CodeW.block {P : Program} {id : Nat} {c : Code} {Q : PostW} {ds : List Deferred} {fr : List V} {S : St}
    (h : CodeW P c (fun ds e fr S => match e with | .exit _ => False | e => Q ds e fr S) ds fr S) : CodeW P (.block id c) Q ds fr S := by
  intro m base w0 w a hS hf hd
  refine wpIn_block (wpIn_mono (h m base w0 w a hS hf hd) ?_)
  rintro e a' w' ⟨e', fr', S', m', hq, hx, hS', hf', hR⟩
  cases e' with
  | normal =>
    cases e <;> simp only [ExR] at hR
    exact ⟨.normal, fr', S', m', hq, hx, hS', hf', trivial⟩
  | exit j => exact hq.elim
  | ret =>
    cases e <;> simp only [ExR] at hR
    exact ⟨.ret, fr', S', m', hq, hx, hS', hf', trivial⟩
  | panic v =>
    cases e <;> simp only [ExR] at hR
    exact ⟨.panic v, fr', S', m', hq, hx, hS', hf', hR⟩

theorem CodeW.range {P : Program} {g : Operand} {ps : Array Tmp} {assign body : Code} {ag : AX} (hg : AX.of g = some ag) {Q : PostW} {ds : List Deferred} {fr : List V} {S : St} {gf : FuncId} {cs : List V}
    (hev : ag.ev fr = .func (.func gf) [] cs) (hcan : canEnter P gf = true)
    (h : ∀ (l D : Nat) (rec : Loop), rec.state = .ready → rec.pending = none → rec.params = ps → rec.assign = assign → rec.body = body →
      CallA P gf (.func (.yield l) [] [] :: cs) ((S.new (.odd D (.deferred (some [])) [])).new (.odd l (.loop rec) fr)) (fun r S' => match r with
        | .ret _ => S'.get (S.next + 1) = some (.odd l (.loop rec) fr) ∧ Q ({ target := .collected D, args := #[] } :: ds) .normal fr (S'.put (S.next + 1) (some (.odd l (.loop { rec with state := .exhausted }) fr)))
        | .panic _ => False)) : CodeW P (.rangeFunc g ps assign body) Q ds fr S := by
  intro m base w0 w a hS hf hd
  refine wpIn_rangeFunc ?_
  intro fn hfn
  have rx := AX.of_rel hg hf
  rw [hev] at rx
  obtain ⟨fs', cs', hu, h1, h2⟩ := rx.func_inv
  have e1 : fs' = #[] := by simp only [VRs] at h1; simpa using h1
  subst e1
  obtain ⟨rec, hrec⟩ : ∃ rec : Loop, rec = { state := .ready, pending := none, fn, tmps := a.tmps, params := ps, assign, body, defers := w.heap.size } := ⟨_, rfl⟩
  have s1 := hS.newBlk (.deferred (some [])) (.odd w.heap.size (.deferred (some [])) []) ⟨w.heap.size, 0, 0, true⟩ rfl
    ⟨rfl, rfl, rfl, by have := World.alloc_heap_new w (.deferred (some [])); exact this, rfl⟩
  have x1 : Ext m (m.put S.next ⟨w.heap.size, 0, 0, true⟩) := LM.ext_put _ (hS.freshM _ (Nat.le_refl _))
  have s2 := s1.newBlk (.loop rec) (.odd (w.heap.size + 1) (.loop rec) fr) ⟨w.heap.size + 1, 0, 0, true⟩ (by simp)
    ⟨rfl, rfl, rfl, by have := World.alloc_heap_new (w.alloc (.deferred (some []))) (.loop rec); rw [World.size_alloc] at this; exact this, by
      show VRs _ fr rec.tmps.toList
      rw [hrec]
      exact (hf.mono x1).mono (LM.ext_put _ (s1.freshM _ (Nat.le_refl _)))⟩
  have x2 := LM.ext_put (m := m.put S.next ⟨w.heap.size, 0, 0, true⟩) (i := (S.new (.odd w.heap.size (.deferred (some [])) [])).next) ⟨w.heap.size + 1, 0, 0, true⟩ (s1.freshM _ (Nat.le_refl _))
  have hcall := h (w.heap.size + 1) w.heap.size rec (by rw [hrec]) (by rw [hrec]) (by rw [hrec]) (by rw [hrec]) (by rw [hrec]) _ base w0 _ (#[.func (.yield (w.heap.size + 1)) #[] #[]] ++ cs') s2 (by
    simp only [Array.toList_append, List.cons_append, List.nil_append]
    simp only [VRs]
    refine ⟨_, _, rfl, ?_, (h2.mono x1).mono x2⟩
    simp [VR, VRs])
  refine ⟨w.heap.size + 1, [{ target := .collected w.heap.size, args := #[] }], (w.alloc (.deferred (some []))).alloc (.loop rec), { target := .fn (.func gf) cs', args := #[.func (.yield (w.heap.size + 1)) #[] #[]] }, (w.alloc (.deferred (some []))).alloc (.loop rec), gf,
    #[.func (.yield (w.heap.size + 1)) #[] #[]] ++ cs', (w.alloc (.deferred (some []))).alloc (.loop rec), by rw [hrec]; exact run_enterLoop_outer _ _ _ _ _, ?_, ?_, ?_, fun h => (by cases h), ?_⟩
  · simp only [resolve, hu]
    simp [go_sem, Deferred.ofValue]
  · intro f' hf'; trivial
  · simp [invoke, run_callFunc hcan]
  · refine CallsIn.mono (F := FR none) (callsIn_FR.2 (hcall.1 (canEnter_lt hcan))) ?_
    rintro e w' ⟨r, S', m', hq, hx', hS', hR⟩
    cases r with
    | panic v => exact hq.elim
    | ret v =>
      obtain ⟨u, rfl, hv⟩ := hR
      obtain ⟨hl, hq⟩ := hq
      obtain ⟨hh, _, hput⟩ := hS'.odd hl
      refine ⟨none, w'.putObj (w.heap.size + 1) (.loop { rec with state := .exhausted }), ?_, ?_⟩
      · have := run_endLoop (P := P) hh (by rw [hrec]; simp)
        rw [hrec] at this ⊢
        exact this
      · have hk := hput (.loop { rec with state := .exhausted }) (fun h => h)
        refine ⟨.normal, fr, _, m', ?_, x1.trans (x2.trans hx'), hk, ((hf.mono x1).mono x2).mono hx', trivial⟩
        rw [hd]
        exact hq

def leaveD : List Deferred → St → (St → Prop) → Prop
  | [], S, K => K S
  | d :: ds, S, K => ∃ D i, d = { target := .collected D, args := #[] } ∧ S.get i = some (.odd D (.deferred (some [])) []) ∧ leaveD ds (S.put i (some (.odd D (.deferred none) []))) K

def endW (rs : List ARes) (Q : Post) : PostW := fun ds e fr S => match e with
  | .ret | .normal => leaveD ds S fun S' => match ARes.gets fr S' rs with | some vs => Q (.ret (tupled vs)) S' | none => False
  | _ => False

theorem leaveD_ok {P : Program} {fn : Func} {tmps : Array Value} {R : Ending → World → Prop} {m : LM} {base : Nat} {w0 : World} {K : St → Prop}
    (hK : ∀ S w, K S → Sim m S base w0 w → ∃ v, (results fn tmps).run P w = .ok v w ∧ R (.returned v) w) :
    ∀ (ds : List Deferred) (S : St) (w : World), leaveD ds S K → Sim m S base w0 w → LeavesInM (FR none) 0 P fn tmps R ds .returning w
  | [], S, w, h, hS => hK S w h hS
  | d :: ds, S, w, h, hS => by
    obtain ⟨D, i, rfl, hi, h⟩ := h
    obtain ⟨hh, _, hput⟩ := hS.odd hi
    exact ⟨by simp, .inl ⟨D, _, rfl, run_takeDeferred hh, leaveD_ok hK ds _ _ h (hput (.deferred none) (fun h => h))⟩⟩

theorem fin_ok {P : Program} {fn : Func} {rs : List ARes} (hrs : ARes.ofs P fn.results.toList = some rs) {m m' : LM} {S' : St} {base : Nat} {w0 w' : World} {fr' : List V} {tmps : Array Value} {Q : Post}
    (hS' : Sim m' S' base w0 w') (hf' : VRs m' fr' tmps.toList) (hx : Ext m m')
    (hq : match ARes.gets fr' S' rs with | some vs => Q (.ret (tupled vs)) S' | none => False) :
    ∃ v, (results fn tmps).run P w' = .ok v w' ∧ ∃ r S'' m'', Q r S'' ∧ Ext m m'' ∧ Sim m'' S'' base w0 w' ∧ ResR m'' r (.returned v) := by
  split at hq
  · rename_i vs hvs
    obtain ⟨us, h1, h2⟩ := run_results (P := P) hS' hf' fn.results.toList rs vs hrs hvs
    have hlen := h2.length
    have hrun : (results fn tmps).run P w' = .ok (if h : us.toArray.size = 1 then us.toArray[0] else .tuple us.toArray) w' := by
      rw [results_eq, Sem.run_bind, Array.mapM_eq_mapM_toList, Sem.run_map, h1]
      rfl
    refine ⟨_, hrun, .ret (tupled vs), S', m', hq, hx, hS', _, rfl, ?_⟩
    match vs, us, h2, hlen with
    | [], [], h2, _ => simp only [tupled, VR]; exact ⟨#[], by simp, by simp [VRs]⟩
    | [v], [u], h2, _ =>
      simp only [VRs] at h2
      obtain ⟨u', us', he, h3, _⟩ := h2
      cases he
      simpa [tupled] using h3
    | v :: v2 :: vs, u :: u2 :: us, h2, _ =>
      simp only [tupled, VR]
      exact ⟨(u :: u2 :: us).toArray, by simp, by simpa using h2⟩
  · exact hq.elim

theorem CallA.of_bodyW {P : Program} {f : FuncId} {fn : Func} {c : Code} {rs : List ARes} (hfn : P.funcs[f]? = some fn) (hb : fn.body = some c) (hrs : ARes.ofs P fn.results.toList = some rs) {args : List V} {S : St} {Q : Post}
    (h : CodeW P c (endW rs Q) [] (args ++ List.replicate (fn.ntmps - args.length) .undef) S) : CallA P f args S Q := by
  intro m base w0 w args' hS hv
  have hl := hv.length
  rw [Array.length_toList] at hl
  refine CallsX.of (Array.getElem?_eq_some_iff.1 hfn).1 ((callsIn_FR (ro := none) (n := 0)).1 (callsIn_of_wp_marks hfn hb trivial ?_))
  have hfr : VRs m (args ++ List.replicate (fn.ntmps - args.length) .undef) (args' ++ Array.replicate (fn.ntmps - args'.size) Go.undef).toList := by
    rw [Array.toList_append, Array.toList_replicate, hl]
    exact hv.append (VRs.replicate (VR.undef m) _)
  refine wpIn_mono (h m base w0 w ⟨args' ++ Array.replicate (fn.ntmps - args'.size) Go.undef, []⟩ hS hfr rfl) ?_
  rintro e a w' ⟨e', fr', S', m', hq, hx, hS', hf', hR⟩
  cases e' with
  | normal =>
    cases e <;> simp only [ExR] at hR
    exact leaveD_ok (fun S w hk hS => fin_ok hrs hS hf' hx hk) _ _ _ hq hS'
  | ret =>
    cases e <;> simp only [ExR] at hR
    exact leaveD_ok (fun S w hk hS => fin_ok hrs hS hf' hx hk) _ _ _ hq hS'
  | panic v => exact hq.elim
  | exit j => exact hq.elim

end Go.Th
end

section
/- Functions that hold a range over a function, read as abstract code. -/
set_option linter.unusedSimpArgs false
set_option linter.unusedVariables false
namespace Go.Th
open Go.RowKit Go.Lib Go

inductive RC where
  | ac (a : AC)
  | seq (a b : RC)
  | block (id : Nat) (a : RC)
  | range (g : AX) (ps : List Tmp) (assign body : AC)

def RC.of (P : Program) : Code → Option RC
  | .seq a b => match AC.of P (.seq a b) with
    | some x => some (.ac x)
    | none => obind (RC.of P a) fun a => obind (RC.of P b) fun b => some (.seq a b)
  | .block id a => match AC.of P (.block id a) with
    | some x => some (.ac x)
    | none => obind (RC.of P a) fun a => some (.block id a)
  | .rangeFunc g ps assign body => obind (AX.of g) fun g => obind (AC.of P assign) fun a => obind (AC.of P body) fun b => some (.range g ps.toList a b)
  | c => obind (AC.of P c) fun a => some (.ac a)

def wpR (P : Program) (ok : Env) : RC → PostW → List Deferred → List V → St → Prop
  | .ac a, Q, ds, fr, S => wpA ok (CallA P) (LoopR P none ds) a (Q ds) fr S
  | .seq a b, Q, ds, fr, S => wpR P ok a (fun ds e fr S => match e with | .normal => wpR P ok b Q ds fr S | e => Q ds e fr S) ds fr S
  | .block id a, Q, ds, fr, S => wpR P ok a (fun ds e fr S => match e with | .exit _ => False | e => Q ds e fr S) ds fr S
  | .range g ps aa ab, Q, ds, fr, S => ∃ gf cs, g.ev fr = .func (.func gf) [] cs ∧ canEnter P gf = true ∧
      ∀ (l D : Nat) (rec : Loop), rec.state = .ready → rec.pending = none → rec.params.toList = ps → AC.of P rec.assign = some aa → AC.of P rec.body = some ab →
        CallA P gf (.func (.yield l) [] [] :: cs) ((S.new (.odd D (.deferred (some [])) [])).new (.odd l (.loop rec) fr)) (fun r S' => match r with
          | .ret _ => S'.get (S.next + 1) = some (.odd l (.loop rec) fr) ∧ Q ({ target := .collected D, args := #[] } :: ds) .normal fr (S'.put (S.next + 1) (some (.odd l (.loop { rec with state := .exhausted }) fr)))
          | .panic _ => False)

theorem CodeW.mono {P : Program} {c : Code} {Q Q' : PostW} {ds : List Deferred} {fr : List V} {S : St} (h : CodeW P c Q ds fr S) (hq : ∀ ds e fr S, Q ds e fr S → Q' ds e fr S) : CodeW P c Q' ds fr S := by
  intro m base w0 w a hS hf hd
  refine wpIn_mono (h m base w0 w a hS hf hd) ?_
  rintro e a w ⟨e', fr', S', m', h1, h2⟩
  exact ⟨e', fr', S', m', hq _ _ _ _ h1, h2⟩

theorem wpR_ok {P : Program} {ok : Env} (hok : EnvOk P ok) : ∀ (c : Code) (r : RC), RC.of P c = some r → ∀ (Q : PostW) (ds : List Deferred) (fr : List V) (S : St), wpR P ok r Q ds fr S → CodeW P c Q ds fr S := by
  have acs : ∀ (c : Code) (a : AC), AC.of P c = some a → ∀ (Q : PostW) (ds : List Deferred) (fr : List V) (S : St), wpR P ok (.ac a) Q ds fr S → CodeW P c Q ds fr S :=
    fun c a h Q ds fr S hw => CodeW.of (wpA_okR hok c a h (Q ds) fr S hw)
  intro c
  induction c with
  | seq x y ihx ihy =>
    intro r h Q ds fr S hw
    unfold RC.of at h
    split at h
    · rename_i a ha
      cases h
      exact acs _ a ha Q ds fr S hw
    · obtain ⟨rx, h1, h⟩ := obind_some h
      obtain ⟨ry, h2, h⟩ := obind_some h
      cases h
      refine CodeW.seq ((ihx rx h1 _ ds fr S hw).mono ?_)
      intro ds e fr S hq
      cases e with
      | normal => exact ihy ry h2 Q ds fr S hq
      | exit j => exact hq
      | ret => exact hq
      | panic v => exact hq
  | block id x ih =>
    intro r h Q ds fr S hw
    unfold RC.of at h
    split at h
    · rename_i a ha
      cases h
      exact acs _ a ha Q ds fr S hw
    · obtain ⟨rx, h1, h⟩ := obind_some h
      cases h
      exact CodeW.block (ih rx h1 _ ds fr S hw)
  | rangeFunc g ps assign body iha ihb =>
    intro r h Q ds fr S hw
    unfold RC.of at h
    obtain ⟨ag, h0, h⟩ := obind_some h
    obtain ⟨aa, h1, h⟩ := obind_some h
    obtain ⟨ab, h2, h⟩ := obind_some h
    cases h
    obtain ⟨gf, cs, hev, hcan, hc⟩ := hw
    refine CodeW.range h0 hev hcan fun l D rec e1 e2 e3 e4 e5 => ?_
    exact hc l D rec e1 e2 (by rw [e3]) (by rw [e4]; exact h1) (by rw [e5]; exact h2)
  | _ =>
    intro r h Q ds fr S hw
    unfold RC.of at h
    obtain ⟨a, ha, h⟩ := obind_some h
    cases h
    exact acs _ a ha Q ds fr S hw

theorem endW_ret (rs : List ARes) (Q : Post) (ds : List Deferred) (fr : List V) (S : St) : endW rs Q ds .ret fr S = leaveD ds S fun S' => ifSome (ARes.gets fr S' rs) (fun vs => Q (.ret (tupled vs)) S') ⟨⟩ := by
  simp only [endW, ifSome]
  congr 1; funext S'; cases ARes.gets fr S' rs <;> rfl
theorem leaveD_nil (S : St) (K : St → Prop) : leaveD [] S K = K S := rfl

def rfun (P : Program) (f : Nat) : Option (Nat × List ARes × RC) := obind P.funcs[f]? fun fn => obind fn.body fun c => obind (ARes.ofs P fn.results.toList) fun rs => obind (RC.of P c) fun r => some (fn.ntmps, rs, r)

theorem CallA.of_R {P : Program} {ok : Env} (hok : EnvOk P ok) {f nt : Nat} {rs : List ARes} {r : RC} (hF : rfun P f = some (nt, rs, r)) {args : List V} {S : St} {Q : Post}
    (h : wpR P ok r (endW rs Q) [] (args ++ List.replicate (nt - args.length) .undef) S) : CallA P f args S Q := by
  obtain ⟨fn, h1, hF⟩ := obind_some hF
  obtain ⟨c, h2, hF⟩ := obind_some hF
  obtain ⟨rs', h3, hF⟩ := obind_some hF
  obtain ⟨r', h4, hF⟩ := obind_some hF
  cases hF
  exact CallA.of_bodyW h1 h2 h3 (wpR_ok hok c r h4 _ _ _ _ h)

theorem CallA.round {P : Program} {ok : Env} (hok : EnvOk P ok) {S : St} {il l : Nat} {rec : Loop} {fr : List V} (hi : S.get il = some (.odd l (.loop rec) fr)) (hst : rec.state = .ready) {ps : List Tmp} (hps : rec.params.toList = ps) {aa ab : AC} (ha : AC.of P rec.assign = some aa) (hb : AC.of P rec.body = some ab)
    {args : List V} (hn : args.length = ps.length) {Q : Post}
    (h : wpA ok (CallA P) (LoopR P (some l) []) aa (fun e fr1 S1 => match e with
      | .normal => S1.get il = some (.odd l (.loop rec) fr) ∧ wpA ok (CallA P) (LoopR P (some l) []) ab (fun e fr2 S2 => match e with
        | .normal => S2.get il = some (.odd l (.loop { rec with state := .busy }) fr) ∧ Q (.ret (.bool true)) (S2.put il (some (.odd l (.loop { rec with state := .ready, pending := none }) fr)))
        | _ => False) fr1 (S1.put il (some (.odd l (.loop { rec with state := .busy }) fr)))
      | _ => False) (putAll fr ps args) S) : CallA P (P.funcs.size + l) args S Q :=
  CallA.yield hok hi hst ha hb (by rw [hn, ← hps, Array.length_toList]) (by rw [hps]; exact h)

end Go.Th
end
