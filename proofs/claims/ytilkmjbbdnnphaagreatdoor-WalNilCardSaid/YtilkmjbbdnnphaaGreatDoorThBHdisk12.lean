/- What the row of one statement stands on: a store, abstract code, functions of the program and their laws (ThHdisk6, ThHdisk7, ThHdisk8, ThHdisk9, ThHdisk10, ThHdisk11, ThHdisk12). -/
import Derived.Test.YtilkmjbbdnnphaaGreatDoorThBHdisk5
import Derived.Test.YtilkmjbbdnnphaaGreatDoorThBR6
import Derived.Test.YtilkmjbbdnnphaaGreatDoorThBGref17

section
/- The names of a disk, in order: slices.Sorted(maps.Keys(names)). -/
set_option linter.unusedSimpArgs false
set_option linter.unusedVariables false
set_option maxHeartbeats 1000000
namespace Go.Th.L
open Go Go.Th Go.Th.Pure
variable {P : Program} {N : Nat → Nat}

def strE (l : List Nm) : List (List V) := l.map fun n => [V.str n]
def strsV (l : List Nm) : List V := l.map V.str
theorem strE_flat (l : List Nm) : (strE l).flatten = strsV l := by
  induction l with
  | nil => rfl
  | cons a l ih => simp only [strE, strsV, List.map_cons, List.flatten_cons] at ih ⊢; rw [ih]; rfl
theorem strE_len (l : List Nm) : (strE l).length = l.length := by simp [strE]
theorem strsV_ones (l : List Nm) : (strsV l).all V.one = true := by simp [strsV, V.one]

theorem maps_Keys_1.spec (hF : maps_Keys_disk_names_1.Ok P N) {J : List Nm → St → Prop} {l i mi jj : Nat} {fb : Nat → Nat} {ns : List (Nm × Nat)} {own : Bool} {S : St} (hw : S.Wf) (hi : S.get i = some (.cells [.map mi] true)) (hm : NamesAt S mi (entG fb ns) own) (hjj : jj = S.next)
    (hg : ∀ pre S1 S2, J pre S1 → Upd [mi, jj] S1 S2 → J pre S2) (hjw : ∀ pre S1, J pre S1 → S1.Wf)
    (hy : ∀ pre x S1 (K : Bool → St → Prop), J pre S1 → pre.length < ns.length → jj < S1.next → (∀ S2, J (pre ++ [x]) S2 → Upd [] S2 S2 → S2.get mi = S1.get mi → S2.get jj = S1.get jj → S1.next ≤ S2.next → K true S2) → CallA P (P.funcs.size + l) [.str x] S1 (retT [.one .bool] K))
    (h0 : J [] S) {K : St → Prop} (hk : ∀ xs S', xs.Perm (ns.map (·.1)) → J xs S' → S'.get mi = S.get mi → K S') : CallA P (N Fn.maps_Keys_disk_names_1) [.func (.yield l) [] [], .ptr i 0] S (retT [] K) := by
  subst hjj
  have hml := hm.lt hw
  refine maps_Keys_disk_names_1.run hF (ifS_mk (ld hi rfl) (rangeN_mk hw hm fun ls S2 hp hg0 rg2 u2 n2 => ?_))
  have hJ2 : J [] S2 := hg _ _ _ h0 (u2.mono (by simp))
  refine Loop0.ind (fun m S' => ∃ lf done : List (Nm × Nat), lf.length = m ∧ (done ++ lf).Perm ns ∧ Rng S' mi S.next (entT fb ls) own (entT fb lf) ∧ J (done.map (·.1)) S' ∧ S.next < S'.next) ls.length ⟨ls, [], rfl, by simpa using hp, rg2, hJ2, by omega⟩ ?_
  rintro m S3 ⟨lf, done, hm3, hpm, rg, hJ, hlt⟩
  refine nextN_mk (hjw _ _ hJ) rg (fun a p b S4 e rg4 en u4 n4 => ?_) (fun S4 e g4 u4 n4 => ?_)
  · subst e
    have hJ4 := hg _ _ _ hJ (u4.mono (by simp))
    have hlen : done.length < ns.length := by
      rw [← hpm.length_eq]; simp; omega
    refine ⟨true, rfl, ifC_tt rfl (ifS_mk en ⟨p.1, rfl, ifS_mk (a := (P.funcs.size + l, [V.str p.1])) rfl (hy _ p.1 S4 _ hJ4 (by simpa using hlen) (by omega) fun S5 hJ5 _ e1 e2 hle => ifC_ff rfl ?_)⟩)⟩
    refine ⟨m - 1, ?_, a ++ b, done ++ [p], ?_, ?_, ?_, by simpa using hJ5, by omega⟩
    · simp only [List.length_append, List.length_cons] at hm3; omega
    · simp only [List.length_append, List.length_cons] at hm3 ⊢; omega
    · refine List.Perm.trans ?_ hpm
      rw [List.append_assoc, List.singleton_append]
      exact List.Perm.append_left _ List.perm_middle.symm
    · obtain ⟨bs, c, seen, q1, q2, q3, q4, q5⟩ := rg4.ex
      exact ⟨bs, c, seen, q1, q2, by rw [e1]; exact q3, by rw [e2]; exact q4, q5⟩
  · subst e
    refine ⟨false, rfl, ifC_ff rfl (hk (done.map (·.1)) S4 ?_ (hg _ _ _ hJ (u4.mono (by simp))) (by rw [g4, hg0]))⟩
    rw [List.append_nil] at hpm
    exact hpm.map _

def seq_start : AC := .region [⟨(.some 2), .none, (.box (.tmp 0))⟩, ⟨(.some 4), .none, (.move (.con .nilSlice))⟩]
def seq_seq : AC := .region [⟨(.some 6), .none, (.move (.tmp 1))⟩]
def seq_set : AC := .region [⟨(.some 5), .none, (.move (.tmp 7))⟩]
def seq_body : AC := .block 1 (.region [⟨(.some 8), .none, (.load1 (.tmp 2))⟩, ⟨(.some 9), .none, (.move (.tmp 5))⟩, ⟨(.some 10), .none, (.buildSlice 1 1 [(.str [])] [(0, (1, (.tmp 9)))])⟩, ⟨(.some 11), .none, (.app 1 16 (.tmp 8) (.tmp 10))⟩, ⟨.none, .none, (.store 1 (.tmp 2) (.tmp 11))⟩])
def seq_end : AC := .seq (.region [⟨(.some 12), .none, (.load1 (.tmp 2))⟩, ⟨(.some 4), .none, (.move (.tmp 12))⟩]) .ret
def appendSeq_R : RC := .seq (.ac seq_start) (.seq (.seq (.ac seq_seq) (.block 0 (.range (.tmp 6) [7] seq_set seq_body))) (.ac seq_end))
def slices_AppendSeq.Ok (P : Program) (f : Nat) : Prop := rfun P f = some (13, [.tmp 4], appendSeq_R)

theorem ifSome_ifS' {α : Type} (o : Option α) (k : α → Prop) (t : Tag k) : ifSome o k t = ifS o k := by cases o <;> rfl
theorem new_facts' {S : St} (hw : S.Wf) (b : Blk) : ∃ S', Grow S S' ∧ S'.get S.next = some b ∧ S'.next = S.next + 1 ∧ S.new b = S' := ⟨_, (Upd.refl hw _).new b, by simp, rfl, rfl⟩

theorem slices_AppendSeq.spec (hF : slices_AppendSeq.Ok P (N Fn.slices_AppendSeq_Lstring)) (hK1 : maps_Keys_disk_names_1.Ok P N) (hcan : canEnter P (N Fn.maps_Keys_disk_names_1) = true) {i mi : Nat} {fb : Nat → Nat} {ns : List (Nm × Nat)} {own : Bool} {S : St} (hw : S.Wf) (hi : S.get i = some (.cells [.map mi] true)) (hm : NamesAt S mi (entG fb ns) own) (hns : ns.length ≤ 1000000) {K : V → St → Prop}
    (hk : ∀ v xs S', xs.Perm (ns.map (·.1)) → Built S S' 1 v (strE xs) → K v S') :
    CallA P (N Fn.slices_AppendSeq_Lstring) [.nilSlice, .func (.func (N Fn.maps_Keys_disk_names_1)) [] [.ptr i 0]] S (retT [.one .any] K) := by
  refine CallA.of_R (envP_ok P) hF ?_
  simp only [appendSeq_R, wpR]
  simp only [go_sem, seq_start]
  obtain ⟨S2, g2, m2, n2, e2⟩ := new_facts' hw (Blk.cells [V.nilSlice] true)
  rw [e2]
  simp only [go_sem, seq_seq]
  generalize hfr0 : [V.nilSlice, V.func (Fn.func (N Fn.maps_Keys_disk_names_1)) [] [V.ptr i 0], V.ptr S.next 0, V.undef, V.nilSlice, V.undef, V.func (Fn.func (N Fn.maps_Keys_disk_names_1)) [] [V.ptr i 0],
    V.undef, V.undef, V.undef, V.undef, V.undef, V.undef] = fr0
  refine ⟨N Fn.maps_Keys_disk_names_1, _, rfl, hcan, fun l D rec e1 e2' e3 e4 e5 => ?_⟩
  obtain ⟨S5, g5, m5, n5, e5a⟩ := new_facts' g2.wf (Blk.odd D (Obj.deferred (some [])) [])
  obtain ⟨S6, g6, m6, n6, e6a⟩ := new_facts' g5.wf (Blk.odd l (Obj.loop rec) fr0)
  rw [e5a, e6a]
  have hil0 : S2.next + 1 = S.next + 2 := by omega
  have hid0 : S2.next = S.next + 1 := n2
  have hn6 : S6.next = S.next + 3 := by omega
  rw [n5, hid0] at m6
  rw [hid0] at m5
  rw [hil0]
  have mD6 : S6.get (S.next + 1) = some (Blk.odd D (Obj.deferred (some [])) []) := g6.get m5
  have mb6 : S6.get S.next = some (Blk.cells [V.nilSlice] true) := g6.get (g5.get m2)
  have g06 : Grow S S6 := g2.trans (g5.trans g6)
  have hil := hw.lt hi
  have hml := hm.lt hw
  have hbx : S.next ≤ S6.next := by omega
  let J : List Nm → St → Prop := fun pre S' => S'.Wf ∧ S6.next ≤ S'.next ∧ S'.get (S.next + 1) = some (Blk.odd D (Obj.deferred (some [])) []) ∧ S'.get (S.next + 2) = some (Blk.odd l (Obj.loop rec) fr0) ∧
    (∃ v, S'.get S.next = some (.cells [v] true) ∧ Acc S' (S6.next + 1) 1 v pre.length (strsV pre)) ∧ ∀ j, j < S.next → j ≠ mi → S'.get j = S.get j
  have hJ0 : J [] S6 := ⟨g06.wf, Nat.le_refl _, mD6, m6, ⟨_, mb6, Acc.nil _ _ _⟩, fun j hj _ => g06.keep j hj (by simp)⟩
  have hnn : ∀ S' : St, NamesAt S6 mi (entG fb ns) own := fun _ => hm.upd g06 (by simp)
  refine CallA.mono (maps_Keys_1.spec (J := J) (l := l) (i := i) (mi := mi) (jj := S6.next) (ns := ns) (fb := fb) (own := own) (K := fun S' => ∃ xs, xs.Perm (ns.map (·.1)) ∧ J xs S' ∧ S'.get mi = S6.get mi) hK1 g06.wf (g06.get hi) (hnn S6) rfl ?_ (fun pre S1 h => h.1) ?_ hJ0 (fun xs S' h1 h2 h3 => ⟨xs, h1, h2, h3⟩)) ?_
  · rintro pre S1 S2' ⟨w1, hle, hD1, hl1, ⟨v, hv, ha⟩, hfr⟩ u
    refine ⟨u.wf, Nat.le_trans hle u.le, u.get hD1 ?_, u.get hl1 ?_, ⟨v, u.get hv ?_, ha.upd u fun j hj => ?_⟩, fun j hj hne => ?_⟩
    · simp only [List.mem_cons, List.not_mem_nil, or_false]; omega
    · simp only [List.mem_cons, List.not_mem_nil, or_false]; omega
    · simp only [List.mem_cons, List.not_mem_nil, or_false]; omega
    · have := (ha.own j hj).1
      simp only [List.mem_cons, List.not_mem_nil, or_false]; omega
    · rw [u.keep j (by omega) (by simp only [List.mem_cons, List.not_mem_nil, or_false]; omega)]; exact hfr j hj hne
  · rintro pre x S7 K' ⟨w7, hle, hD1, hl1, ⟨v, hv, ha⟩, hfr⟩ hlen hjj hK
    refine CallA.round (envP_ok P) hl1 e1 e3 e4 e5 rfl ?_
    simp only [seq_set, seq_body, putAll, wpA_region, wpA_block, runIs_move, letV_eq, put_some, runIs_nil]
    refine ⟨hl1, ?_⟩
    have u9 : Upd [S.next + 2] S7 (S7.put (S.next + 2) (some (Blk.odd l (Obj.loop { rec with state := .busy }) fr0))) := (Upd.refl w7 [S.next + 2]).put (by omega) (.inr (by simp)) _
    generalize hS9 : S7.put (S.next + 2) (some (Blk.odd l (Obj.loop { rec with state := .busy }) fr0)) = S9 at u9
    have hil9 : S9.get (S.next + 2) = some (Blk.odd l (Obj.loop { rec with state := .busy }) fr0) := by rw [← hS9]; simp
    have n9 : S9.next = S7.next := by rw [← hS9]; rfl
    have hv9 : S9.get S.next = some (.cells [v] true) := u9.get hv (by simp)
    have ha9 := ha.upd u9 fun j hj => by
      have := (ha.own j hj).1
      simp only [List.mem_singleton]; omega
    have hx2 : AX.ev ((fr0.set 7 (V.str x)).set 5 (AX.ev (fr0.set 7 (V.str x)) (AX.tmp 7))) (AX.tmp 2) = V.ptr S.next 0 := by rw [← hfr0]; rfl
    simp only [runIs_load1, hx2, ifSome_ifS']
    refine ifS_mk (ld hv9 rfl) ?_
    simp only [runIs_move, letV_eq, put_some, runIs_buildSlice]
    have hx9 : AX.ev ((((fr0.set 7 (V.str x)).set 5 (AX.ev (fr0.set 7 (V.str x)) (AX.tmp 7))).set 8 v).set 9 (AX.ev (((fr0.set 7 (V.str x)).set 5 (AX.ev (fr0.set 7 (V.str x)) (AX.tmp 7))).set 8 v) (AX.tmp 5))) (AX.tmp 9) = V.str x := by rw [← hfr0]; rfl
    generalize hfr1 : ((((fr0.set 7 (V.str x)).set 5 (AX.ev (fr0.set 7 (V.str x)) (AX.tmp 7))).set 8 v).set 9 (AX.ev (((fr0.set 7 (V.str x)).set 5 (AX.ev (fr0.set 7 (V.str x)) (AX.tmp 7))).set 8 v) (AX.tmp 5))) = fr1 at hx9
    have hx8 : AX.ev (put fr1 (some 10) (V.slice S9.next 0 1 1 1 true)) (AX.tmp 8) = v := by rw [← hfr1, ← hfr0]; rfl
    have hx10 : AX.ev (put fr1 (some 10) (V.slice S9.next 0 1 1 1 true)) (AX.tmp 10) = V.slice S9.next 0 1 1 1 true := by rw [← hfr1, ← hfr0]; rfl
    simp only [List.map_cons, List.map_nil, hx9, ifSome_ifS']
    refine ifS_mk (a := [V.str x]) rfl ?_
    simp only [runIs_app, hx8, hx10, ifSome_ifS']
    obtain ⟨Sa, ga, ma, na, ea⟩ := new_facts' u9.wf (Blk.cells [V.str x] true)
    rw [ea]
    have hs : srcV 1 Sa (.slice S9.next 0 1 1 1 true) = some (1, [V.str x]) := by
      simp only [srcV, if_true]
      rw [St.loads_of ma (by simp)]; rfl
    obtain ⟨v', Sb, eb, ab, ub, tb⟩ := (ha9.grow ga).app ga.wf (by omega) hs rfl rfl (bytes := 16) (by omega) (by omega)
    refine ifS_mk (a := (v', Sb)) eb ?_
    have hx11 : ∀ w : V, AX.ev (put (put fr1 (some 10) (V.slice S9.next 0 1 1 1 true)) (some 11) w) (AX.tmp 11) = w := fun w => by rw [← hfr1, ← hfr0]; rfl
    have hx2' : ∀ w : V, AX.ev (put (put fr1 (some 10) (V.slice S9.next 0 1 1 1 true)) (some 11) w) (AX.tmp 2) = V.ptr S.next 0 := fun w => by rw [← hfr1, ← hfr0]; rfl
    simp only [runIs_store, hx11, hx2', ifSome_ifS']
    have hvb : ∀ j ∈ v.block, S6.next + 1 ≤ j := fun j hj => (ha.own j hj).1
    have hvb' : ∀ j ∈ v'.block, S6.next + 1 ≤ j := fun j hj => (ab.own j hj).1
    have nvb : ∀ j, j ≤ S6.next → j ∉ v.block := fun j hj hm => by have := hvb j hm; omega
    have hb1 : Sb.get S.next = some (.cells [v] true) := ub.get (ga.get hv9) (nvb _ (by omega))
    refine st_mk ub.wf hb1 (by rw [ab.at_.cells1]; rfl) (by rw [ab.at_.cells1]; simp) (by rw [ab.at_.cells1]; simp [ab.at_.one1]) fun Sc uc mc nc => ?_
    rw [ab.at_.cells1] at mc
    simp only [over] at mc
    simp only [put_none, runIs_nil, blockQ_normal]
    have hilc : Sc.get (S.next + 2) = some (Blk.odd l (Obj.loop { rec with state := .busy }) fr0) := uc.get (ub.get (ga.get hil9) (nvb _ (by omega))) (by simp)
    refine ⟨hilc, true, rfl, ?_⟩
    have hrec : ({ rec with state := .ready, pending := none } : Loop) = rec := by cases rec; simp only at e1 e2'; subst e1; subst e2'; rfl
    rw [hrec]
    have lec := uc.le; have leb := ub.le; have lea := ga.le
    have ud : Upd [S.next + 2] Sc (Sc.put (S.next + 2) (some (Blk.odd l (Obj.loop rec) fr0))) := (Upd.refl uc.wf [S.next + 2]).put (by omega) (.inr (by simp)) _
    have ild : (Sc.put (S.next + 2) (some (Blk.odd l (Obj.loop rec) fr0))).get (S.next + 2) = some (Blk.odd l (Obj.loop rec) fr0) := by simp
    generalize Sc.put (S.next + 2) (some (Blk.odd l (Obj.loop rec) fr0)) = Sd at ud ild
    have led := ud.le
    have keep : ∀ j, j ≤ S6.next → j ≠ S.next → j ≠ S.next + 2 → Sd.get j = S7.get j := fun j h1 h2 h3 => by
      rw [ud.keep j (by omega) (by simpa using h3), uc.keep j (by omega) (by simpa using h2), ub.keep j (by omega) (nvb j h1), ga.keep j (by omega) (by simp), u9.keep j (by omega) (by simpa using h3)]
    have hsv : strsV (pre ++ [x]) = strsV pre ++ [V.str x] := by simp [strsV]
    refine hK Sd ⟨ud.wf, by omega, ?_, ild, ⟨v', ud.get mc (by simp), ?_⟩, fun j hj hne => ?_⟩ (Upd.refl ud.wf _) ?_ ?_ (by omega)
    · rw [keep _ (by omega) (by omega) (by omega)]; exact hD1
    · rw [hsv]
      have := (ab.upd uc fun j hj => by have := hvb' j hj; simp only [List.mem_singleton]; omega).upd ud fun j hj => by have := hvb' j hj; simp only [List.mem_singleton]; omega
      simpa using this
    · rw [keep j (by omega) (by omega) (by omega)]; exact hfr j hj hne
    · exact keep mi (by omega) (by omega) (by omega)
    · exact keep S6.next (Nat.le_refl _) (by omega) (by omega)
  · rintro r S7 ⟨rfl, xs, hxs, ⟨w7, hle, hD1, hl1, ⟨v, hv, ha⟩, hfr⟩, hmi⟩
    refine ⟨hl1, ?_⟩
    have u8 : Upd [S.next + 2] S7 (S7.put (S.next + 2) (some (Blk.odd l (Obj.loop { rec with state := .exhausted }) fr0))) := (Upd.refl w7 [S.next + 2]).put (by omega) (.inr (by simp)) _
    generalize S7.put (S.next + 2) (some (Blk.odd l (Obj.loop { rec with state := .exhausted }) fr0)) = S8 at u8
    have hv8 : S8.get S.next = some (.cells [v] true) := u8.get hv (by simp)
    have hD8 : S8.get (S.next + 1) = some (Blk.odd D (Obj.deferred (some [])) []) := u8.get hD1 (by simp)
    have hev2 : AX.ev fr0 (AX.tmp 2) = V.ptr S.next 0 := by rw [← hfr0]; rfl
    have hev12 : AX.ev (fr0.set 12 v) (AX.tmp 12) = v := by rw [← hfr0]; rfl
    simp only [seq_end, wpA_seq, wpA_region, runIs_load1, hev2, ifSome_ifS']
    refine ifS_mk (ld hv8 rfl) ?_
    simp only [runIs_move, letV_eq, put_some, runIs_nil, thenQ_normal, wpA_ret, endW_ret, hev12]
    have le8 := u8.le
    refine ⟨D, S.next + 1, rfl, hD8, ?_⟩
    simp only [leaveD_nil]
    have u10 : Upd [S.next + 1] S8 (S8.put (S.next + 1) (some (Blk.odd D (Obj.deferred none) []))) := (Upd.refl u8.wf [S.next + 1]).put (by omega) (.inr (by simp)) _
    generalize S8.put (S.next + 1) (some (Blk.odd D (Obj.deferred none) [])) = S10 at u10
    have le10 := u10.le
    have hvb : ∀ j ∈ v.block, S6.next + 1 ≤ j := fun j hj => (ha.own j hj).1
    have gg : Grow S S10 := by
      refine ⟨hw, u10.wf, by omega, fun j hj _ => ?_⟩
      rw [u10.keep j (by omega) (by simp only [List.mem_singleton]; omega), u8.keep j (by omega) (by simp only [List.mem_singleton]; omega)]
      by_cases hj2 : j = mi
      · subst hj2
        rw [hmi]; exact g06.keep _ hml (by simp)
      · exact hfr j hj hj2
    have fin : retT [.one .any] K (.ret (tupled [v])) S10 := by
      refine ⟨v, rfl, hk v xs S10 hxs ⟨gg, ?_, by simp [strE]⟩⟩
      have := ((ha.below (B' := S.next) (by omega)).upd u8 fun j hj => by have := hvb j hj; simp only [List.mem_singleton]; omega).upd u10 fun j hj => by have := hvb j hj; simp only [List.mem_singleton]; omega
      rw [strE_flat, strE_len]; exact this
    rw [← hfr0]
    exact fin

end Go.Th.L
end

section
/- The disk's Names; what choices say. -/
set_option linter.unusedSimpArgs false
set_option linter.unusedVariables false
set_option maxHeartbeats 1000000
namespace Go.Th.L
open Go Go.Th Go.Th.Pure
variable {P : Program} {N : Nat → Nat}

def srtN (l : List Nm) : List Nm := l.mergeSort fun x y => decide (x ≤ y)
abbrev SortsStr (P : Program) (f : FuncId) : Prop := ∀ {S0 S : St} {v : V} {l : List Nm} {K : St → Prop}, Built S0 S 1 v (strE l) → l.length ≤ 1000000 → (∀ S', Built S0 S' 1 v (strE (srtN l)) → K S') → CallA P f [v] S (retT [] K)

theorem srtN_of {xs : List Nm} {l : List (Nm × Nat)} (hs : SrtK l) (hp : xs.Perm (l.map (·.1))) : srtN xs = l.map (·.1) := by
  have h1 : (srtN xs).Pairwise (fun a b => decide (a ≤ b) = true) := List.pairwise_mergeSort (fun a b c h k => by
    simp only [decide_eq_true_eq] at h k ⊢
    exact List.le_trans h k) (fun a b => by
    simp only [Bool.or_eq_true, decide_eq_true_eq]
    exact List.le_total a b) xs
  have h2 : (l.map (·.1)).Pairwise (fun a b => decide (a ≤ b) = true) := by
    rw [List.pairwise_map]
    refine hs.imp fun hab => ?_
    simp only [decide_eq_true_eq]
    exact List.le_of_lt hab
  refine List.Perm.eq_of_pairwise (fun a b _ _ x y => ?_) h1 h2 ((List.mergeSort_perm _ _).trans hp)
  simp only [decide_eq_true_eq] at x y
  exact List.le_antisymm x y

structure NamesF (P : Program) (N : Nat → Nat) : Prop where
  names : disk_Disk_Names.Ok P N
  keys : maps_Keys_disk_names.Ok P N
  keys1 : maps_Keys_disk_names_1.Ok P N
  can : canEnter P (N Fn.maps_Keys_disk_names_1) = true
  sorted : slices_Sorted_string.Ok P N
  collect : slices_Collect_string.Ok P N
  append : slices_AppendSeq.Ok P (N Fn.slices_AppendSeq_Lstring)
  sort : SortsStr P (N Fn.slices_Sort_Lstring)

theorem disk_Disk_Names.spec (hO : DiskF P N) (hN : NamesF P N) {S : St} (hw : S.Wf) {o : Bool} {q : DP} {r : DiskR} (h : DiskRd S o q r) {nf : Nat} (hst : StOk nf r.now) {K : V → St → Prop} (hk : ∀ v S', Built S S' 1 v (strE (namesR r)) → K v S') :
    CallA P (N Fn.disk_Disk_Names) [.ptr q.d 0] S (retT [.one .any] K) := by
  refine disk_Disk_Names.run hN.names (disk_Disk_ready.spec hO.ready hO.down h (fun hd => ifC_ndec (fun _ => ?_) (fun h' => by omega)) (fun hd => ifC_ndec (fun h' => absurd rfl h') (fun _ => ?_)))
  · have e : namesR r = [] := by simp [namesR, hd]
    rw [e] at hk; exact hk _ S (Built.nil (Upd.refl hw _) 1)
  have e : namesR r = r.now.map (·.1) := by simp [namesR, hd]
  rw [e] at hk
  refine ⟨rfl, ifS_mk (a := .ptr q.d 1) rfl (ifS_mk (ld h.obj rfl) (maps_Keys_disk_names.run hN.keys (newS_mk hw fun S2 g2 m2 n2 => ?_)))⟩
  have hl := hst.len
  refine slices_Sorted_string.run hN.sorted (slices_Collect_string.run hN.collect (slices_AppendSeq.spec hN.append hN.keys1 hN.can g2.wf m2 (h.now.upd g2 (by simp)) (by omega) fun v xs S3 hxs hB => ?_))
  have hxl : xs.length ≤ 64 := by rw [hxs.length_eq, List.length_map]; exact hl
  refine hN.sort hB (by omega) fun S4 hB4 => hk v S4 ?_
  rw [srtN_of hst.sorted hxs] at hB4
  exact ⟨g2.trans hB4.grow, hB4.acc.below g2.le, hB4.each⟩

theorem disk_says.spec (hF : disk_says.Ok P N) {S : St} {c : Int} (hc : -9223372036854775808 ≤ c ∧ c ≤ 9223372036854775807) {n : Nat} (hn : n < 4611686018427387904) {K : Int → St → Prop} (hk : K (saysR c n : Nat) S) : CallA P (N Fn.disk_says) [.int .i64 c, .int .i64 n] S (retT [.one (.int .i64)] K) := by
  refine disk_says.run hF (Join1.mid (fun x S' => x = (if c < 0 then -(c + 1) else c) ∧ S' = S) (ifC_dec (fun h => ?_) (fun h => ⟨by rw [if_neg h], rfl⟩)) ?_)
  · refine setI_mk (n := c + 1) (by rw [IntKind.wrap_i64]; omega) (setI_mk (n := -(c + 1)) (by rw [IntKind.wrap_i64]; omega) ⟨by rw [if_pos h], rfl⟩)
  · rintro x S' ⟨rfl, rfl⟩
    refine setI_mk (n := ((n + 1 : Nat) : Int)) (by rw [IntKind.wrap_i64]; omega) ⟨by omega, setI_mk (n := ((saysR c n : Nat) : Int)) ?_ hk⟩
    have h0 : 0 ≤ (if c < 0 then -(c + 1) else c) := by split <;> omega
    obtain ⟨m, hm⟩ := Int.eq_ofNat_of_zero_le h0
    unfold saysR
    rw [hm, Int.toNat_natCast]
    exact rfl

theorem SlAt.none_ {S S' : St} {k : Nat} {v : V} {cs : List V} (h : SlAt S k v 0 cs) : SlAt S' k v 0 cs := by
  obtain ⟨a, b, c⟩ := h
  have hc : cs = [] := List.length_eq_zero_iff.mp (by omega)
  subst hc
  refine ⟨a, b, ?_⟩
  rcases c with c | ⟨i, o, c, t, e, h1, h2⟩
  · exact .inl c
  · refine .inr ⟨i, o, c, t, e, h1, ?_⟩
    simp [St.loads]
theorem ints_none {S S' : St} {v : V} (h : IntsAt S v []) : IntsAt S' v [] := SlAt.none_ h
def ChAt (S : St) (cb : Nat) (bl : List Nat) (l : List Int) : Prop := ∃ w, S.get cb = some (.cells [w] true) ∧ IntsAt S w l ∧ (l ≠ [] → ∀ i ∈ w.block, i ∈ bl)
theorem ChAt.upd {X : List Nat} {S S' : St} {cb : Nat} {bl : List Nat} {l : List Int} (h : ChAt S cb bl l) (u : Upd X S S') (h1 : cb ∉ X) (h2 : ∀ i ∈ bl, i ∉ X) : ChAt S' cb bl l := by
  obtain ⟨w, a, b, c⟩ := h
  refine ⟨w, u.get a h1, ?_, c⟩
  by_cases hl : l = []
  · subst hl; exact ints_none b
  · exact SlAt.upd b u fun i hi => h2 i (c hl i hi)

theorem ints_sub {S : St} {v : V} {l : List Int} (hv : IntsAt S v l) (h : 0 < l.length) : ∃ v', sliceSlV 1 v (some (.int .i64 1)) none none = some v' ∧ IntsAt S v' l.tail ∧ ∀ i ∈ v'.block, i ∈ v.block := by
  obtain ⟨v', e, a, b⟩ := SlAt.sub hv (lo := some (.int .i64 1)) (hi := none) (l := 1) (h := l.length) (c := 0) (fun cap hc => bnds_l (l := 1) (by omega)) (by omega) (Nat.le_refl _)
  refine ⟨v', e, ?_, b⟩
  have hl : (intsV .i64 l).length = l.length := intsV_length _ _
  have : ((intsV .i64 l).drop (1 * 1)).take ((l.length - 1) * 1) = intsV .i64 l.tail := by
    rw [Nat.mul_one, Nat.mul_one, List.take_of_length_le (by rw [List.length_drop, hl]; omega)]
    cases l <;> simp [intsV]
  rw [this] at a
  have hlt : l.length - 1 = l.tail.length := by simp
  rw [hlt] at a
  exact a

theorem disk_Crash_1.spec (hF : disk_Disk_Crash_1.Ok P N) {S : St} (hw : S.Wf) {cb : Nat} {bl : List Nat} {l : List Int} (h : ChAt S cb bl l) (hb : cb ∉ bl) {K : Int → St → Prop} (hk : ∀ S', ChAt S' cb bl l.tail → Upd [cb] S S' → S'.next = S.next → K (l.headD 0) S') :
    CallA P (N Fn.disk_Disk_Crash_1) [.ptr cb 0] S (retT [.one (.int .i64)] K) := by
  obtain ⟨w, h1, h2, h3⟩ := h
  refine disk_Disk_Crash_1.run hF (ifS_mk (ld h1 rfl) ⟨_, h2.length, ifC_dec (fun h0 => ?_) (fun h0 => ?_)⟩)
  · have : l = [] := List.length_eq_zero_iff.mp (by omega)
    subst this
    exact hk S ⟨w, h1, h2, h3⟩ (Upd.refl hw _) rfl
  · cases l with
    | nil => exact absurd rfl h0
    | cons a l =>
      obtain ⟨v', e, a', b'⟩ := ints_sub h2 (by simp)
      have hgt : loadV S (eltV 1 w 0 0) = some (.int .i64 a) := h2.get (j := 0) (by simp)
      refine ifS_mk (ld h1 rfl) (ifS_mk (h2.idx (j := 0) (by simp)) ⟨a, hgt, ifS_mk (ld h1 rfl) (ifS_mk e (st_mk hw h1 (by rw [a'.cells1]; rfl) (by rw [a'.cells1]; simp) (by rw [a'.cells1]; simp [a'.one1]) fun S1 u1 m1 n1 => hk S1 ⟨v', ?_, SlAt.upd a' u1 fun i hi => ?_, fun _ i hi => h3 (by simp) i (b' i hi)⟩ u1 n1))⟩)
      · rw [m1, a'.cells1]; rfl
      · simp only [List.mem_singleton]
        rintro rfl
        exact hb (h3 (by simp) _ (b' _ hi))

end Go.Th.L
end

section
/- The disk crashes. -/
set_option linter.unusedSimpArgs false
set_option linter.unusedVariables false
set_option maxHeartbeats 1000000
namespace Go.Th.L
open Go Go.Th Go.Th.Pure
variable {P : Program} {N : Nat → Nat}

theorem flatten_takeN {α : Type} {k : Nat} : ∀ {es : List (List α)} (_ : ∀ e ∈ es, e.length = k) (m : Nat), es.flatten.take (m * k) = (es.take m).flatten
  | [], _, m => by simp
  | e :: es, h, 0 => by simp
  | e :: es, h, m + 1 => by
    have he := h e (by simp)
    have ih := flatten_takeN (es := es) (fun e he => h e (by simp [he])) m
    simp only [List.flatten_cons, List.take_succ_cons]
    rw [List.take_append, List.take_of_length_le (by rw [he, Nat.add_mul]; omega), he]
    congr 1
    rw [show (m + 1) * k - k = m * k by rw [Nat.add_mul]; omega]
    exact ih

theorem SlE.first {S : St} {k : Nat} {v : V} {es : List (List V)} (h : SlE S k v es) {m : Nat} (hm : m ≤ es.length) : ∃ v', sliceSlV k v none (some (.int .i64 (m : Nat))) none = some v' ∧ SlE S k v' (es.take m) ∧ ∀ i ∈ v'.block, i ∈ v.block := by
  obtain ⟨v', e, a, b⟩ := SlAt.sub h.1 (lo := none) (hi := some (.int .i64 (m : Nat))) (l := 0) (h := m) (c := 0) (fun cap hc => bnds_h (h := m) (by omega)) (by omega) hm
  refine ⟨v', e, ⟨?_, fun x hx => h.2 x (List.mem_of_mem_take hx)⟩, b⟩
  rw [Nat.zero_mul, List.drop_zero, Nat.sub_zero, flatten_takeN h.2] at a
  have : (es.take m).length = m := by rw [List.length_take]; omega
  rw [this]; exact a

theorem clear_mk {S : St} (hw : S.Wf) {B : Nat} {v : V} {bs : List UInt8} (h : Acc S B 1 v bs.length (bytesV bs)) {a : Nat} (ha : a ≤ bs.length) {K : St → Prop}
    (hk : ∀ S', Acc S' B 1 v bs.length (bytesV (bs.take a ++ List.replicate (bs.length - a) 0)) → Upd v.block S S' → K S') : ifS (sliceSlV 1 v (some (.int .i64 (a : Nat))) none none) fun x => ifS (clearV S 1 [V.int .u8 0] x) K := by
  obtain ⟨v', e, a1, b1⟩ := SlAt.sub h.at_ (lo := some (.int .i64 (a : Nat))) (hi := none) (l := a) (h := bs.length) (c := 0) (fun cap hc => bnds_l (l := a) ha) ha (Nat.le_refl _)
  refine ifS_mk e ?_
  by_cases h0 : bs.length - a = 0
  · have haa : a = bs.length := by omega
    refine ifS_mk (a := S) ?_ (hk S ?_ (Upd.refl hw _))
    · rcases a1.2.2 with ⟨rfl, _⟩ | ⟨i, o, c, t, rfl, _⟩
      · rfl
      · simp [clearV, rClear, AX.ev, h0]
    · rw [h0, haa, List.take_length]; simpa using h
  · have hre : reps (bs.length - a) [V.int .u8 0] = bytesV (List.replicate (bs.length - a) 0) := by
      rw [reps_nums]
      simp [intsV, bytesV]
    obtain ⟨S', e2, a2, u2⟩ := h.write hw (a := a) (xs := bytesV (List.replicate (bs.length - a) 0)) (bytesV_ones _) (by rw [bytesV_length, List.length_replicate]; omega) (by rw [bytesV_length, List.length_replicate]; omega)
    refine ifS_mk (a := S') ?_ (hk S' ?_ u2)
    · rcases h.at_.2.2 with ⟨rfl, hz⟩ | ⟨i, o, c, t, rfl, hc, hl⟩
      · omega
      · have hs : sliceSlV 1 (V.slice i o bs.length c 1 t) (some (.int .i64 (a : Nat))) none none = some (V.slice i (o + a * 1) (bs.length - a) (c - a) 1 (t || false)) := by
          simp [sliceSlV, bnds_l ha]
        rw [hs] at e
        simp only [Option.some.injEq] at e
        subst e
        have e3 : S.stores i (o + a * 1) (bytesV (List.replicate (bs.length - a) 0)) = some S' := by rw [Nat.mul_one]; exact e2
        simp only [clearV, rClear, AX.ev, ne_eq, not_true_eq_false, if_false, if_neg h0, hre, e3]
    · have : over (bytesV bs) a (bytesV (List.replicate (bs.length - a) 0)) = bytesV (bs.take a ++ List.replicate (bs.length - a) 0) := by
        rw [over_at (by rw [bytesV_length, bytesV_length, List.length_replicate]; omega)]
        rw [List.drop_of_length_le (by rw [bytesV_length, bytesV_length, List.length_replicate]; omega), List.append_nil]
        simp [bytesV, List.map_take]
      rw [← this]; exact a2

structure DiskMid (S : St) (D B : List Nat) (q : DP) (sb cv : V) (r : DiskR) : Prop where
  obj : S.get q.d = some (.cells [.int .i64 r.room, .map q.bn, sb, cv, .int .i64 r.steps, .bool (stopsR r), .int .i64 (leftC r)] true)
  now : NamesAt S q.bn (entG q.fb r.now)
  fl : ∀ k, q.lv k → S.get (q.fb k) = some (.cells [q.bv k, .int .i64 ((r.fl k).safe : Nat)] true) ∧ Acc S 0 1 (q.bv k) (r.fl k).b.length (bytesV (r.fl k).b)
  inj : ∀ k k', q.lv k → q.lv k' → q.fb k = q.fb k' → k = k'
  lvN : ∀ p ∈ r.now, q.lv p.2
  lvI : ∀ k, q.lv k → k < r.files.length
  dD : q.d ∈ D
  dN : q.bn ∈ D
  dF : ∀ k, q.lv k → q.fb k ∈ D
  dB : ∀ k, q.lv k → ∀ i ∈ (q.bv k).block, i ∈ B
  ltD : ∀ i ∈ D, i < S.next
  ltB : ∀ i ∈ B, i < S.next
  apart : ∀ i ∈ D, i ∉ B
  ne1 : q.bn ≠ q.d
  neF : ∀ k, q.lv k → q.fb k ≠ q.d ∧ q.fb k ≠ q.bn

theorem DiskMid.upd {X : List Nat} {S S' : St} {D B : List Nat} {q : DP} {sb cv : V} {r : DiskR} (h : DiskMid S D B q sb cv r) (u : Upd X S S') (h1 : ∀ i ∈ X, i ∉ D) (h2 : ∀ i ∈ X, i ∉ B) : DiskMid S' D B q sb cv r := by
  have nd : ∀ i ∈ D, i ∉ X := fun i hi hx => h1 i hx hi
  have nb : ∀ i ∈ B, i ∉ X := fun i hi hx => h2 i hx hi
  exact { h with obj := u.get h.obj (nd _ h.dD), now := h.now.upd u (nd _ h.dN), fl := fun k hk => ⟨u.get (h.fl k hk).1 (nd _ (h.dF k hk)), (h.fl k hk).2.upd u fun i hi => nb _ (h.dB k hk i hi)⟩, ltD := fun i hi => Nat.lt_of_lt_of_le (h.ltD i hi) u.le, ltB := fun i hi => Nat.lt_of_lt_of_le (h.ltB i hi) u.le }

def DP.re (q : DP) (k b : Nat) (v : V) : DP := { q with fb := fun j => if j = k then b else q.fb j, bv := fun j => if j = k then v else q.bv j }

theorem entG_re {q : DP} {l : List (Nm × Nat)} (hn : NodK l) (hi : (l.map (·.2)).Nodup) {n : Nm} {k b : Nat} {v : V} (hm : (n, k) ∈ l) : ((n, V.ptr b 0) :: dropK (entG q.fb l) n).Perm (entG (q.re k b v).fb l) := by
  obtain ⟨a, c, rfl⟩ := List.append_of_mem hm
  have ha : ∀ p ∈ a ++ c, p.1 ≠ n ∧ p.2 ≠ k := by
    intro p hp
    rw [NodK, List.map_append, List.map_cons, List.nodup_append] at hn
    rw [List.map_append, List.map_cons, List.nodup_append] at hi
    obtain ⟨_, n2, n3⟩ := hn
    obtain ⟨_, i2, i3⟩ := hi
    rw [List.nodup_cons] at n2 i2
    rcases List.mem_append.mp hp with hp | hp
    · exact ⟨fun e => n3 p.1 (List.mem_map_of_mem (f := (·.1)) hp) n (by simp) e, fun e => i3 p.2 (List.mem_map_of_mem (f := (·.2)) hp) k (by simp) e⟩
    · exact ⟨fun e => n2.1 (by rw [← e]; exact List.mem_map_of_mem (f := (·.1)) hp), fun e => i2.1 (by rw [← e]; exact List.mem_map_of_mem (f := (·.2)) hp)⟩
  rw [drop_entG]
  have e1 : dropK (a ++ (n, k) :: c) n = a ++ c := by
    rw [dropK, List.filter_append, List.filter_cons_of_neg (by simp)]
    have h1 : a.filter (fun p => !decide (p.1 = n)) = a := List.filter_eq_self.2 fun p hp => by simpa using (ha p (List.mem_append_left _ hp)).1
    have h2 : c.filter (fun p => !decide (p.1 = n)) = c := List.filter_eq_self.2 fun p hp => by simpa using (ha p (List.mem_append_right _ hp)).1
    rw [h1, h2]
  rw [e1]
  have e2 : entG q.fb (a ++ c) = entG (q.re k b v).fb (a ++ c) := entG_congr fun p hp => by simp only [DP.re, if_neg (ha p hp).2]
  rw [e2]
  have e3 : entG (q.re k b v).fb (a ++ (n, k) :: c) = entG (q.re k b v).fb a ++ (n, V.ptr b 0) :: entG (q.re k b v).fb c := by simp [entG, DP.re]
  have e4 : entG (q.re k b v).fb (a ++ c) = entG (q.re k b v).fb a ++ entG (q.re k b v).fb c := by simp [entG]
  rw [e3, e4]
  exact List.perm_middle.symm

theorem DiskMid.re {S S' : St} {D B : List Nat} {q : DP} {sb cv : V} {r : DiskR} {X : List Nat} (h : DiskMid S D B q sb cv r) {nf : Nat} (hst : StOk nf r.now) {n : Nm} {k b : Nat} {v : V} {f : FileR} (hm : (n, k) ∈ r.now) (u : Upd X S S') (hX : ∀ i ∈ X, i = q.bn ∨ S.next ≤ i) (hb : S.next ≤ b ∧ b < S'.next)
    (g : S'.get b = some (.cells [v, .int .i64 (f.safe : Nat)] true)) (a : Acc S' 0 1 v f.b.length (bytesV f.b)) (hv : ∀ i ∈ v.block, S.next ≤ i ∧ i ≠ b) (hn : NamesAt S' q.bn ((n, .ptr b 0) :: dropK (entG q.fb r.now) n)) :
    DiskMid S' (b :: D) (B ++ v.block) (q.re k b v) sb cv (setFl r k f) := by
  have hlv := h.lvN _ hm
  have hkl := h.lvI k hlv
  have hlen : (setFl r k f).files.length = r.files.length := by simp [setFl]
  have dl : ∀ i ∈ D, i ≠ b := fun i hi e => by have := h.ltD i hi; omega
  have nX : ∀ i, i < S.next → i ≠ q.bn → i ∉ X := fun i hi hne hx => by
    rcases hX i hx with h' | h'
    · exact hne h'
    · omega
  have hvlt : ∀ i ∈ v.block, i < S'.next := fun i hi => by
    obtain ⟨_, vs, hg⟩ := a.own i hi
    exact u.wf.lt hg
  refine ⟨u.get h.obj (nX _ (h.ltD _ h.dD) fun e => h.ne1 e.symm), hn.perm (entG_re hst.sorted.nod hst.inj hm), fun j hj => ?_, fun j j' hj hj' e => ?_, h.lvN, by rw [hlen]; exact h.lvI, List.mem_cons_of_mem _ h.dD, List.mem_cons_of_mem _ h.dN, fun j hj => ?_, fun j hj i hi => ?_, fun i hi => ?_, fun i hi => ?_, fun i hi hB => ?_, h.ne1, fun j hj => ?_⟩
  · rw [fl_set hkl]
    by_cases e : j = k
    · subst e
      simp only [DP.re, if_true]
      exact ⟨g, a⟩
    · simp only [DP.re, if_neg e]
      obtain ⟨f1, f2⟩ := h.fl j hj
      exact ⟨u.get f1 (nX _ (h.ltD _ (h.dF j hj)) (h.neF j hj).2), f2.upd u fun i hi => nX i (h.ltB i (h.dB j hj i hi)) fun e => h.apart _ h.dN (by rw [← e]; exact h.dB j hj i hi)⟩
  · by_cases e1 : j = k <;> by_cases e2 : j' = k
    · rw [e1, e2]
    · simp only [DP.re, if_pos e1, if_neg e2] at e
      exact absurd e.symm (dl _ (h.dF j' hj'))
    · simp only [DP.re, if_neg e1, if_pos e2] at e
      exact absurd e (dl _ (h.dF j hj))
    · simp only [DP.re, if_neg e1, if_neg e2] at e
      exact h.inj j j' hj hj' e
  · by_cases e : j = k
    · simp only [DP.re, if_pos e]; exact List.mem_cons_self
    · simp only [DP.re, if_neg e]; exact List.mem_cons_of_mem _ (h.dF j hj)
  · by_cases e : j = k
    · simp only [DP.re, if_pos e] at hi; exact List.mem_append_right _ hi
    · simp only [DP.re, if_neg e] at hi; exact List.mem_append_left _ (h.dB j hj i hi)
  · rcases List.mem_cons.mp hi with rfl | hi
    · exact hb.2
    · exact Nat.lt_of_lt_of_le (h.ltD i hi) u.le
  · rcases List.mem_append.mp hi with hi | hi
    · exact Nat.lt_of_lt_of_le (h.ltB i hi) u.le
    · exact hvlt i hi
  · rcases List.mem_cons.mp hi with rfl | hi <;> rcases List.mem_append.mp hB with hB | hB
    · have := h.ltB _ hB; omega
    · exact (hv _ hB).2 rfl
    · exact h.apart i hi hB
    · have := h.ltD i hi; have := (hv i hB).1; omega
  · by_cases e : j = k
    · simp only [DP.re, if_pos e]
      exact ⟨fun e' => dl _ h.dD e'.symm, fun e' => dl _ h.dN e'.symm⟩
    · simp only [DP.re, if_neg e]; exact h.neF j hj

theorem crashFs_snoc (cs : List Int) : ∀ (l : List (Nm × Nat)) (p : Nm × Nat) (i : Nat) (fs : List FileR), crashFs cs (l ++ [p]) i fs = (crashFs cs l i fs).set p.2 (cutF (choiceR cs (i + l.length + 1)) ((crashFs cs l i fs).getD p.2 ⟨[], 0⟩))
  | [], p, i, fs => by simp [crashFs]
  | x :: l, p, i, fs => by
    rw [List.cons_append, crashFs, crashFs_snoc cs l p (i + 1), crashFs]
    congr 3
    simp only [List.length_cons]
    congr 1; omega

end Go.Th.L
end

section
/- The disk crashes: the walk. -/
set_option linter.unusedSimpArgs false
set_option linter.unusedVariables false
set_option maxHeartbeats 2000000
namespace Go.Th.L
open Go Go.Th Go.Th.Pure
variable {P : Program} {N : Nat → Nat}

structure CrashF (P : Program) (N : Nat → Nat) : Prop where
  f : DiskF P N
  n : NamesF P N
  crash : disk_Disk_Crash.Ok P N
  c1 : disk_Disk_Crash_1.Ok P N
  can : canEnter P (N Fn.disk_Disk_Crash_1) = true
  says : disk_says.Ok P N
  clone : slices_Clone_Lbyte.Ok P N
  maps : MapsClone P (N Fn.maps_Clone_disk_names)

theorem stsR_succ {r : DiskR} {i : Nat} (h : i < r.chs.length) : stsR r (i + 1) = applyR (stsR r i) r.chs[i] := by
  simp only [stsR]
  rw [List.take_add_one, List.getElem?_eq_getElem h, Option.toList_some, List.foldl_append]
  rfl

theorem drop_head {cs : List Int} {i : Nat} : (cs.drop i).headD 0 = choiceR cs i := by
  unfold choiceR
  rw [List.headD_eq_head?_getD, List.head?_drop, List.getD_eq_getElem?_getD]
theorem drop_tail {cs : List Int} {i : Nat} : (cs.drop i).tail = cs.drop (i + 1) := by rw [List.tail_drop]

theorem bytes_first {S : St} {v : V} {b : List UInt8} (hv : BytesAt S v b) {m : Nat} (hm : m ≤ b.length) : ∃ v', sliceSlV 1 v none (some (.int .i64 (m : Nat))) none = some v' ∧ BytesAt S v' (b.take m) ∧ ∀ i ∈ v'.block, i ∈ v.block := by
  obtain ⟨v', e, a, c⟩ := SlAt.sub hv (lo := none) (hi := some (.int .i64 (m : Nat))) (l := 0) (h := m) (c := 0) (fun cap hc => bnds_h (h := m) (by omega)) (by omega) hm
  refine ⟨v', e, ?_, c⟩
  rw [Nat.zero_mul, List.drop_zero, Nat.sub_zero, Nat.mul_one] at a
  have h1 : (bytesV b).take m = bytesV (b.take m) := by simp [bytesV, List.map_take]
  have h2 : (b.take m).length = m := by rw [List.length_take]; omega
  rw [h1] at a
  show SlAt S 1 v' (b.take m).length (bytesV (b.take m))
  rw [h2]; exact a

theorem DiskMid.safe {S S' : St} {D B : List Nat} {q : DP} {sb cv : V} {r : DiskR} (h : DiskMid S D B q sb cv r) {bs : Nat} (u : Upd [q.d] S S') (hb : S.next ≤ bs ∧ bs < S'.next) (hn : NamesAt S' bs (entG q.fb r.now)) (g : S'.get q.d = some (.cells [.int .i64 r.room, .map q.bn, .map bs, .nilSlice, .int .i64 r.steps, .bool (stopsR r), .int .i64 (leftC r)] true)) :
    DiskIn S' (bs :: D) B { q with bs := bs, cv := .nilSlice } { r with safe := r.now, chs := [] } := by
  have nD : ∀ i ∈ D, i ≠ bs := fun i hi e => by have := h.ltD i hi; omega
  refine ⟨g, h.now.upd u (by simp only [List.mem_singleton]; exact h.ne1), hn, Acc.nil _ _ _, fun k hk => ?_, h.inj, h.lvN, h.lvN, by simp, h.lvI, List.mem_cons_of_mem _ h.dD, List.mem_cons_of_mem _ h.dN, List.mem_cons_self, by simp [V.block], fun k hk => List.mem_cons_of_mem _ (h.dF k hk), h.dB, fun i hi => ?_, fun i hi => Nat.lt_of_lt_of_le (h.ltB i hi) u.le, fun i hi hB => ?_, h.ne1, fun e => nD _ h.dD e.symm, fun e => nD _ h.dN e, by simp [V.block], fun k hk => ⟨(h.neF k hk).1, (h.neF k hk).2, nD _ (h.dF k hk)⟩⟩
  · obtain ⟨f1, f2⟩ := h.fl k hk
    refine ⟨u.get f1 (by simp only [List.mem_singleton]; exact (h.neF k hk).1), f2.upd u fun i hi => ?_⟩
    simp only [List.mem_singleton]
    rintro rfl
    exact h.apart _ h.dD (h.dB k hk _ hi)
  · rcases List.mem_cons.mp hi with rfl | hi
    · exact hb.2
    · exact Nat.lt_of_lt_of_le (h.ltD i hi) u.le
  · rcases List.mem_cons.mp hi with rfl | hi
    · have := h.ltB _ hB; omega
    · exact h.apart i hi hB

theorem DiskIn.mid {S : St} {D B : List Nat} {q : DP} {r : DiskR} (h : DiskIn S D B q r) : DiskMid S D B q (.map q.bs) q.cv r :=
  ⟨h.obj, h.now, h.fl, h.inj, h.lvN, h.lvI, h.dD, h.dN, h.dF, h.dB, h.ltD, h.ltB, h.apart, h.ne1, fun k hk => ⟨(h.neF k hk).1, (h.neF k hk).2.1⟩⟩

theorem cutF_b (c : Int) (f : FileR) : (cutF c f).b = if c < 0 then (f.b.take (f.safe + saysR c (f.b.length - f.safe))).take f.safe ++ List.replicate ((f.b.take (f.safe + saysR c (f.b.length - f.safe))).length - f.safe) 0 else f.b.take (f.safe + saysR c (f.b.length - f.safe)) := rfl

theorem disk_Disk_Crash.spec (hO : CrashF P N) {S : St} (hw : S.Wf) {D B : List Nat} {q : DP} {r : DiskR} (h : DiskIn S D B q r) {M : Nat} (hok : OkR M r) (hM : M ≤ 1000000) {x : V} {cs : List Int} (hx : IntsAt S x cs) (hxD : cs ≠ [] → ∀ i ∈ x.block, i ∉ D) (hxl : cs ≠ [] → ∀ i ∈ x.block, i < S.next)
    (hcs : ∀ c ∈ cs, -9223372036854775808 ≤ c ∧ c ≤ 9223372036854775807) {K : Int → St → Prop} (hk : ∀ S', Mv q.d D B S (crashR cs r) S' → K 0 S') : CallA P (N Fn.disk_Disk_Crash) [.ptr q.d 0, x] S (retT [.one (.int .i64)] K) := by
  obtain ⟨bl, hbl, hblD, hbll⟩ : ∃ bl : List Nat, (cs ≠ [] → ∀ i ∈ x.block, i ∈ bl) ∧ (∀ i ∈ bl, i ∉ D) ∧ ∀ i ∈ bl, i < S.next := by
    by_cases h0 : cs = []
    · exact ⟨[], fun h => absurd h0 h, by simp, by simp⟩
    · exact ⟨x.block, fun _ i hi => hi, hxD h0, hxl h0⟩
  have hchI : ∀ i, -9223372036854775808 ≤ choiceR cs i ∧ choiceR cs i ≤ 9223372036854775807 := fun i => by
    unfold choiceR
    rw [List.getD_eq_getElem?_getD]
    cases hi : cs[i]? with
    | none => simp
    | some c => exact hcs c (List.mem_of_getElem? hi)
  refine disk_Disk_Crash.run hO.crash (newS_mk hw fun S1 g1 m1 n1 => ⟨false, rfl, ifC_ff rfl ⟨rfl, ifS_mk (a := .ptr q.d 5) rfl ?_⟩⟩)
  rw [hx.cells1] at m1
  have hdl := h.ltD _ h.dD
  refine st_mk g1.wf (g1.get h.obj) rfl (by simp [objC, V.cells]) (by simp [V.cells, V.one]) fun S2 u2 m2 n2 => ⟨rfl, ifS_mk (a := .ptr q.d 6) rfl (st_mk u2.wf m2 rfl (by simp [objC, over, V.cells]) (by simp [V.cells, V.one]) fun S3 u3 m3 n3 => ⟨rfl, ifS_mk (a := .ptr q.d 2) rfl (ifS_mk (ld m3 rfl) ?_)⟩)⟩
  have u13 : Upd [q.d] S1 S3 := u2.trans u3
  have cb3 : S3.get S.next = some (.cells [x] true) := u13.get m1 (by simp only [List.mem_singleton]; omega)
  obtain ⟨es, hp, hg⟩ := h.safe.ex
  have hg3 : S3.get q.bs = some (.map (entS es) true) := u13.get (g1.get hg) (by simp only [List.mem_singleton]; exact h.ne2)
  refine hO.maps u3.wf hg3 fun S4 g4 m4 n4 => ⟨rfl, ifS_mk (a := .ptr q.d 1) rfl (st_mk g4.wf (g4.get m3) rfl (by simp [objC, over, V.cells]) (by simp [V.cells, V.one]) fun S5 u5 m5 n5 => ?_)⟩
  have hS3 : S3.next = S.next + 1 := by omega
  have uA : Upd [q.d] S S5 := ((g1.mono (by simp)).trans u13).trans ((g4.mono (by simp)).trans u5)
  -- the disk behind the safe names were taken
  let r0 : DiskR := { r with left := -1, now := r.safe }
  let q0 : DP := { q with bn := S3.next }
  have nbn : ∀ i ∈ D, i ≠ S3.next := fun i hi e => by have := h.ltD i hi; omega
  have h5 : DiskIn S5 (S3.next :: D) B q0 r0 := by
    have a := h
    refine ⟨?_, ⟨⟨es, hp, u5.get m4 (by simp only [List.mem_singleton]; show ¬ S3.next = q.d; omega)⟩, h.safe.nod⟩, h.safe.upd uA (by simp only [List.mem_singleton]; exact h.ne2), h.chs.upd uA (fun i hi => by simp only [List.mem_singleton]; exact (h.neC i hi).1), fun k hk => ?_, h.inj, h.lvS, h.lvS, h.lvC, h.lvI, List.mem_cons_of_mem _ h.dD, List.mem_cons_self, List.mem_cons_of_mem _ h.dS, fun i hi => List.mem_cons_of_mem _ (h.dC i hi), fun k hk => List.mem_cons_of_mem _ (h.dF k hk), h.dB, fun i hi => ?_, fun i hi => Nat.lt_of_lt_of_le (h.ltB i hi) uA.le, fun i hi hB => ?_, fun e => nbn _ h.dD e.symm, h.ne2, fun e => nbn _ h.dS e.symm, fun i hi => ?_, fun k hk => ?_⟩
    · rw [m5]; rfl
    · obtain ⟨f1, f2⟩ := h.fl k hk
      exact ⟨uA.get f1 (by simp only [List.mem_singleton]; exact (h.neF k hk).1), f2.upd uA fun i hi => by
        simp only [List.mem_singleton]
        rintro rfl
        exact h.apart _ h.dD (h.dB k hk _ hi)⟩
    · have hb5 : S3.next < S5.next := by omega
      rcases List.mem_cons.mp hi with rfl | hi
      · exact hb5
      · exact Nat.lt_of_lt_of_le (h.ltD i hi) uA.le
    · rcases List.mem_cons.mp hi with rfl | hi
      · have := h.ltB _ hB; omega
      · exact h.apart i hi hB
    · obtain ⟨a1, a2, a3, a4⟩ := h.neC i hi
      exact ⟨a1, nbn _ (h.dC i hi), a3, a4⟩
    · obtain ⟨a1, a2, a3⟩ := h.neF k hk
      exact ⟨a1, nbn _ (h.dF k hk), a3⟩
  have hcbD : ∀ i ∈ D, i ≠ S.next := fun i hi e => by have := h.ltD i hi; omega
  have cb5 : ChAt S5 S.next bl (cs.drop 0) := ⟨x, u5.get (g4.get cb3) (by simp only [List.mem_singleton]; omega), by
      rw [List.drop_zero]
      by_cases h0 : cs = []
      · subst h0; exact ints_none hx
      · exact SlAt.upd hx uA (fun i hi => by simp only [List.mem_singleton]; rintro rfl; exact hxD h0 _ hi h.dD), by rw [List.drop_zero]; exact hbl⟩
  have hcbx : S.next ∉ bl := fun hm => by have := hbll _ hm; omega
  have sl5 : SlE S5 3 q.cv (r.chs.map (chC q.fb)) := ⟨by
    have := h5.chs.at_
    have e : (r.chs.map (chC q.fb)).length = r.chs.length := by simp
    rw [e]; exact this, fun e he => by
    obtain ⟨c, _, rfl⟩ := List.mem_map.1 he; rfl⟩
  have hmany := saysR_le (choiceR cs 0) r.chs.length
  have hn1 := hok.n1
  refine ⟨rfl, ifS_mk (a := .ptr q.d 3) rfl (ifS_mk (ld m5 rfl) ⟨rfl, ifS_mk (a := .ptr q.d 3) rfl (ifS_mk (ld m5 rfl) ⟨_, sl5.len, ifS_mk (callee_mk hO.can) (disk_Crash_1.spec hO.c1 u5.wf cb5 hcbx fun S6 c6 u6 n6 => ?_)⟩)⟩)⟩
  rw [drop_tail] at c6
  have hcvd : q.cv.block.all (fun i => decide (i ≠ S.next)) = true := by
    rw [List.all_eq_true]
    intro i hi; simpa using hcbD i (h.dC i hi)
  have hcvl : ∀ i ∈ q.cv.block, i < S5.next := fun i hi => Nat.lt_of_lt_of_le (h.ltD i (h.dC i hi)) uA.le
  refine sameK_mk (fun i hi => ?_) ?_
  · have h2 : i ∈ q.cv.block ∨ i = q.d := by
      rcases List.mem_append.mp hi with hi | hi
      · exact .inl hi
      · rcases List.mem_append.mp hi with hi | hi
        · exact .inr (by simpa [V.block] using hi)
        · exact .inr (by simpa [V.block] using hi)
    refine u6.keep i ?_ ?_
    · rcases h2 with h2 | h2
      · exact hcvl i h2
      · subst h2; exact u5.wf.lt m5
    · simp only [List.mem_singleton]
      rcases h2 with h2 | h2
      · exact hcbD i (h.dC i h2)
      · subst h2; omega
  have hlen3 : (r.chs.map (chC q.fb)).length = r.chs.length := by simp
  rw [hlen3, drop_head]
  refine disk_says.spec hO.says (hchI 0) (by omega) (sameK_mk (Same.refl _ _) ?_)
  have h6 : DiskIn S6 (S3.next :: D) B q0 r0 := h5.upd u6 (fun i hi hD => by
    simp only [List.mem_singleton] at hi; subst hi
    rcases List.mem_cons.mp hD with e | hD
    · omega
    · exact hcbD _ hD rfl) (fun i hi hB => by
    simp only [List.mem_singleton] at hi; subst hi
    have := h.ltB _ hB; omega)
  have sl6 : SlE S6 3 q.cv (r.chs.map (chC q.fb)) := sl5.upd u6 fun i hi => by simp only [List.mem_singleton]; exact hcbD i (h.dC i hi)
  obtain ⟨cv', e7, sl7, b7⟩ := SlE.first sl6 (m := saysR (choiceR cs 0) r.chs.length) (by rw [hlen3]; exact hmany)
  have hl7 : ((r.chs.map (chC q.fb)).take (saysR (choiceR cs 0) r.chs.length)).length = saysR (choiceR cs 0) r.chs.length := by rw [List.length_take, hlen3]; omega
  refine ifS_mk e7 ⟨_, sl7.len, ?_⟩
  rw [hl7]
  have hS6 : S6.next = S5.next := n6
  refine Loop1.ind (fun m z S' => ∃ i : Nat, z = i ∧ i + m = saysR (choiceR cs 0) r.chs.length ∧ (∃ D', DiskIn S' D' B q0 { r0 with now := stsR r i } ∧ (∀ j ∈ D', j ∈ S3.next :: D ∨ S6.next ≤ j)) ∧ Upd [S3.next] S6 S' ) (saysR (choiceR cs 0) r.chs.length) ⟨0, rfl, by omega, ⟨_, h6, fun j hj => .inl hj⟩, Upd.refl u6.wf _⟩ ?_
  rintro m z S8 ⟨i, rfl, him, ⟨D8, h8, hD8⟩, u8⟩
  have le8 := u8.le
  have hbnl : S3.next < S6.next := by
    have := h6.ltD S3.next List.mem_cons_self; exact this
  refine ifC_dec (fun hlt => ?_) (fun hge => ?_)
  · -- a change is done
    have hi : i < saysR (choiceR cs 0) r.chs.length := by omega
    have hic : i < r.chs.length := by omega
    have sl8 : SlE S8 3 cv' ((r.chs.map (chC q.fb)).take (saysR (choiceR cs 0) r.chs.length)) := sl7.upd u8 fun j hj => by simp only [List.mem_singleton]; exact nbn _ (h.dC j (b7 j hj))
    have hget : ((r.chs.map (chC q.fb)).take (saysR (choiceR cs 0) r.chs.length))[i]'(by rw [hl7]; exact hi) = chC q.fb r.chs[i] := by simp
    have hck := hok.chs _ (List.getElem_mem hic)
    refine ifS_mk (sl8.idx (j := i) (by rw [hl7]; exact hi)) ⟨(r.chs[i]).fr, (r.chs[i]).to, chP q.fb r.chs[i], by rw [sl8.getN (j := i) (by rw [hl7]; exact hi) (by omega), hget]; rfl, newS_mk u8.wf fun S9 g9 m9 n9 => st_mk g9.wf m9 rfl (by simp [V.cells]) (by simp only [V.cells, List.all_cons, List.all_nil, chP_one]; rfl) fun S10 u10 m10 n10 => ⟨rfl, ifS_mk (a := .ptr q.d 1) rfl ?_⟩⟩
    simp only [V.cells, over] at m10
    have g10 : Grow S8 S10 := g9.after u10 fun j hj => by simp only [List.mem_singleton] at hj; exact .inl (by omega)
    have h10 := h8.grow g10
    refine ifS_mk (ld h10.obj rfl) ⟨(r.chs[i]).fr, (r.chs[i]).to, chP q.fb r.chs[i], ldN m10 (by simp) rfl, disk_names_do.spec hO.f.do_ u10.wf h10.now (chP_one _ _) fun S11 hn11 u11 => setI_mk (n := ((i + 1 : Nat) : Int)) (by rw [IntKind.wrap_i64]; omega) ⟨m - 1, by omega, i + 1, rfl, by omega, ?_, ?_⟩⟩
    · have hb : Upd [S3.next] S8 S11 := (g10.mono (by simp)).after u11 fun j hj => .inr hj
      have hnm : NamesAt S11 S3.next (entG q.fb (stsR r (i + 1))) := by
        rw [stsR_succ hic]
        exact hn11.perm (apply_do hck)
      have hmem := applyR_mem (l := stsR r i) hck
      have := h8.rebuild (cv := q.cv) (r' := { r0 with now := stsR r (i + 1) }) hb (fun j hj => by simp only [List.mem_singleton] at hj; exact .inr (.inl hj)) (u11.get h10.obj (by simp only [List.mem_singleton]; exact fun e => h8.ne1 e.symm)) hnm (h10.chs.upd u11 fun j hj => by simp only [List.mem_singleton]; exact (h8.neC j hj).2.1) (fun j hj => .inl hj) rfl rfl (fun p hp => by
        simp only at hp
        rw [stsR_succ hic] at hp
        rcases hmem p hp with hp | ⟨hp, e⟩
        · exact h8.lvN p hp
        · rw [e]; exact h.lvC _ (List.getElem_mem hic) hp) h.lvC
      refine ⟨D8 ++ q.cv.block, this, fun j hj => ?_⟩
      rcases List.mem_append.mp hj with hj | hj
      · exact hD8 j hj
      · exact .inl (List.mem_cons_of_mem _ (h.dC j hj))
    · exact u8.after ((g10.mono (by simp)).after u11 fun j hj => .inr hj) fun j hj => .inr hj
  · -- all changes are done
    have : i = saysR (choiceR cs 0) r.chs.length := by omega
    subst this
    have hNl : stsR r (saysR (choiceR cs 0) r.chs.length) = crashN cs r := rfl
    rw [hNl] at h8
    have hst := crashN_ok hok cs
    generalize hnl : crashN cs r = nl at h8 hst
    have hdn : downR { r0 with now := nl } = false := rfl
    have hnm : namesR { r0 with now := nl } = nl.map (·.1) := by simp [namesR, hdn]
    refine disk_Disk_Names.spec hO.f hO.n u8.wf h8.rd hst fun w S12 hB12 => ⟨_, hB12.sl.len, ?_⟩
    rw [hnm] at hB12 ⊢
    have g12 := hB12.grow
    have le12 := g12.le
    have hlnm : (strE (nl.map (·.1))).length = nl.length := by simp [strE]
    rw [hlnm]
    have hlen := hst.len
    have hwb : ∀ i ∈ w.block, S8.next ≤ i := hB12.from
    have hS38 : S3.next < S8.next := by omega
    have uB : Upd [q.d] S S8 := (uA.after u6 fun i hi => .inl (by simp only [List.mem_singleton] at hi; omega)).after u8 fun i hi => .inl (by simp only [List.mem_singleton] at hi; omega)
    have u68 : Upd [S.next] S5 S6 := u6
    have c12 : ChAt S12 S.next bl (cs.drop 1) := (c6.upd u8 (by simp only [List.mem_singleton]; omega) fun i hi => by simp only [List.mem_singleton]; have := hbll i hi; omega).upd g12 (by simp) (by simp)
    have mid12 : DiskMid S12 D8 B q0 (.map q.bs) q.cv { r0 with now := nl } := h8.mid.upd g12 (by simp) (by simp)
    refine Loop1.ind (fun m z S' => ∃ (t : Nat) (D' B' : List Nat) (q' : DP), z = t ∧ t + m = nl.length ∧ q'.d = q.d ∧ q'.bn = S3.next ∧ DiskMid S' D' B' q' (.map q.bs) q.cv { r0 with now := nl, files := crashFs cs (nl.take t) 0 r.files } ∧
      (∀ j ∈ D', j ∈ S3.next :: D ∨ S6.next ≤ j) ∧ (∀ j ∈ B', j ∈ B ∨ S6.next ≤ j) ∧ ChAt S' S.next bl (cs.drop (t + 1)) ∧ Upd [S.next, S3.next] S12 S') nl.length ⟨0, D8, B, q0, rfl, by omega, rfl, rfl, mid12, hD8, fun j hj => .inl hj, c12, Upd.refl g12.wf _⟩ ?_
    rintro m z S13 ⟨t, D', B', q', rfl, htm, eqd, eqn, mid, hD', hB', c13, u13'⟩
    have le13 := u13'.le
    have sl13 : SlE S13 1 w (strE (nl.map (·.1))) := hB12.sl.upd u13' fun i hi => by
      have := hwb i hi
      simp only [List.mem_cons, List.not_mem_nil, or_false]; omega
    have nxD : ∀ j ∈ D', j ≠ S.next := fun j hj e => by
      rcases hD' j hj with h' | h'
      · rcases List.mem_cons.mp h' with h' | h'
        · omega
        · exact hcbD j h' e
      · omega
    have nxB : ∀ j ∈ B', j ≠ S.next := fun j hj e => by
      rcases hB' j hj with h' | h'
      · have := h.ltB j h'; omega
      · omega
    have hfsz := crashFs_sz cs (nl.take t) 0 r.files hok.fsz
    refine ifC_dec (fun hlt2 => ?_) (fun hge2 => ?_)
    · have ht : t < nl.length := by omega
      have hgt : loadV S13 (eltV 1 w t 0) = some (.str (nl[t]).1) := by
        rw [sl13.get (j := t) (by rw [hlnm]; exact ht) (by omega)]
        simp [strE]
      have hmem : (nl[t].1, nl[t].2) ∈ nl := List.getElem_mem ht
      generalize hnk : nl[t] = nk at hgt hmem
      obtain ⟨n, k⟩ := nk
      simp only at hgt hmem
      have hlv := mid.lvN (n, k) hmem
      simp only at hlv
      have hlk := names_lookup mid.now .nilPtr false n
      rw [lk_entG, (lkK_some hst.sorted.nod).2 hmem] at hlk
      simp only [Option.map_some, lookOut, Bool.false_eq_true, if_false] at hlk
      rw [eqn] at hlk
      refine ifS_mk (sl13.idx (j := t) (by rw [hlnm]; exact ht)) ⟨n, hgt, rfl, ifS_mk (a := .ptr q.d 1) rfl ?_⟩
      have o13 := mid.obj
      rw [eqd, eqn] at o13
      refine ifS_mk (ld o13 rfl) (ifS_mk hlk (ifS_mk (callee_mk hO.can) (disk_Crash_1.spec hO.c1 u13'.wf c13 hcbx fun S14 c14 u14 n14 => ?_)))
      rw [drop_head, drop_tail] at *
      have mid14 := mid.upd u14 (fun j hj hD => by simp only [List.mem_singleton] at hj; subst hj; exact nxD _ hD rfl) (fun j hj hB => by simp only [List.mem_singleton] at hj; subst hj; exact nxB _ hB rfl)
      generalize hrt : ({ r0 with now := nl, files := crashFs cs (nl.take t) 0 r.files } : DiskR) = rt at mid14 mid
      have hrtn : rt.now = nl := by rw [← hrt]
      have hrtf : rt.files = crashFs cs (nl.take t) 0 r.files := by rw [← hrt]
      have hf1 : (rt.fl k).safe ≤ (rt.fl k).b.length ∧ (rt.fl k).b.length ≤ 4194304 := by
        unfold DiskR.fl
        rw [hrtf, List.getD_eq_getElem?_getD]
        cases hkk : (crashFs cs (nl.take t) 0 r.files)[k]? with
        | none => simp
        | some f => exact hfsz f (List.mem_of_getElem? hkk)
      obtain ⟨f1, f2⟩ := mid14.fl k hlv
      generalize hff : rt.fl k = f at hf1 f1 f2
      have hfk : q'.fb k < S14.next := mid14.ltD _ (mid14.dF k hlv)
      have hsle := saysR_le (choiceR cs (t + 1)) (f.b.length - f.safe)
      refine ⟨rfl, ifS_mk (a := .ptr (q'.fb k) 0) rfl (ifS_mk (ld f1 rfl) ⟨rfl, ifS_mk (a := .ptr (q'.fb k) 1) rfl ⟨_, ld f1 rfl, rfl, ifS_mk (a := .ptr (q'.fb k) 0) rfl (ifS_mk (ld f1 rfl) ⟨_, f2.at_.len, rfl, ifS_mk (a := .ptr (q'.fb k) 1) rfl ⟨_, ld f1 rfl, setI_mk (n := ((f.b.length - f.safe : Nat) : Int)) (by rw [IntKind.wrap_i64]; omega) ?_⟩⟩)⟩⟩)⟩
      refine disk_says.spec hO.says (hchI (t + 1)) (by omega) (sameK_mk (Same.refl _ _) (setI_mk (n := ((f.safe + saysR (choiceR cs (t + 1)) (f.b.length - f.safe) : Nat) : Int)) (by rw [IntKind.wrap_i64]; omega) ?_))
      obtain ⟨v91, e91, a91, b91⟩ := bytes_first (m := f.safe + saysR (choiceR cs (t + 1)) (f.b.length - f.safe)) f2.at_ (by omega)
      have hl91 : (f.b.take (f.safe + saysR (choiceR cs (t + 1)) (f.b.length - f.safe))).length = f.safe + saysR (choiceR cs (t + 1)) (f.b.length - f.safe) := by rw [List.length_take]; omega
      refine ifS_mk e91 (slices_Clone_Lbyte.spec hO.clone u14.wf a91 (by rw [hl91]; omega) fun v92 S16 hb92 => sameK_mk (Same.of_grow hb92.grow ?_) ?_)
      · intro j hj
        have hbv : ∀ j ∈ (q'.bv k).block, j < S14.next := fun j hj => mid14.ltB j (mid14.dB k hlv j hj)
        have hfb : ∀ o, j ∈ (V.ptr (q'.fb k) o).block → j < S14.next := fun o hj => by
          have : j = q'.fb k := by simpa [V.block] using hj
          omega
        rcases List.mem_append.mp hj with hj | hj
        · exact hfb _ hj
        rcases List.mem_append.mp hj with hj | hj
        · exact hbv j hj
        rcases List.mem_append.mp hj with hj | hj
        · exact hfb _ hj
        rcases List.mem_append.mp hj with hj | hj
        · exact hfb _ hj
        rcases List.mem_append.mp hj with hj | hj
        · exact hfb _ hj
        · cases hj
      have a92 : Acc S16 S14.next 1 v92 (f.b.take (f.safe + saysR (choiceR cs (t + 1)) (f.b.length - f.safe))).length (bytesV (f.b.take (f.safe + saysR (choiceR cs (t + 1)) (f.b.length - f.safe)))) := by
        have := hb92.acc
        rwa [byteE_flat, byteE_len] at this
      have g16 := hb92.grow
      have hv92 : ∀ j ∈ v92.block, S14.next ≤ j := hb92.from
      have hclen : (cutF (choiceR cs (t + 1)) f).b.length = (f.b.take (f.safe + saysR (choiceR cs (t + 1)) (f.b.length - f.safe))).length := by
        rw [cutF_b]
        split
        · rw [List.length_append, List.length_take, List.length_replicate]; omega
        · rfl
      refine Join0.mid (fun S' => Acc S' S14.next 1 v92 (cutF (choiceR cs (t + 1)) f).b.length (bytesV (cutF (choiceR cs (t + 1)) f).b) ∧ Grow S14 S') (ifC_dec (fun hneg => ?_) (fun hpos => ?_)) ?_
      · refine ⟨rfl, ifS_mk (a := .ptr (q'.fb k) 1) rfl ⟨_, ld (g16.get f1) rfl, ?_⟩⟩
        refine clear_mk g16.wf a92 (a := f.safe) (by rw [hl91]; omega) fun S18 a18 u18 => ⟨?_, g16.after u18 fun j hj => .inl (hv92 j hj)⟩
        rw [hclen, cutF_b, if_pos hneg]; exact a18
      · refine ⟨?_, g16⟩
        rw [hclen, cutF_b, if_neg hpos]; exact a92
      rintro S17 ⟨a17, g17⟩
      have le17 := g17.le
      have o17 := g17.get mid14.obj
      rw [eqd, eqn] at o17
      have hln : lenV S17 2 v92 = some (.int .i64 ((cutF (choiceR cs (t + 1)) f).b.length : Nat)) := a17.at_.len
      refine ⟨rfl, ifS_mk (a := .ptr q.d 1) rfl (ifS_mk (ld o17 rfl) ⟨_, hln, a17.at_.cells1, newS_mk g17.wf fun S19 g19 m19 n19 => ?_⟩)⟩
      have nm19 := (mid14.now.upd g17 (by simp)).upd g19 (by simp)
      rw [eqn] at nm19
      refine names_upd g19.wf nm19 n (.ptr S17.next 0) fun S20 hn20 u20 n20 => setI_mk (n := ((t + 1 : Nat) : Int)) (by rw [IntKind.wrap_i64]; omega) ?_
      have uu : Upd [S3.next] S14 S20 := ((g17.trans g19).mono (by simp)).after u20 fun j hj => .inr hj
      have hb17 : S17.get S17.next = none := g17.wf _ (Nat.le_refl _)
      have mid20 := mid14.re (n := n) (k := k) (b := S17.next) (v := v92) (f := cutF (choiceR cs (t + 1)) f) (X := [S3.next]) (nf := r.files.length) (by rw [hrtn]; exact hst) (by rw [hrtn]; exact hmem) uu (fun j hj => by simp only [List.mem_singleton] at hj; exact .inl (by rw [eqn]; exact hj)) ⟨by omega, by have := u20.le; omega⟩
        (u20.get m19 (by simp only [List.mem_singleton]; omega)) ((a17.below (B' := 0) (by omega)).upd ((g19.mono (by simp)).after u20 fun j hj => .inr hj) fun j hj => by simp only [List.mem_singleton]; have := hv92 j hj; omega)
        (fun j hj => ⟨hv92 j hj, fun e => by
          obtain ⟨_, vs, hg17⟩ := a17.own j hj
          rw [e, hb17] at hg17; cases hg17⟩) (by rw [eqn]; exact hn20)
      refine ⟨m - 1, by omega, t + 1, S17.next :: D', B' ++ v92.block, q'.re k S17.next v92, rfl, by omega, eqd, eqn, ?_, fun j hj => ?_, fun j hj => ?_, ?_, ?_⟩
      · have : setFl rt k (cutF (choiceR cs (t + 1)) f) = { r0 with now := nl, files := crashFs cs (nl.take (t + 1)) 0 r.files } := by
          rw [List.take_add_one, List.getElem?_eq_getElem ht, Option.toList_some, crashFs_snoc, hnk, ← hrt]
          simp only [setFl]
          have ht0 : (nl.take t).length = t := by rw [List.length_take]; omega
          rw [ht0, Nat.zero_add, ← hff, ← hrt]
          rfl
        rw [← this]; exact mid20
      · rcases List.mem_cons.mp hj with rfl | hj
        · exact .inr (by omega)
        · exact hD' j hj
      · rcases List.mem_append.mp hj with hj | hj
        · exact hB' j hj
        · exact .inr (by have := hv92 j hj; omega)
      · exact c14.upd uu (by simp only [List.mem_singleton]; omega) fun j hj => by simp only [List.mem_singleton]; have := hbll j hj; omega
      · exact (u13'.after u14 fun j hj => .inr (by simp only [List.mem_singleton] at hj; simp [hj])).after uu fun j hj => .inr (by simp only [List.mem_singleton] at hj; simp [hj])
    · -- all names are done
      have : t = nl.length := by omega
      subst this
      rw [List.take_length] at mid
      have o13 := mid.obj
      rw [eqd, eqn] at o13
      obtain ⟨es2, hp2, hg2⟩ := mid.now.ex
      rw [eqn] at hg2
      have hne : S3.next ≠ q.d := by omega
      refine ⟨rfl, ifS_mk (a := .ptr q.d 1) rfl (ifS_mk (ld o13 rfl) (hO.maps u13'.wf hg2 fun S21 g21 m21 n21 => ⟨rfl, ifS_mk (a := .ptr q.d 2) rfl (st_mk g21.wf (g21.get o13) rfl (by simp [V.cells]) (by simp [V.cells, V.one]) fun S22 u22 m22 n22 => ⟨rfl, ifS_mk (a := .ptr q.d 3) rfl (st_mk u22.wf m22 rfl (by simp [over, V.cells]) (by simp [V.cells, V.one]) fun S23 u23 m23 n23 => hk S23 ?_)⟩)⟩))⟩
      have hlt13 : q.d < S13.next := u13'.wf.lt o13
      have uC : Upd [q.d] S13 S23 := ((g21.mono (by simp)).after u22 fun i hi => .inr hi).after u23 fun i hi => .inr hi
      have fin := mid.safe (bs := S13.next) (S' := S23) (by rw [eqd]; exact uC) ⟨Nat.le_refl _, by have := u22.le; have := u23.le; omega⟩ ⟨⟨es2, hp2, u23.get (u22.get m21 (by simp only [List.mem_singleton]; omega)) (by simp only [List.mem_singleton]; omega)⟩, mid.now.nod⟩ (by rw [eqd, m23, eqn]; rfl)
      have hr' : ({ ({ r0 with now := nl, files := crashFs cs nl 0 r.files } : DiskR) with safe := nl, chs := [] } : DiskR) = crashR cs r := by
        simp only [crashR, hnl]; rfl
      refine Mv.of (d := q.d) (q' := { q' with bs := S13.next, cv := .nilSlice }) ?_ (hr' ▸ fin) eqd (fun j hj => ?_) (fun j hj => ?_)
      · have uD : Upd [q.d] S S23 := ((uB.after g12 (by simp)).after u13' fun i hi => .inl (by simp only [List.mem_cons, List.not_mem_nil, or_false] at hi; omega)).after uC fun i hi => .inr hi
        refine uD.mono fun i hi => .inl ?_
        simp only [List.mem_singleton] at hi
        subst hi; exact h.dD
      · have f1 : ∀ j ∈ D', j ∈ D ∨ S.next ≤ j := fun j hj => by
          rcases hD' j hj with h' | h'
          · rcases List.mem_cons.mp h' with h' | h'
            · exact .inr (by omega)
            · exact .inl h'
          · exact .inr (by omega)
        rcases List.mem_cons.mp hj with rfl | hj
        · exact .inr (by omega)
        · exact f1 j hj
      · rcases hB' j hj with h' | h'
        · exact .inl h'
        · exact .inr (by omega)

end Go.Th.L
end

section
/- A disk is copied: a file of its own for each file. -/
set_option linter.unusedSimpArgs false
set_option linter.unusedVariables false
set_option maxHeartbeats 2000000
namespace Go.Th.L
open Go Go.Th Go.Th.Pure
variable {P : Program} {N : Nat → Nat}

def Src (S : St) (q : DP) (r : DiskR) : Prop := ∀ k, q.lv k → S.get (q.fb k) = some (.cells [q.bv k, .int .i64 ((r.fl k).safe : Nat)] true) ∧ BytesAt S (q.bv k) (r.fl k).b
theorem Src.upd {X : List Nat} {S S' : St} {q : DP} {r : DiskR} (h : Src S q r) (u : Upd X S S') (hX : ∀ k, q.lv k → q.fb k ∉ X ∧ ∀ i ∈ (q.bv k).block, i ∉ X) : Src S' q r := fun k hk =>
  ⟨u.get (h k hk).1 (hX k hk).1, SlAt.upd (h k hk).2 u (hX k hk).2⟩

def ownE (fb gb : Nat → Nat) (ks : List Nat) : List (V × V) := ks.map fun k => (.ptr (fb k) 0, .ptr (gb k) 0)
structure Cl (S : St) (F : Nat) (q : DP) (r : DiskR) (oc om : Nat) (ks : List Nat) (gb : Nat → Nat) (bw : Nat → V) : Prop where
  hoc : S.get oc = some (.cells [.map om] true)
  hom : S.get om = some (.map (ownE q.fb gb ks) true)
  sub : ∀ k ∈ ks, q.lv k
  fl : ∀ k ∈ ks, S.get (gb k) = some (.cells [bw k, .int .i64 ((r.fl k).safe : Nat)] true) ∧ Acc S F 1 (bw k) (r.fl k).b.length (bytesV (r.fl k).b) ∧ F ≤ gb k ∧ gb k < S.next
  inj : ∀ k ∈ ks, ∀ k' ∈ ks, gb k = gb k' → k = k'
  ap : ∀ k ∈ ks, ∀ k' ∈ ks, gb k ∉ (bw k').block
  lo : oc < F ∧ om < F

theorem Cl.upd {X : List Nat} {S S' : St} {F : Nat} {q : DP} {r : DiskR} {oc om : Nat} {ks : List Nat} {gb : Nat → Nat} {bw : Nat → V} (h : Cl S F q r oc om ks gb bw) (u : Upd X S S') (h1 : oc ∉ X) (h2 : om ∉ X) (h3 : ∀ i ∈ X, ∀ k ∈ ks, i ≠ gb k ∧ i ∉ (bw k).block) : Cl S' F q r oc om ks gb bw := by
  refine ⟨u.get h.hoc h1, u.get h.hom h2, h.sub, fun k hk => ?_, h.inj, h.ap, h.lo⟩
  obtain ⟨a, b, c, d⟩ := h.fl k hk
  exact ⟨u.get a fun hx => (h3 _ hx k hk).1 rfl, b.upd u fun i hi hx => (h3 i hx k hk).2 hi, c, Nat.lt_of_lt_of_le d u.le⟩
theorem Cl.far {S : St} {F : Nat} {q : DP} {r : DiskR} {oc om : Nat} {ks : List Nat} {gb : Nat → Nat} {bw : Nat → V} (h : Cl S F q r oc om ks gb bw) (hw : S.Wf) {i : Nat} (hi : i < F ∨ S.next ≤ i) : ∀ k ∈ ks, i ≠ gb k ∧ i ∉ (bw k).block := by
  intro k hk
  obtain ⟨a, b, c, d⟩ := h.fl k hk
  refine ⟨by omega, fun hb => ?_⟩
  obtain ⟨b1, vs, b2⟩ := b.own i hb
  have := hw.lt b2
  omega

section own
variable {S : St} {q : DP} {r : DiskR} (src : Src S q r) (inj : ∀ k k', q.lv k → q.lv k' → q.fb k = q.fb k' → k = k')
include src inj

theorem same_own {k j : Nat} (hk : q.lv k) (hj : q.lv j) : sameP S (.ptr (q.fb k) 0) (.ptr (q.fb j) 0) = some (decide (k = j)) := by
  simp only [sameP]
  by_cases e : k = j
  · subst e; simp
  · have hne : ¬ q.fb k = q.fb j := fun h => e (inj k j hk hj h)
    have h1 : ltO 0 (S.ownCells (q.fb k)) = true := by simp [St.ownCells, (src k hk).1, ltO, Nat.blt]
    have h2 : ltO 0 (S.ownCells (q.fb j)) = true := by simp [St.ownCells, (src j hj).1, ltO, Nat.blt]
    simp [hne, e, h1, h2]

theorem find_own {gb : Nat → Nat} {k : Nat} (hk : q.lv k) : ∀ (ks : List Nat) (i : Nat), (∀ j ∈ ks, q.lv j) → findP S (.ptr (q.fb k) 0) (ownE q.fb gb ks) i = some (if k ∈ ks then (ks.findIdx? fun j => decide (k = j)).map fun j => (i + j, .ptr (gb k) 0) else none)
  | [], i, _ => by simp [ownE, findP]
  | j :: ks, i, h => by
    have ih := find_own (gb := gb) hk ks (i + 1) fun x hx => h x (by simp [hx])
    simp only [ownE, List.map_cons] at ih ⊢
    simp only [findP, same_own src inj hk (h j (by simp)), List.findIdx?_cons]
    by_cases e : k = j
    · subst e; simp
    · simp only [e, decide_false, Bool.false_eq_true, if_false, List.mem_cons, false_or]
      rw [ih]
      by_cases hm : k ∈ ks
      · simp only [if_pos hm]
        cases ks.findIdx? (fun j => decide (k = j)) <;> simp; omega
      · simp [hm]

theorem look_own {F : Nat} {oc om : Nat} {ks : List Nat} {gb : Nat → Nat} {bw : Nat → V} (cl : Cl S F q r oc om ks gb bw) {k : Nat} (hk : q.lv k) : lookupPV S .nilPtr false (.map om) (.ptr (q.fb k) 0) = some (if k ∈ ks then .ptr (gb k) 0 else .nilPtr) := by
  have hf := find_own src inj (gb := gb) hk ks 0 cl.sub
  simp only [lookupPV, rLookupP, AX.ev, cl.hom, hf]
  by_cases hm : k ∈ ks
  · simp only [if_pos hm]
    have : (ks.findIdx? fun j => decide (k = j)).isSome := by
      rw [List.findIdx?_isSome, List.any_eq_true]; exact ⟨k, hm, by simp⟩
    obtain ⟨j, hj⟩ := Option.isSome_iff_exists.1 this
    simp [hj, lookOut]
  · simp [hm, lookOut]
end own

theorem disk_Clone_1.nil (hF : disk_Disk_Clone_1.Ok P N) {S : St} {oc : Nat} {K : V → St → Prop} (hk : K .nilPtr S) : CallA P (N Fn.disk_Disk_Clone_1) [.nilPtr, .ptr oc 0] S (retT [.one .any] K) :=
  disk_Disk_Clone_1.run hF ⟨true, rfl, ifC_tt rfl hk⟩

theorem disk_Clone_1.spec (hF : disk_Disk_Clone_1.Ok P N) (hC : slices_Clone_Lbyte.Ok P N) {S : St} (hw : S.Wf) {F : Nat} {q : DP} {r : DiskR} {oc om : Nat} {ks : List Nat} {gb : Nat → Nat} {bw : Nat → V} (src : Src S q r) (inj : ∀ k k', q.lv k → q.lv k' → q.fb k = q.fb k' → k = k')
    (cl : Cl S F q r oc om ks gb bw) (hFn : F ≤ S.next) (hlt : ∀ k, q.lv k → q.fb k < F ∧ q.fb k ≠ om ∧ ∀ i ∈ (q.bv k).block, i < F ∧ i ≠ om) (hoo : oc ≠ om) {k : Nat} (hk : q.lv k) (hsz : (r.fl k).b.length ≤ 4194304) {K : V → St → Prop}
    (hK : ∀ ks' gb' bw' S', Cl S' F q r oc om ks' gb' bw' → k ∈ ks' → (∀ j ∈ ks, j ∈ ks' ∧ gb' j = gb j ∧ bw' j = bw j) → (∀ j ∈ ks', j ∈ ks ∨ (S.next ≤ gb' j ∧ ∀ i ∈ (bw' j).block, S.next ≤ i)) → Upd [om] S S' → K (.ptr (gb' k) 0) S') :
    CallA P (N Fn.disk_Disk_Clone_1) [.ptr (q.fb k) 0, .ptr oc 0] S (retT [.one .any] K) := by
  obtain ⟨f1, f2⟩ := src k hk
  refine disk_Disk_Clone_1.run hF ⟨false, rfl, ifC_ff rfl (Join0.mid (fun S' => ∃ ks' gb' bw', Cl S' F q r oc om ks' gb' bw' ∧ k ∈ ks' ∧ (∀ j ∈ ks, j ∈ ks' ∧ gb' j = gb j ∧ bw' j = bw j) ∧ (∀ j ∈ ks', j ∈ ks ∨ (S.next ≤ gb' j ∧ ∀ i ∈ (bw' j).block, S.next ≤ i)) ∧ Upd [om] S S') ?_ ?_)⟩
  · refine ifS_mk (ld cl.hoc rfl) (ifS_mk (look_own src inj cl hk) ?_)
    by_cases hm : k ∈ ks
    · rw [if_pos hm]
      exact ⟨false, rfl, ifC_ff rfl ⟨ks, gb, bw, cl, hm, fun j hj => ⟨hj, rfl, rfl⟩, fun j hj => .inl hj, Upd.refl hw _⟩⟩
    · rw [if_neg hm]
      refine ⟨true, rfl, ifC_tt rfl (ifS_mk (ld cl.hoc rfl) ⟨rfl, ifS_mk (a := .ptr (q.fb k) 0) rfl (ifS_mk (ld f1 rfl) ⟨rfl, ifS_mk (a := .ptr (q.fb k) 1) rfl ⟨_, ld f1 rfl, slices_Clone_Lbyte.spec hC hw f2 (by omega) fun v2 S2 b2 => ?_⟩⟩)⟩)⟩
      have g2 := b2.grow
      have le2 := g2.le
      obtain ⟨hl1, hl2, hl3⟩ := hlt k hk
      have hlo := cl.lo
      refine sameK_mk (Same.of_grow g2 fun i hi => ?_) ⟨b2.acc.at_.cells1, newS_mk g2.wf fun S3 g3 m3 n3 => sameK_mk (Same.of_grow g3 fun i hi => ?_) ?_⟩
      · have h' : i = q.fb k ∨ i = oc := by simpa [V.block] using hi
        omega
      · have h' : i = q.fb k ∨ i = q.fb k ∨ i = oc := by simpa [V.block] using hi
        omega
      have g := g2.trans g3
      have src3 := src.upd g (fun k hk => ⟨by simp, by simp⟩)
      have hfm := find_own src3 inj (gb := gb) hk ks 0 cl.sub
      rw [if_neg hm] at hfm
      have om3 := Grow.get g cl.hom
      have homl := g.wf.lt om3
      have e3 : mapUpdPV S3 (.map om) (.ptr (q.fb k) 0) (.ptr S2.next 0) = some (S3.put om (some (.map (ownE q.fb gb ks ++ [(.ptr (q.fb k) 0, .ptr S2.next 0)]) true))) := by
        simp only [mapUpdPV, rMapUpdP, AX.ev, om3, hfm]
      have u4 : Upd [om] S3 (S3.put om (some (.map (ownE q.fb gb ks ++ [(.ptr (q.fb k) 0, .ptr S2.next 0)]) true))) := (Upd.refl g.wf [om]).put homl (.inr (by simp)) _
      refine ifS_mk e3 ⟨ks ++ [k], fun j => if j = k then S2.next else gb j, fun j => if j = k then v2 else bw j, ?_, by simp, fun j hj => ?_, fun j hj => ?_, (g.mono (by simp)).after u4 fun i hi => .inr hi⟩
      · have hne : ∀ j ∈ ks, j ≠ k := fun j hj e => hm (by rw [← e]; exact hj)
        have hap2 : ∀ i ∈ v2.block, S.next ≤ i ∧ i < S2.next := fun i hi => ⟨b2.from i hi, b2.lt i hi⟩
        refine ⟨u4.get (Grow.get g cl.hoc) (by simp only [List.mem_singleton]; exact hoo), ?_, fun j hj => ?_, fun j hj => ?_, fun j hj j' hj' e => ?_, fun j hj j' hj' hb => ?_, cl.lo⟩
        · rw [St.get_put, if_pos rfl]
          congr 2
          simp only [ownE, List.map_append, List.map_cons, List.map_nil, if_true]
          congr 1
          exact List.map_congr_left fun j hj => by rw [if_neg (hne j hj)]
        · rcases List.mem_append.mp hj with hj | hj
          · exact cl.sub j hj
          · simp only [List.mem_singleton] at hj; subst hj; exact hk
        · rcases List.mem_append.mp hj with hj | hj
          · simp only [if_neg (hne j hj)]
            obtain ⟨a, b, c, d⟩ := cl.fl j hj
            have u : Upd [om] S (S3.put om (some (.map (ownE q.fb gb ks ++ [(.ptr (q.fb k) 0, .ptr S2.next 0)]) true))) := (g.mono (by simp)).after u4 fun i hi => .inr hi
            refine ⟨u.get a (by simp only [List.mem_singleton]; omega), b.upd u fun i hi => ?_, c, Nat.lt_of_lt_of_le d u.le⟩
            have := (b.own i hi).1
            simp only [List.mem_singleton]; omega
          · simp only [List.mem_singleton] at hj; subst hj
            simp only [if_true]
            have ha := b2.acc
            rw [byteE_flat, byteE_len] at ha
            refine ⟨u4.get m3 (by simp only [List.mem_singleton]; omega), ((ha.below hFn).upd g3 (by simp)).upd u4 fun i hi => ?_, by omega, by simp only [St.next_put]; omega⟩
            have := hap2 i hi
            simp only [List.mem_singleton]; omega
        · rcases List.mem_append.mp hj with ja | ja <;> rcases List.mem_append.mp hj' with jb | jb
          · simp only [if_neg (hne j ja), if_neg (hne j' jb)] at e
            exact cl.inj j ja j' jb e
          · simp only [List.mem_singleton] at jb
            simp only [if_neg (hne j ja), if_pos jb] at e
            have := (cl.fl j ja).2.2.2; omega
          · simp only [List.mem_singleton] at ja
            simp only [if_neg (hne j' jb), if_pos ja] at e
            have := (cl.fl j' jb).2.2.2; omega
          · simp only [List.mem_singleton] at ja jb; rw [ja, jb]
        · rcases List.mem_append.mp hj with ja | ja <;> rcases List.mem_append.mp hj' with jb | jb
          · simp only [if_neg (hne j ja), if_neg (hne j' jb)] at hb
            exact cl.ap j ja j' jb hb
          · simp only [List.mem_singleton] at jb
            simp only [if_neg (hne j ja), if_pos jb] at hb
            have := (cl.fl j ja).2.2.2; have := hap2 _ hb; omega
          · simp only [List.mem_singleton] at ja
            simp only [if_neg (hne j' jb), if_pos ja] at hb
            obtain ⟨_, vs, hg⟩ := (cl.fl j' jb).2.1.own _ hb
            have := hw.lt hg; omega
          · simp only [List.mem_singleton] at ja jb
            simp only [if_pos ja, if_pos jb] at hb
            have := hap2 _ hb; omega
      · have hne : j ≠ k := fun e => hm (by rw [← e]; exact hj)
        exact ⟨List.mem_append_left _ hj, by simp only [if_neg hne], by simp only [if_neg hne]⟩
      · rcases List.mem_append.mp hj with hj | hj
        · exact .inl hj
        · simp only [List.mem_singleton] at hj; subst hj
          simp only [if_true]
          exact .inr ⟨le2, fun i hi => b2.from i hi⟩
  · rintro S1 ⟨ks', gb', bw', cl', hm', hag, hfr, u1⟩
    have src1 := src.upd u1 fun j hj => by
      obtain ⟨a, b, c⟩ := hlt j hj
      exact ⟨by simp only [List.mem_singleton]; exact b, fun i hi => by simp only [List.mem_singleton]; exact (c i hi).2⟩
    refine ifS_mk (ld cl'.hoc rfl) (ifS_mk (look_own src1 inj cl' hk) ?_)
    rw [if_pos hm']
    exact hK ks' gb' bw' S1 cl' hm' hag hfr u1

end Go.Th.L
end

section
/- A disk is copied: the walk. -/
set_option linter.unusedSimpArgs false
set_option linter.unusedVariables false
set_option maxHeartbeats 2000000
namespace Go.Th.L
open Go Go.Th Go.Th.Pure
variable {P : Program} {N : Nat → Nat}

structure CloneF (P : Program) (N : Nat → Nat) : Prop where
  clone : disk_Disk_Clone.Ok P N
  c1 : disk_Disk_Clone_1.Ok P N
  can : canEnter P (N Fn.disk_Disk_Clone_1) = true
  bytes : slices_Clone_Lbyte.Ok P N

structure Pl (q : DP) (F0 F xb oc om nm sm : Nat) : Prop where
  fb : ∀ k, q.lv k → q.fb k < F0 ∧ q.fb k ≠ q.bn ∧ q.fb k ≠ q.bs ∧ ∀ i ∈ (q.bv k).block, i < F0 ∧ i ≠ q.bn ∧ i ≠ q.bs
  lo : q.bn < F0 ∧ q.bs < F0 ∧ q.bn ≠ q.bs
  hi : F0 ≤ xb ∧ F0 ≤ oc ∧ F0 ≤ om ∧ F0 ≤ nm ∧ F0 ≤ sm
  up : xb < F ∧ oc < F ∧ om < F ∧ nm < F ∧ sm < F
  ne : xb ≠ oc ∧ xb ≠ om ∧ xb ≠ nm ∧ xb ≠ sm ∧ oc ≠ om ∧ oc ≠ nm ∧ oc ≠ sm ∧ om ≠ nm ∧ om ≠ sm ∧ nm ≠ sm

theorem copy_names (hO : CloneF P N) {q : DP} {r : DiskR} {F0 F xb oc om nm sm mi jj tm o : Nat} {ls : List (Nm × Nat)} {ks0 : List Nat} {gb0 : Nat → Nat} {bw0 : Nat → V} {cx : List V} {own : Bool} {S0 : St} (pl : Pl q F0 F xb oc om nm sm)
    (inj : ∀ k k', q.lv k → q.lv k' → q.fb k = q.fb k' → k = k') (hmi : mi = q.bn ∨ mi = q.bs) (htm : tm = nm ∨ tm = sm) (hjj : F ≤ jj ∧ jj < S0.next) (hFn : F ≤ S0.next) (hw : S0.Wf) (rg : Rng S0 mi jj (entT q.fb ls) own (entT q.fb ls)) (hnod : NodK ls) (hlv : ∀ p ∈ ls, q.lv p.2) (hsz : ∀ k, (r.fl k).b.length ≤ 4194304)
    (src : Src S0 q r) (cl : Cl S0 F q r oc om ks0 gb0 bw0) (hjg : ∀ k ∈ ks0, jj ≠ gb0 k ∧ jj ∉ (bw0 k).block) (hx : S0.get xb = some (.cells cx true)) (hcx : cx[o]? = some (.map tm)) (ht : NamesAt S0 tm [])
    {R : St → Prop} (hR : ∀ ks gb bw S', Cl S' F q r oc om ks gb bw → (∀ p ∈ ls, p.2 ∈ ks) → (∀ j ∈ ks0, j ∈ ks ∧ gb j = gb0 j ∧ bw j = bw0 j) → NamesAt S' tm (entG gb ls) → Src S' q r → S'.get mi = some (.map (entT q.fb ls) own) → Upd [mi, jj, om, tm] S0 S' → R S') :
    Loop0 (fun (k1 : St → Prop) (S12 : St) => anyK (nextP S12 (.ptr jj 0)) fun x29 S13 => ∃ x30 : Bool, extractV 0 x29 = some (V.bool x30) ∧
      ifC x30 (ifS (entryV S13 (.ptr jj 0)) fun x31 => ∃ x32 : List UInt8, extractV 0 x31 = some (V.str x32) ∧ ifS (extractV 1 x31) fun x33 => ifS (loadV S13 (V.ptr xb o)) fun x35 =>
        ifS (calleeV (envP P) (V.func (.func (N Fn.disk_Disk_Clone_1)) [] [(V.ptr oc 0)]) [x33]) fun xf => CallA P xf.1 xf.2 S13 (retT [(.one .any)] fun (x39 : V) (S14 : St) =>
          Same (xb :: []) S13 S14 ∧ ifS (mapUpdV S14 2 x35 (V.str x32) x39) fun S15 => k1 S15)) (R S13)) S0 := by
  obtain ⟨p1, p2, p3, p4, p5⟩ := pl
  have htb : F0 ≤ tm ∧ tm < F ∧ xb ≠ tm ∧ oc ≠ tm ∧ om ≠ tm := by rcases htm with rfl | rfl <;> omega
  have hmb : mi < F0 := by rcases hmi with rfl | rfl <;> omega
  have hfm : ∀ k, q.lv k → q.fb k ≠ mi ∧ ∀ i ∈ (q.bv k).block, i ≠ mi := fun k hk => by
    obtain ⟨a1, a2, a3, a4⟩ := p1 k hk
    rcases hmi with rfl | rfl
    · exact ⟨a2, fun i hi => (a4 i hi).2.1⟩
    · exact ⟨a3, fun i hi => (a4 i hi).2.2⟩
  have hsrc : ∀ {X S S'}, Src S q r → Upd X S S' → (∀ i ∈ X, i = mi ∨ F0 ≤ i) → Src S' q r := fun h u hX => h.upd u fun k hk => by
    obtain ⟨a1, a2, a3, a4⟩ := p1 k hk
    obtain ⟨b1, b2⟩ := hfm k hk
    refine ⟨fun hm => ?_, fun i hi hm => ?_⟩
    · rcases hX _ hm with h' | h'
      · exact b1 h'
      · omega
    · have := (a4 i hi).1
      rcases hX _ hm with h' | h'
      · exact b2 i hi h'
      · omega
  refine Loop0.ind (fun m S' => ∃ (lf done : List (Nm × Nat)) (ks : List Nat) (gb : Nat → Nat) (bw : Nat → V), lf.length = m ∧ (done ++ lf).Perm ls ∧ Rng S' mi jj (entT q.fb ls) own (entT q.fb lf) ∧ Cl S' F q r oc om ks gb bw ∧ (∀ p ∈ done, p.2 ∈ ks) ∧
    (∀ j ∈ ks0, j ∈ ks ∧ gb j = gb0 j ∧ bw j = bw0 j) ∧ (∀ k ∈ ks, jj ≠ gb k ∧ jj ∉ (bw k).block) ∧ NamesAt S' tm (entG gb done) ∧ Src S' q r ∧ Upd [mi, jj, om, tm] S0 S') ls.length ⟨ls, [], ks0, gb0, bw0, rfl, by simp, rg, cl, by simp, fun j hj => ⟨hj, rfl, rfl⟩, hjg, ht, src, Upd.refl hw _⟩ ?_
  rintro m S1 ⟨lf, done, ks, gb, bw, hm, hpm, rg1, cl1, hdk, hag, hjg1, ht1, src1, u1⟩
  have le1 := u1.le
  refine nextN_mk u1.wf rg1 (fun a p b S2 e rg2 en u2 n2 => ?_) (fun S2 e g2 u2 n2 => ?_)
  · subst e
    have hpl : p ∈ ls := hpm.mem_iff.1 (by simp)
    have hk := hlv p hpl
    have cl2 := cl1.upd u2 (by simp only [List.mem_singleton]; omega) (by simp only [List.mem_singleton]; omega) fun i hi k hk => by simp only [List.mem_singleton] at hi; subst hi; exact hjg1 k hk
    have src2 := hsrc src1 u2 fun i hi => by simp only [List.mem_singleton] at hi; exact .inr (by omega)
    have hx2 : S2.get xb = some (.cells cx true) := u2.get (u1.get hx (by simp only [List.mem_cons, List.not_mem_nil, or_false]; omega)) (by simp only [List.mem_singleton]; omega)
    refine ⟨true, rfl, ifC_tt rfl (ifS_mk en ⟨p.1, rfl, ifS_mk (a := .ptr (q.fb p.2) 0) rfl (ifS_mk (ld hx2 hcx) (ifS_mk (callee_mk hO.can) ?_))⟩)⟩
    refine disk_Clone_1.spec hO.c1 hO.bytes u2.wf src2 inj cl2 (by omega) (fun k hk => ?_) (by omega) hk (hsz p.2) fun ks' gb' bw' S3 cl3 hk3 hag3 hfr3 u3 => ?_
    · obtain ⟨a1, a2, a3, a4⟩ := p1 k hk
      exact ⟨by omega, by omega, fun i hi => by have := (a4 i hi).1; omega⟩
    · have ht3 := (ht1.upd u2 (by simp only [List.mem_singleton]; omega)).upd u3 (by simp only [List.mem_singleton]; omega)
      have hge : entG gb done = entG gb' done := entG_congr fun x hx => ((hag3 _ (hdk x hx)).2.1).symm
      rw [hge] at ht3
      refine ⟨fun i hi => u3.keep i ?_ ?_, names_upd u3.wf ht3 p.1 (.ptr (gb' p.2) 0) fun S4 h4 u4 n4 => ?_⟩
      · simp only [List.mem_singleton] at hi; subst hi; omega
      · simp only [List.mem_singleton] at hi ⊢; omega
      · have hdone : NodK (done ++ p :: (a ++ b)) := by
          refine nod_perm hnod (List.Perm.trans ?_ hpm)
          exact List.Perm.append_left _ List.perm_middle.symm
        have hnp : dropK (entG gb' done) p.1 = entG gb' done := dropK_id fun x hx => by
          obtain ⟨y, hy, rfl⟩ := List.mem_map.1 hx
          intro e
          rw [NodK, List.map_append, List.map_cons, List.nodup_append] at hdone
          exact hdone.2.2 y.1 (List.mem_map_of_mem (f := (·.1)) hy) p.1 (by simp) e
        rw [hnp] at h4
        have cl4 := cl3.upd u4 (by simp only [List.mem_singleton]; omega) (by simp only [List.mem_singleton]; omega) fun i hi => by simp only [List.mem_singleton] at hi; subst hi; exact cl3.far u3.wf (.inl htb.2.1)
        have le3 := u3.le
        refine ⟨m - 1, ?_, a ++ b, done ++ [p], ks', gb', bw', ?_, ?_, ?_, cl4, fun x hx => ?_, fun j hj => ?_, fun k hk => ?_, h4.perm ?_, ?_, ?_⟩
        · simp only [List.length_append, List.length_cons] at hm; omega
        · simp only [List.length_append, List.length_cons] at hm ⊢; omega
        · refine List.Perm.trans ?_ hpm
          rw [List.append_assoc, List.singleton_append]
          exact List.Perm.append_left _ List.perm_middle.symm
        · exact (rg2.upd u3 (by simp only [List.mem_singleton]; omega) (by simp only [List.mem_singleton]; omega)).upd u4 (by simp only [List.mem_singleton]; omega) (by simp only [List.mem_singleton]; omega)
        · rcases List.mem_append.mp hx with hx | hx
          · exact (hag3 _ (hdk x hx)).1
          · simp only [List.mem_singleton] at hx; subst hx; exact hk3
        · obtain ⟨a1, a2, a3⟩ := hag j hj
          obtain ⟨b1, b2, b3⟩ := hag3 j a1
          exact ⟨b1, b2.trans a2, b3.trans a3⟩
        · rcases hfr3 k hk with h' | ⟨h1, h2⟩
          · obtain ⟨b1, b2, b3⟩ := hag3 k h'
            rw [b2, b3]; exact hjg1 k h'
          · exact ⟨by omega, fun hm => by have := h2 _ hm; omega⟩
        · simp only [entG, List.map_append, List.map_cons, List.map_nil]
          exact List.perm_append_comm (l₁ := [(p.1, V.ptr (gb' p.2) 0)])
        · exact hsrc (hsrc src2 u3 fun i hi => by simp only [List.mem_singleton] at hi; exact .inr (by omega)) u4 fun i hi => by simp only [List.mem_singleton] at hi; exact .inr (by omega)
        · exact ((u1.after u2 fun i hi => .inr (by simp only [List.mem_singleton] at hi; simp [hi])).after u3 fun i hi => .inr (by simp only [List.mem_singleton] at hi; simp [hi])).after u4 fun i hi => .inr (by simp only [List.mem_singleton] at hi; simp [hi])
  · subst e
    rw [List.append_nil] at hpm
    have hno : mi ≠ tm ∧ mi ≠ oc ∧ mi ≠ om := by omega
    refine ⟨false, rfl, ifC_ff rfl (hR ks gb bw S2 (cl1.upd u2 (by simp only [List.mem_singleton]; omega) (by simp only [List.mem_singleton]; omega) fun i hi => by simp only [List.mem_singleton] at hi; subst hi; exact cl1.far u1.wf (.inl (by omega))) (fun p hp => hdk p (hpm.mem_iff.2 hp)) hag ?_ (hsrc src1 u2 fun i hi => by simp only [List.mem_singleton] at hi; exact .inl hi) g2 (u1.after u2 fun i hi => .inr (by simp only [List.mem_singleton] at hi; simp [hi])))⟩
    exact (ht1.upd u2 (by simp only [List.mem_singleton]; omega)).perm (hpm.map _)

end Go.Th.L
end

section
/- A disk is copied: all of it. -/
set_option linter.unusedSimpArgs false
set_option linter.unusedVariables false
set_option maxHeartbeats 4000000
namespace Go.Th.L
open Go Go.Th Go.Th.Pure
variable {P : Program} {N : Nat → Nat}

theorem SlAt.same {S S' : St} {k : Nat} {v : V} {n : Nat} {cs : List V} (h : SlAt S k v n cs) (e : ∀ i ∈ v.block, S'.get i = S.get i) : SlAt S' k v n cs := by
  obtain ⟨h1, h2, h3⟩ := h
  refine ⟨h1, h2, ?_⟩
  rcases h3 with h | ⟨i, o, c, t, rfl, hc, hl⟩
  · exact .inl h
  · refine .inr ⟨i, o, c, t, rfl, hc, ?_⟩
    have := e i (by simp [V.block])
    unfold St.loads at hl ⊢
    rw [this]; exact hl

theorem copied_ch (hO : CloneF P N) {S : St} (hw : S.Wf) {F : Nat} {q : DP} {r : DiskR} {oc om : Nat} {ks : List Nat} {gb : Nat → Nat} {bw : Nat → V} (src : Src S q r) (inj : ∀ k k', q.lv k → q.lv k' → q.fb k = q.fb k' → k = k')
    (cl : Cl S F q r oc om ks gb bw) (hFn : F ≤ S.next) (hlt : ∀ k, q.lv k → q.fb k < F ∧ q.fb k ≠ om ∧ ∀ i ∈ (q.bv k).block, i < F ∧ i ≠ om) (hoo : oc ≠ om) {c : ChR} (hc : c.kind ≠ 3 → q.lv c.file) (hsz : ∀ k, (r.fl k).b.length ≤ 4194304) {K : V → St → Prop}
    (hK : ∀ ks' gb' bw' S', Cl S' F q r oc om ks' gb' bw' → (c.kind ≠ 3 → c.file ∈ ks') → (∀ j ∈ ks, j ∈ ks' ∧ gb' j = gb j ∧ bw' j = bw j) → (∀ j ∈ ks', j ∈ ks ∨ (S.next ≤ gb' j ∧ ∀ i ∈ (bw' j).block, S.next ≤ i)) → Upd [om] S S' → K (chP gb' c) S') :
    CallA P (N Fn.disk_Disk_Clone_1) [chP q.fb c, .ptr oc 0] S (retT [.one .any] K) := by
  by_cases h3 : c.kind = 3
  · have e : ∀ f, chP f c = .nilPtr := fun f => by simp [chP, h3]
    rw [e]
    refine disk_Clone_1.nil hO.c1 ?_
    have := hK ks gb bw S cl (fun h => absurd h3 h) (fun j hj => ⟨hj, rfl, rfl⟩) (fun j hj => .inl hj) (Upd.refl hw _)
    rwa [e] at this
  · have e : ∀ f, chP f c = .ptr (f c.file) 0 := fun f => by simp [chP, h3]
    rw [e]
    refine disk_Clone_1.spec hO.c1 hO.bytes hw src inj cl hFn hlt hoo (hc h3) (hsz _) fun ks' gb' bw' S' a b c' d u => ?_
    have := hK ks' gb' bw' S' a (fun _ => b) c' d u
    rwa [e] at this

theorem disk_Disk_Clone.spec (hO : CloneF P N) {S : St} (hw : S.Wf) {D B : List Nat} {q : DP} {r : DiskR} (h : DiskIn S D B q r) {M : Nat} (hok : OkR M r) (hM : M ≤ 1000000) {K : V → St → Prop}
    (hk : ∀ S' D' B' q', Grow S S' → DiskIn S' D' B' q' r → (∀ i ∈ D', S.next ≤ i) → (∀ i ∈ B', S.next ≤ i) → q'.d = S.next → K (.ptr q'.d 0) S') : CallA P (N Fn.disk_Disk_Clone) [.ptr q.d 0] S (retT [.one .any] K) := by
  refine disk_Disk_Clone.run hO.clone ⟨false, rfl, ifC_ff rfl ⟨rfl, r.room, .map q.bn, .map q.bs, q.cv, r.steps, stopsR r, leftC r, ldN h.obj (by simp [objC]) rfl, ?_⟩⟩
  have cv1 := h.chs.at_.cells1
  have cvo := h.chs.at_.one1
  refine newS_mk hw fun S1 g1 m1 n1 => st_mk g1.wf m1 rfl (by simp [V.cells]) (by simp only [V.cells, List.all_cons, List.all_nil, cvo]; rfl) fun S2 u2 m2 n2 => newS_mk u2.wf fun S3 g3 m3 n3 => newS_mk g3.wf fun S4 g4 m4 n4 => st_mk g4.wf m4 rfl (by simp [V.cells]) (by simp [V.cells, V.one]) fun S5 u5 m5 n5 => newS_mk u5.wf fun S6 g6 m6 n6 => newS_mk g6.wf fun S7 g7 m7 n7 => ?_
  simp only [V.cells, over] at m2 m5
  have ex : S2.next = S.next + 1 := by omega
  have e3 : S3.next = S.next + 2 := by omega
  have e5 : S5.next = S.next + 3 := by omega
  have e6 : S6.next = S.next + 4 := by omega
  have e7 : S7.next = S.next + 5 := by omega
  have x7 : S7.get S.next = some (.cells [.int .i64 r.room, .map q.bn, .map q.bs, q.cv, .int .i64 r.steps, .bool (stopsR r), .int .i64 (leftC r)] true) := g7.get (g6.get (u5.get (g4.get (g3.get m2)) (by simp only [List.mem_singleton]; omega)))
  refine st_mk g7.wf x7 rfl (by simp [V.cells]) (by simp [V.cells, V.one]) fun S8 u8 m8 n8 => st_mk u8.wf m8 rfl (by simp [V.cells, over]) (by simp [V.cells, V.one]) fun S9 u9 m9 n9 => st_mk u9.wf m9 rfl (by simp [V.cells, over]) (by simp [V.cells, V.one]) fun S10 u10 m10 n10 => ?_
  simp only [V.cells, over] at m10
  have x10 : S10.get S.next = some (.cells [.int .i64 r.room, .map S5.next, .map S6.next, .nilSlice, .int .i64 r.steps, .bool (stopsR r), .int .i64 (leftC r)] true) := m10
  have gA : Grow S S10 := by
    have t1 := g1.after u2 (fun i hi => .inl (by simp only [List.mem_singleton] at hi; omega))
    have t2 := ((t1.trans g3).trans g4).after u5 (fun i hi => .inl (by simp only [List.mem_singleton] at hi; omega))
    have t3 := (t2.trans g6).trans g7
    exact ((t3.after u8 (fun i hi => .inl (by simp only [List.mem_singleton] at hi; omega))).after u9 (fun i hi => .inl (by simp only [List.mem_singleton] at hi; omega))).after u10 (fun i hi => .inl (by simp only [List.mem_singleton] at hi; omega))
  have uX : Upd [S.next] S7 S10 := (u8.trans u9).trans u10
  have e10 : S10.next = S.next + 5 := by omega
  have hoc : S10.get S3.next = some (.cells [.map S2.next] true) := uX.get (g7.get (g6.get m5)) (by simp only [List.mem_singleton]; omega)
  have hom : S10.get S2.next = some (.map [] true) := uX.get (g7.get (g6.get (u5.get (g4.get m3) (by simp only [List.mem_singleton]; omega)))) (by simp only [List.mem_singleton]; omega)
  have hnm : S10.get S5.next = some (.map [] true) := uX.get (g7.get m6) (by simp only [List.mem_singleton]; omega)
  have hsm : S10.get S6.next = some (.map [] true) := uX.get m7 (by simp only [List.mem_singleton]; omega)
  have h10 := h.grow gA
  have pl : Pl q S.next S10.next S.next S3.next S2.next S5.next S6.next := by
    refine ⟨fun k hk => ⟨h.ltD _ (h.dF k hk), (h.neF k hk).2.1, (h.neF k hk).2.2, fun i hi => ⟨h.ltB _ (h.dB k hk i hi), fun e => h.apart _ h.dN (by rw [← e]; exact h.dB k hk i hi), fun e => h.apart _ h.dS (by rw [← e]; exact h.dB k hk i hi)⟩⟩, ⟨h.ltD _ h.dN, h.ltD _ h.dS, h.ne3⟩, ?_, ?_, ?_⟩ <;> omega
  have src10 : Src S10 q r := fun k hk => ⟨(h10.fl k hk).1, (h10.fl k hk).2.at_⟩
  have cl10 : Cl S10 S10.next q r S3.next S2.next [] (fun _ => 0) (fun _ => .nilSlice) := ⟨hoc, hom, by simp, by simp, by simp, by simp, by omega⟩
  have hsz : ∀ k, (r.fl k).b.length ≤ 4194304 := fun k => (hok.fl k).2
  have hstN := hok.stNow
  have hstS := hok.stSafe
  refine ⟨rfl, ifS_mk (a := .ptr q.d 1) rfl (ifS_mk (ld h10.obj rfl) (rangeN_mk gA.wf h10.now fun ls S11 hp hg0 rg11 u11 n11 => ?_))⟩
  have hbl := h.ltD _ h.dN
  have hbl2 := h.ltD _ h.dS
  have hbd := h.ltD _ h.dD
  have hbnd := h.ne1
  have hne3 := h.ne3
  have cl11 := cl10.upd u11 (by simp only [List.mem_singleton]; omega) (by simp only [List.mem_singleton]; omega) (by simp)
  have src11 : Src S11 q r := src10.upd u11 fun k hk => by
    obtain ⟨a1, a2, a3, a4⟩ := pl.fb k hk
    exact ⟨by simp only [List.mem_singleton]; exact a2, fun i hi => by simp only [List.mem_singleton]; exact (a4 i hi).2.1⟩
  have x11 := u11.get x10 (by simp only [List.mem_singleton]; omega)
  refine copy_names hO (o := 1) (tm := S5.next) pl h.inj (.inl rfl) (.inl rfl) ⟨Nat.le_refl _, by omega⟩ (by omega) u11.wf rg11 (nod_perm hstN.sorted.nod hp) (fun p hpp => h.lvN p (hp.mem_iff.1 hpp)) hsz src11 cl11 (by simp) x11 rfl (NamesAt.new (S := S) (u11.get hnm (by simp only [List.mem_singleton]; omega))) fun ks1 gb1 bw1 Sa cla hka haga hna srca hga ua => ?_
  have lea := ua.le
  have oa : Sa.get q.d = some (.cells (objC q r) true) := ua.get (u11.get h10.obj (by simp only [List.mem_singleton]; omega)) (by simp only [List.mem_cons, List.not_mem_nil, or_false]; omega)
  have sa : NamesAt Sa q.bs (entG q.fb r.safe) := (h10.safe.upd u11 (by simp only [List.mem_singleton]; omega)).upd ua (by simp only [List.mem_cons, List.not_mem_nil, or_false]; omega)
  refine ⟨rfl, ifS_mk (a := .ptr q.d 2) rfl (ifS_mk (ld oa rfl) (rangeN_mk ua.wf sa fun ls2 Sb hp2 hg2 rgb ub nb => ?_))⟩
  have xa := ua.get x11 (by simp only [List.mem_cons, List.not_mem_nil, or_false]; omega)
  have xb := ub.get xa (by simp only [List.mem_singleton]; omega)
  have clb := cla.upd ub (by simp only [List.mem_singleton]; omega) (by simp only [List.mem_singleton]; omega) fun i hi => by simp only [List.mem_singleton] at hi; subst hi; exact cla.far ua.wf (.inl (by omega))
  have srcb : Src Sb q r := srca.upd ub fun k hk => by
    obtain ⟨a1, a2, a3, a4⟩ := pl.fb k hk
    exact ⟨by simp only [List.mem_singleton]; exact a3, fun i hi => by simp only [List.mem_singleton]; exact (a4 i hi).2.2⟩
  have smb : NamesAt Sb S6.next [] := NamesAt.new (S := S) (ub.get (ua.get (u11.get hsm (by simp only [List.mem_singleton]; omega)) (by simp only [List.mem_cons, List.not_mem_nil, or_false]; omega)) (by simp only [List.mem_singleton]; omega))
  refine copy_names hO (o := 2) (tm := S6.next) pl h.inj (.inr rfl) (.inr rfl) ⟨by omega, by omega⟩ (by omega) ub.wf rgb (nod_perm hstS.sorted.nod hp2) (fun p hpp => h.lvS p (hp2.mem_iff.1 hpp)) hsz srcb clb (fun k hk => cla.far ua.wf (.inr (Nat.le_refl _)) k hk) xb rfl smb fun ks2 gb2 bw2 Sc clc hkc hagc hnc srcc hgc uc => ?_
  have lec := uc.le
  have leb := ub.le
  have nmc : NamesAt Sc S5.next (entG gb2 ls) := by
    have := (hna.upd ub (by simp only [List.mem_singleton]; omega)).upd uc (by simp only [List.mem_cons, List.not_mem_nil, or_false]; omega)
    have e : entG gb1 ls = entG gb2 ls := entG_congr fun p hp => ((hagc _ (hka p hp)).2.1).symm
    rwa [e] at this
  have oc : Sc.get q.d = some (.cells (objC q r) true) := uc.get (ub.get oa (by simp only [List.mem_singleton]; exact fun e => h.ne2 e.symm)) (by simp only [List.mem_cons, List.not_mem_nil, or_false]; have := h.ne2; omega)
  have hcvl : ∀ i ∈ q.cv.block, i < S.next ∧ i ≠ q.bn ∧ i ≠ q.bs := fun i hi => ⟨h.ltD _ (h.dC i hi), (h.neC i hi).2.1, (h.neC i hi).2.2.1⟩
  have slE : ∀ {S'}, Acc S' 0 3 q.cv r.chs.length (r.chs.map (chC q.fb)).flatten → SlE S' 3 q.cv (r.chs.map (chC q.fb)) := fun a => ⟨by
    have := a.at_
    have e : (r.chs.map (chC q.fb)).length = r.chs.length := by simp
    rw [e]; exact this, fun e he => by
    obtain ⟨c, _, rfl⟩ := List.mem_map.1 he; rfl⟩
  have accc : Acc Sc 0 3 q.cv r.chs.length (r.chs.map (chC q.fb)).flatten := ((h10.chs.upd u11 fun i hi => by have := hcvl i hi; simp only [List.mem_singleton]; omega).upd ua fun i hi => by have := hcvl i hi; simp only [List.mem_cons, List.not_mem_nil, or_false]; omega).upd ub (fun i hi => by have := hcvl i hi; simp only [List.mem_singleton]; omega) |>.upd uc fun i hi => by have := hcvl i hi; simp only [List.mem_cons, List.not_mem_nil, or_false]; omega
  have slc := slE accc
  have hln : (r.chs.map (chC q.fb)).length = r.chs.length := by simp
  have hn1 := hok.n1
  have xc := uc.get xb (by simp only [List.mem_cons, List.not_mem_nil, or_false]; omega)
  refine ⟨rfl, ifS_mk (a := .ptr q.d 3) rfl (ifS_mk (ld oc rfl) ⟨_, slc.len, ?_⟩)⟩
  rw [hln]
  -- the changes
  refine Loop1.ind (fun m z S' => ∃ (i : Nat) (v : V) (ks : List Nat) (gb : Nat → Nat) (bw : Nat → V), z = i ∧ i + m = r.chs.length ∧ Cl S' S10.next q r S3.next S2.next ks gb bw ∧ (∀ j ∈ ks2, j ∈ ks ∧ gb j = gb2 j ∧ bw j = bw2 j) ∧ (∀ c ∈ r.chs.take i, c.kind ≠ 3 → c.file ∈ ks) ∧ Src S' q r ∧
    S'.get S.next = some (.cells [.int .i64 r.room, .map S5.next, .map S6.next, v, .int .i64 r.steps, .bool (stopsR r), .int .i64 (leftC r)] true) ∧ Acc S' S10.next 3 v i ((r.chs.take i).map (chC gb)).flatten ∧ (∀ k ∈ ks, gb k ∉ v.block ∧ ∀ j ∈ (bw k).block, j ∉ v.block) ∧
    NamesAt S' S5.next (entG gb ls) ∧ NamesAt S' S6.next (entG gb ls2) ∧ S'.Wf ∧ Sc.next ≤ S'.next ∧ ∀ j, j < S.next → S'.get j = Sc.get j) r.chs.length
    ⟨0, .nilSlice, ks2, gb2, bw2, rfl, by omega, clc, fun j hj => ⟨hj, rfl, rfl⟩, by simp, srcc, xc, by simpa using Acc.nil _ _ _, fun k hk => ⟨by simp [V.block], fun j _ => by simp [V.block]⟩, nmc, hnc, uc.wf, Nat.le_refl _, fun j _ => rfl⟩ ?_
  rintro m z Sd ⟨i, v, ks, gb, bw, rfl, him, cld, hagd, hcd, srcd, xd, accd, hvd, nmd, smd, wd, led, hfr⟩
  refine ifC_dec (fun hlt => ?_) (fun hge => ?_)
  · have hi : i < r.chs.length := by omega
    have sld : SlE Sd 3 q.cv (r.chs.map (chC q.fb)) := ⟨SlAt.same slc.1 fun j hj => hfr j (hcvl j hj).1, slc.2⟩
    have hget : (r.chs.map (chC q.fb))[i]'(by rw [hln]; exact hi) = chC q.fb r.chs[i] := by simp
    have hck := hok.chs _ (List.getElem_mem hi)
    have hclv := h.lvC _ (List.getElem_mem hi)
    have htake : r.chs.take (i + 1) = r.chs.take i ++ [r.chs[i]] := by rw [List.take_add_one, List.getElem?_eq_getElem hi]; rfl
    generalize hce : r.chs[i] = c at hget hck hclv htake
    have hSx : S.next < Sd.next := by omega
    have hvlt : ∀ j ∈ v.block, S10.next ≤ j ∧ j < Sd.next := fun j hj => by
      obtain ⟨a, vs, b⟩ := accd.own j hj
      exact ⟨a, wd.lt b⟩
    refine ifS_mk (sld.idx (j := i) (by rw [hln]; exact hi)) ⟨c.fr, c.to, chP q.fb c, by rw [sld.getN (j := i) (by rw [hln]; exact hi) (by omega), hget]; rfl, newS_mk wd fun S22 g22 m22 n22 => st_mk g22.wf m22 rfl (by simp [V.cells]) (by simp only [V.cells, List.all_cons, List.all_nil, chP_one]; rfl) fun S23 u23 m23 n23 => ?_⟩
    simp only [V.cells, over] at m23
    have g23 : Grow Sd S23 := g22.after u23 fun j hj => .inl (by simp only [List.mem_singleton] at hj; omega)
    have src23 := srcd.upd g23 (fun k hk => ⟨by simp, by simp⟩)
    have cl23 := cld.upd g23 (by simp) (by simp) (by simp)
    refine ifS_mk (ld (g23.get xd) rfl) ⟨c.fr, ld m23 rfl, c.to, ld m23 rfl, ifS_mk (ld m23 rfl) (ifS_mk (callee_mk hO.can) ?_)⟩
    refine copied_ch hO u23.wf src23 h.inj cl23 (by omega) (fun k hk => ?_) (by omega) hclv hsz fun ks' gb' bw' S24 cl24 hc24 hag24 hfr24 u24 => ?_
    · obtain ⟨a1, a2, a3, a4⟩ := pl.fb k hk
      exact ⟨by omega, by omega, fun j hj => by have := (a4 j hj).1; omega⟩
    have le24 := u24.le
    have le23 := g23.le
    refine ⟨fun j hj => u24.keep j ?_ ?_, chP_cells _ _, newS_mk u24.wf fun S25 g25 m25 n25 => ⟨Same.of_grow g25 fun j hj => ?_, ?_⟩⟩
    · simp only [List.mem_cons, List.not_mem_nil, or_false] at hj; omega
    · simp only [List.mem_cons, List.not_mem_nil, or_false] at hj ⊢; omega
    · simp only [List.mem_cons, List.not_mem_nil, or_false] at hj; omega
    have hs : srcV 3 S25 (.slice S24.next 0 1 1 3 true) = some (1, chC gb' c) := by
      simp only [srcV, if_true]
      rw [St.loads_of m25 (by simp)]; rfl
    have hmap : (r.chs.take i).map (chC gb) = (r.chs.take i).map (chC gb') := chC_congr fun c' hc' hk' => ((hag24 _ (hcd c' hc' hk')).2.1).symm
    have acc24 : Acc S24 S10.next 3 v i ((r.chs.take i).map (chC gb')).flatten := by
      rw [← hmap]
      exact (accd.grow g23).upd u24 fun j hj => by have := hvlt j hj; simp only [List.mem_singleton]; omega
    obtain ⟨v', S26, e26, a26, u26, t26⟩ := (acc24.grow g25).app g25.wf (by omega) hs rfl (by simp only [chC, List.all_cons, List.all_nil, chP_one]; rfl) (bytes := 40) (by omega) (by omega)
    have le25 := g25.le
    have le26 := u26.le
    have nvb : ∀ j, j < S10.next ∨ Sd.next ≤ j → j ∉ v.block := fun j hj hm => by have := hvlt j hm; omega
    have x26 := u26.get (g25.get (u24.get (g23.get xd) (by simp only [List.mem_singleton]; omega))) (nvb _ (.inl (by omega)))
    refine ifP_mk e26 (st_mk u26.wf x26 (by rw [a26.at_.cells1]; rfl) (by rw [a26.at_.cells1]; simp) (by rw [a26.at_.cells1]; simp [a26.at_.one1]) fun S27 u27 m27 n27 => setI_mk (n := ((i + 1 : Nat) : Int)) (by rw [IntKind.wrap_i64]; omega) ?_)
    rw [a26.at_.cells1] at m27
    simp only [over] at m27
    have hgv : ∀ k ∈ ks', gb' k ∉ v.block ∧ ∀ j ∈ (bw' k).block, j ∉ v.block := fun k hk => by
      rcases hfr24 k hk with h' | ⟨h1, h2⟩
      · obtain ⟨b1, b2, b3⟩ := hag24 k h'
        rw [b2, b3]; exact hvd k h'
      · exact ⟨nvb _ (.inr (by omega)), fun j hj => nvb _ (.inr (by have := h2 j hj; omega))⟩
    have cl25 := cl24.upd g25 (by simp) (by simp) (by simp)
    have cl26 := cl25.upd u26 (nvb _ (.inl (by omega))) (nvb _ (.inl (by omega))) fun j hj k hk => ⟨fun e => (hgv k hk).1 (by rw [← e]; exact hj), fun hm => (hgv k hk).2 j hm hj⟩
    have cl27 := cl26.upd u27 (by simp only [List.mem_singleton]; omega) (by simp only [List.mem_singleton]; omega) fun j hj => by simp only [List.mem_singleton] at hj; subst hj; exact cl26.far u26.wf (.inl (by omega))
    have hsame : ∀ j, j < Sd.next → j ≠ S2.next → j ∉ v.block → j ≠ S.next → S27.get j = Sd.get j := fun j h1 h2 h3 h4 => by
      rw [u27.keep j (by omega) (by simpa using h4), u26.keep j (by omega) h3, g25.keep j (by omega) (by simp), u24.keep j (by omega) (by simpa using h2), g23.keep j h1 (by simp)]
    have nmk : ∀ {t l}, NamesAt Sd t (entG gb l) → (t = S5.next ∨ t = S6.next) → (∀ p ∈ l, p.2 ∈ ks) → NamesAt S27 t (entG gb' l) := fun {t l} hn ht hl => by
      have e : entG gb l = entG gb' l := entG_congr fun p hp => ((hag24 _ (hl p hp)).2.1).symm
      rw [e] at hn
      obtain ⟨⟨es, h1, h2⟩, h3⟩ := hn
      refine ⟨⟨es, h1, ?_⟩, h3⟩
      rw [hsame t (by omega) (by omega) (nvb _ (.inl (by omega))) (by omega)]; exact h2
    refine ⟨m - 1, by omega, i + 1, v', ks', gb', bw', rfl, by omega, cl27, fun j hj => ?_, fun c' hc' hk' => ?_, ?_, m27, ?_, fun k hk => ?_, nmk nmd (.inl rfl) fun p hp => (hagd _ ((hagc _ (hka p hp)).1)).1, nmk smd (.inr rfl) fun p hp => (hagd _ (hkc p hp)).1, u27.wf, by have := u27.le; omega, fun j hj => ?_⟩
    · obtain ⟨a1, a2, a3⟩ := hagd j hj
      obtain ⟨b1, b2, b3⟩ := hag24 j a1
      exact ⟨b1, b2.trans a2, b3.trans a3⟩
    · rw [htake] at hc'
      rcases List.mem_append.mp hc' with hc' | hc'
      · exact (hag24 _ (hcd c' hc' hk')).1
      · simp only [List.mem_singleton] at hc'; subst hc'; exact hc24 hk'
    · intro k hk
      obtain ⟨a1, a2, a3, a4⟩ := pl.fb k hk
      obtain ⟨f1, f2⟩ := srcd k hk
      refine ⟨by rw [hsame _ (by omega) (by omega) (nvb _ (.inl (by omega))) (by omega)]; exact f1, SlAt.same f2 fun j hj => ?_⟩
      have := (a4 j hj).1
      exact hsame j (by omega) (by omega) (nvb _ (.inl (by omega))) (by omega)
    · rw [htake, List.map_append, List.flatten_append]
      have := a26.upd u27 fun j hj => by
        simp only [List.mem_singleton]
        rcases t26 j hj with h' | h'
        · have := hvlt j h'; omega
        · omega
      simpa using this
    · obtain ⟨h1, h2⟩ := hgv k hk
      obtain ⟨a, b, c1, d⟩ := cl24.fl k hk
      refine ⟨fun hm => ?_, fun j hj hm => ?_⟩
      · rcases t26 _ hm with h' | h'
        · exact h1 h'
        · omega
      · rcases t26 _ hm with h' | h'
        · exact h2 j hj h'
        · obtain ⟨_, vs, hg⟩ := b.own j hj
          have := u24.wf.lt hg; omega
    · rw [hsame j (by omega) (by omega) (nvb _ (.inl (by omega))) (by omega)]; exact hfr j hj
  · have : i = r.chs.length := by omega
    subst this
    rw [List.take_length] at hcd accd
    have hvlt : ∀ j ∈ v.block, S10.next ≤ j ∧ j < Sd.next := fun j hj => by
      obtain ⟨a, vs, b⟩ := accd.own j hj
      exact ⟨a, wd.lt b⟩
    have hbwl : ∀ k ∈ ks, ∀ j ∈ (bw k).block, S10.next ≤ j ∧ j < Sd.next := fun k hk j hj => by
      obtain ⟨a, b, c, d⟩ := cld.fl k hk
      obtain ⟨e, vs, g⟩ := b.own j hj
      exact ⟨e, wd.lt g⟩
    have gg : Grow S Sd := by
      refine ⟨hw, wd, by omega, fun j hj _ => ?_⟩
      rw [hfr j hj]
      by_cases e1 : j = q.bs
      · subst e1
        rw [hgc, ← hg2, ua.keep _ (by omega) (by simp only [List.mem_cons, List.not_mem_nil, or_false]; omega), u11.keep _ (by omega) (by simp only [List.mem_singleton]; omega), gA.keep _ hj (by simp)]
      · rw [uc.keep j (by omega) (by simp only [List.mem_cons, List.not_mem_nil, or_false]; omega), ub.keep j (by omega) (by simpa using e1)]
        by_cases e2 : j = q.bn
        · subst e2
          rw [hga, ← hg0, gA.keep _ hj (by simp)]
        · rw [ua.keep j (by omega) (by simp only [List.mem_cons, List.not_mem_nil, or_false]; omega), u11.keep j (by omega) (by simpa using e2), gA.keep j hj (by simp)]
    refine hk Sd (S.next :: S5.next :: S6.next :: (v.block ++ ks.map gb)) (ks.flatMap fun k => (bw k).block) { d := S.next, bn := S5.next, bs := S6.next, cv := v, fb := gb, bv := bw, lv := fun k => k ∈ ks } gg ?_ ?_ ?_ rfl
    · have kN : ∀ p ∈ ls, p.2 ∈ ks := fun p hp => (hagd _ ((hagc _ (hka p hp)).1)).1
      have kS : ∀ p ∈ ls2, p.2 ∈ ks := fun p hp => (hagd _ (hkc p hp)).1
      refine ⟨xd, nmd.perm (hp.map _), smd.perm (hp2.map _), accd.below (Nat.zero_le _), fun k hk => ⟨(cld.fl k hk).1, (cld.fl k hk).2.1.below (Nat.zero_le _)⟩, fun k k' hk hk' e => cld.inj k hk k' hk' e, fun p hpp => kN p (hp.mem_iff.2 hpp), fun p hpp => kS p (hp2.mem_iff.2 hpp), hcd, fun k hk => h.lvI k (cld.sub k hk), by simp, by simp, by simp, fun j hj => by simp [hj], fun k hk => ?_, fun k hk j hj => List.mem_flatMap.2 ⟨k, hk, hj⟩, fun j hj => ?_, fun j hj => ?_, fun j hj hB => ?_, by simp only; omega, by simp only; omega, by simp only; omega, fun j hj => ⟨?_, ?_, ?_, fun k hk e => (hvd k hk).1 (by rw [show gb k = j from e.symm]; exact hj)⟩, fun k hk => ⟨?_, ?_, ?_⟩⟩
      · refine List.mem_cons_of_mem _ (List.mem_cons_of_mem _ (List.mem_cons_of_mem _ (List.mem_append_right _ (List.mem_map_of_mem hk))))
      · simp only [List.mem_cons, List.mem_append, List.mem_map] at hj
        rcases hj with rfl | rfl | rfl | hj | ⟨k, hk, rfl⟩
        · omega
        · omega
        · omega
        · exact (hvlt j hj).2
        · exact (cld.fl k hk).2.2.2
      · obtain ⟨k, hk, hj⟩ := List.mem_flatMap.1 hj
        exact (hbwl k hk j hj).2
      · obtain ⟨k', hk', hj'⟩ := List.mem_flatMap.1 hB
        have := hbwl k' hk' j hj'
        simp only [List.mem_cons, List.mem_append, List.mem_map] at hj
        rcases hj with rfl | rfl | rfl | hj | ⟨k, hk, rfl⟩
        · omega
        · omega
        · omega
        · exact (hvd k' hk').2 j hj' hj
        · exact cld.ap k hk k' hk' hj'
      · have := hvlt j hj; simp only; omega
      · have := hvlt j hj; simp only; omega
      · have := hvlt j hj; simp only; omega
      · have := (cld.fl k hk).2.2.1; simp only; omega
      · have := (cld.fl k hk).2.2.1; simp only; omega
      · have := (cld.fl k hk).2.2.1; simp only; omega
    · intro j hj
      simp only [List.mem_cons, List.mem_append, List.mem_map] at hj
      rcases hj with rfl | rfl | rfl | hj | ⟨k, hk, rfl⟩
      · omega
      · omega
      · omega
      · have := hvlt j hj; omega
      · have := (cld.fl k hk).2.2.1; omega
    · intro j hj
      obtain ⟨k, hk, hj⟩ := List.mem_flatMap.1 hj
      have := hbwl k hk j hj; omega

end Go.Th.L
end
