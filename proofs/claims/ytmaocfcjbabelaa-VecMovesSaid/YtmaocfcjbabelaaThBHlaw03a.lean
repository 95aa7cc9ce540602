/- What the row of one statement stands on: a store, abstract code, functions of the program and their laws (ThHlaw03a). -/
import Derived.Test.YtmaocfcjbabelaaThBPbox

section
/- The laws of layer 3: VecDists, VecMoves, VecScale, VecTriangle. -/
set_option linter.unusedSimpArgs false
set_option linter.unusedVariables false
namespace Go.Th.L
open Go Go.Th Go.Th.Pure
variable {P : Program} {N : Nat → Nat}

theorem eqW {a b c d : Int} (h : Wok a b) (h' : Wok c d) : eqV 6 [1, 1] (wV a b) (wV c d) = some (decide (wN a b = wN c d)) := by
  rw [eq2_mk]; congr 1; exact decide_eq_decide.mpr (wN_inj h h').symm
theorem eqW0 {a b : Int} (h : Wok a b) : eqV 6 [1, 1] (wV a b) (wV 0 0) = some (decide (wN a b = 0)) := by
  rw [eqW h ⟨by omega, by omega, by omega, by omega⟩, show wN 0 0 = 0 from rfl]

theorem decide_int (a b : Int) : decide (a = b) = decide (a = b) := rfl

/-- What the laws stand on. -/
structure Law03Ok (P : Program) (N : Nat → Nat) : Prop where
  dist : DistOk P (N Fn.vec_Dist)
  dist' : DistOk P (N Fn.ref03_Dist)
  check : ChecksV P (N Fn.vec_Check)
  check' : ChecksV P (N Fn.ref03_Check)
  lend : keep_Lend.Spec P N
  back : keep_Back.Spec P N
  ints : keep_Ints.Spec P N
  add : ref01_Add.Spec P N
  root : ref03_Root.Spec P N
  awake : AwakeF P (N Fn.law03_awake)

/-- A distance as it is told. -/
def distT (a b : List Int) (h l e : Int) : Prop := Wok h l ∧ e = distE a b ∧ wN h l = if distE a b = 0 then distL a b else 0
theorem DistOk.tell {f : Nat} (hD : DistOk P f) {u v : V} {a b : List Int} {S : St} {K : Int → Int → Int → St → Prop} (hu : IntsAt S u a) (hv : IntsAt S v b) (hk : ∀ h l e, distT a b h l e → K h l e S) :
    CallA P f [u, v] S (retT [.agg [.int .u64, .int .u64], .one (.int .i64)] K) :=
  hD u v a b S K hu hv (fun h => hk _ _ _ ⟨⟨by omega, by omega, by omega, by omega⟩, rfl, by rw [if_neg h]; rfl⟩) (fun h hi lo hw hn => hk _ _ _ ⟨hw, h.symm, by rw [if_pos h]; exact hn⟩)

/-- A number of 128 bits is kept. -/
theorem keepW {S : St} (hw : S.Wf) {h l : Int} {K : St → Prop} (hk : ∀ S', Grow S S' → S'.get S.next = some (.cells [.int .u64 h, .int .u64 l] true) → S'.next = S.next + 1 → K S') :
    newS S (.cells [.int .u64 0, .int .u64 0] true) fun S1 => ifS (storeV S1 2 (.ptr S.next 0) (wV h l)) K :=
  newS_mk hw fun S1 g1 m1 n1 => st_mk g1.wf m1 rfl (by simp [V.cells]) rfl fun S2 u2 m2 n2 => hk S2 (g1.after u2 (by simp)) (by simpa [over, V.cells] using m2) (by omega)

def law03_VecDists.Spec (P : Program) (N : Nat → Nat) : Prop := ∀ (u v : V) (a b : List Int) (d : Int) (S : St) (K : Bool → St → Prop), S.Wf → IntsAt S u a → IntsAt S v b → (∀ S', K true S') → CallA P (N Fn.law03_VecDists) [u, v, .int .i64 d] S (retT [.one .bool] K)
theorem law03_VecDists.spec (hF : law03_VecDists.Ok P N) (hO : Law03Ok P N) : law03_VecDists.Spec P N := by
  intro u v a b d S K hw hu hv hk
  refine law03_VecDists.run hF (Join0.mid (fun S' => S' = S ∧ a.length ≤ 65536 ∧ b.length ≤ 65536) ⟨_, hu.len, ifC_dec (fun h => hk _) (fun h => ⟨_, hv.len, ifC_dec (fun h => hk _) (fun h' => ⟨rfl, by omega, by omega⟩)⟩)⟩ ?_)
  rintro S1 ⟨rfl, hla, hlb⟩
  refine hO.lend u a S1 _ hw hu (by omega) fun S2 x g2 lx => hO.lend v b S2 _ g2.wf (hv.grow g2) (by omega) fun S3 y g3 ly => ?_
  have lx3 := lx.upd g3 (by simp)
  refine hO.dist.tell lx3.sl ly.sl fun h l e hT => keepW g3.wf fun S6 g6 m6 n6 => ?_
  have lx6 := lx3.upd g6 (by simp)
  have ly6 := ly.upd g6 (by simp)
  have hu6 := hu.grow ((g2.trans g3).trans g6)
  have hv6 := hv.grow ((g2.trans g3).trans g6)
  have xlt := lx.lt g2.wf
  have ylt := ly.lt g3.wf
  have ylo := ly.from
  refine hO.check x a d S6 _ lx6.sl (hO.back x u a S6 S1.next _ g6.wf lx6 hu6 (by omega) fun S8 u8 => ?_)
  have ly8 := ly6.upd u8 fun i hi hi' => by have := ylo i hi; have := xlt i hi'; omega
  have gg8 : Grow S1 S8 := ((g2.trans g3).trans g6).after u8 fun i hi => .inl (lx.from i hi)
  have m8 := u8.get m6 fun hi => by have := xlt _ hi; have := g3.le; omega
  refine hO.back y v b S8 S2.next _ u8.wf ly8 (hv.grow gg8) (by omega) fun S9 u9 => ?_
  have gg9 : Grow S1 S9 := gg8.after u9 fun i hi => .inl (by have := ylo i hi; have := g2.le; omega)
  have m9 := u9.get m8 fun hi => by have := ylt _ hi; omega
  refine hO.dist'.tell (hu.grow gg9) (hv.grow gg9) fun h' l' e' hT' => keepW gg9.wf fun S12 g12 m12 n12 => hO.awake _ _ (ifC_tt rfl (ifC_tt rfl (ifC_tt rfl ?_)))
  obtain ⟨hw1, rfl, hn1⟩ := hT
  obtain ⟨hw2, rfl, hn2⟩ := hT'
  refine ⟨_, _, ldN (g12.get m9) (by simp) rfl, _, _, ldN m12 (by simp) rfl, _, eqW hw1 hw2, ifC_tt (by rw [hn1, hn2, decide_eq_true rfl]) (ifC_pos rfl (hO.check' u a d _ _ (hu.grow (gg9.trans g12)) ?_))⟩
  rw [decide_eq_true rfl]; exact hk _

def law03_VecTriangle.Spec (P : Program) (N : Nat → Nat) : Prop := ∀ (u v w : V) (a b c : List Int) (S : St) (K : Bool → St → Prop), S.Wf → IntsAt S u a → IntsAt S v b → IntsAt S w c → (∀ S', K true S') → CallA P (N Fn.law03_VecTriangle) [u, v, w] S (retT [.one .bool] K)
theorem law03_VecTriangle.spec (hF : law03_VecTriangle.Ok P N) (hO : Law03Ok P N) : law03_VecTriangle.Spec P N := by
  intro u v w a b c S K hwf hu hv hw hk
  refine law03_VecTriangle.run hF (Join0.mid (fun S' => S' = S) ⟨_, hu.len, ifC_dec (fun h => hk _) (fun h => ⟨_, hv.len, ifC_dec (fun h => hk _) (fun h' => ⟨_, hw.len, ifC_dec (fun h => hk _) (fun h => rfl)⟩)⟩)⟩ ?_)
  rintro S1 rfl
  refine hO.dist.tell hu hv fun h1 l1 e1 hT1 => keepW hwf fun S4 g4 m4 n4 => hO.dist.tell (hv.grow g4) (hw.grow g4) fun h2 l2 e2 hT2 => keepW g4.wf fun S7 g7 m7 n7 => hO.dist.tell (hu.grow (g4.trans g7)) (hw.grow (g4.trans g7)) fun h3 l3 e3 hT3 => keepW g7.wf fun S10 g10 m10 n10 => ?_
  refine Join1.mid (fun z S' => S' = S10 ∧ (z = false → e1 = 0 ∧ e2 = 0 ∧ e3 = 0)) (ifC_ndec (fun h => ⟨rfl, by simp⟩) (fun h => ifC_ndec (fun h => ⟨rfl, by simp⟩) (fun h' => ⟨rfl, fun h'' => by simp at h''; exact ⟨h, h', h''⟩⟩))) ?_
  rintro z S11 ⟨rfl, hb⟩
  refine ifC_tt_ff (fun _ => hO.awake _ _ (hk _)) (fun h => hO.awake _ _ (ifC_tt rfl ?_))
  obtain ⟨z1, z2, z3⟩ := hb h
  obtain ⟨w1, rfl, t1⟩ := hT1
  obtain ⟨w2, rfl, t2⟩ := hT2
  obtain ⟨w3, rfl, t3⟩ := hT3
  rw [if_pos z1] at t1; rw [if_pos z2] at t2; rw [if_pos z3] at t3
  obtain ⟨q1, q2, q3, _, _⟩ := distE_zero z1
  obtain ⟨_, _, q4, _, _⟩ := distE_zero z2
  refine ⟨_, _, ldN m10 (by simp) rfl, _, _, ldN (g10.get (g7.get m4)) (by simp) rfl, _, _, ldN (g10.get m7) (by simp) rfl, hO.root _ _ _ _ w3 fun r3 R3 L3 => ⟨Same.refl _ _, hO.root _ _ _ _ w1 fun r1 R1 L1 => ⟨Same.refl _ _, hO.root _ _ _ _ w2 fun r2 R2 L2 => ⟨Same.refl _ _, ?_⟩⟩⟩⟩
  -- the sums stay within 64 bits: a distance has at most 71
  have small : ∀ {n r : Int}, IsRoot n r → n ≤ 1180591619586720763904 * 64 → r < 4611686018427387904 := fun hR hn => by
    obtain ⟨s0, s1, s2⟩ := hR
    exact lt_of_sq_lt (by omega) (by omega)
  have hd1 := distL_le (a := a) (b := b) (distE_zero z1).2.2.2.1 (distE_zero z1).2.2.2.2
  have hd2 := distL_le (a := b) (b := c) (distE_zero z2).2.2.2.1 (distE_zero z2).2.2.2.2
  have b1 := small R1 (by rw [t1]; omega)
  have b2 := small R2 (by rw [t2]; omega)
  have c1 := R1.1
  have c2 := R2.1
  refine setI_mk (wrapU_id (by omega) (by omega)) (setI_mk (wrapU_id (by omega) (by omega)) ?_)
  have := root_way R1 R2 R3 (d := dotL a b c) (by rw [t1, t2, t3]; exact distL_way q3.symm q4.symm) (by rw [t1, t2]; exact dotL_sq a b c)
  rw [decide_eq_true this]; exact hk _

/-- What is told of lists that were changed and may be too great. -/
theorem distE_cases {a b x y : List Int} (h : distE a b = 0) (hx : x.length = a.length) (hy : y.length = b.length) : distE x y = 31 ∨ distE x y = 0 := by
  obtain ⟨h1, h2, h3, _, _⟩ := distE_zero h
  have key : ∀ (l : List Int) (n : Nat), l.length = n → 1 ≤ n → n ≤ 64 → checkV l n = 31 ∨ checkV l n = 0 := fun l n e1 e2 e3 => by
    unfold checkV
    rw [if_neg (by omega)]
    split
    · exact .inr rfl
    · exact .inl rfl
  unfold distE
  rcases key x x.length rfl (by omega) (by omega) with k | k
  · rw [if_pos (by omega)]; exact .inl k
  · rw [if_neg (by omega)]
    exact key y x.length (by omega) (by omega) (by omega)

theorem Built.blk {S0 S : St} {k : Nat} {v : V} {es : List (List V)} (h : Built S0 S k v es) : ∀ i ∈ v.block, S0.next ≤ i ∧ i < S.next := fun i hi => ⟨h.from i hi, h.lt i hi⟩

/-- Two lists that grow side by side. -/
theorem two_push {S0 S : St} {x y : V} {l m : List Int} (hx : BuiltI S0 S x l) (hy : BuiltI S0 S y m) (hxy : ∀ i ∈ x.block, i ∉ y.block) (p q : Int) (hl : l.length < 1000000) (hm : m.length < 1000000) {K1 : St → (Int → St → Prop) → Prop} {K : V → V → St → Prop}
    (hK1 : ∀ S' Z, Grow S0 S' → Z q S' → K1 S' Z) (hK : ∀ x' y' S', BuiltI S0 S' x' (l ++ [p]) → BuiltI S0 S' y' (m ++ [q]) → (∀ i ∈ x'.block, i ∉ y'.block) → K x' y' S') :
    newS S (.cells [.int .i64 p] true) fun S1 => ifP (appV S1 1 8 x (.slice S.next 0 1 1 1 true)) fun x' S2 => K1 S2 fun q S2 => newS S2 (.cells [.int .i64 q] true) fun S3 => ifP (appV S3 1 8 y (.slice S2.next 0 1 1 1 true)) fun y' S4 => K x' y' S4 := by
  refine hx.push p (by omega) fun x' S2 b2 u2 t2 => hK1 S2 _ b2.grow ?_
  have hy2 : BuiltI S0 S2 y m := hy.upd u2 (fun i hi => hx.from i hi) (fun i hi hi' => hxy i hi' hi)
  refine hy2.push q (by omega) fun y' S4 b4 u4 t4 => ?_
  have hx4 : BuiltI S0 S4 x' (l ++ [p]) := b2.upd u4 (fun i hi => hy.from i hi) fun i hi hi' => by
    rcases t2 i hi with h | h
    · exact hxy i h hi'
    · have := hy.lt i hi'; omega
  refine hK x' y' S4 hx4 b4 fun i hi hi' => ?_
  rcases t4 i hi' with h | h
  · rcases t2 i hi with h' | h'
    · exact hxy i h' h
    · have := hy.lt i h; omega
  · have := b2.lt i hi; omega

def law03_VecScale.Spec (P : Program) (N : Nat → Nat) : Prop := ∀ (u v : V) (a b : List Int) (S : St) (K : Bool → St → Prop), S.Wf → IntsAt S u a → IntsAt S v b → (∀ S', K true S') → CallA P (N Fn.law03_VecScale) [u, v] S (retT [.one .bool] K)
theorem law03_VecScale.spec (hF : law03_VecScale.Ok P N) (hO : Law03Ok P N) : law03_VecScale.Spec P N := by
  intro u v a b S K hw hu hv hk
  refine law03_VecScale.run hF (Join0.mid (fun S' => S' = S) ⟨_, hu.len, ifC_dec (fun h => hk _) (fun h => ⟨_, hv.len, ifC_dec (fun h => hk _) (fun h' => rfl)⟩)⟩ ?_)
  rintro S1 rfl
  refine hO.dist.tell hu hv fun h1 l1 e1 hT1 => keepW hw fun S4 g4 m4 n4 => ifC_ndec (fun h => hO.awake _ _ (hk _)) (fun hz => ?_)
  obtain ⟨w1, rfl, t1⟩ := hT1
  rw [if_pos hz] at t1
  obtain ⟨q1, q2, q3, q4, q5⟩ := distE_zero hz
  have hd1 := distL_le (a := a) (b := b) q4 q5
  have hd0 := distL_nonneg a b
  refine Loop3.ind (fun m x y z S' => ∃ j : Nat, z = j ∧ m = a.length - j ∧ j ≤ a.length ∧ BuiltI S4 S' x ((a.take j).map fun x => 2 * x) ∧ BuiltI S4 S' y ((b.take j).map fun x => 2 * x) ∧ ∀ i ∈ x.block, i ∉ y.block) a.length
    ⟨0, rfl, rfl, Nat.zero_le _, Built.nil (Upd.refl g4.wf _) 1, Built.nil (Upd.refl g4.wf _) 1, by simp [V.block]⟩ ?_
  rintro m x y _ S6 ⟨j, rfl, rfl, hj, bx, b_y, hxy⟩
  have hu6 := hu.grow (g4.trans bx.grow)
  refine ⟨_, hu6.len, ifC_dec (fun h2 => ?_) (fun h2 => ?_)⟩
  · have h2 : j < a.length := by omega
    have h2b : j < b.length := by omega
    have ra := inC_iff.mp (q4 _ (List.getElem_mem h2))
    have rb := inC_iff.mp (q5 _ (List.getElem_mem h2b))
    refine ifS_mk (IntsAt.idx hu6 h2) ⟨_, IntsAt.get hu6 h2, setI_mk (wrapI_id (by omega) (by omega)) ?_⟩
    refine two_push (K1 := fun S8 Z => ifS (idxAddrV 1 v (.int .i64 (j : Int))) fun x50 => ∃ x51 : Int, loadV S8 x50 = some (.int .i64 x51) ∧ setI (IntKind.i64.wrap (2 * x51)) fun x52 => Z x52 S8) bx b_y hxy (2 * a[j]) (2 * b[j]) (by simp; omega) (by simp; omega) (fun S8 Z g8 hZ => ?_) (fun x' y' S10 bx' by' hxy' => ?_)
    · have hv8 := hv.grow (g4.trans g8)
      exact ifS_mk (IntsAt.idx hv8 h2b) ⟨_, IntsAt.get hv8 h2b, setI_mk (wrapI_id (by omega) (by omega)) hZ⟩
    · refine setI_mk (wrap_nat (by omega)) ⟨a.length - (j + 1), by omega, j + 1, rfl, rfl, h2, ?_, ?_, hxy'⟩
      · rw [List.take_add_one, List.getElem?_eq_getElem h2, Option.toList_some, List.map_append]; exact bx'
      · rw [List.take_add_one, List.getElem?_eq_getElem h2b, Option.toList_some, List.map_append]; exact by'
  · have : j = a.length := by omega
    subst this
    rw [List.take_length] at bx
    rw [← q3, List.take_length] at b_y
    have m46 := bx.grow.get m4
    refine hO.dist.tell bx.at_ b_y.at_ fun h2 l2 e2 hT2 => keepW bx.grow.wf fun S13 g13 m13 n13 => ⟨_, _, ldN (g13.get m46) (by simp) rfl, _, _, ldN (g13.get m46) (by simp) rfl, hO.add _ _ _ _ _ _ w1 w1 (by rw [t1]; omega) fun h3 l3 w3 t3 => keepW g13.wf fun S16 g16 m16 n16 => ⟨_, _, ldN m16 (by simp) rfl, _, _, ldN m16 (by simp) rfl, hO.add _ _ _ _ _ _ w3 w3 (by rw [t3, t1]; omega) fun h4 l4 w4 t4 => keepW g16.wf fun S19 g19 m19 n19 => hO.awake _ _ (ifC_tt rfl ?_)⟩⟩
    obtain ⟨w2, rfl, t2⟩ := hT2
    rcases distE_cases hz (x := a.map fun x => 2 * x) (y := b.map fun x => 2 * x) (by simp) (by simp) with h5 | h5
    · exact ifC_pos h5 (hk _)
    · rw [if_pos h5, distL_scale] at t2
      refine ifC_neg (by omega) (ifC_pos h5 (ifC_pos rfl (ifC_pos rfl ⟨_, _, ldN (g19.get (g16.get m13)) (by simp) rfl, _, _, ldN m19 (by simp) rfl, _, eqW w2 w4, ?_⟩)))
      rw [t2, t4, t3, t1, decide_eq_true (by omega)]; exact hk _

def law03_VecMoves.Spec (P : Program) (N : Nat → Nat) : Prop := ∀ (u v w : V) (a b c : List Int) (S : St) (K : Bool → St → Prop), S.Wf → IntsAt S u a → IntsAt S v b → IntsAt S w c → (∀ x ∈ c, -9223372036854775808 ≤ x ∧ x ≤ 9223372036854775807) → (∀ S', K true S') → CallA P (N Fn.law03_VecMoves) [u, v, w] S (retT [.one .bool] K)
theorem distE_symm (a b : List Int) : decide (distE a b = 0) = decide (distE b a = 0) := by
  refine decide_eq_decide.mpr ?_
  have key : ∀ {a b : List Int}, distE a b = 0 → distE b a = 0 := fun {a b} h => by
    obtain ⟨h1, h2, h3, h4, h5⟩ := distE_zero h
    have k : ∀ (l : List Int) (n : Nat), l.length = n → 1 ≤ n → n ≤ 64 → (∀ x ∈ l, inC x = true) → checkV l n = 0 := fun l n e1 e2 e3 e4 => by
      unfold checkV
      rw [if_neg (by omega), if_pos (List.all_eq_true.mpr e4)]
    unfold distE
    rw [k b b.length rfl (by omega) (by omega) h5, if_neg (by simp)]
    exact k a b.length (by omega) (by omega) (by omega) h4
  exact ⟨key, key⟩

theorem law03_VecMoves.spec (hF : law03_VecMoves.Ok P N) (hO : Law03Ok P N) : law03_VecMoves.Spec P N := by
  intro u v w a b c S K hwf hu hv hw hc hk
  refine law03_VecMoves.run hF (Join0.mid (fun S' => S' = S) ⟨_, hu.len, ifC_dec (fun h => hk _) (fun h => ⟨_, hv.len, ifC_dec (fun h => hk _) (fun h' => ⟨_, hw.len, ifC_dec (fun h => hk _) (fun h => rfl)⟩)⟩)⟩ ?_)
  rintro S1 rfl
  refine hO.dist.tell hu hv fun h1 l1 e1 hT1 => keepW hwf fun S4 g4 m4 n4 => hO.dist.tell (hv.grow g4) (hu.grow g4) fun h2 l2 e2 hT2 => keepW g4.wf fun S7 g7 m7 n7 => ?_
  obtain ⟨w1, rfl, t1⟩ := hT1
  obtain ⟨w2, rfl, t2⟩ := hT2
  have hsy := distE_symm a b
  refine Join1.mid (fun b' S' => S' = S7 ∧ (b' = false → distE a b = 0)) (ifC_ndec (fun h => ⟨rfl, by simp⟩) (fun h => ⟨rfl, fun _ => h⟩)) ?_
  rintro b' S8 ⟨rfl, hb'⟩
  refine ifC_tt_ff (fun _ => hO.awake _ _ (ifC_tt rfl ?_)) (fun h => ?_)
  · rw [hsy]; simp only [beq_self_eq_true]; exact hk _
  have hz := hb' h
  have hz2 : distE b a = 0 := by rw [decide_eq_true hz] at hsy; exact of_decide_eq_true hsy.symm
  rw [if_pos hz] at t1; rw [if_pos hz2, distL_comm] at t2
  obtain ⟨q1, q2, q3, q4, q5⟩ := distE_zero hz
  have m48 := g7.get m4
  have g48 := g4.trans g7
  refine Join0.mid (fun S' => S' = S8) ⟨_, _, ldN m48 (by simp) rfl, _, _, ldN m7 (by simp) rfl, _, eqW w1 w2, ifC_ff (by rw [t1, t2, decide_eq_true rfl]; rfl) ⟨_, _, ldN m48 (by simp) rfl, _, eqW0 w1, hO.ints u v a b _ _ (hu.grow g48) (hv.grow g48) ⟨Same.refl _ _, ifC_ff ?_ rfl⟩⟩⟩ ?_
  · rw [t1]
    have : decide (distL a b = 0) = decide (a = b) := decide_eq_decide.mpr (distL_zero q3.symm)
    rw [this]; simp
  rintro S10 rfl
  refine Loop3.ind (fun m x y z S' => ∃ j : Nat, z = j ∧ m = a.length - j ∧ j ≤ a.length ∧ BuiltI S10 S' x (moved c 0 (a.take j)) ∧ BuiltI S10 S' y (moved c 0 (b.take j)) ∧ ∀ i ∈ x.block, i ∉ y.block) a.length
    ⟨0, rfl, rfl, Nat.zero_le _, Built.nil (Upd.refl g7.wf _) 1, Built.nil (Upd.refl g7.wf _) 1, by simp [V.block]⟩ ?_
  rintro m x y _ S12 ⟨j, rfl, rfl, hj, bx, b_y, hxy⟩
  have g12 := g48.trans bx.grow
  have hu12 := hu.grow g12
  have hw12 := hw.grow g12
  refine ⟨_, hu12.len, ifC_dec (fun h2 => ?_) (fun h2 => ?_)⟩
  · have h2 : j < a.length := by omega
    have h2b : j < b.length := by omega
    have ra := inC_iff.mp (q4 _ (List.getElem_mem h2))
    have rb := inC_iff.mp (q5 _ (List.getElem_mem h2b))
    refine Join1.mid (fun n S' => S' = S12 ∧ n = moveBy c j) ?_ ?_
    · refine Join1.mid (fun n S' => S' = S12 ∧ n = decide (∃ h : j < c.length, -4294967294 < c[j] ∧ c[j] < 4294967294)) ⟨_, hw12.len, ifC_dec (fun h3 => ?_) (fun h3 => ⟨rfl, by rw [decide_eq_false]; rintro ⟨h, _⟩; omega⟩)⟩ ?_
      · have h3 : j < c.length := by omega
        refine ifS_mk (IntsAt.idx hw12 h3) ⟨_, IntsAt.get hw12 h3, ifC_dec (fun h4 => ifS_mk (IntsAt.idx hw12 h3) ⟨_, IntsAt.get hw12 h3, rfl, decide_eq_decide.mpr ⟨fun h => ⟨h3, h4, h⟩, fun h => h.2.2⟩⟩) (fun h4 => ⟨rfl, by rw [decide_eq_false]; rintro ⟨_, h, _⟩; omega⟩)⟩
      · rintro _ S14 ⟨rfl, rfl⟩
        refine ifC_dec (fun h3 => ?_) (fun h3 => ⟨rfl, ?_⟩)
        · obtain ⟨h4, h5⟩ := h3
          refine ifS_mk (IntsAt.idx hw12 h4) ⟨_, IntsAt.get hw12 h4, rfl, ?_⟩
          rw [moveBy, List.getElem?_eq_getElem h4]; simp only; rw [if_pos h5]
        · rcases Nat.lt_or_ge j c.length with h4 | h4
          · rw [moveBy, List.getElem?_eq_getElem h4]; simp only; rw [if_neg (fun h5 => h3 ⟨h4, h5⟩)]
          · rw [moveBy, List.getElem?_eq_none h4]
    · rintro _ S13 ⟨rfl, rfl⟩
      have hmb : -4294967294 ≤ moveBy c j ∧ moveBy c j ≤ 4294967294 := by
        unfold moveBy; split
        · split <;> omega
        · omega
      refine ifS_mk (IntsAt.idx hu12 h2) ⟨_, IntsAt.get hu12 h2, setI_mk (wrapI_id (by omega) (by omega)) ?_⟩
      refine two_push (K1 := fun S8 Z => ifS (idxAddrV 1 v (.int .i64 (j : Int))) fun x50 => ∃ x51 : Int, loadV S8 x50 = some (.int .i64 x51) ∧ setI (IntKind.i64.wrap (x51 + moveBy c j)) fun x52 => Z x52 S8) bx b_y hxy (a[j] + moveBy c j) (b[j] + moveBy c j) (by rw [moved_length]; simp; omega) (by rw [moved_length]; simp; omega) (fun S8 Z g8 hZ => ?_) (fun x' y' S10 bx' by' hxy' => ?_)
      · have hv8 := hv.grow (g48.trans g8)
        exact ifS_mk (IntsAt.idx hv8 h2b) ⟨_, IntsAt.get hv8 h2b, setI_mk (wrapI_id (by omega) (by omega)) hZ⟩
      · refine setI_mk (wrap_nat (by omega)) ⟨a.length - (j + 1), by omega, j + 1, rfl, rfl, h2, ?_, ?_, hxy'⟩
        · rw [List.take_add_one, List.getElem?_eq_getElem h2, Option.toList_some, moved_snoc, Nat.zero_add, List.length_take, Nat.min_eq_left hj]; exact bx'
        · rw [List.take_add_one, List.getElem?_eq_getElem h2b, Option.toList_some, moved_snoc, Nat.zero_add, List.length_take, Nat.min_eq_left (by omega)]; exact by'
  · have : j = a.length := by omega
    subst this
    rw [List.take_length] at bx
    rw [← q3, List.take_length] at b_y
    have m412 := bx.grow.get m48
    refine hO.dist.tell bx.at_ b_y.at_ fun h3 l3 e3 hT3 => keepW bx.grow.wf fun S21 g21 m21 n21 => hO.awake _ _ (ifC_tt rfl ?_)
    obtain ⟨w3, rfl, t3⟩ := hT3
    rcases distE_cases hz (x := moved c 0 a) (y := moved c 0 b) (by rw [moved_length]) (by rw [moved_length]) with h5 | h5
    · exact ifC_pos h5 (hk _)
    · rw [if_pos h5, distL_moved] at t3
      refine ifC_neg (by omega) (ifC_pos h5 ⟨_, _, ldN m21 (by simp) rfl, _, _, ldN (g21.get m412) (by simp) rfl, _, eqW w3 w1, ?_⟩)
      rw [t3, t1, decide_eq_true rfl]; exact hk _

end Go.Th.L
end
