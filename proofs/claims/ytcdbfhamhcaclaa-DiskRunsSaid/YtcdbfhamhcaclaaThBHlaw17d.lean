/- What the row of one statement stands on: a store, abstract code, functions of the program and their laws (ThHlaw17d). -/
import Derived.Test.YtcdbfhamhcaclaaThBHlaw17b
import Derived.Test.YtcdbfhamhcaclaaThBHdisk14
import Derived.Test.YtcdbfhamhcaclaaThBHref17f

section
/- A disk and the document's; do they tell the same; DiskNew. -/
set_option linter.unusedSimpArgs false
set_option linter.unusedVariables false
set_option maxHeartbeats 1000000
namespace Go.Th.L
open Go Go.Th Go.Th.Pure
variable {P : Program} {N : Nat → Nat}

structure LawF2 (P : Program) (N : Nat → Nat) : Prop where
  f : LawF P N
  ref : RefF P N
  cloneX : CloneXS P (N Fn.slices_Clone_Lbyte)
  spoil : keep_SpoilBytes.Ok P N
  same : law17_same.Ok P N

structure Pr (S0 S : St) (D B E C : List Nat) (d e : Nat) (r : DiskR) : Prop where
  dh : DH S D B d r
  rh : RH S E C e r
  g : Grow S0 S
  fD : ∀ i ∈ D, S0.next ≤ i
  fE : ∀ i ∈ E, S0.next ≤ i
  a1 : ∀ i ∈ D, i ∉ E ∧ i ∉ C
  a2 : ∀ i ∈ E, i ∉ B
theorem RH.upd {X : List Nat} {S S' : St} {D B : List Nat} {e : Nat} {r : DiskR} (h : RH S D B e r) (u : Upd X S S') (h1 : ∀ i ∈ X, i ∉ D) (h2 : ∀ i ∈ X, i ∉ B) : RH S' D B e r := by
  obtain ⟨q, e, h⟩ := h
  exact ⟨q, e, h.upd u h1 h2⟩
theorem RH.ltD {S : St} {D B : List Nat} {e : Nat} {r : DiskR} (h : RH S D B e r) : ∀ i ∈ D, i < S.next := by
  obtain ⟨q, e, h⟩ := h
  exact h.ltD
theorem RH.ltB {S : St} {D B : List Nat} {e : Nat} {r : DiskR} (h : RH S D B e r) : ∀ i ∈ B, i < S.next := by
  obtain ⟨q, e, h⟩ := h
  exact h.ltB
theorem Pr.upd {X : List Nat} {S0 S S' : St} {D B E C : List Nat} {d e : Nat} {r : DiskR} (h : Pr S0 S D B E C d e r) (u : Upd X S S') (hX : ∀ i ∈ X, S0.next ≤ i ∧ i ∉ D ∧ i ∉ B ∧ i ∉ E ∧ i ∉ C) : Pr S0 S' D B E C d e r :=
  { h with dh := h.dh.upd u (fun i hi => (hX i hi).2.1) (fun i hi => (hX i hi).2.2.1), rh := h.rh.upd u (fun i hi => (hX i hi).2.2.2.1) (fun i hi => (hX i hi).2.2.2.2), g := h.g.after u fun i hi => .inl (hX i hi).1 }
theorem Pr.grow {S0 S S' : St} {D B E C : List Nat} {d e : Nat} {r : DiskR} (h : Pr S0 S D B E C d e r) (u : Grow S S') : Pr S0 S' D B E C d e r := h.upd u (by simp)
theorem Pr.wf {S0 S : St} {D B E C : List Nat} {d e : Nat} {r : DiskR} (h : Pr S0 S D B E C d e r) : S.Wf := h.g.wf

theorem law17_same.spec (hO : LawF2 P N) {S0 S : St} {D B E C : List Nat} {d e : Nat} {r : DiskR} (h : Pr S0 S D B E C d e r) {M : Nat} (hok : OkR M r) {K : Bool → St → Prop} (hk : ∀ S', Grow S S' → K true S') :
    CallA P (N Fn.law17_same) [.ptr d 0, .ptr e 0] S (retT [.one .bool] K) := by
  have hlen := hok.stNow.len
  have hnl : (namesR r).length ≤ 64 := by
    unfold namesR
    split
    · simp
    · rw [List.length_map]; exact hlen
  refine law17_same.run hO.same (DH.names hO.f.f3 h.dh h.wf hok fun v1 S1 b1 => ?_)
  have h1 := h.grow b1.grow
  obtain ⟨q, rfl, hq⟩ := h1.rh
  refine RefIn.namesV hO.ref hq h1.wf hok fun v2 S2 b2 => ?_
  have h2 := h1.grow b2.grow
  have q2 := hq.grow b2.grow
  refine Join0.mid (fun S' => S' = S2) (keep_Texts.spec hO.f.texts (SlAt.grow (txs_of b1) b2.grow) (txs_of b2) (ifC_ff (by simp) (DH.used hO.f.f3 h2.dh hok (RefIn.used hO.ref q2 hok (ifC_ff (by simp) ⟨rfl, ifS_mk (a := .ptr q.e 5) rfl ⟨_, ld q2.obj rfl, DH.steps hO.f.f3 h2.dh (sameK_mk (Same.refl _ _) (ifC_ff (by simp) (DH.down hO.f.f3 h2.dh (sameK_mk (Same.refl _ _) (q2.down hO.ref (sameK_mk (Same.refl _ _) (ifC_ff (by simp) rfl)))))))⟩⟩))))) ?_
  rintro S3 rfl
  have g03 : Grow S S3 := b1.grow.trans b2.grow
  refine Loop1.ind (fun m z S' => ∃ i : Nat, z = i ∧ i + m = (namesR r).length ∧ Grow S3 S') (namesR r).length ⟨0, rfl, by omega, Upd.refl g03.wf _⟩ ?_
  rintro m z S10 ⟨i, rfl, hi, g10⟩
  have t10 : TxsAt S10 v2 (namesR r) := SlAt.grow (txs_of b2) g10
  have h10 := h2.grow g10
  have q10 := q2.grow g10
  refine ⟨_, SlAt.len t10, ifC_dec (fun hlt => ?_) (fun hge => hk S10 (g03.trans g10))⟩
  have hin : i < (namesR r).length := by omega
  refine ifS_mk (SlAt.idx t10 hin) ⟨_, t10.get hin, ?_⟩
  obtain ⟨dq, rfl, hdq⟩ := h10.dh
  refine disk_Disk_Read.specX hO.f.f3.f2 hO.cloneX h10.wf hdq.rd hok fun x S11 g11 bx => ?_
  have t11 := SlAt.grow t10 g11
  refine ifS_mk (SlAt.idx t11 hin) ⟨_, TxsAt.get t11 hin, RefIn.read hO.ref (q10.grow g11) hok (pr _) fun y hy => ifC_ff (by simp) (keep_Bytes.spec hO.f.f3.bytes _ _ (readR r (namesR r)[i]).1 (readR r (namesR r)[i]).1 _ _ bx.at_ hy (ifC_ff (by simp) (keep_SpoilBytes.spec hO.spoil g11.wf bx fun S14 u14 => setI_mk (n := ((i + 1 : Nat) : Int)) (by rw [IntKind.wrap_i64]; omega) ⟨m - 1, by omega, i + 1, rfl, by omega, ?_⟩)))⟩
  refine (g10.trans g11).after u14 fun j hj => .inl ?_
  have := bx.from j hj
  have := g10.le
  omega

end Go.Th.L
end
