/- What the row of one statement stands on: a store, abstract code, functions of the program and their laws (ThHlaw02c). -/
import Derived.Test.YtdpehfhhbmmhjaaThBTopkOrder46

section
/- The laws of layer 2: the order of offers. -/
set_option linter.unusedSimpArgs false
set_option linter.unusedVariables false
set_option linter.unusedSectionVars false
namespace Go.Th.Pure
open Go

theorem best_best (k : Nat) (a : List Hit) : best k (best k a) = best k a := by
  show (sortH (best k a)).take k = best k a
  rw [sortH_of (best_srt k a), List.take_of_length_le (by rw [best_length]; omega)]
theorem best_app (k : Nat) : ∀ (b a : List Hit), best k (a ++ b) = best k (best k a ++ b)
  | [], a => by
    simp only [List.append_nil]
    exact (best_best k a).symm
  | x :: b, a => by
    have h1 := best_app k b (a ++ [x])
    have h2 := best_app k b (best k a ++ [x])
    rw [List.append_assoc, List.singleton_append] at h1 h2
    rw [h1, h2, best_snoc, best_snoc]
    rw [best_best]

theorem best_two (k : Nat) (a b : List Hit) : best k (best k a ++ best k b) = best k (a ++ b) := by
  rw [best_congr (List.perm_append_comm (l₁ := best k a)), ← best_app, best_congr (List.perm_append_comm (l₁ := b)), ← best_app]

/-- The second order of offers. -/
def turned (l : List Hit) (c : Nat) : List Hit := (l.drop c ++ l.take c).reverse
theorem turned_perm (l : List Hit) (c : Nat) : (turned l c).Perm l := by
  refine (List.reverse_perm _).trans ?_
  refine List.perm_append_comm.trans ?_
  rw [List.take_append_drop]
theorem turned_length (l : List Hit) (c : Nat) : (turned l c).length = l.length := (turned_perm l c).length_eq
theorem turned_get {l : List Hit} {c j : Nat} (hc : c ≤ l.length) (hj : j < l.length) (h1 : j < (turned l c).length) (h2 : (c + l.length - 1 - j) % l.length < l.length) : (turned l c)[j] = l[(c + l.length - 1 - j) % l.length] := by
  have h0 : (turned l c)[j]? = (l.drop c ++ l.take c)[(l.drop c ++ l.take c).length - 1 - j]? := by
    rw [turned, List.getElem?_reverse (by simp; omega)]
  rw [List.getElem?_eq_getElem h1] at h0
  have hlen : (l.drop c ++ l.take c).length = l.length := by simp; omega
  refine Option.some.inj (h0.trans ?_)
  rw [← List.getElem?_eq_getElem h2, hlen]
  by_cases h3 : l.length - 1 - j < l.length - c
  · rw [List.getElem?_append_left (by simp; omega), List.getElem?_drop]
    congr 1
    rw [Nat.mod_eq_of_lt (by omega)]; omega
  · rw [List.getElem?_append_right (by simp; omega), List.getElem?_take, if_pos (by simp; omega)]
    congr 1
    rw [List.length_drop]
    have : (c + l.length - 1 - j) % l.length = c + l.length - 1 - j - l.length := by
      rw [Nat.mod_eq_sub_mod (by omega), Nat.mod_eq_of_lt (by omega)]
    omega

end Go.Th.Pure
namespace Go.Th.L
open Go Go.Th Go.Th.Pure Go.Sort
variable {P : Program} {N : Nat → Nat}

/-- One list, as a list of lists. -/
theorem lists_one {S S1 : St} {v : V} {l : List Hit} (h : HitsAt S v l) (g : Grow S S1) (m : S1.get S.next = some (.cells [v] true)) : ListsAt S1 (.slice S.next 0 1 1 1 true) [v] [l] :=
  ⟨rfl, ⟨by simp, rfl, .inr ⟨_, 0, 1, true, rfl, Nat.le_refl _, by rw [St.loads_of m (by simp)]; rfl⟩⟩, fun j h1 h2 => by
    have : j = 0 := by simpa using h1
    subst this; exact h.grow g⟩
theorem lists_two {S S1 : St} {v u : V} {l p : List Hit} (h : HitsAt S v l) (h' : HitsAt S u p) (g : Grow S S1) (m : S1.get S.next = some (.cells [v, u] true)) : ListsAt S1 (.slice S.next 0 2 2 1 true) [v, u] [l, p] :=
  ⟨rfl, ⟨by simp, rfl, .inr ⟨_, 0, 2, true, rfl, Nat.le_refl _, by rw [St.loads_of m (by simp)]; rfl⟩⟩, fun j h1 h2 => by
    have : j = 0 ∨ j = 1 := by simp at h1; omega
    rcases this with rfl | rfl
    · exact h.grow g
    · exact h'.grow g⟩

theorem law02_TopkOrder.spec (hF : law02_TopkOrder.Ok P N) (hO : Law02Ok P N) {S : St} (hw : S.Wf) {k cut : Int} {lv : V} {l : List Hit} (hv : HitsAt S lv l) (hn : l.length < 4611686018427387904) (hcut : -9223372036854775808 ≤ cut ∧ cut ≤ 9223372036854775807)
    {K : Bool → St → Prop} (hk : ∀ S', K true S') : CallA P (N Fn.law02_TopkOrder) [.int .i64 k, lv, .int .i64 cut] S (retT [.one .bool] K) := by
  refine law02_TopkOrder.run hF (Join1.mid (fun b S' => S' = S ∧ (b = false → l.length ≤ 3000 ∧ 1 ≤ k ∧ k ≤ 64)) ⟨_, hv.len, ifC_dec (fun h1 => ⟨rfl, fun h => by cases h⟩) (fun h1 => ifC_dec (fun h2 => ⟨rfl, fun h => by cases h⟩) (fun h2 => ⟨rfl, fun h => by simp only [decide_eq_false_iff_not] at h; omega⟩))⟩ ?_)
  rintro b S1 ⟨rfl, hb⟩
  refine ifC_tt_ff (fun h1 => hO.awake _ _ (hk _)) (fun h1 => ?_)
  obtain ⟨hl, hk1, hk2⟩ := hb h1
  refine Join1.mid (fun x S' => S' = S1 ∧ ∃ c0 : Nat, x = c0) (ifC_dec (fun h2 => setI_mk (n := cut + 1) (by rw [IntKind.wrap_i64]; omega) (setI_mk (n := 0 - (cut + 1)) (by rw [IntKind.wrap_i64]; omega) ⟨rfl, (0 - (cut + 1)).toNat, by omega⟩)) (fun h2 => ⟨rfl, cut.toNat, by omega⟩)) ?_
  rintro _ S3 ⟨rfl, c0, rfl⟩
  refine ⟨_, hv.len, setI_mk (i64_add1 (by omega)) ⟨by omega, ?_⟩⟩
  have hc : c0 % (l.length + 1) ≤ l.length := by have := Nat.mod_lt c0 (show 0 < l.length + 1 by omega); omega
  refine setI_mk (n := ((c0 % (l.length + 1) : Nat) : Int)) (by rw [Int.tmod_eq_emod_of_nonneg (by omega)]; omega) ?_
  generalize c0 % (l.length + 1) = c at hc
  obtain ⟨n, rfl⟩ := Int.eq_ofNat_of_zero_le (show 0 ≤ k by omega)
  refine hO.mergeOk.new _ _ _ hw (fun h => by omega) fun n1 e1 ha1 ha2 S4 g4 hA4 => hO.mergeOk.new _ _ _ g4.wf (fun h => by omega) fun n2 e2 hb1 hb2 S5 g5 hB5 => ?_
  have hn1 : n = n1 := by omega
  have hn2 : n2 = n1 := by omega
  subst hn1; subst hn2
  refine Join0.mid (fun S' => S' = S5) ⟨false, rfl, ifC_ff rfl ⟨false, rfl, ifC_ff rfl (ifC_npos rfl (ifC_npos rfl rfl))⟩⟩ ?_
  rintro S6 rfl
  have hlt4 : S3.next < S4.next := hA4.lt _ (by simp)
  refine Loop1.ind (fun m x S' => ∃ (j : Nat) (Da Db : List Nat), x = j ∧ m = l.length - j ∧ j ≤ l.length ∧ Grow S3 S' ∧ HeapAt S' Da S3.next n2 (best n2 (l.take j)) ∧ HeapAt S' Db S4.next n2 (best n2 ((turned l c).take j)) ∧ (∀ i ∈ Da, S3.next ≤ i ∧ i ∉ Db) ∧ (∀ i ∈ Db, S3.next ≤ i)) l.length
    ⟨0, [S3.next], [S4.next], rfl, rfl, Nat.zero_le _, g4.trans g5, by simpa [best, sortH] using hA4.upd g5 (by simp), by simpa [best, sortH] using hB5, by simp; omega, by simp; omega⟩ ?_
  rintro m _ S7 ⟨j, Da, Db, rfl, rfl, hj, g7, hA7, hB7, hDa, hDb⟩
  have hv7 := hv.grow g7
  refine ⟨_, hv7.len, ifC_dec (fun h3 => ?_) (fun h3 => ?_)⟩
  · have h3 : j < l.length := by omega
    have hjt : j < (turned l c).length := by rw [turned_length]; exact h3
    refine ifS_mk (hv7.idx h3) ⟨_, _, _, hv7.get h3, hO.mergeOk.offer S7 Da _ n2 _ l[j] _ hA7 ha1 ha2 (by rw [best_length]; omega) fun S8 D8 hA8 u8 t8 => ?_⟩
    rw [best_take h3] at hA8
    have g8 : Grow S3 S8 := g7.after u8 fun i hi => .inl (hDa i hi).1
    have hv8 := hv.grow g8
    have hB8 := hB7.upd u8 fun i hi hi' => (hDa i hi').2 hi
    have hq : (c + l.length - 1 - j) % l.length < l.length := Nat.mod_lt _ (by omega)
    refine ⟨_, hv8.len, setI_mk (i64_add (by omega)) (setI_mk (i64_sub1 (by omega) (by omega)) (setI_mk (i64_sub (by omega) (by omega)) ⟨_, hv8.len, by omega, setI_mk (n := (((c + l.length - 1 - j) % l.length : Nat) : Int)) (by rw [Int.tmod_eq_emod_of_nonneg (by omega)]; omega) (ifS_mk (hv8.idx hq) ⟨_, _, _, hv8.get hq, ?_⟩)⟩))⟩
    refine hO.mergeOk.offer S8 Db _ n2 _ l[(c + l.length - 1 - j) % l.length] _ hB8 ha1 ha2 (by rw [best_length]; omega) fun S9 D9 hB9 u9 t9 => ?_
    rw [← turned_get hc h3 hjt hq, best_take hjt] at hB9
    refine setI_mk (i64_add1 (by omega)) ⟨l.length - (j + 1), by omega, j + 1, D8, D9, rfl, rfl, h3, g8.after u9 fun i hi => .inl (hDb i hi), hA8.upd u9 fun i hi hi' => ?_, hB9, fun i hi => ⟨?_, fun hi' => ?_⟩, fun i hi => ?_⟩
    · rcases t8 i hi with h' | h'
      · exact (hDa i h').2 hi'
      · have := hB7.lt i hi'; omega
    · rcases t8 i hi with h' | h'
      · exact (hDa i h').1
      · have := g7.le; omega
    · have hi8 := hA8.lt i hi
      rcases t9 i hi' with h' | h'
      · rcases t8 i hi with h'' | h''
        · exact (hDa i h'').2 h'
        · have := hB7.lt i h'; omega
      · omega
    · rcases t9 i hi with h' | h'
      · exact hDb i h'
      · have := g8.le; omega
  · have : j = l.length := by omega
    subst this
    rw [List.take_length] at hA7
    rw [List.take_of_length_le (by rw [turned_length]; omega), best_congr (turned_perm l c)] at hB7
    obtain ⟨va, ea, hva, hab⟩ := hv7.sub (lo := none) (hi := some (.int .i64 (c : Int))) (a := 0) (b := c) (fun cap hc' => bnds_h (by omega)) (Nat.zero_le _) hc
    rw [List.drop_zero, Nat.sub_zero] at hva
    refine ifS_mk ea ⟨hva.at_.cells1, newS_mk g7.wf fun S10 g10 m10 n10 => topk_Merge.spec hO.merge hO.mergeOk g10.wf (lists_one hva g10 m10) (by simp) (by simp; omega) (fun h => by omega) fun n' e' _ _ x S11 b11 => ?_⟩
    have hn' : n2 = n' := by omega
    subst hn'
    rw [List.flatten_singleton] at b11
    have g11 : Grow S7 S11 := g10.trans b11.grow
    obtain ⟨vb, eb, hvb, hbb⟩ := (hv7.grow g11).sub (lo := some (.int .i64 (c : Int))) (hi := none) (a := c) (b := l.length) (fun cap hc' => bnds_l hc) hc (Nat.le_refl _)
    rw [← List.length_drop, List.take_length] at hvb
    refine ifS_mk eb ⟨hvb.at_.cells1, newS_mk g11.wf fun S12 g12 m12 n12 => topk_Merge.spec hO.merge hO.mergeOk g12.wf (lists_one hvb g12 m12) (by simp) (by simp; omega) (fun h => by omega) fun n' e' _ _ y S13 b13 => ?_⟩
    have hn' : n2 = n' := by omega
    subst hn'
    rw [List.flatten_singleton] at b13
    have g13 : Grow S11 S13 := g12.trans b13.grow
    have hx13 := b11.hits.grow g13
    have hy13 := b13.hits
    refine ⟨hx13.at_.cells1, hy13.at_.cells1, newS_mk g13.wf fun S14 g14 m14 n14 => topk_Merge.spec hO.merge hO.mergeOk g14.wf (lists_two hx13 hy13 g14 m14) (by simp) ?_ (fun h => by omega) fun n' e' _ _ z S15 b15 => ?_⟩
    · simp only [List.flatten_cons, List.flatten_nil, List.append_nil, List.length_append, best_length]; omega
    have hn' : n2 = n' := by omega
    subst hn'
    have ez : best n2 [best n2 (l.take c), best n2 (l.drop c)].flatten = best n2 l := by
      simp only [List.flatten_cons, List.flatten_nil, List.append_nil]
      rw [best_two, List.take_append_drop]
    rw [ez] at b15
    have g15 : Grow S7 S15 := (g11.trans g13).trans (g14.trans b15.grow)
    refine topk_Heap_List.at_ hO.mergeOk.list hO.mergeOk.clone hO.mergeOk.sort (hA7.upd g15 (by simp)) (by rw [best_length]; omega) fun w S16 b16 => hO.awake _ _ (ifC_tt rfl (ifC_pos rfl (ifC_pos rfl (ifC_pos rfl ?_))))
    refine topk_Heap_List.at_ hO.mergeOk.list hO.mergeOk.clone hO.mergeOk.sort (hB7.upd (g15.trans b16.grow) (by simp)) (by rw [best_length]; omega) fun w2 S18 b18 => ref02_Same.spec hO.same b18.grow.wf b18.hits (b16.hits.grow b18.grow) (by rw [best_length]; omega) (ifC_tt (by simp) ?_)
    refine ref02_Same.spec hO.same b18.grow.wf (b15.hits.grow (b16.grow.trans b18.grow)) (b16.hits.grow b18.grow) (by rw [best_length]; omega) (ifC_tt (by simp) ⟨_, (b16.hits.grow b18.grow).len, _, (hv7.grow (g15.trans (b16.grow.trans b18.grow))).len, ?_⟩)
    have : decide (((best n2 l).length : Int) = goMin (n2 : Int) (l.length : Int)) = true := by
      rw [decide_eq_true_eq, best_length]
      unfold goMin
      split <;> omega
    rw [this]; exact hk _

end Go.Th.L
end
