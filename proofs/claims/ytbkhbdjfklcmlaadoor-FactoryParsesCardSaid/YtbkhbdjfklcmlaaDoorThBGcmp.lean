/- What the row of one statement stands on: a store, abstract code, functions of the program and their laws (ThQ11, ThFn, ThGwide, ThGcmp). -/
import Derived.Test.YtbkhbdjfklcmlaaDoorThBQ10

section
/- Types and live slots laid over a function's abstract code, out of a short list; what a printed reading of a function says of the program. -/
set_option linter.unusedVariables false
namespace Go.Th
open Go

abbrev ItL := List (Nat × Ann × List DT)
abbrev JtL := List (Nat × List (Nat × DT))
abbrev LtL := List (List (Nat × DT))

def annI : List AI → ItL → List TI × ItL
  | [], s => ([], s)
  | i :: r, s =>
    match s with
    | [] => let q := annI r []; (⟨i, .no, []⟩ :: q.1, q.2)
    | (0, a, ds) :: s => let q := annI r s; (⟨i, a, ds⟩ :: q.1, q.2)
    | (n + 1, a, ds) :: s => let q := annI r ((n, a, ds) :: s); (⟨i, .no, []⟩ :: q.1, q.2)
def annO : OT → ItL → TT × ItL
  | .done, s => (.done, s)
  | .step n ds i r, s =>
    match s with
    | [] => let q := annO r []; (.step n ds ⟨i, .no, []⟩ q.1, q.2)
    | (0, a, d) :: s => let q := annO r s; (.step n ds ⟨i, a, d⟩ q.1, q.2)
    | (k + 1, a, d) :: s => let q := annO r ((k, a, d) :: s); (.step n ds ⟨i, .no, []⟩ q.1, q.2)
  | .both a b, s => let q := annO a s; let w := annO b q.2; (.both q.1 w.1, w.2)
def annC : AC → ItL → JtL → LtL → TC × ItL × JtL × LtL
  | .skip, s, j, l => (.skip, s, j, l)
  | .region r, s, j, l => let q := annI r s; (.region q.1, q.2, j, l)
  | .draw t, s, j, l => let q := annO t s; (.draw q.1, q.2, j, l)
  | .seq a b, s, j, l =>
    match j with
    | [] => let q := annC a s [] l; let w := annC b q.2.1 q.2.2.1 q.2.2.2; (.seq q.1 w.1, w.2)
    | (0, lv) :: j => let q := annC a s j l; let w := annC b q.2.1 q.2.2.1 q.2.2.2; (.join lv q.1 w.1, w.2)
    | (n + 1, lv) :: j => let q := annC a s ((n, lv) :: j) l; let w := annC b q.2.1 q.2.2.1 q.2.2.2; (.seq q.1 w.1, w.2)
  | .cond x a b, s, j, l => let q := annC a s j l; let w := annC b q.2.1 q.2.2.1 q.2.2.2; (.cond x q.1 w.1, w.2)
  | .block i a, s, j, l => let q := annC a s j l; (.block i q.1, q.2)
  | .loop a, s, j, l => let q := annC a s j l.tail; (.loop (l.headD []) q.1, q.2)
  | .exit i, s, j, l => (.exit i, s, j, l)
  | .ret, s, j, l => (.ret, s, j, l)

theorem annI_er : ∀ (l : List AI) (s : ItL), erI (annI l s).1 = l
  | [], _ => rfl
  | i :: r, s => by
    unfold annI
    split <;> simp only [erI, annI_er r]
theorem annO_er : ∀ (t : OT) (s : ItL), (annO t s).1.erase = t
  | .done, _ => rfl
  | .step n ds i r, s => by
    unfold annO
    split <;> simp only [TT.erase, annO_er r]
  | .both a b, s => by simp only [annO, TT.erase, annO_er a, annO_er b]
theorem annC_er : ∀ (c : AC) (s : ItL) (j : JtL) (l : LtL), (annC c s j l).1.erase = c
  | .skip, _, _, _ | .exit _, _, _, _ | .ret, _, _, _ => rfl
  | .region r, s, _, _ => by simp only [annC, TC.erase, annI_er]
  | .draw t, s, _, _ => by simp only [annC, TC.erase, annO_er]
  | .seq a b, s, j, l => by
    unfold annC
    split <;> simp only [TC.erase, annC_er a, annC_er b]
  | .cond x a b, s, j, l => by simp only [annC, TC.erase, annC_er a, annC_er b]
  | .block i a, s, j, l => by simp only [annC, TC.erase, annC_er a]
  | .loop a, s, j, l => by simp only [annC, TC.erase, annC_er a]

def tcOf (A : AF) (s : ItL) (j : JtL) (l : LtL) : TC := (annC A.body s j l).1
def afn (P : Program) (f : FuncId) : AF := (afun P f).getD ⟨0, [], .skip⟩
/-- Where a call begins. -/
def frT (A : AF) (args : List V) : SF := startT args ++ List.replicate (A.nt - args.length) .none

theorem afn_ok {P : Program} {f : FuncId} (h : (afun P f).isSome = true) : afun P f = some (afn P f) := by
  unfold afn
  cases ha : afun P f with
  | none => rw [ha] at h; cases h
  | some A => rfl

/-- The function is there, its slots are in order, and it reads so. -/
def Reads (P : Program) (f : FuncId) (s : ItL) (j : JtL) (l : LtL) {α : Type} (W : AF → TC → α) (p : α) : Prop :=
  ((afun P f).isSome, (tcOf (afn P f) s j l).okL, W (afn P f) (tcOf (afn P f) s j l)) = (true, true, p)

theorem Reads.of {P : Program} {f : FuncId} {s : ItL} {j : JtL} {l : LtL} {α : Type} {W : AF → TC → α} {p : α} (h : ((afun P f).isSome, (tcOf (afn P f) s j l).okL, W (afn P f) (tcOf (afn P f) s j l)) = (true, true, p)) : Reads P f s j l W p := h

theorem Reads.run {P : Program} {f : FuncId} {s : ItL} {j : JtL} {l : LtL} {α : Type} {W : AF → TC → α} {p : α} (h : Reads P f s j l W p) {args : List V} {S : St} {ds : List DT} {K : Cur (flats ds)} (ap : α → Prop)
    (hp : ap p) (he : ap (W (afn P f) (tcOf (afn P f) s j l)) = wpT P (envP P) (tcOf (afn P f) s j l) (endT (afn P f).results ds K) (frT (afn P f) args) S) : CallA P f args S (retT ds K) := by
  unfold Reads at h
  rw [Prod.mk.injEq, Prod.mk.injEq] at h
  refine CallA.of_TP (afn_ok h.1) (annC_er _ _ _ _) h.2.1 ?_
  rw [← h.2.2] at hp
  exact Eq.mp he hp

end Go.Th
end

section
/- Keys of the functions' names (printed by tools/lib.py). -/
namespace Go.Th.L
abbrev Fn.law16_CodecRecords : Nat := 1
abbrev Fn.codec_Encode : Nat := 2
abbrev Fn.ref16_Encode : Nat := 3
abbrev Fn.keep_LendBytes : Nat := 4
abbrev Fn.codec_Decode : Nat := 5
abbrev Fn.codec_Sum : Nat := 6
abbrev Fn.keep_BackBytes : Nat := 7
abbrev Fn.ref16_Decode : Nat := 8
abbrev Fn.law16_awake : Nat := 9
abbrev Fn.keep_Bytes : Nat := 10
abbrev Fn.ref16_Sum : Nat := 11
abbrev Fn.law16_CodecTexts : Nat := 12
abbrev Fn.law16_big : Nat := 13
abbrev Fn.keep_Lend : Nat := 14
abbrev Fn.codec_PutChange : Nat := 15
abbrev Fn.keep_Back : Nat := 16
abbrev Fn.ref16_PutChange : Nat := 17
abbrev Fn.keep_LendRows : Nat := 18
abbrev Fn.codec_PutRows : Nat := 19
abbrev Fn.keep_BackRows : Nat := 20
abbrev Fn.ref16_PutRows : Nat := 21
abbrev Fn.law16_CodecSpoilt : Nat := 22
abbrev Fn.law16_CodecReads : Nat := 23
abbrev Fn.codec_GetChange : Nat := 24
abbrev Fn.ref16_GetChange : Nat := 25
abbrev Fn.codec_GetRows : Nat := 26
abbrev Fn.ref16_GetRows : Nat := 27
abbrev Fn.keep_Ints : Nat := 28
abbrev Fn.keep_Rows : Nat := 29
abbrev Fn.law16_CodecRound : Nat := 30
abbrev Fn.codec_lay : Nat := 31
abbrev Fn.codec_check : Nat := 32
abbrev Fn.ref16_number : Nat := 33
abbrev Fn.codec_reading_number : Nat := 34
abbrev Fn.codec_reading_cut : Nat := 35
abbrev Fn.ref16_get : Nat := 36
abbrev Fn.keep_Vectors : Nat := 37
abbrev Fn.codec_may : Nat := 38
abbrev Fn.ref03_Id : Nat := 39
abbrev Fn.ref03_Check : Nat := 40
abbrev Fn.ref16_coord : Nat := 41
abbrev Fn.flat_Check : Nat := 42
abbrev Fn.codec_rising : Nat := 43
abbrev Fn.ref05_Check : Nat := 44
abbrev Fn.codec_reading_coords : Nat := 45
abbrev Fn.ref16_coords : Nat := 46
abbrev Fn.vec_Check : Nat := 47
abbrev Fn.ref03_Rows : Nat := 48
abbrev Fn.codec_reading_coords_1 : Nat := 49
abbrev Fn.vec_dim : Nat := 50
abbrev Fn.law02_TopkLess : Nat := 51
abbrev Fn.topk_Less : Nat := 52
abbrev Fn.ref02_Less : Nat := 53
abbrev Fn.law02_awake : Nat := 54
abbrev Fn.law02_TopkMerges : Nat := 55
abbrev Fn.law02_total : Nat := 56
abbrev Fn.law02_hit : Nat := 57
abbrev Fn.topk_Merge : Nat := 58
abbrev Fn.ref02_Same : Nat := 59
abbrev Fn.law02_spoil : Nat := 60
abbrev Fn.ref02_First : Nat := 61
abbrev Fn.law02_TopkOrder : Nat := 62
abbrev Fn.topk_New : Nat := 63
abbrev Fn.topk_Heap_Offer : Nat := 64
abbrev Fn.topk_Heap_List : Nat := 65
abbrev Fn.law02_TopkOffers : Nat := 66
abbrev Fn.ref02_With : Nat := 67
abbrev Fn.topk_Heap_Worst : Nat := 68
abbrev Fn.topk_Heap_Len : Nat := 69
abbrev Fn.topk_Heap_Full : Nat := 70
abbrev Fn.law02_TopkNil : Nat := 71
abbrev Fn.topk_compare : Nat := 72
abbrev Fn.topk_together_api_Hit : Nat := 73
abbrev Fn.ref02_Sorted : Nat := 74
abbrev Fn.container_heap_Push : Nat := 75
abbrev Fn.container_heap_Fix : Nat := 76
abbrev Fn.ty_ptopk_hits : Nat := 77
abbrev Fn.ty_api_Hit : Nat := 78
abbrev Fn.slices_Clone_Lapi_Hit : Nat := 79
abbrev Fn.slices_SortFunc_Lapi_Hit : Nat := 80
abbrev Fn.wide_Cmp : Nat := 81
abbrev Fn.cmp_Compare_int : Nat := 82
abbrev Fn.cmp_Or_int : Nat := 83
abbrev Fn.container_heap_up : Nat := 84
abbrev Fn.container_heap_down : Nat := 85
abbrev Fn.math_bits_Len : Nat := 86
abbrev Fn.slices_pdqsortCmpFunc_api_Hit : Nat := 87
abbrev Fn.cmp_isNaN_int : Nat := 88
abbrev Fn.slices_insertionSortCmpFunc_api_Hit : Nat := 89
abbrev Fn.slices_heapSortCmpFunc_api_Hit : Nat := 90
abbrev Fn.slices_breakPatternsCmpFunc_api_Hit : Nat := 91
abbrev Fn.slices_choosePivotCmpFunc_api_Hit : Nat := 92
abbrev Fn.slices_reverseRangeCmpFunc_api_Hit : Nat := 93
abbrev Fn.slices_partialInsertionSortCmpFunc_api_Hit : Nat := 94
abbrev Fn.slices_partitionEqualCmpFunc_api_Hit : Nat := 95
abbrev Fn.slices_partitionCmpFunc_api_Hit : Nat := 96
abbrev Fn.math_bits_Len32 : Nat := 97
abbrev Fn.math_bits_Len64 : Nat := 98
abbrev Fn.slices_siftDownCmpFunc_api_Hit : Nat := 99
abbrev Fn.slices_nextPowerOfTwo : Nat := 100
abbrev Fn.slices_xorshift_Next : Nat := 101
abbrev Fn.slices_medianAdjacentCmpFunc_api_Hit : Nat := 102
abbrev Fn.slices_medianCmpFunc_api_Hit : Nat := 103
abbrev Fn.slices_order2CmpFunc_api_Hit : Nat := 104
abbrev Fn.topk_hits_Len : Nat := 105
abbrev Fn.topk_hits_Less : Nat := 106
abbrev Fn.topk_hits_Swap : Nat := 107
abbrev Fn.topk_hits_Push : Nat := 108
abbrev Fn.law03_VecDists : Nat := 109
abbrev Fn.vec_Dist : Nat := 110
abbrev Fn.ref03_Dist : Nat := 111
abbrev Fn.law03_awake : Nat := 112
abbrev Fn.law03_VecBounds : Nat := 113
abbrev Fn.law03_big : Nat := 114
abbrev Fn.vec_Inside : Nat := 115
abbrev Fn.vec_Bound : Nat := 116
abbrev Fn.ref01_Less : Nat := 117
abbrev Fn.law03_VecMoves : Nat := 118
abbrev Fn.law03_VecScale : Nat := 119
abbrev Fn.ref01_Add : Nat := 120
abbrev Fn.law03_VecTriangle : Nat := 121
abbrev Fn.ref03_Root : Nat := 122
abbrev Fn.law03_VecShapes : Nat := 123
abbrev Fn.vec_Box : Nat := 124
abbrev Fn.vec_Ball : Nat := 125
abbrev Fn.ref03_Box : Nat := 126
abbrev Fn.ref03_Ball : Nat := 127
abbrev Fn.ref03_Same : Nat := 128
abbrev Fn.law03_VecHolds : Nat := 129
abbrev Fn.vec_far : Nat := 130
abbrev Fn.ref03_Far : Nat := 131
abbrev Fn.law03_box : Nat := 132
abbrev Fn.law03_ball : Nat := 133
abbrev Fn.law03_lo : Nat := 134
abbrev Fn.vec_CheckRegion : Nat := 135
abbrev Fn.vec_both : Nat := 136
abbrev Fn.vec_Inside_1 : Nat := 137
abbrev Fn.vec_plus : Nat := 138
abbrev Fn.wide_Sqrt : Nat := 139
abbrev Fn.wide_Mul : Nat := 140
abbrev Fn.ref03_Inside : Nat := 141
abbrev Fn.ref03_CheckRegion : Nat := 142
abbrev Fn.ref03_In : Nat := 143
abbrev Fn.ref03_Bound : Nat := 144
abbrev Fn.ref03_Near : Nat := 145
abbrev Fn.ref03_form : Nat := 146
abbrev Fn.ref03_ids : Nat := 147
abbrev Fn.ref01_Of : Nat := 148
abbrev Fn.ref01_Cmp : Nat := 149
abbrev Fn.ref01_Mul : Nat := 150
abbrev Fn.vec_ids : Nat := 151
abbrev Fn.slices_Clone_Lint : Nat := 152
abbrev Fn.ref03_Ids : Nat := 153
abbrev Fn.ref03_Ints : Nat := 154
abbrev Fn.ref03_Square : Nat := 155
abbrev Fn.ref03_Sum : Nat := 156
abbrev Fn.wide_Add : Nat := 157
abbrev Fn.math_bits_Mul64 : Nat := 158
abbrev Fn.ref01_Num_Plus : Nat := 159
abbrev Fn.ref01_Num_plus : Nat := 160
abbrev Fn.ref01_Num_Wide : Nat := 161
abbrev Fn.ref01_Num_Times : Nat := 162
abbrev Fn.slices_Sort_Lint : Nat := 163
abbrev Fn.ref03_With : Nat := 164
abbrev Fn.slices_pdqsortOrdered_int : Nat := 165
abbrev Fn.slices_insertionSortOrdered_int : Nat := 166
abbrev Fn.slices_heapSortOrdered_int : Nat := 167
abbrev Fn.slices_breakPatternsOrdered_int : Nat := 168
abbrev Fn.slices_choosePivotOrdered_int : Nat := 169
abbrev Fn.slices_reverseRangeOrdered_int : Nat := 170
abbrev Fn.slices_partialInsertionSortOrdered_int : Nat := 171
abbrev Fn.cmp_Less_int : Nat := 172
abbrev Fn.slices_partitionEqualOrdered_int : Nat := 173
abbrev Fn.slices_partitionOrdered_int : Nat := 174
abbrev Fn.slices_siftDownOrdered_int : Nat := 175
abbrev Fn.slices_medianAdjacentOrdered_int : Nat := 176
abbrev Fn.slices_medianOrdered_int : Nat := 177
abbrev Fn.slices_order2Ordered_int : Nat := 178
abbrev Fn.law03_VecRegions : Nat := 179
abbrev Fn.law12_FactoryParses : Nat := 180
abbrev Fn.factory_Parse : Nat := 181
abbrev Fn.ref12_Parse : Nat := 182
abbrev Fn.law12_awake : Nat := 183
abbrev Fn.law12_FactoryPrints : Nat := 184
abbrev Fn.factory_Print : Nat := 185
abbrev Fn.ref12_Print : Nat := 186
abbrev Fn.factory_Check : Nat := 187
abbrev Fn.ref12_Check : Nat := 188
abbrev Fn.law12_FactoryRound : Nat := 189
abbrev Fn.factory_Parse_1 : Nat := 190
abbrev Fn.factory_Parse_2 : Nat := 191
abbrev Fn.ref12_one : Nat := 192
abbrev Fn.ref12_ivf : Nat := 193
abbrev Fn.strconv_Itoa : Nat := 194
abbrev Fn.ref12_Number : Nat := 195
abbrev Fn.ref12_within : Nat := 196
abbrev Fn.strings_CutPrefix : Nat := 197
abbrev Fn.internal_stringslite_CutPrefix : Nat := 198
abbrev Fn.strconv_Atoi : Nat := 199
abbrev Fn.ref12_front : Nat := 200
abbrev Fn.ref12_digits : Nat := 201
abbrev Fn.internal_stringslite_HasPrefix : Nat := 202
abbrev Fn.internal_strconv_Atoi : Nat := 203
abbrev Fn.strconv_toError : Nat := 204
abbrev Fn.internal_strconv_Itoa : Nat := 205
end Go.Th.L
end

section
/- Functions of wide, read without frames (printed by tools/lib.py). -/
set_option linter.unusedVariables false
set_option maxRecDepth 100000
set_option maxHeartbeats 2000000
namespace Go.Th.L
open Go Go.Th

def wide_Cmp.p (P : Program) (N : Nat → Nat) (x0_a : Int) (x0_b : Int) (x1_a : Int) (x1_b : Int) (S : St) (K : Int → St → Prop) : Prop :=
  newS S (.cells [(V.int .u64 x0_a), (V.int .u64 x0_b)] true) fun S1 => newS S1 (.cells [(V.int .u64 x1_a), (V.int .u64 x1_b)] true) fun S2 => ∃ x6_a x6_b : Int, loadNV S2 2 (V.ptr S.next 0) = some (V.agg [(V.int .u64 x6_a), (V.int .u64 x6_b)]) ∧ ∃ x7_a x7_b : Int, loadNV S2 2 (V.ptr S1.next 0) = some (V.agg [(V.int .u64 x7_a), (V.int .u64 x7_b)]) ∧ ∃ x8 : Bool, eqV 6 [1, 1] (V.agg [(V.int .u64 x6_a), (V.int .u64 x6_b)]) (V.agg [(V.int .u64 x7_a), (V.int .u64 x7_b)]) = some x8 ∧ ifC x8 (K 0 S2) (∃ x11 : Int, loadV S2 (V.ptr S.next 0) = some (V.int .u64 x11) ∧ ∃ x13 : Int, loadV S2 (V.ptr S1.next 0) = some (V.int .u64 x13) ∧ ifC (decide (x11 < x13)) (K (-1) S2) (∃ x17 : Int, loadV S2 (V.ptr S.next 0) = some (V.int .u64 x17) ∧ ∃ x19 : Int, loadV S2 (V.ptr S1.next 0) = some (V.int .u64 x19) ∧ ifC (decide (x17 = x19)) (∃ x23 : Int, loadV S2 (V.ptr S.next 1) = some (V.int .u64 x23) ∧ ∃ x25 : Int, loadV S2 (V.ptr S1.next 1) = some (V.int .u64 x25) ∧ ifC (decide (x23 < x25)) (K (-1) S2) (K 1 S2)) (K 1 S2)))
abbrev wide_Cmp.Ok (P : Program) (N : Nat → Nat) : Prop := Reads P (N Fn.wide_Cmp) [(3, (.dt (.agg [(.int .u64), (.int .u64)])), []), (0, (.dt (.agg [(.int .u64), (.int .u64)])), []), (4, (.dt (.one (.int .u64))), []), (1, (.dt (.one (.int .u64))), []), (3, (.dt (.one (.int .u64))), []), (1, (.dt (.one (.int .u64))), []), (3, (.dt (.one (.int .u64))), []), (1, (.dt (.one (.int .u64))), [])] [] [] (fun A T (x0_a : Int) (x0_b : Int) (x1_a : Int) (x1_b : Int) (S : St) (K : Int → St → Prop) => wpT P (envP P) T (endT A.results [(.one (.int .i64))] K) (frT A [(V.agg [(V.int .u64 x0_a), (V.int .u64 x0_b)]), (V.agg [(V.int .u64 x1_a), (V.int .u64 x1_b)])]) S) (fun x0_a x0_b x1_a x1_b S K => wide_Cmp.p P N x0_a x0_b x1_a x1_b S K)
theorem wide_Cmp.run {P : Program} {N : Nat → Nat} (hF : wide_Cmp.Ok P N) {x0_a : Int} {x0_b : Int} {x1_a : Int} {x1_b : Int} {S : St} {K : Int → St → Prop} (h : wide_Cmp.p P N x0_a x0_b x1_a x1_b S K) : CallA P (N Fn.wide_Cmp) [(V.agg [(V.int .u64 x0_a), (V.int .u64 x0_b)]), (V.agg [(V.int .u64 x1_a), (V.int .u64 x1_b)])] S (retT [(.one (.int .i64))] K) := hF.run (fun q => q x0_a x0_b x1_a x1_b S K) h rfl

def wide_Sqrt.p (P : Program) (N : Nat → Nat) (x0_a : Int) (x0_b : Int) (S : St) (K : Int → St → Prop) : Prop :=
  newS S (.cells [(V.int .u64 x0_a), (V.int .u64 x0_b)] true) fun S1 => Loop2 (fun (k1 : Int → Int → St → Prop) (x3 : Int) (x4 : Int) (S2 : St) => Join1 (fun (k2 : Int → St → Prop) => setI (intBits .or .u64 x3 x4) fun x8 => ∃ x12_a x12_b : Int, loadNV S2 2 (V.ptr S.next 0) = some (V.agg [(V.int .u64 x12_a), (V.int .u64 x12_b)]) ∧ CallA P (N Fn.wide_Mul) [(V.int .u64 x8), (V.int .u64 x8)] S2 (retT [(.agg [(.int .u64), (.int .u64)])] fun (x11_a : Int) (x11_b : Int) (S4 : St) => Same (S.next :: []) S2 S4 ∧ CallA P (N Fn.wide_Cmp) [(V.agg [(V.int .u64 x11_a), (V.int .u64 x11_b)]), (V.agg [(V.int .u64 x12_a), (V.int .u64 x12_b)])] S4 (retT [(.one (.int .i64))] fun (x13 : Int) (S5 : St) => ifC (decide (x13 ≤ (0 : Int))) (k2 x8 S5) (k2 x3 S5)))) (fun (x3_1 : Int) (S3 : St) => ifC (decide (x4 = (1 : Int))) (K x3_1 S3) (0 ≤ (1 : Int) ∧ setI (Int.fdiv x4 (2 ^ (min (Int.toNat (1 : Int)) (IntKind.bits .u64)))) fun x19 => k1 x3_1 x19 S3))) 0 9223372036854775808 S1
abbrev wide_Sqrt.Ok (P : Program) (N : Nat → Nat) : Prop := Reads P (N Fn.wide_Sqrt) [(10, (.dt (.agg [(.int .u64), (.int .u64)])), []), (0, .no, [(.agg [(.int .u64), (.int .u64)])]), (0, .no, [(.one (.int .i64))])] [(5, [(3, (.one (.int .u64)))])] [[(3, (.one (.int .u64))), (4, (.one (.int .u64)))]] (fun A T (x0_a : Int) (x0_b : Int) (S : St) (K : Int → St → Prop) => wpT P (envP P) T (endT A.results [(.one (.int .u64))] K) (frT A [(V.agg [(V.int .u64 x0_a), (V.int .u64 x0_b)])]) S) (fun x0_a x0_b S K => wide_Sqrt.p P N x0_a x0_b S K)
theorem wide_Sqrt.run {P : Program} {N : Nat → Nat} (hF : wide_Sqrt.Ok P N) {x0_a : Int} {x0_b : Int} {S : St} {K : Int → St → Prop} (h : wide_Sqrt.p P N x0_a x0_b S K) : CallA P (N Fn.wide_Sqrt) [(V.agg [(V.int .u64 x0_a), (V.int .u64 x0_b)])] S (retT [(.one (.int .u64))] K) := hF.run (fun q => q x0_a x0_b S K) h rfl

def wide_Mul.p (P : Program) (N : Nat → Nat) (x0 : Int) (x1 : Int) (S : St) (K : Int → Int → St → Prop) : Prop :=
  newS S (.cells [(V.int .u64 0), (V.int .u64 0)] true) fun S1 => CallA P (N Fn.math_bits_Mul64) [(V.int .u64 x0), (V.int .u64 x1)] S1 (retT [(.one (.int .u64)), (.one (.int .u64))] fun (x10a : Int) (x10b : Int) (S2 : St) => ifS (storeV S2 2 (V.ptr S.next 0) (V.agg [(V.int .u64 x10a), (V.int .u64 x10b)])) fun S3 => ∃ xr_a xr_b : Int, cellNV S3 2 (V.ptr S.next 0) = some (V.agg [(V.int .u64 xr_a), (V.int .u64 xr_b)]) ∧ K xr_a xr_b S3)
abbrev wide_Mul.Ok (P : Program) (N : Nat → Nat) : Prop := Reads P (N Fn.wide_Mul) [(3, .no, [(.one (.int .u64)), (.one (.int .u64))]), (7, (.dt (.agg [(.int .u64), (.int .u64)])), [])] [] [] (fun A T (x0 : Int) (x1 : Int) (S : St) (K : Int → Int → St → Prop) => wpT P (envP P) T (endT A.results [(.agg [(.int .u64), (.int .u64)])] K) (frT A [(V.int .u64 x0), (V.int .u64 x1)]) S) (fun x0 x1 S K => wide_Mul.p P N x0 x1 S K)
theorem wide_Mul.run {P : Program} {N : Nat → Nat} (hF : wide_Mul.Ok P N) {x0 : Int} {x1 : Int} {S : St} {K : Int → Int → St → Prop} (h : wide_Mul.p P N x0 x1 S K) : CallA P (N Fn.wide_Mul) [(V.int .u64 x0), (V.int .u64 x1)] S (retT [(.agg [(.int .u64), (.int .u64)])] K) := hF.run (fun q => q x0 x1 S K) h rfl

def wide_Add.p (P : Program) (N : Nat → Nat) (x0_a : Int) (x0_b : Int) (x1_a : Int) (x1_b : Int) (S : St) (K : Int → Int → Int → St → Prop) : Prop :=
  newS S (.cells [(V.int .u64 x0_a), (V.int .u64 x0_b)] true) fun S1 => newS S1 (.cells [(V.int .u64 x1_a), (V.int .u64 x1_b)] true) fun S2 => newS S2 (.cells [(V.int .u64 0), (V.int .u64 0)] true) fun S3 => ∃ x11 : Int, loadV S3 (V.ptr S.next 1) = some (V.int .u64 x11) ∧ ∃ x13 : Int, loadV S3 (V.ptr S1.next 1) = some (V.int .u64 x13) ∧ ∃ x14a x14b : Int, extV 0 [(V.int .u64 x11), (V.int .u64 x13), (V.int .u64 0)] = some (V.tuple [(V.int .u64 x14a), (V.int .u64 x14b)]) ∧ ∃ x19 : Int, loadV S3 (V.ptr S.next 0) = some (V.int .u64 x19) ∧ ∃ x21 : Int, loadV S3 (V.ptr S1.next 0) = some (V.int .u64 x21) ∧ ∃ x23a x23b : Int, extV 0 [(V.int .u64 x19), (V.int .u64 x21), (V.int .u64 x14b)] = some (V.tuple [(V.int .u64 x23a), (V.int .u64 x23b)]) ∧ ifC (decide ((0 : Int) < x23b)) (ifS (storeV S3 2 (V.ptr S2.next 0) (V.agg [(V.int .u64 0), (V.int .u64 0)])) fun S4 => ∃ xr_a xr_b : Int, cellNV S4 2 (V.ptr S2.next 0) = some (V.agg [(V.int .u64 xr_a), (V.int .u64 xr_b)]) ∧ K xr_a xr_b 10 S4) (ifS (storeV S3 2 (V.ptr S2.next 0) (V.agg [(V.int .u64 x23a), (V.int .u64 x14a)])) fun S5 => ∃ xr_a_1 xr_b_1 : Int, cellNV S5 2 (V.ptr S2.next 0) = some (V.agg [(V.int .u64 xr_a_1), (V.int .u64 xr_b_1)]) ∧ K xr_a_1 xr_b_1 0 S5)
abbrev wide_Add.Ok (P : Program) (N : Nat → Nat) : Prop := Reads P (N Fn.wide_Add) [(5, (.dt (.one (.int .u64))), []), (1, (.dt (.one (.int .u64))), []), (0, (.tup [(.one (.int .u64)), (.one (.int .u64))]), []), (6, (.dt (.one (.int .u64))), []), (1, (.dt (.one (.int .u64))), []), (1, (.tup [(.one (.int .u64)), (.one (.int .u64))]), []), (7, (.dt (.agg [(.int .u64), (.int .u64)])), []), (4, (.dt (.agg [(.int .u64), (.int .u64)])), [])] [] [] (fun A T (x0_a : Int) (x0_b : Int) (x1_a : Int) (x1_b : Int) (S : St) (K : Int → Int → Int → St → Prop) => wpT P (envP P) T (endT A.results [(.agg [(.int .u64), (.int .u64)]), (.one (.int .i64))] K) (frT A [(V.agg [(V.int .u64 x0_a), (V.int .u64 x0_b)]), (V.agg [(V.int .u64 x1_a), (V.int .u64 x1_b)])]) S) (fun x0_a x0_b x1_a x1_b S K => wide_Add.p P N x0_a x0_b x1_a x1_b S K)
theorem wide_Add.run {P : Program} {N : Nat → Nat} (hF : wide_Add.Ok P N) {x0_a : Int} {x0_b : Int} {x1_a : Int} {x1_b : Int} {S : St} {K : Int → Int → Int → St → Prop} (h : wide_Add.p P N x0_a x0_b x1_a x1_b S K) : CallA P (N Fn.wide_Add) [(V.agg [(V.int .u64 x0_a), (V.int .u64 x0_b)]), (V.agg [(V.int .u64 x1_a), (V.int .u64 x1_b)])] S (retT [(.agg [(.int .u64), (.int .u64)]), (.one (.int .i64))] K) := hF.run (fun q => q x0_a x0_b x1_a x1_b S K) h rfl

end Go.Th.L
end

section
/- Functions of cmp, read without frames (printed by tools/lib.py). -/
set_option linter.unusedVariables false
set_option maxRecDepth 100000
set_option maxHeartbeats 2000000
namespace Go.Th.L
open Go Go.Th

def cmp_Or_int.p (P : Program) (N : Nat → Nat) (x0 : V) (S : St) (K : Int → St → Prop) : Prop :=
  ∃ x7 : Int, lenV S 2 x0 = some (V.int .i64 x7) ∧ Loop1 (fun (k1 : Int → St → Prop) (x8 : Int) (S1 : St) => ifC (decide (x8 < x7)) (ifS (idxAddrV 1 x0 (V.int .i64 x8)) fun x10 => ∃ x11 : Int, loadV S1 x10 = some (V.int .i64 x11) ∧ ifC (!decide (x11 = (0 : Int))) (K x11 S1) (setI (IntKind.i64.wrap (x8 + (1 : Int))) fun x16 => k1 x16 S1)) (K 0 S1)) 0 S
abbrev cmp_Or_int.Ok (P : Program) (N : Nat → Nat) : Prop := Reads P (N Fn.cmp_Or_int) [(3, (.dt (.one (.int .i64))), []), (3, (.dt (.one (.int .i64))), [])] [] [[(8, (.one (.int .i64)))]] (fun A T (x0 : V) (S : St) (K : Int → St → Prop) => wpT P (envP P) T (endT A.results [(.one (.int .i64))] K) (frT A [x0]) S) (fun x0 S K => cmp_Or_int.p P N x0 S K)
theorem cmp_Or_int.run {P : Program} {N : Nat → Nat} (hF : cmp_Or_int.Ok P N) {x0 : V} {S : St} {K : Int → St → Prop} (h : cmp_Or_int.p P N x0 S K) : CallA P (N Fn.cmp_Or_int) [x0] S (retT [(.one (.int .i64))] K) := hF.run (fun q => q x0 S K) h rfl

def cmp_Compare_int.p (P : Program) (N : Nat → Nat) (x0 : Int) (x1 : Int) (S : St) (K : Int → St → Prop) : Prop :=
  CallA P (N Fn.cmp_isNaN_int) [(V.int .i64 x0)] S (retT [(.one .bool)] fun (x8 : Bool) (S1 : St) => CallA P (N Fn.cmp_isNaN_int) [(V.int .i64 x1)] S1 (retT [(.one .bool)] fun (x10 : Bool) (S2 : St) => ifC x8 (ifC x10 (K 0 S2) (K (-1) S2)) (ifC x10 (K 1 S2) (ifC (decide (x0 < x1)) (K (-1) S2) (ifC (decide (x1 < x0)) (K 1 S2) (K 0 S2))))))
abbrev cmp_Compare_int.Ok (P : Program) (N : Nat → Nat) : Prop := Reads P (N Fn.cmp_Compare_int) [(2, .no, [(.one .bool)]), (2, .no, [(.one .bool)])] [] [] (fun A T (x0 : Int) (x1 : Int) (S : St) (K : Int → St → Prop) => wpT P (envP P) T (endT A.results [(.one (.int .i64))] K) (frT A [(V.int .i64 x0), (V.int .i64 x1)]) S) (fun x0 x1 S K => cmp_Compare_int.p P N x0 x1 S K)
theorem cmp_Compare_int.run {P : Program} {N : Nat → Nat} (hF : cmp_Compare_int.Ok P N) {x0 : Int} {x1 : Int} {S : St} {K : Int → St → Prop} (h : cmp_Compare_int.p P N x0 x1 S K) : CallA P (N Fn.cmp_Compare_int) [(V.int .i64 x0), (V.int .i64 x1)] S (retT [(.one (.int .i64))] K) := hF.run (fun q => q x0 x1 S K) h rfl

def cmp_isNaN_int.p (P : Program) (N : Nat → Nat) (x0 : Int) (S : St) (K : Bool → St → Prop) : Prop :=
  K (!decide (x0 = x0)) S
abbrev cmp_isNaN_int.Ok (P : Program) (N : Nat → Nat) : Prop := Reads P (N Fn.cmp_isNaN_int) [] [] [] (fun A T (x0 : Int) (S : St) (K : Bool → St → Prop) => wpT P (envP P) T (endT A.results [(.one .bool)] K) (frT A [(V.int .i64 x0)]) S) (fun x0 S K => cmp_isNaN_int.p P N x0 S K)
theorem cmp_isNaN_int.run {P : Program} {N : Nat → Nat} (hF : cmp_isNaN_int.Ok P N) {x0 : Int} {S : St} {K : Bool → St → Prop} (h : cmp_isNaN_int.p P N x0 S K) : CallA P (N Fn.cmp_isNaN_int) [(V.int .i64 x0)] S (retT [(.one .bool)] K) := hF.run (fun q => q x0 S K) h rfl

def cmp_Less_int.p (P : Program) (N : Nat → Nat) (x0 : Int) (x1 : Int) (S : St) (K : Bool → St → Prop) : Prop :=
  CallA P (N Fn.cmp_isNaN_int) [(V.int .i64 x0)] S (retT [(.one .bool)] fun (x6 : Bool) (S1 : St) => ifC x6 (CallA P (N Fn.cmp_isNaN_int) [(V.int .i64 x1)] S1 (retT [(.one .bool)] fun (x9 : Bool) (S2 : St) => ifC (!x9) (K true S2) (K (decide (x0 < x1)) S2))) (K (decide (x0 < x1)) S1))
abbrev cmp_Less_int.Ok (P : Program) (N : Nat → Nat) : Prop := Reads P (N Fn.cmp_Less_int) [(2, .no, [(.one .bool)]), (2, .no, [(.one .bool)])] [] [] (fun A T (x0 : Int) (x1 : Int) (S : St) (K : Bool → St → Prop) => wpT P (envP P) T (endT A.results [(.one .bool)] K) (frT A [(V.int .i64 x0), (V.int .i64 x1)]) S) (fun x0 x1 S K => cmp_Less_int.p P N x0 x1 S K)
theorem cmp_Less_int.run {P : Program} {N : Nat → Nat} (hF : cmp_Less_int.Ok P N) {x0 : Int} {x1 : Int} {S : St} {K : Bool → St → Prop} (h : cmp_Less_int.p P N x0 x1 S K) : CallA P (N Fn.cmp_Less_int) [(V.int .i64 x0), (V.int .i64 x1)] S (retT [(.one .bool)] K) := hF.run (fun q => q x0 x1 S K) h rfl

end Go.Th.L
end
