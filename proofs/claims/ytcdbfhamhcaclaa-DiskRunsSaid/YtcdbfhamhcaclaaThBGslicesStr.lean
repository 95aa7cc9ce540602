/- What the row of one statement stands on: a store, abstract code, functions of the program and their laws (ThFn, ThGdisk, ThGkeep, ThGlaw17, ThGmaps, ThGmath, ThGref17, ThGslicesBase, ThGslicesByte, ThGslicesStr). -/
import Derived.Test.YtcdbfhamhcaclaaThBQ11

section
/- Keys of the functions' names (printed by tools/lib.py). -/
namespace Go.Th.L
abbrev Fn.law16_CodecRecords : Nat := 1
abbrev Fn.codec_Encode : Nat := 2
abbrev Fn.ref16_Encode : Nat := 3
abbrev Fn.keep_LendBytes : Nat := 4
abbrev Fn.codec_Decode : Nat := 5
abbrev Fn.codec_Sum : Nat := 6
abbrev Fn.keep_BackBytes : Nat := 7
abbrev Fn.ref16_Decode : Nat := 8
abbrev Fn.law16_awake : Nat := 9
abbrev Fn.keep_Bytes : Nat := 10
abbrev Fn.ref16_Sum : Nat := 11
abbrev Fn.law16_CodecTexts : Nat := 12
abbrev Fn.law16_big : Nat := 13
abbrev Fn.keep_Lend : Nat := 14
abbrev Fn.codec_PutChange : Nat := 15
abbrev Fn.keep_Back : Nat := 16
abbrev Fn.ref16_PutChange : Nat := 17
abbrev Fn.keep_LendRows : Nat := 18
abbrev Fn.codec_PutRows : Nat := 19
abbrev Fn.keep_BackRows : Nat := 20
abbrev Fn.ref16_PutRows : Nat := 21
abbrev Fn.law16_CodecSpoilt : Nat := 22
abbrev Fn.law16_CodecReads : Nat := 23
abbrev Fn.codec_GetChange : Nat := 24
abbrev Fn.ref16_GetChange : Nat := 25
abbrev Fn.codec_GetRows : Nat := 26
abbrev Fn.ref16_GetRows : Nat := 27
abbrev Fn.keep_Ints : Nat := 28
abbrev Fn.keep_Rows : Nat := 29
abbrev Fn.law16_CodecRound : Nat := 30
abbrev Fn.codec_lay : Nat := 31
abbrev Fn.codec_check : Nat := 32
abbrev Fn.ref16_number : Nat := 33
abbrev Fn.codec_reading_number : Nat := 34
abbrev Fn.codec_reading_cut : Nat := 35
abbrev Fn.ref16_get : Nat := 36
abbrev Fn.keep_Vectors : Nat := 37
abbrev Fn.codec_may : Nat := 38
abbrev Fn.ref03_Id : Nat := 39
abbrev Fn.ref03_Check : Nat := 40
abbrev Fn.ref16_coord : Nat := 41
abbrev Fn.flat_Check : Nat := 42
abbrev Fn.codec_rising : Nat := 43
abbrev Fn.ref05_Check : Nat := 44
abbrev Fn.codec_reading_coords : Nat := 45
abbrev Fn.ref16_coords : Nat := 46
abbrev Fn.vec_Check : Nat := 47
abbrev Fn.ref03_Rows : Nat := 48
abbrev Fn.codec_reading_coords_1 : Nat := 49
abbrev Fn.vec_dim : Nat := 50
abbrev Fn.law02_TopkLess : Nat := 51
abbrev Fn.topk_Less : Nat := 52
abbrev Fn.ref02_Less : Nat := 53
abbrev Fn.law02_awake : Nat := 54
abbrev Fn.law02_TopkMerges : Nat := 55
abbrev Fn.law02_total : Nat := 56
abbrev Fn.law02_hit : Nat := 57
abbrev Fn.topk_Merge : Nat := 58
abbrev Fn.ref02_Same : Nat := 59
abbrev Fn.law02_spoil : Nat := 60
abbrev Fn.ref02_First : Nat := 61
abbrev Fn.law02_TopkOrder : Nat := 62
abbrev Fn.topk_New : Nat := 63
abbrev Fn.topk_Heap_Offer : Nat := 64
abbrev Fn.topk_Heap_List : Nat := 65
abbrev Fn.law02_TopkOffers : Nat := 66
abbrev Fn.ref02_With : Nat := 67
abbrev Fn.topk_Heap_Worst : Nat := 68
abbrev Fn.topk_Heap_Len : Nat := 69
abbrev Fn.topk_Heap_Full : Nat := 70
abbrev Fn.law02_TopkNil : Nat := 71
abbrev Fn.topk_compare : Nat := 72
abbrev Fn.topk_together_api_Hit : Nat := 73
abbrev Fn.ref02_Sorted : Nat := 74
abbrev Fn.container_heap_Push : Nat := 75
abbrev Fn.container_heap_Fix : Nat := 76
abbrev Fn.ty_ptopk_hits : Nat := 77
abbrev Fn.ty_api_Hit : Nat := 78
abbrev Fn.slices_Clone_Lapi_Hit : Nat := 79
abbrev Fn.slices_SortFunc_Lapi_Hit : Nat := 80
abbrev Fn.wide_Cmp : Nat := 81
abbrev Fn.cmp_Compare_int : Nat := 82
abbrev Fn.cmp_Or_int : Nat := 83
abbrev Fn.container_heap_up : Nat := 84
abbrev Fn.container_heap_down : Nat := 85
abbrev Fn.math_bits_Len : Nat := 86
abbrev Fn.slices_pdqsortCmpFunc_api_Hit : Nat := 87
abbrev Fn.cmp_isNaN_int : Nat := 88
abbrev Fn.slices_insertionSortCmpFunc_api_Hit : Nat := 89
abbrev Fn.slices_heapSortCmpFunc_api_Hit : Nat := 90
abbrev Fn.slices_breakPatternsCmpFunc_api_Hit : Nat := 91
abbrev Fn.slices_choosePivotCmpFunc_api_Hit : Nat := 92
abbrev Fn.slices_reverseRangeCmpFunc_api_Hit : Nat := 93
abbrev Fn.slices_partialInsertionSortCmpFunc_api_Hit : Nat := 94
abbrev Fn.slices_partitionEqualCmpFunc_api_Hit : Nat := 95
abbrev Fn.slices_partitionCmpFunc_api_Hit : Nat := 96
abbrev Fn.math_bits_Len32 : Nat := 97
abbrev Fn.math_bits_Len64 : Nat := 98
abbrev Fn.slices_siftDownCmpFunc_api_Hit : Nat := 99
abbrev Fn.slices_nextPowerOfTwo : Nat := 100
abbrev Fn.slices_xorshift_Next : Nat := 101
abbrev Fn.slices_medianAdjacentCmpFunc_api_Hit : Nat := 102
abbrev Fn.slices_medianCmpFunc_api_Hit : Nat := 103
abbrev Fn.slices_order2CmpFunc_api_Hit : Nat := 104
abbrev Fn.topk_hits_Len : Nat := 105
abbrev Fn.topk_hits_Less : Nat := 106
abbrev Fn.topk_hits_Swap : Nat := 107
abbrev Fn.topk_hits_Push : Nat := 108
abbrev Fn.law03_VecDists : Nat := 109
abbrev Fn.vec_Dist : Nat := 110
abbrev Fn.ref03_Dist : Nat := 111
abbrev Fn.law03_awake : Nat := 112
abbrev Fn.law03_VecBounds : Nat := 113
abbrev Fn.law03_big : Nat := 114
abbrev Fn.vec_Inside : Nat := 115
abbrev Fn.vec_Bound : Nat := 116
abbrev Fn.ref01_Less : Nat := 117
abbrev Fn.law03_VecMoves : Nat := 118
abbrev Fn.law03_VecScale : Nat := 119
abbrev Fn.ref01_Add : Nat := 120
abbrev Fn.law03_VecTriangle : Nat := 121
abbrev Fn.ref03_Root : Nat := 122
abbrev Fn.law03_VecShapes : Nat := 123
abbrev Fn.vec_Box : Nat := 124
abbrev Fn.vec_Ball : Nat := 125
abbrev Fn.ref03_Box : Nat := 126
abbrev Fn.ref03_Ball : Nat := 127
abbrev Fn.ref03_Same : Nat := 128
abbrev Fn.law03_VecHolds : Nat := 129
abbrev Fn.vec_far : Nat := 130
abbrev Fn.ref03_Far : Nat := 131
abbrev Fn.law03_box : Nat := 132
abbrev Fn.law03_ball : Nat := 133
abbrev Fn.law03_lo : Nat := 134
abbrev Fn.vec_CheckRegion : Nat := 135
abbrev Fn.vec_both : Nat := 136
abbrev Fn.vec_Inside_1 : Nat := 137
abbrev Fn.vec_plus : Nat := 138
abbrev Fn.wide_Sqrt : Nat := 139
abbrev Fn.wide_Mul : Nat := 140
abbrev Fn.ref03_Inside : Nat := 141
abbrev Fn.ref03_CheckRegion : Nat := 142
abbrev Fn.ref03_In : Nat := 143
abbrev Fn.ref03_Bound : Nat := 144
abbrev Fn.ref03_Near : Nat := 145
abbrev Fn.ref03_form : Nat := 146
abbrev Fn.ref03_ids : Nat := 147
abbrev Fn.ref01_Of : Nat := 148
abbrev Fn.ref01_Cmp : Nat := 149
abbrev Fn.ref01_Mul : Nat := 150
abbrev Fn.vec_ids : Nat := 151
abbrev Fn.slices_Clone_Lint : Nat := 152
abbrev Fn.ref03_Ids : Nat := 153
abbrev Fn.ref03_Ints : Nat := 154
abbrev Fn.ref03_Square : Nat := 155
abbrev Fn.ref03_Sum : Nat := 156
abbrev Fn.wide_Add : Nat := 157
abbrev Fn.math_bits_Mul64 : Nat := 158
abbrev Fn.ref01_Num_Plus : Nat := 159
abbrev Fn.ref01_Num_plus : Nat := 160
abbrev Fn.ref01_Num_Wide : Nat := 161
abbrev Fn.ref01_Num_Times : Nat := 162
abbrev Fn.slices_Sort_Lint : Nat := 163
abbrev Fn.ref03_With : Nat := 164
abbrev Fn.slices_pdqsortOrdered_int : Nat := 165
abbrev Fn.slices_insertionSortOrdered_int : Nat := 166
abbrev Fn.slices_heapSortOrdered_int : Nat := 167
abbrev Fn.slices_breakPatternsOrdered_int : Nat := 168
abbrev Fn.slices_choosePivotOrdered_int : Nat := 169
abbrev Fn.slices_reverseRangeOrdered_int : Nat := 170
abbrev Fn.slices_partialInsertionSortOrdered_int : Nat := 171
abbrev Fn.cmp_Less_int : Nat := 172
abbrev Fn.slices_partitionEqualOrdered_int : Nat := 173
abbrev Fn.slices_partitionOrdered_int : Nat := 174
abbrev Fn.slices_siftDownOrdered_int : Nat := 175
abbrev Fn.slices_medianAdjacentOrdered_int : Nat := 176
abbrev Fn.slices_medianOrdered_int : Nat := 177
abbrev Fn.slices_order2Ordered_int : Nat := 178
abbrev Fn.law03_VecRegions : Nat := 179
abbrev Fn.law12_FactoryParses : Nat := 180
abbrev Fn.factory_Parse : Nat := 181
abbrev Fn.ref12_Parse : Nat := 182
abbrev Fn.law12_awake : Nat := 183
abbrev Fn.law12_FactoryPrints : Nat := 184
abbrev Fn.factory_Print : Nat := 185
abbrev Fn.ref12_Print : Nat := 186
abbrev Fn.factory_Check : Nat := 187
abbrev Fn.ref12_Check : Nat := 188
abbrev Fn.law12_FactoryRound : Nat := 189
abbrev Fn.factory_Parse_1 : Nat := 190
abbrev Fn.factory_Parse_2 : Nat := 191
abbrev Fn.ref12_one : Nat := 192
abbrev Fn.ref12_ivf : Nat := 193
abbrev Fn.strconv_Itoa : Nat := 194
abbrev Fn.ref12_Number : Nat := 195
abbrev Fn.ref12_within : Nat := 196
abbrev Fn.strings_CutPrefix : Nat := 197
abbrev Fn.internal_stringslite_CutPrefix : Nat := 198
abbrev Fn.strconv_Atoi : Nat := 199
abbrev Fn.ref12_front : Nat := 200
abbrev Fn.ref12_digits : Nat := 201
abbrev Fn.internal_stringslite_HasPrefix : Nat := 202
abbrev Fn.internal_strconv_Atoi : Nat := 203
abbrev Fn.strconv_toError : Nat := 204
abbrev Fn.internal_strconv_Itoa : Nat := 205
abbrev Fn.law22_HttpPrints : Nat := 206
abbrev Fn.http_Print : Nat := 207
abbrev Fn.ref22_Print : Nat := 208
abbrev Fn.http_Read : Nat := 209
abbrev Fn.ref22_Read : Nat := 210
abbrev Fn.law22_awake : Nat := 211
abbrev Fn.law22_HttpRound : Nat := 212
abbrev Fn.law22_HttpFields : Nat := 213
abbrev Fn.http_Fields : Nat := 214
abbrev Fn.ref22_Fields : Nat := 215
abbrev Fn.keep_Texts : Nat := 216
abbrev Fn.law22_HttpFeeds : Nat := 217
abbrev Fn.http_New : Nat := 218
abbrev Fn.http_Parser_Feed : Nat := 219
abbrev Fn.http_Parser_Wrong : Nat := 220
abbrev Fn.ref22_Requests : Nat := 221
abbrev Fn.law22_same : Nat := 222
abbrev Fn.law22_HttpParts : Nat := 223
abbrev Fn.law22_cut : Nat := 224
abbrev Fn.law22_HttpNil : Nat := 225
abbrev Fn.http_word : Nat := 226
abbrev Fn.ref22_Word : Nat := 227
abbrev Fn.ref22_digits : Nat := 228
abbrev Fn.strings_Cut : Nat := 229
abbrev Fn.strings_Split : Nat := 230
abbrev Fn.bytes_HasPrefix : Nat := 231
abbrev Fn.ref22_begins : Nat := 232
abbrev Fn.slices_Contains_Lstring : Nat := 233
abbrev Fn.ref22_parts : Nat := 234
abbrev Fn.ref22_find : Nat := 235
abbrev Fn.http_Parser_first : Nat := 236
abbrev Fn.ref22_Reading_one : Nat := 237
abbrev Fn.ref22_Reading_stop : Nat := 238
abbrev Fn.internal_stringslite_Cut : Nat := 239
abbrev Fn.strings_genSplit : Nat := 240
abbrev Fn.bytes_Equal : Nat := 241
abbrev Fn.slices_Index_Lstring : Nat := 242
abbrev Fn.http_Parser_line : Nat := 243
abbrev Fn.http_all : Nat := 244
abbrev Fn.http_Parser_first_1 : Nat := 245
abbrev Fn.strings_HasPrefix : Nat := 246
abbrev Fn.http_Parser_first_2 : Nat := 247
abbrev Fn.http_Parser_bad : Nat := 248
abbrev Fn.http_Parser_head : Nat := 249
abbrev Fn.ref22_Reading_line : Nat := 250
abbrev Fn.ref22_first : Nat := 251
abbrev Fn.ref22_Reading_heads : Nat := 252
abbrev Fn.internal_stringslite_Index : Nat := 253
abbrev Fn.bytes_Index : Nat := 254
abbrev Fn.http_all_1 : Nat := 255
abbrev Fn.slices_ContainsFunc_Lbyte : Nat := 256
abbrev Fn.http_Parser_body : Nat := 257
abbrev Fn.http_Parser_head_1 : Nat := 258
abbrev Fn.http_Parser_head_2 : Nat := 259
abbrev Fn.strings_Trim : Nat := 260
abbrev Fn.http_means : Nat := 261
abbrev Fn.http_Parser_head_3 : Nat := 262
abbrev Fn.ty_http_length : Nat := 263
abbrev Fn.ty_http_end : Nat := 264
abbrev Fn.ty_http_no : Nat := 265
abbrev Fn.ref22_within : Nat := 266
abbrev Fn.ref22_header : Nat := 267
abbrev Fn.ref22_number : Nat := 268
abbrev Fn.strings_Index : Nat := 269
abbrev Fn.slices_IndexFunc_Lbyte : Nat := 270
abbrev Fn.strings_ToLower : Nat := 271
abbrev Fn.strings_trimRightByte : Nat := 272
abbrev Fn.strings_trimLeftByte : Nat := 273
abbrev Fn.strings_makeASCIISet : Nat := 274
abbrev Fn.strings_trimRightASCII : Nat := 275
abbrev Fn.strings_trimLeftASCII : Nat := 276
abbrev Fn.strings_trimRightUnicode : Nat := 277
abbrev Fn.strings_trimLeftUnicode : Nat := 278
abbrev Fn.ref22_name : Nat := 279
abbrev Fn.ref22_small : Nat := 280
abbrev Fn.strings_Builder_Grow : Nat := 281
abbrev Fn.strings_Builder_WriteString : Nat := 282
abbrev Fn.strings_Builder_WriteByte : Nat := 283
abbrev Fn.strings_Builder_String : Nat := 284
abbrev Fn.strings_Map : Nat := 285
abbrev Fn.unicode_ToLower : Nat := 286
abbrev Fn.law13_CertTrue : Nat := 287
abbrev Fn.law13_big : Nat := 288
abbrev Fn.cert_Certain : Nat := 289
abbrev Fn.cert_Sound : Nat := 290
abbrev Fn.flat_TopK : Nat := 291
abbrev Fn.law13_awake : Nat := 292
abbrev Fn.keep_Hits : Nat := 293
abbrev Fn.law13_CertSpoilt : Nat := 294
abbrev Fn.law13_lent : Nat := 295
abbrev Fn.law13_CertAll : Nat := 296
abbrev Fn.cert_Sound_1 : Nat := 297
abbrev Fn.slices_Equal_Lapi_Hit : Nat := 298
abbrev Fn.law13_rows : Nat := 299
abbrev Fn.law13_told : Nat := 300
abbrev Fn.flat_asked : Nat := 301
abbrev Fn.flat_hits : Nat := 302
abbrev Fn.flat_hits_1 : Nat := 303
abbrev Fn.law13_CertChecks : Nat := 304
abbrev Fn.ref13_Sound : Nat := 305
abbrev Fn.ref13_Certain : Nat := 306
abbrev Fn.keep_Answer : Nat := 307
abbrev Fn.ref13_Asked : Nat := 308
abbrev Fn.ref05_Sound : Nat := 309
abbrev Fn.ref05_Certain : Nat := 310
abbrev Fn.keep_Region : Nat := 311
abbrev Fn.ref05_TopK : Nat := 312
abbrev Fn.ref05_find : Nat := 313
abbrev Fn.ref05_region : Nat := 314
abbrev Fn.ref05_Hits : Nat := 315
abbrev Fn.ref05_First : Nat := 316
abbrev Fn.ref05_Asked : Nat := 317
abbrev Fn.ref05_Before : Nat := 318
abbrev Fn.law17_DiskNew : Nat := 319
abbrev Fn.disk_New : Nat := 320
abbrev Fn.law17_awake : Nat := 321
abbrev Fn.ref17_New : Nat := 322
abbrev Fn.law17_same : Nat := 323
abbrev Fn.law17_DiskRuns : Nat := 324
abbrev Fn.law17_large : Nat := 325
abbrev Fn.disk_Disk_Clone : Nat := 326
abbrev Fn.ref17_Disk_Clone : Nat := 327
abbrev Fn.law17_step : Nat := 328
abbrev Fn.law17_DiskSafe : Nat := 329
abbrev Fn.law17_play : Nat := 330
abbrev Fn.disk_Disk_Crash : Nat := 331
abbrev Fn.disk_Disk_Create : Nat := 332
abbrev Fn.disk_Disk_SyncDir : Nat := 333
abbrev Fn.disk_Disk_Sync : Nat := 334
abbrev Fn.disk_Disk_Read : Nat := 335
abbrev Fn.disk_Disk_Append : Nat := 336
abbrev Fn.disk_Disk_Names : Nat := 337
abbrev Fn.disk_Disk_Down : Nat := 338
abbrev Fn.law17_DiskStops : Nat := 339
abbrev Fn.disk_Disk_Stop : Nat := 340
abbrev Fn.disk_Disk_Steps : Nat := 341
abbrev Fn.disk_Disk_Used : Nat := 342
abbrev Fn.law17_DiskNil : Nat := 343
abbrev Fn.disk_Disk_Rename : Nat := 344
abbrev Fn.disk_Disk_Remove : Nat := 345
abbrev Fn.ref17_Disk_Names : Nat := 346
abbrev Fn.ref17_Disk_Used : Nat := 347
abbrev Fn.ref17_Disk_Down : Nat := 348
abbrev Fn.ref17_Disk_Read : Nat := 349
abbrev Fn.keep_SpoilBytes : Nat := 350
abbrev Fn.disk_Disk_Clone_1 : Nat := 351
abbrev Fn.ref17_without : Nat := 352
abbrev Fn.ref17_Disk_Create : Nat := 353
abbrev Fn.ref17_Disk_Append : Nat := 354
abbrev Fn.ref17_Disk_Sync : Nat := 355
abbrev Fn.ref17_Disk_Rename : Nat := 356
abbrev Fn.ref17_Disk_Remove : Nat := 357
abbrev Fn.ref17_Disk_SyncDir : Nat := 358
abbrev Fn.ref17_Disk_Stop : Nat := 359
abbrev Fn.ref17_Disk_Crash : Nat := 360
abbrev Fn.disk_Disk_Crash_1 : Nat := 361
abbrev Fn.maps_Clone_disk_names : Nat := 362
abbrev Fn.disk_says : Nat := 363
abbrev Fn.disk_names_do : Nat := 364
abbrev Fn.slices_Clone_Lbyte : Nat := 365
abbrev Fn.disk_Disk_ready : Nat := 366
abbrev Fn.disk_good : Nat := 367
abbrev Fn.disk_Disk_change : Nat := 368
abbrev Fn.disk_Disk_done : Nat := 369
abbrev Fn.disk_Disk_find : Nat := 370
abbrev Fn.maps_Keys_disk_names : Nat := 371
abbrev Fn.slices_Sorted_string : Nat := 372
abbrev Fn.ref17_Disk_file : Nat := 373
abbrev Fn.ref17_Name : Nat := 374
abbrev Fn.ref17_find : Nat := 375
abbrev Fn.ref17_Disk_change : Nat := 376
abbrev Fn.ref17_Disk_step : Nat := 377
abbrev Fn.ref17_choice : Nat := 378
abbrev Fn.ref17_says : Nat := 379
abbrev Fn.ref17_apply : Nat := 380
abbrev Fn.slices_Collect_string : Nat := 381
abbrev Fn.slices_Sort_Lstring : Nat := 382
abbrev Fn.maps_Keys_disk_names_1 : Nat := 383
abbrev Fn.ref17_with : Nat := 384
abbrev Fn.slices_AppendSeq_Lstring : Nat := 385
abbrev Fn.slices_pdqsortOrdered_string : Nat := 386
end Go.Th.L
end

section
/- Functions of disk, read without frames (printed by tools/lib.py). -/
set_option linter.unusedVariables false
set_option maxRecDepth 100000
set_option maxHeartbeats 2000000
namespace Go.Th.L
open Go Go.Th

def disk_New.p (P : Program) (N : Nat → Nat) (x0 : Int) (S : St) (K : V → Int → St → Prop) : Prop :=
  Join0 (fun (k1 : St → Prop) => ifC (decide (x0 < (1 : Int))) (K V.nilPtr 1 S) (ifC (decide ((4194304 : Int) < x0)) (K V.nilPtr 1 S) (k1  S))) (fun (S1 : St) => newS S1 (.map [] true) fun S2 => newS S2 (.map [] true) fun S3 => V.cells (V.map S1.next) = [(V.map S1.next)] ∧ V.cells (V.map S2.next) = [(V.map S2.next)] ∧ newS S3 (.cells [(V.int .i64 x0), (V.map S1.next), (V.map S2.next), V.nilSlice, (V.int .i64 0), (V.bool false), (V.int .i64 0)] true) fun S4 => K (V.ptr S3.next 0) 0 S4)
abbrev disk_New.Ok (P : Program) (N : Nat → Nat) : Prop := Reads P (N Fn.disk_New) [(13, (.dt (.agg [(.int .i64), .any, .any, .any, (.int .i64), .bool, (.int .i64)])), [])] [(1, [])] [] (fun A T (x0 : Int) (S : St) (K : V → Int → St → Prop) => wpT P (envP P) T (endT A.results [(.one .any), (.one (.int .i64))] K) (frT A [(V.int .i64 x0)]) S) (fun x0 S K => disk_New.p P N x0 S K)
theorem disk_New.run {P : Program} {N : Nat → Nat} (hF : disk_New.Ok P N) {x0 : Int} {S : St} {K : V → Int → St → Prop} (h : disk_New.p P N x0 S K) : CallA P (N Fn.disk_New) [(V.int .i64 x0)] S (retT [(.one .any), (.one (.int .i64))] K) := hF.run (fun q => q x0 S K) h rfl

def disk_Disk_Clone.p (P : Program) (N : Nat → Nat) (x0 : V) (S : St) (K : V → St → Prop) : Prop :=
  ∃ x13 : Bool, eqV 1 [] x0 V.nilPtr = some x13 ∧ ifC x13 (K V.nilPtr S) (nilV x0 = some x0 ∧ ∃ x16_a : Int, ∃ x16_b x16_c x16_d : V, ∃ x16_e : Int, ∃ x16_f : Bool, ∃ x16_g : Int, loadNV S 7 x0 = some (V.agg [(V.int .i64 x16_a), x16_b, x16_c, x16_d, (V.int .i64 x16_e), (V.bool x16_f), (V.int .i64 x16_g)]) ∧ newS S (.cells [(V.int .i64 0), V.nilMap, V.nilMap, V.nilSlice, (V.int .i64 0), (V.bool false), (V.int .i64 0)] true) fun S1 => ifS (storeV S1 7 (V.ptr S.next 0) (V.agg [(V.int .i64 x16_a), x16_b, x16_c, x16_d, (V.int .i64 x16_e), (V.bool x16_f), (V.int .i64 x16_g)])) fun S2 => newS S2 (.map [] true) fun S3 => newS S3 (.cells [V.nilMap] true) fun S4 => ifS (storeV S4 1 (V.ptr S3.next 0) (V.map S2.next)) fun S5 => newS S5 (.map [] true) fun S6 => newS S6 (.map [] true) fun S7 => ifS (storeV S7 1 (V.ptr S.next 1) (V.map S5.next)) fun S8 => ifS (storeV S8 1 (V.ptr S.next 2) (V.map S6.next)) fun S9 => ifS (storeV S9 1 (V.ptr S.next 3) V.nilSlice) fun S10 => nilV x0 = some x0 ∧ ifS (fieldAddrV 1 x0) fun x26 => ifS (loadV S10 x26) fun x27 => anyK (rangeP S10 x27) fun x28 S11 => Loop0 (fun (k1 : St → Prop) (S12 : St) => anyK (nextP S12 x28) fun x29 S13 => ∃ x30 : Bool, extractV 0 x29 = some (V.bool x30) ∧ ifC x30 (ifS (entryV S13 x28) fun x31 => ∃ x32 : List UInt8, extractV 0 x31 = some (V.str x32) ∧ ifS (extractV 1 x31) fun x33 => ifS (loadV S13 (V.ptr S.next 1)) fun x35 => ifS (calleeV (envP P) (V.func (.func (N Fn.disk_Disk_Clone_1)) [] [(V.ptr S3.next 0)]) [x33]) fun xf => CallA P xf.1 xf.2 S13 (retT [(.one .any)] fun (x39 : V) (S14 : St) => Same (S.next :: []) S13 S14 ∧ ifS (mapUpdV S14 2 x35 (V.str x32) x39) fun S15 => k1  S15)) (nilV x0 = some x0 ∧ ifS (fieldAddrV 2 x0) fun x42 => ifS (loadV S13 x42) fun x43 => anyK (rangeP S13 x43) fun x44 S16 => Loop0 (fun (k2 : St → Prop) (S17 : St) => anyK (nextP S17 x44) fun x45 S18 => ∃ x46 : Bool, extractV 0 x45 = some (V.bool x46) ∧ ifC x46 (ifS (entryV S18 x44) fun x47 => ∃ x48 : List UInt8, extractV 0 x47 = some (V.str x48) ∧ ifS (extractV 1 x47) fun x49 => ifS (loadV S18 (V.ptr S.next 2)) fun x51 => ifS (calleeV (envP P) (V.func (.func (N Fn.disk_Disk_Clone_1)) [] [(V.ptr S3.next 0)]) [x49]) fun xf_1 => CallA P xf_1.1 xf_1.2 S18 (retT [(.one .any)] fun (x55 : V) (S19 : St) => Same (S.next :: []) S18 S19 ∧ ifS (mapUpdV S19 2 x51 (V.str x48) x55) fun S20 => k2  S20)) (nilV x0 = some x0 ∧ ifS (fieldAddrV 3 x0) fun x58 => ifS (loadV S18 x58) fun x59 => ∃ x60 : Int, lenV S18 2 x59 = some (V.int .i64 x60) ∧ Loop1 (fun (k3 : Int → St → Prop) (x61 : Int) (S21 : St) => ifC (decide (x61 < x60)) (ifS (idxAddrV 3 x59 (V.int .i64 x61)) fun x63 => ∃ x64_a : List UInt8, ∃ x64_b : List UInt8, ∃ x64_c : V, loadNV S21 3 x63 = some (V.agg [(V.str x64_a), (V.str x64_b), x64_c]) ∧ newS S21 (.cells [(V.str ([] : List UInt8)), (V.str ([] : List UInt8)), V.nilPtr] true) fun S22 => ifS (storeV S22 3 (V.ptr S21.next 0) (V.agg [(V.str x64_a), (V.str x64_b), x64_c])) fun S23 => ifS (loadV S23 (V.ptr S.next 3)) fun x66 => ∃ x68 : List UInt8, loadV S23 (V.ptr S21.next 0) = some (V.str x68) ∧ ∃ x70 : List UInt8, loadV S23 (V.ptr S21.next 1) = some (V.str x70) ∧ ifS (loadV S23 (V.ptr S21.next 2)) fun x73 => ifS (calleeV (envP P) (V.func (.func (N Fn.disk_Disk_Clone_1)) [] [(V.ptr S3.next 0)]) [x73]) fun xf_2 => CallA P xf_2.1 xf_2.2 S23 (retT [(.one .any)] fun (x74 : V) (S24 : St) => Same (S21.next :: (S21.next :: (S.next :: []))) S23 S24 ∧ V.cells x74 = [x74] ∧ newS S24 (.cells [(V.str x68), (V.str x70), x74] true) fun S25 => Same (S21.next :: (S21.next :: (S21.next :: (S.next :: [])))) S24 S25 ∧ ifP (appV S25 3 40 x66 (V.slice S24.next 0 1 1 3 true)) fun x77 S26 => ifS (storeV S26 1 (V.ptr S.next 3) x77) fun S27 => setI (IntKind.i64.wrap (x61 + (1 : Int))) fun x79 => k3 x79 S27)) (K (V.ptr S.next 0) S21)) 0 S18)) S16)) S11)
abbrev disk_Disk_Clone.Ok (P : Program) (N : Nat → Nat) : Prop := Reads P (N Fn.disk_Disk_Clone) [(6, (.dt (.agg [(.int .i64), .any, .any, .any, (.int .i64), .bool, (.int .i64)])), []), (21, (.dt (.one .bool)), []), (1, (.dt (.one .str)), []), (8, .no, [(.one .any)]), (7, (.dt (.one .bool)), []), (1, (.dt (.one .str)), []), (8, .no, [(.one .any)]), (5, (.dt (.one (.int .i64))), []), (3, (.dt (.agg [.str, .str, .any])), []), (5, (.dt (.one .str)), []), (1, (.dt (.one .str)), []), (3, .no, [(.one .any)]), (0, (.dt (.agg [.str, .str, .any])), []), (0, (.dt (.agg [.str, .str, .any])), [])] [] [[], [], [(61, (.one (.int .i64)))]] (fun A T (x0 : V) (S : St) (K : V → St → Prop) => wpT P (envP P) T (endT A.results [(.one .any)] K) (frT A [x0]) S) (fun x0 S K => disk_Disk_Clone.p P N x0 S K)
theorem disk_Disk_Clone.run {P : Program} {N : Nat → Nat} (hF : disk_Disk_Clone.Ok P N) {x0 : V} {S : St} {K : V → St → Prop} (h : disk_Disk_Clone.p P N x0 S K) : CallA P (N Fn.disk_Disk_Clone) [x0] S (retT [(.one .any)] K) := hF.run (fun q => q x0 S K) h rfl

def disk_Disk_Crash.p (P : Program) (N : Nat → Nat) (x0 : V) (x1 : V) (S : St) (K : Int → St → Prop) : Prop :=
  newS S (.cells (V.cells x1) true) fun S1 => ∃ x14 : Bool, eqV 1 [] x0 V.nilPtr = some x14 ∧ ifC x14 (K 3 S1) (nilV x0 = some x0 ∧ ifS (fieldAddrV 5 x0) fun x19 => ifS (storeV S1 1 x19 (V.bool false)) fun S2 => nilV x0 = some x0 ∧ ifS (fieldAddrV 6 x0) fun x21 => ifS (storeV S2 1 x21 (V.int .i64 0)) fun S3 => nilV x0 = some x0 ∧ ifS (fieldAddrV 2 x0) fun x25 => ifS (loadV S3 x25) fun x26 => CallA P (N Fn.maps_Clone_disk_names) [x26] S3 (retT [(.one .any)] fun (x27 : V) (S4 : St) => nilV x0 = some x0 ∧ ifS (fieldAddrV 1 x0) fun x29 => ifS (storeV S4 1 x29 x27) fun S5 => nilV x0 = some x0 ∧ ifS (fieldAddrV 3 x0) fun x32 => ifS (loadV S5 x32) fun x33 => nilV x0 = some x0 ∧ ifS (fieldAddrV 3 x0) fun x38 => ifS (loadV S5 x38) fun x39 => ∃ x40 : Int, lenV S5 2 x39 = some (V.int .i64 x40) ∧ ifS (calleeV (envP P) (V.func (.func (N Fn.disk_Disk_Crash_1)) [] [(V.ptr S.next 0)]) []) fun xf => CallA P xf.1 xf.2 S5 (retT [(.one (.int .i64))] fun (x35 : Int) (S6 : St) => sameK (V.block x39 ++ (V.block x38 ++ (V.block x32 ++ []))) S5 S6 (CallA P (N Fn.disk_says) [(V.int .i64 x35), (V.int .i64 x40)] S6 (retT [(.one (.int .i64))] fun (x41 : Int) (S7 : St) => sameK (V.block x38 ++ (V.block x32 ++ [])) S6 S7 (ifS (sliceSlV 3 x33 none (some (V.int .i64 x41)) none) fun x42 => ∃ x43 : Int, lenV S7 2 x42 = some (V.int .i64 x43) ∧ Loop1 (fun (k1 : Int → St → Prop) (x44 : Int) (S8 : St) => ifC (decide (x44 < x43)) (ifS (idxAddrV 3 x42 (V.int .i64 x44)) fun x46 => ∃ x47_a : List UInt8, ∃ x47_b : List UInt8, ∃ x47_c : V, loadNV S8 3 x46 = some (V.agg [(V.str x47_a), (V.str x47_b), x47_c]) ∧ newS S8 (.cells [(V.str ([] : List UInt8)), (V.str ([] : List UInt8)), V.nilPtr] true) fun S9 => ifS (storeV S9 3 (V.ptr S8.next 0) (V.agg [(V.str x47_a), (V.str x47_b), x47_c])) fun S10 => nilV x0 = some x0 ∧ ifS (fieldAddrV 1 x0) fun x50 => ifS (loadV S10 x50) fun x51 => ∃ x52_a : List UInt8, ∃ x52_b : List UInt8, ∃ x52_c : V, loadNV S10 3 (V.ptr S8.next 0) = some (V.agg [(V.str x52_a), (V.str x52_b), x52_c]) ∧ CallA P (N Fn.disk_names_do) [x51, (V.agg [(V.str x52_a), (V.str x52_b), x52_c])] S10 (retT [] fun (S11 : St) => setI (IntKind.i64.wrap (x44 + (1 : Int))) fun x54 => k1 x54 S11)) (CallA P (N Fn.disk_Disk_Names) [x0] S8 (retT [(.one .any)] fun (x56 : V) (S12 : St) => ∃ x57 : Int, lenV S12 2 x56 = some (V.int .i64 x57) ∧ Loop1 (fun (k2 : Int → St → Prop) (x58 : Int) (S13 : St) => ifC (decide (x58 < x57)) (ifS (idxAddrV 1 x56 (V.int .i64 x58)) fun x60 => ∃ x61 : List UInt8, loadV S13 x60 = some (V.str x61) ∧ nilV x0 = some x0 ∧ ifS (fieldAddrV 1 x0) fun x64 => ifS (loadV S13 x64) fun x65 => ifS (lookupV S13 2 V.nilPtr false x65 (V.str x61)) fun x67 => ifS (calleeV (envP P) (V.func (.func (N Fn.disk_Disk_Crash_1)) [] [(V.ptr S.next 0)]) []) fun xf_1 => CallA P xf_1.1 xf_1.2 S13 (retT [(.one (.int .i64))] fun (x69 : Int) (S14 : St) => nilV x67 = some x67 ∧ ifS (fieldAddrV 0 x67) fun x72 => ifS (loadV S14 x72) fun x73 => nilV x67 = some x67 ∧ ifS (fieldAddrV 1 x67) fun x76 => ∃ x77 : Int, loadV S14 x76 = some (V.int .i64 x77) ∧ nilV x67 = some x67 ∧ ifS (fieldAddrV 0 x67) fun x81 => ifS (loadV S14 x81) fun x82 => ∃ x83 : Int, lenV S14 2 x82 = some (V.int .i64 x83) ∧ nilV x67 = some x67 ∧ ifS (fieldAddrV 1 x67) fun x86 => ∃ x87 : Int, loadV S14 x86 = some (V.int .i64 x87) ∧ setI (IntKind.i64.wrap (x83 - x87)) fun x88 => CallA P (N Fn.disk_says) [(V.int .i64 x69), (V.int .i64 x88)] S14 (retT [(.one (.int .i64))] fun (x89 : Int) (S15 : St) => sameK (V.block x86 ++ (V.block x82 ++ (V.block x81 ++ (V.block x76 ++ (V.block x72 ++ []))))) S14 S15 (setI (IntKind.i64.wrap (x77 + x89)) fun x90 => ifS (sliceSlV 1 x73 none (some (V.int .i64 x90)) none) fun x91 => CallA P (N Fn.slices_Clone_Lbyte) [x91] S15 (retT [(.one .any)] fun (x92 : V) (S16 : St) => sameK (V.block x86 ++ (V.block x82 ++ (V.block x81 ++ (V.block x76 ++ (V.block x72 ++ []))))) S15 S16 (Join0 (fun (k3 : St → Prop) => ifC (decide (x69 < (0 : Int))) (nilV x67 = some x67 ∧ ifS (fieldAddrV 1 x67) fun x98 => ∃ x99 : Int, loadV S16 x98 = some (V.int .i64 x99) ∧ ifS (sliceSlV 1 x92 (some (V.int .i64 x99)) none none) fun x100 => ifS (clearV S16 1 [(V.int .u8 0)] x100) fun S18 => k3  S18) (k3  S16)) (fun (S17 : St) => nilV x0 = some x0 ∧ ifS (fieldAddrV 1 x0) fun x103 => ifS (loadV S17 x103) fun x104 => ∃ x108 : Int, lenV S17 2 x92 = some (V.int .i64 x108) ∧ V.cells x92 = [x92] ∧ newS S17 (.cells [x92, (V.int .i64 x108)] true) fun S19 => ifS (mapUpdV S19 2 x104 (V.str x61) (V.ptr S17.next 0)) fun S20 => setI (IntKind.i64.wrap (x58 + (1 : Int))) fun x111 => k2 x111 S20))))))) (nilV x0 = some x0 ∧ ifS (fieldAddrV 1 x0) fun x115 => ifS (loadV S13 x115) fun x116 => CallA P (N Fn.maps_Clone_disk_names) [x116] S13 (retT [(.one .any)] fun (x117 : V) (S21 : St) => nilV x0 = some x0 ∧ ifS (fieldAddrV 2 x0) fun x119 => ifS (storeV S21 1 x119 x117) fun S22 => nilV x0 = some x0 ∧ ifS (fieldAddrV 3 x0) fun x122 => ifS (storeV S22 1 x122 V.nilSlice) fun S23 => K 0 S23))) 0 S12))) 0 S7))))))
abbrev disk_Disk_Crash.Ok (P : Program) (N : Nat → Nat) : Prop := Reads P (N Fn.disk_Disk_Crash) [(20, .no, [(.one .any)]), (12, (.dt (.one (.int .i64))), []), (1, .no, [(.one (.int .i64))]), (0, .no, [(.one (.int .i64))]), (1, (.dt (.one (.int .i64))), []), (2, (.dt (.agg [.str, .str, .any])), []), (6, (.dt (.agg [.str, .str, .any])), []), (4, .no, [(.one .any)]), (0, (.dt (.one (.int .i64))), []), (3, (.dt (.one .str)), []), (9, .no, [(.one (.int .i64))]), (8, (.dt (.one (.int .i64))), []), (5, (.dt (.one (.int .i64))), []), (3, (.dt (.one (.int .i64))), []), (1, .no, [(.one (.int .i64))]), (2, .no, [(.one .any)]), (7, (.dt (.one (.int .i64))), []), (9, (.dt (.one (.int .i64))), []), (0, (.dt (.agg [.any, (.int .i64)])), []), (9, .no, [(.one .any)])] [(22, [])] [[(44, (.one (.int .i64)))], [(58, (.one (.int .i64)))]] (fun A T (x0 : V) (x1 : V) (S : St) (K : Int → St → Prop) => wpT P (envP P) T (endT A.results [(.one (.int .i64))] K) (frT A [x0, x1]) S) (fun x0 x1 S K => disk_Disk_Crash.p P N x0 x1 S K)
theorem disk_Disk_Crash.run {P : Program} {N : Nat → Nat} (hF : disk_Disk_Crash.Ok P N) {x0 : V} {x1 : V} {S : St} {K : Int → St → Prop} (h : disk_Disk_Crash.p P N x0 x1 S K) : CallA P (N Fn.disk_Disk_Crash) [x0, x1] S (retT [(.one (.int .i64))] K) := hF.run (fun q => q x0 x1 S K) h rfl

def disk_Disk_Create.p (P : Program) (N : Nat → Nat) (x0 : V) (x1 : List UInt8) (S : St) (K : Int → St → Prop) : Prop :=
  CallA P (N Fn.disk_Disk_ready) [x0] S (retT [(.one (.int .i64))] fun (x9 : Int) (S1 : St) => ifC (!decide (x9 = (0 : Int))) (K x9 S1) (nilV x0 = some x0 ∧ ifS (fieldAddrV 1 x0) fun x16 => ifS (loadV S1 x16) fun x17 => ∃ x19a : V, ∃ x19b : Bool, lookupV S1 2 V.nilPtr true x17 (V.str x1) = some (V.tuple [x19a, (V.bool x19b)]) ∧ CallA P (N Fn.disk_good) [(V.str x1)] S1 (retT [(.one .bool)] fun (x24 : Bool) (S2 : St) => ifC (!x24) (K 170 S2) (ifC x19b (K 171 S2) (nilV x0 = some x0 ∧ ifS (fieldAddrV 1 x0) fun x31 => ifS (loadV S2 x31) fun x32 => ∃ x33 : Int, lenV S2 3 x32 = some (V.int .i64 x33) ∧ ifC (decide ((64 : Int) ≤ x33)) (K 175 S2) (newS S2 (.cells [V.nilSlice, (V.int .i64 0)] true) fun S3 => V.cells (V.ptr S2.next 0) = [(V.ptr S2.next 0)] ∧ CallA P (N Fn.disk_Disk_change) [x0, (V.agg [(V.str ([] : List UInt8)), (V.str x1), (V.ptr S2.next 0)])] S3 (retT [(.one (.int .i64))] fun (x40 : Int) (S4 : St) => K x40 S4)))))))
abbrev disk_Disk_Create.Ok (P : Program) (N : Nat → Nat) : Prop := Reads P (N Fn.disk_Disk_Create) [(2, .no, [(.one (.int .i64))]), (10, (.tup [(.one .any), (.one .bool)]), []), (6, .no, [(.one .bool)]), (10, (.dt (.one (.int .i64))), []), (5, (.dt (.agg [.any, (.int .i64)])), []), (1, (.dt (.agg [.str, .str, .any])), []), (0, .no, [(.one (.int .i64))])] [] [] (fun A T (x0 : V) (x1 : List UInt8) (S : St) (K : Int → St → Prop) => wpT P (envP P) T (endT A.results [(.one (.int .i64))] K) (frT A [x0, (V.str x1)]) S) (fun x0 x1 S K => disk_Disk_Create.p P N x0 x1 S K)
theorem disk_Disk_Create.run {P : Program} {N : Nat → Nat} (hF : disk_Disk_Create.Ok P N) {x0 : V} {x1 : List UInt8} {S : St} {K : Int → St → Prop} (h : disk_Disk_Create.p P N x0 x1 S K) : CallA P (N Fn.disk_Disk_Create) [x0, (V.str x1)] S (retT [(.one (.int .i64))] K) := hF.run (fun q => q x0 x1 S K) h rfl

def disk_Disk_SyncDir.p (P : Program) (N : Nat → Nat) (x0 : V) (S : St) (K : Int → St → Prop) : Prop :=
  CallA P (N Fn.disk_Disk_ready) [x0] S (retT [(.one (.int .i64))] fun (x5 : Int) (S1 : St) => ifC (!decide (x5 = (0 : Int))) (K x5 S1) (nilV x0 = some x0 ∧ ifS (fieldAddrV 1 x0) fun x12 => ifS (loadV S1 x12) fun x13 => CallA P (N Fn.maps_Clone_disk_names) [x13] S1 (retT [(.one .any)] fun (x14 : V) (S2 : St) => nilV x0 = some x0 ∧ ifS (fieldAddrV 2 x0) fun x16 => ifS (storeV S2 1 x16 x14) fun S3 => nilV x0 = some x0 ∧ ifS (fieldAddrV 3 x0) fun x19 => ifS (storeV S3 1 x19 V.nilSlice) fun S4 => CallA P (N Fn.disk_Disk_done) [x0] S4 (retT [(.one (.int .i64))] fun (x21 : Int) (S5 : St) => K x21 S5))))
abbrev disk_Disk_SyncDir.Ok (P : Program) (N : Nat → Nat) : Prop := Reads P (N Fn.disk_Disk_SyncDir) [(2, .no, [(.one (.int .i64))]), (10, .no, [(.one .any)]), (8, .no, [(.one (.int .i64))])] [] [] (fun A T (x0 : V) (S : St) (K : Int → St → Prop) => wpT P (envP P) T (endT A.results [(.one (.int .i64))] K) (frT A [x0]) S) (fun x0 S K => disk_Disk_SyncDir.p P N x0 S K)
theorem disk_Disk_SyncDir.run {P : Program} {N : Nat → Nat} (hF : disk_Disk_SyncDir.Ok P N) {x0 : V} {S : St} {K : Int → St → Prop} (h : disk_Disk_SyncDir.p P N x0 S K) : CallA P (N Fn.disk_Disk_SyncDir) [x0] S (retT [(.one (.int .i64))] K) := hF.run (fun q => q x0 S K) h rfl

def disk_Disk_Sync.p (P : Program) (N : Nat → Nat) (x0 : V) (x1 : List UInt8) (S : St) (K : Int → St → Prop) : Prop :=
  CallA P (N Fn.disk_Disk_find) [x0, (V.str x1)] S (retT [(.one .any), (.one (.int .i64))] fun (x10a : V) (x10b : Int) (S1 : St) => ifC (!decide (x10b = (0 : Int))) (K x10b S1) (nilV x10a = some x10a ∧ ifS (fieldAddrV 0 x10a) fun x19 => ifS (loadV S1 x19) fun x20 => ∃ x21 : Int, lenV S1 2 x20 = some (V.int .i64 x21) ∧ nilV x10a = some x10a ∧ ifS (fieldAddrV 1 x10a) fun x23 => ifS (storeV S1 1 x23 (V.int .i64 x21)) fun S2 => CallA P (N Fn.disk_Disk_done) [x0] S2 (retT [(.one (.int .i64))] fun (x25 : Int) (S3 : St) => K x25 S3)))
abbrev disk_Disk_Sync.Ok (P : Program) (N : Nat → Nat) : Prop := Reads P (N Fn.disk_Disk_Sync) [(3, .no, [(.one .any), (.one (.int .i64))]), (14, (.dt (.one (.int .i64))), []), (4, .no, [(.one (.int .i64))])] [] [] (fun A T (x0 : V) (x1 : List UInt8) (S : St) (K : Int → St → Prop) => wpT P (envP P) T (endT A.results [(.one (.int .i64))] K) (frT A [x0, (V.str x1)]) S) (fun x0 x1 S K => disk_Disk_Sync.p P N x0 x1 S K)
theorem disk_Disk_Sync.run {P : Program} {N : Nat → Nat} (hF : disk_Disk_Sync.Ok P N) {x0 : V} {x1 : List UInt8} {S : St} {K : Int → St → Prop} (h : disk_Disk_Sync.p P N x0 x1 S K) : CallA P (N Fn.disk_Disk_Sync) [x0, (V.str x1)] S (retT [(.one (.int .i64))] K) := hF.run (fun q => q x0 x1 S K) h rfl

def disk_Disk_Read.p (P : Program) (N : Nat → Nat) (x0 : V) (x1 : List UInt8) (S : St) (K : V → Int → St → Prop) : Prop :=
  CallA P (N Fn.disk_Disk_find) [x0, (V.str x1)] S (retT [(.one .any), (.one (.int .i64))] fun (x11a : V) (x11b : Int) (S1 : St) => ifC (!decide (x11b = (0 : Int))) (K V.nilSlice x11b S1) (nilV x11a = some x11a ∧ ifS (fieldAddrV 0 x11a) fun x19 => ifS (loadV S1 x19) fun x20 => CallA P (N Fn.slices_Clone_Lbyte) [x20] S1 (retT [(.one .any)] fun (x21 : V) (S2 : St) => K x21 0 S2)))
abbrev disk_Disk_Read.Ok (P : Program) (N : Nat → Nat) : Prop := Reads P (N Fn.disk_Disk_Read) [(4, .no, [(.one .any), (.one (.int .i64))]), (14, .no, [(.one .any)])] [] [] (fun A T (x0 : V) (x1 : List UInt8) (S : St) (K : V → Int → St → Prop) => wpT P (envP P) T (endT A.results [(.one .any), (.one (.int .i64))] K) (frT A [x0, (V.str x1)]) S) (fun x0 x1 S K => disk_Disk_Read.p P N x0 x1 S K)
theorem disk_Disk_Read.run {P : Program} {N : Nat → Nat} (hF : disk_Disk_Read.Ok P N) {x0 : V} {x1 : List UInt8} {S : St} {K : V → Int → St → Prop} (h : disk_Disk_Read.p P N x0 x1 S K) : CallA P (N Fn.disk_Disk_Read) [x0, (V.str x1)] S (retT [(.one .any), (.one (.int .i64))] K) := hF.run (fun q => q x0 x1 S K) h rfl

def disk_Disk_Append.p (P : Program) (N : Nat → Nat) (x0 : V) (x1 : List UInt8) (x2 : V) (S : St) (K : Int → St → Prop) : Prop :=
  CallA P (N Fn.disk_Disk_find) [x0, (V.str x1)] S (retT [(.one .any), (.one (.int .i64))] fun (x12a : V) (x12b : Int) (S1 : St) => ifC (!decide (x12b = (0 : Int))) (K x12b S1) (∃ x21 : Int, lenV S1 2 x2 = some (V.int .i64 x21) ∧ nilV x0 = some x0 ∧ ifS (fieldAddrV 0 x0) fun x24 => ∃ x25 : Int, loadV S1 x24 = some (V.int .i64 x25) ∧ CallA P (N Fn.disk_Disk_Used) [x0] S1 (retT [(.one (.int .i64))] fun (x27 : Int) (S2 : St) => sameK (V.block x24 ++ (V.block x2 ++ [])) S1 S2 (setI (IntKind.i64.wrap (x25 - x27)) fun x28 => ifC (decide (x28 < x21)) (K 173 S2) (nilV x12a = some x12a ∧ ifS (fieldAddrV 0 x12a) fun x33 => ifS (loadV S2 x33) fun x34 => nilV x12a = some x12a ∧ ifS (fieldAddrV 0 x12a) fun x37 => ifS (loadV S2 x37) fun x38 => ∃ x39 : Int, lenV S2 2 x38 = some (V.int .i64 x39) ∧ nilV x12a = some x12a ∧ ifS (fieldAddrV 0 x12a) fun x42 => ifS (loadV S2 x42) fun x43 => ∃ x44 : Int, lenV S2 2 x43 = some (V.int .i64 x44) ∧ ifS (sliceSlV 1 x34 none (some (V.int .i64 x39)) (some (V.int .i64 x44))) fun x45 => ifP (appV S2 1 1 x45 x2) fun x47 S3 => nilV x12a = some x12a ∧ ifS (fieldAddrV 0 x12a) fun x49 => ifS (storeV S3 1 x49 x47) fun S4 => CallA P (N Fn.disk_Disk_done) [x0] S4 (retT [(.one (.int .i64))] fun (x51 : Int) (S5 : St) => K x51 S5))))))
abbrev disk_Disk_Append.Ok (P : Program) (N : Nat → Nat) : Prop := Reads P (N Fn.disk_Disk_Append) [(3, .no, [(.one .any), (.one (.int .i64))]), (11, (.dt (.one (.int .i64))), []), (3, (.dt (.one (.int .i64))), []), (1, .no, [(.one (.int .i64))]), (13, (.dt (.one (.int .i64))), []), (4, (.dt (.one (.int .i64))), []), (7, .no, [(.one (.int .i64))])] [] [] (fun A T (x0 : V) (x1 : List UInt8) (x2 : V) (S : St) (K : Int → St → Prop) => wpT P (envP P) T (endT A.results [(.one (.int .i64))] K) (frT A [x0, (V.str x1), x2]) S) (fun x0 x1 x2 S K => disk_Disk_Append.p P N x0 x1 x2 S K)
theorem disk_Disk_Append.run {P : Program} {N : Nat → Nat} (hF : disk_Disk_Append.Ok P N) {x0 : V} {x1 : List UInt8} {x2 : V} {S : St} {K : Int → St → Prop} (h : disk_Disk_Append.p P N x0 x1 x2 S K) : CallA P (N Fn.disk_Disk_Append) [x0, (V.str x1), x2] S (retT [(.one (.int .i64))] K) := hF.run (fun q => q x0 x1 x2 S K) h rfl

def disk_Disk_Names.p (P : Program) (N : Nat → Nat) (x0 : V) (S : St) (K : V → St → Prop) : Prop :=
  CallA P (N Fn.disk_Disk_ready) [x0] S (retT [(.one (.int .i64))] fun (x4 : Int) (S1 : St) => ifC (!decide (x4 = (0 : Int))) (K V.nilSlice S1) (nilV x0 = some x0 ∧ ifS (fieldAddrV 1 x0) fun x8 => ifS (loadV S1 x8) fun x9 => CallA P (N Fn.maps_Keys_disk_names) [x9] S1 (retT [(.one .any)] fun (x10 : V) (S2 : St) => CallA P (N Fn.slices_Sorted_string) [x10] S2 (retT [(.one .any)] fun (x11 : V) (S3 : St) => K x11 S3))))
abbrev disk_Disk_Names.Ok (P : Program) (N : Nat → Nat) : Prop := Reads P (N Fn.disk_Disk_Names) [(2, .no, [(.one (.int .i64))]), (6, .no, [(.one .any)]), (0, .no, [(.one .any)])] [] [] (fun A T (x0 : V) (S : St) (K : V → St → Prop) => wpT P (envP P) T (endT A.results [(.one .any)] K) (frT A [x0]) S) (fun x0 S K => disk_Disk_Names.p P N x0 S K)
theorem disk_Disk_Names.run {P : Program} {N : Nat → Nat} (hF : disk_Disk_Names.Ok P N) {x0 : V} {S : St} {K : V → St → Prop} (h : disk_Disk_Names.p P N x0 S K) : CallA P (N Fn.disk_Disk_Names) [x0] S (retT [(.one .any)] K) := hF.run (fun q => q x0 S K) h rfl

def disk_Disk_Down.p (P : Program) (N : Nat → Nat) (x0 : V) (S : St) (K : Bool → St → Prop) : Prop :=
  ∃ x4 : Bool, eqV 1 [] x0 V.nilPtr = some x4 ∧ ifC (!x4) (nilV x0 = some x0 ∧ ifS (fieldAddrV 5 x0) fun x8 => ∃ x9 : Bool, loadV S x8 = some (V.bool x9) ∧ ifC x9 (nilV x0 = some x0 ∧ ifS (fieldAddrV 6 x0) fun x14 => ∃ x15 : Int, loadV S x14 = some (V.int .i64 x15) ∧ K (decide (x15 = (0 : Int))) S) (K false S)) (K false S)
abbrev disk_Disk_Down.Ok (P : Program) (N : Nat → Nat) : Prop := Reads P (N Fn.disk_Disk_Down) [(7, (.dt (.one .bool)), []), (5, (.dt (.one (.int .i64))), [])] [] [] (fun A T (x0 : V) (S : St) (K : Bool → St → Prop) => wpT P (envP P) T (endT A.results [(.one .bool)] K) (frT A [x0]) S) (fun x0 S K => disk_Disk_Down.p P N x0 S K)
theorem disk_Disk_Down.run {P : Program} {N : Nat → Nat} (hF : disk_Disk_Down.Ok P N) {x0 : V} {S : St} {K : Bool → St → Prop} (h : disk_Disk_Down.p P N x0 S K) : CallA P (N Fn.disk_Disk_Down) [x0] S (retT [(.one .bool)] K) := hF.run (fun q => q x0 S K) h rfl

def disk_Disk_Stop.p (P : Program) (N : Nat → Nat) (x0 : V) (x1 : Int) (S : St) (K : Int → St → Prop) : Prop :=
  CallA P (N Fn.disk_Disk_ready) [x0] S (retT [(.one (.int .i64))] fun (x7 : Int) (S1 : St) => ifC (!decide (x7 = (0 : Int))) (K x7 S1) (ifC (decide (x1 < (0 : Int))) (K 1 S1) (nilV x0 = some x0 ∧ ifS (fieldAddrV 5 x0) fun x17 => ifS (storeV S1 1 x17 (V.bool true)) fun S2 => nilV x0 = some x0 ∧ ifS (fieldAddrV 6 x0) fun x19 => ifS (storeV S2 1 x19 (V.int .i64 x1)) fun S3 => K 0 S3)))
abbrev disk_Disk_Stop.Ok (P : Program) (N : Nat → Nat) : Prop := Reads P (N Fn.disk_Disk_Stop) [(2, .no, [(.one (.int .i64))])] [] [] (fun A T (x0 : V) (x1 : Int) (S : St) (K : Int → St → Prop) => wpT P (envP P) T (endT A.results [(.one (.int .i64))] K) (frT A [x0, (V.int .i64 x1)]) S) (fun x0 x1 S K => disk_Disk_Stop.p P N x0 x1 S K)
theorem disk_Disk_Stop.run {P : Program} {N : Nat → Nat} (hF : disk_Disk_Stop.Ok P N) {x0 : V} {x1 : Int} {S : St} {K : Int → St → Prop} (h : disk_Disk_Stop.p P N x0 x1 S K) : CallA P (N Fn.disk_Disk_Stop) [x0, (V.int .i64 x1)] S (retT [(.one (.int .i64))] K) := hF.run (fun q => q x0 x1 S K) h rfl

def disk_Disk_Steps.p (P : Program) (N : Nat → Nat) (x0 : V) (S : St) (K : Int → St → Prop) : Prop :=
  ∃ x4 : Bool, eqV 1 [] x0 V.nilPtr = some x4 ∧ ifC x4 (K 0 S) (nilV x0 = some x0 ∧ ifS (fieldAddrV 4 x0) fun x7 => ∃ x8 : Int, loadV S x7 = some (V.int .i64 x8) ∧ K x8 S)
abbrev disk_Disk_Steps.Ok (P : Program) (N : Nat → Nat) : Prop := Reads P (N Fn.disk_Disk_Steps) [(7, (.dt (.one (.int .i64))), [])] [] [] (fun A T (x0 : V) (S : St) (K : Int → St → Prop) => wpT P (envP P) T (endT A.results [(.one (.int .i64))] K) (frT A [x0]) S) (fun x0 S K => disk_Disk_Steps.p P N x0 S K)
theorem disk_Disk_Steps.run {P : Program} {N : Nat → Nat} (hF : disk_Disk_Steps.Ok P N) {x0 : V} {S : St} {K : Int → St → Prop} (h : disk_Disk_Steps.p P N x0 S K) : CallA P (N Fn.disk_Disk_Steps) [x0] S (retT [(.one (.int .i64))] K) := hF.run (fun q => q x0 S K) h rfl

def disk_Disk_Used.p (P : Program) (N : Nat → Nat) (x0 : V) (S : St) (K : Int → St → Prop) : Prop :=
  CallA P (N Fn.disk_Disk_ready) [x0] S (retT [(.one (.int .i64))] fun (x7 : Int) (S1 : St) => ifC (!decide (x7 = (0 : Int))) (K 0 S1) (nilV x0 = some x0 ∧ ifS (fieldAddrV 1 x0) fun x11 => ifS (loadV S1 x11) fun x12 => anyK (rangeP S1 x12) fun x13 S2 => Loop1 (fun (k1 : Int → St → Prop) (x3 : Int) (S3 : St) => anyK (nextP S3 x13) fun x14 S4 => ∃ x15 : Bool, extractV 0 x14 = some (V.bool x15) ∧ ifC x15 (ifS (entryV S4 x13) fun x16 => ifS (extractV 1 x16) fun x17 => nilV x17 = some x17 ∧ ifS (fieldAddrV 0 x17) fun x21 => ifS (loadV S4 x21) fun x22 => ∃ x23 : Int, lenV S4 2 x22 = some (V.int .i64 x23) ∧ setI (IntKind.i64.wrap (x3 + x23)) fun x24 => k1 x24 S4) (K x3 S4)) 0 S2))
abbrev disk_Disk_Used.Ok (P : Program) (N : Nat → Nat) : Prop := Reads P (N Fn.disk_Disk_Used) [(2, .no, [(.one (.int .i64))]), (9, (.dt (.one .bool)), []), (8, (.dt (.one (.int .i64))), [])] [] [[(3, (.one (.int .i64)))]] (fun A T (x0 : V) (S : St) (K : Int → St → Prop) => wpT P (envP P) T (endT A.results [(.one (.int .i64))] K) (frT A [x0]) S) (fun x0 S K => disk_Disk_Used.p P N x0 S K)
theorem disk_Disk_Used.run {P : Program} {N : Nat → Nat} (hF : disk_Disk_Used.Ok P N) {x0 : V} {S : St} {K : Int → St → Prop} (h : disk_Disk_Used.p P N x0 S K) : CallA P (N Fn.disk_Disk_Used) [x0] S (retT [(.one (.int .i64))] K) := hF.run (fun q => q x0 S K) h rfl

def disk_Disk_Rename.p (P : Program) (N : Nat → Nat) (x0 : V) (x1 : List UInt8) (x2 : List UInt8) (S : St) (K : Int → St → Prop) : Prop :=
  CallA P (N Fn.disk_Disk_find) [x0, (V.str x1)] S (retT [(.one .any), (.one (.int .i64))] fun (x12a : V) (x12b : Int) (S1 : St) => ifC (!decide (x12b = (0 : Int))) (K x12b S1) (CallA P (N Fn.disk_good) [(V.str x2)] S1 (retT [(.one .bool)] fun (x21 : Bool) (S2 : St) => ifC (!x21) (K 170 S2) (V.cells x12a = [x12a] ∧ CallA P (N Fn.disk_Disk_change) [x0, (V.agg [(V.str x1), (V.str x2), x12a])] S2 (retT [(.one (.int .i64))] fun (x28 : Int) (S3 : St) => K x28 S3)))))
abbrev disk_Disk_Rename.Ok (P : Program) (N : Nat → Nat) : Prop := Reads P (N Fn.disk_Disk_Rename) [(3, .no, [(.one .any), (.one (.int .i64))]), (11, .no, [(.one .bool)]), (7, (.dt (.agg [.str, .str, .any])), []), (0, .no, [(.one (.int .i64))])] [] [] (fun A T (x0 : V) (x1 : List UInt8) (x2 : List UInt8) (S : St) (K : Int → St → Prop) => wpT P (envP P) T (endT A.results [(.one (.int .i64))] K) (frT A [x0, (V.str x1), (V.str x2)]) S) (fun x0 x1 x2 S K => disk_Disk_Rename.p P N x0 x1 x2 S K)
theorem disk_Disk_Rename.run {P : Program} {N : Nat → Nat} (hF : disk_Disk_Rename.Ok P N) {x0 : V} {x1 : List UInt8} {x2 : List UInt8} {S : St} {K : Int → St → Prop} (h : disk_Disk_Rename.p P N x0 x1 x2 S K) : CallA P (N Fn.disk_Disk_Rename) [x0, (V.str x1), (V.str x2)] S (retT [(.one (.int .i64))] K) := hF.run (fun q => q x0 x1 x2 S K) h rfl

def disk_Disk_Remove.p (P : Program) (N : Nat → Nat) (x0 : V) (x1 : List UInt8) (S : St) (K : Int → St → Prop) : Prop :=
  CallA P (N Fn.disk_Disk_find) [x0, (V.str x1)] S (retT [(.one .any), (.one (.int .i64))] fun (x10a : V) (x10b : Int) (S1 : St) => ifC (!decide (x10b = (0 : Int))) (K x10b S1) (CallA P (N Fn.disk_Disk_change) [x0, (V.agg [(V.str x1), (V.str ([] : List UInt8)), V.nilPtr])] S1 (retT [(.one (.int .i64))] fun (x19 : Int) (S2 : St) => K x19 S2)))
abbrev disk_Disk_Remove.Ok (P : Program) (N : Nat → Nat) : Prop := Reads P (N Fn.disk_Disk_Remove) [(3, .no, [(.one .any), (.one (.int .i64))]), (11, (.dt (.agg [.str, .str, .any])), []), (0, .no, [(.one (.int .i64))])] [] [] (fun A T (x0 : V) (x1 : List UInt8) (S : St) (K : Int → St → Prop) => wpT P (envP P) T (endT A.results [(.one (.int .i64))] K) (frT A [x0, (V.str x1)]) S) (fun x0 x1 S K => disk_Disk_Remove.p P N x0 x1 S K)
theorem disk_Disk_Remove.run {P : Program} {N : Nat → Nat} (hF : disk_Disk_Remove.Ok P N) {x0 : V} {x1 : List UInt8} {S : St} {K : Int → St → Prop} (h : disk_Disk_Remove.p P N x0 x1 S K) : CallA P (N Fn.disk_Disk_Remove) [x0, (V.str x1)] S (retT [(.one (.int .i64))] K) := hF.run (fun q => q x0 x1 S K) h rfl

def disk_Disk_Clone_1.p (P : Program) (N : Nat → Nat) (x0 : V) (x1 : V) (S : St) (K : V → St → Prop) : Prop :=
  ∃ x5 : Bool, eqV 1 [] x0 V.nilPtr = some x5 ∧ ifC x5 (K V.nilPtr S) (Join0 (fun (k1 : St → Prop) => ifS (loadV S x1) fun x6 => ifS (lookupPV S V.nilPtr false x6 x0) fun x8 => ∃ x9 : Bool, eqV 1 [] x8 V.nilPtr = some x9 ∧ ifC x9 (ifS (loadV S x1) fun x10 => nilV x0 = some x0 ∧ ifS (fieldAddrV 0 x0) fun x14 => ifS (loadV S x14) fun x15 => nilV x0 = some x0 ∧ ifS (fieldAddrV 1 x0) fun x19 => ∃ x20 : Int, loadV S x19 = some (V.int .i64 x20) ∧ CallA P (N Fn.slices_Clone_Lbyte) [x15] S (retT [(.one .any)] fun (x16 : V) (S2 : St) => sameK (V.block x19 ++ (V.block x1 ++ [])) S S2 (V.cells x16 = [x16] ∧ newS S2 (.cells [x16, (V.int .i64 x20)] true) fun S3 => sameK (V.block x19 ++ (V.block x14 ++ (V.block x1 ++ []))) S2 S3 (ifS (mapUpdPV S3 x10 x0 (V.ptr S2.next 0)) fun S4 => k1  S4)))) (k1  S)) (fun (S1 : St) => ifS (loadV S1 x1) fun x23 => ifS (lookupPV S1 V.nilPtr false x23 x0) fun x25 => K x25 S1))
abbrev disk_Disk_Clone_1.Ok (P : Program) (N : Nat → Nat) : Prop := Reads P (N Fn.disk_Disk_Clone_1) [(17, (.dt (.one (.int .i64))), []), (0, .no, [(.one .any)]), (0, (.dt (.agg [.any, (.int .i64)])), [])] [(4, [])] [] (fun A T (x0 : V) (x1 : V) (S : St) (K : V → St → Prop) => wpT P (envP P) T (endT A.results [(.one .any)] K) (frT A [x0, x1]) S) (fun x0 x1 S K => disk_Disk_Clone_1.p P N x0 x1 S K)
theorem disk_Disk_Clone_1.run {P : Program} {N : Nat → Nat} (hF : disk_Disk_Clone_1.Ok P N) {x0 : V} {x1 : V} {S : St} {K : V → St → Prop} (h : disk_Disk_Clone_1.p P N x0 x1 S K) : CallA P (N Fn.disk_Disk_Clone_1) [x0, x1] S (retT [(.one .any)] K) := hF.run (fun q => q x0 x1 S K) h rfl

def disk_Disk_Crash_1.p (P : Program) (N : Nat → Nat) (x0 : V) (S : St) (K : Int → St → Prop) : Prop :=
  ifS (loadV S x0) fun x3 => ∃ x4 : Int, lenV S 2 x3 = some (V.int .i64 x4) ∧ ifC (decide (x4 = (0 : Int))) (K 0 S) (ifS (loadV S x0) fun x6 => ifS (idxAddrV 1 x6 (V.int .i64 0)) fun x7 => ∃ x8 : Int, loadV S x7 = some (V.int .i64 x8) ∧ ifS (loadV S x0) fun x9 => ifS (sliceSlV 1 x9 (some (V.int .i64 1)) none none) fun x10 => ifS (storeV S 1 x0 x10) fun S1 => K x8 S1)
abbrev disk_Disk_Crash_1.Ok (P : Program) (N : Nat → Nat) : Prop := Reads P (N Fn.disk_Disk_Crash_1) [(2, (.dt (.one (.int .i64))), []), (4, (.dt (.one (.int .i64))), [])] [] [] (fun A T (x0 : V) (S : St) (K : Int → St → Prop) => wpT P (envP P) T (endT A.results [(.one (.int .i64))] K) (frT A [x0]) S) (fun x0 S K => disk_Disk_Crash_1.p P N x0 S K)
theorem disk_Disk_Crash_1.run {P : Program} {N : Nat → Nat} (hF : disk_Disk_Crash_1.Ok P N) {x0 : V} {S : St} {K : Int → St → Prop} (h : disk_Disk_Crash_1.p P N x0 S K) : CallA P (N Fn.disk_Disk_Crash_1) [x0] S (retT [(.one (.int .i64))] K) := hF.run (fun q => q x0 S K) h rfl

def disk_says.p (P : Program) (N : Nat → Nat) (x0 : Int) (x1 : Int) (S : St) (K : Int → St → Prop) : Prop :=
  Join1 (fun (k1 : Int → St → Prop) => ifC (decide (x0 < (0 : Int))) (setI (IntKind.i64.wrap (x0 + (1 : Int))) fun x8 => setI (IntKind.i64.wrap (0 - x8)) fun x9 => k1 x9 S) (k1 x0 S)) (fun (x0_1 : Int) (S1 : St) => setI (IntKind.i64.wrap (x1 + (1 : Int))) fun x12 => x12 ≠ 0 ∧ setI (Int.tmod x0_1 x12) fun x13 => K x13 S1)
abbrev disk_says.Ok (P : Program) (N : Nat → Nat) : Prop := Reads P (N Fn.disk_says) [] [(1, [(0, (.one (.int .i64)))])] [] (fun A T (x0 : Int) (x1 : Int) (S : St) (K : Int → St → Prop) => wpT P (envP P) T (endT A.results [(.one (.int .i64))] K) (frT A [(V.int .i64 x0), (V.int .i64 x1)]) S) (fun x0 x1 S K => disk_says.p P N x0 x1 S K)
theorem disk_says.run {P : Program} {N : Nat → Nat} (hF : disk_says.Ok P N) {x0 : Int} {x1 : Int} {S : St} {K : Int → St → Prop} (h : disk_says.p P N x0 x1 S K) : CallA P (N Fn.disk_says) [(V.int .i64 x0), (V.int .i64 x1)] S (retT [(.one (.int .i64))] K) := hF.run (fun q => q x0 x1 S K) h rfl

def disk_names_do.p (P : Program) (N : Nat → Nat) (x0 : V) (x1_a : List UInt8) (x1_b : List UInt8) (x1_c : V) (S : St) (K : St → Prop) : Prop :=
  newS S (.cells [(V.str x1_a), (V.str x1_b), x1_c] true) fun S1 => Join0 (fun (k1 : St → Prop) => ∃ x5 : List UInt8, loadV S1 (V.ptr S.next 0) = some (V.str x5) ∧ ifC (!decide (x5 = ([] : List UInt8))) (∃ x9 : List UInt8, loadV S1 (V.ptr S.next 0) = some (V.str x9) ∧ ifS (deleteV S1 2 x0 (V.str x9)) fun S3 => k1  S3) (k1  S1)) (fun (S2 : St) => ∃ x11 : List UInt8, loadV S2 (V.ptr S.next 1) = some (V.str x11) ∧ ifC (!decide (x11 = ([] : List UInt8))) (∃ x15 : List UInt8, loadV S2 (V.ptr S.next 1) = some (V.str x15) ∧ ifS (loadV S2 (V.ptr S.next 2)) fun x17 => ifS (mapUpdV S2 2 x0 (V.str x15) x17) fun S4 => K  S4) (K  S2))
abbrev disk_names_do.Ok (P : Program) (N : Nat → Nat) : Prop := Reads P (N Fn.disk_names_do) [(2, (.dt (.one .str)), []), (3, (.dt (.one .str)), []), (2, (.dt (.one .str)), []), (3, (.dt (.one .str)), [])] [(1, [])] [] (fun A T (x0 : V) (x1_a : List UInt8) (x1_b : List UInt8) (x1_c : V) (S : St) (K : St → Prop) => wpT P (envP P) T (endT A.results [] K) (frT A [x0, (V.agg [(V.str x1_a), (V.str x1_b), x1_c])]) S) (fun x0 x1_a x1_b x1_c S K => disk_names_do.p P N x0 x1_a x1_b x1_c S K)
theorem disk_names_do.run {P : Program} {N : Nat → Nat} (hF : disk_names_do.Ok P N) {x0 : V} {x1_a : List UInt8} {x1_b : List UInt8} {x1_c : V} {S : St} {K : St → Prop} (h : disk_names_do.p P N x0 x1_a x1_b x1_c S K) : CallA P (N Fn.disk_names_do) [x0, (V.agg [(V.str x1_a), (V.str x1_b), x1_c])] S (retT [] K) := hF.run (fun q => q x0 x1_a x1_b x1_c S K) h rfl

def disk_Disk_ready.p (P : Program) (N : Nat → Nat) (x0 : V) (S : St) (K : Int → St → Prop) : Prop :=
  ∃ x5 : Bool, eqV 1 [] x0 V.nilPtr = some x5 ∧ ifC x5 (K 3 S) (CallA P (N Fn.disk_Disk_Down) [x0] S (retT [(.one .bool)] fun (x8 : Bool) (S1 : St) => ifC x8 (K 174 S1) (K 0 S1)))
abbrev disk_Disk_ready.Ok (P : Program) (N : Nat → Nat) : Prop := Reads P (N Fn.disk_Disk_ready) [(6, .no, [(.one .bool)])] [] [] (fun A T (x0 : V) (S : St) (K : Int → St → Prop) => wpT P (envP P) T (endT A.results [(.one (.int .i64))] K) (frT A [x0]) S) (fun x0 S K => disk_Disk_ready.p P N x0 S K)
theorem disk_Disk_ready.run {P : Program} {N : Nat → Nat} (hF : disk_Disk_ready.Ok P N) {x0 : V} {S : St} {K : Int → St → Prop} (h : disk_Disk_ready.p P N x0 S K) : CallA P (N Fn.disk_Disk_ready) [x0] S (retT [(.one (.int .i64))] K) := hF.run (fun q => q x0 S K) h rfl

def disk_good.p (P : Program) (N : Nat → Nat) (x0 : List UInt8) (S : St) (K : Bool → St → Prop) : Prop :=
  newS S (.cells (bytesV x0) false) fun S1 => ∃ x7 : Int, lenV S1 2 (V.slice S.next 0 x0.length x0.length 1 false) = some (V.int .i64 x7) ∧ Loop1 (fun (k1 : Int → St → Prop) (x8 : Int) (S2 : St) => ifC (decide (x8 < x7)) (ifS (idxAddrV 1 (V.slice S.next 0 x0.length x0.length 1 false) (V.int .i64 x8)) fun x10 => ∃ x11 : Int, loadV S2 x10 = some (V.int .u8 x11) ∧ ifC (decide (x11 < (97 : Int))) (ifC (decide (x11 < (48 : Int))) (ifC (!decide (x11 = (46 : Int))) (ifC (!decide (x11 = (45 : Int))) (K false S2) (setI (IntKind.i64.wrap (x8 + (1 : Int))) fun x34 => k1 x34 S2)) (setI (IntKind.i64.wrap (x8 + (1 : Int))) fun x34_1 => k1 x34_1 S2)) (ifC (decide ((57 : Int) < x11)) (ifC (!decide (x11 = (46 : Int))) (ifC (!decide (x11 = (45 : Int))) (K false S2) (setI (IntKind.i64.wrap (x8 + (1 : Int))) fun x34_2 => k1 x34_2 S2)) (setI (IntKind.i64.wrap (x8 + (1 : Int))) fun x34_3 => k1 x34_3 S2)) (setI (IntKind.i64.wrap (x8 + (1 : Int))) fun x34_4 => k1 x34_4 S2))) (ifC (decide ((122 : Int) < x11)) (ifC (decide (x11 < (48 : Int))) (ifC (!decide (x11 = (46 : Int))) (ifC (!decide (x11 = (45 : Int))) (K false S2) (setI (IntKind.i64.wrap (x8 + (1 : Int))) fun x34_5 => k1 x34_5 S2)) (setI (IntKind.i64.wrap (x8 + (1 : Int))) fun x34_6 => k1 x34_6 S2)) (ifC (decide ((57 : Int) < x11)) (ifC (!decide (x11 = (46 : Int))) (ifC (!decide (x11 = (45 : Int))) (K false S2) (setI (IntKind.i64.wrap (x8 + (1 : Int))) fun x34_7 => k1 x34_7 S2)) (setI (IntKind.i64.wrap (x8 + (1 : Int))) fun x34_8 => k1 x34_8 S2)) (setI (IntKind.i64.wrap (x8 + (1 : Int))) fun x34_9 => k1 x34_9 S2))) (setI (IntKind.i64.wrap (x8 + (1 : Int))) fun x34_10 => k1 x34_10 S2))) (ifC (!decide (x0 = ([] : List UInt8))) (K (decide ((x0.length : Int) ≤ (32 : Int))) S2) (K false S2))) 0 S1
abbrev disk_good.Ok (P : Program) (N : Nat → Nat) : Prop := Reads P (N Fn.disk_good) [(3, (.dt (.one (.int .i64))), []), (3, (.dt (.one (.int .u8))), [])] [] [[(8, (.one (.int .i64)))]] (fun A T (x0 : List UInt8) (S : St) (K : Bool → St → Prop) => wpT P (envP P) T (endT A.results [(.one .bool)] K) (frT A [(V.str x0)]) S) (fun x0 S K => disk_good.p P N x0 S K)
theorem disk_good.run {P : Program} {N : Nat → Nat} (hF : disk_good.Ok P N) {x0 : List UInt8} {S : St} {K : Bool → St → Prop} (h : disk_good.p P N x0 S K) : CallA P (N Fn.disk_good) [(V.str x0)] S (retT [(.one .bool)] K) := hF.run (fun q => q x0 S K) h rfl

def disk_Disk_change.p (P : Program) (N : Nat → Nat) (x0 : V) (x1_a : List UInt8) (x1_b : List UInt8) (x1_c : V) (S : St) (K : Int → St → Prop) : Prop :=
  newS S (.cells [(V.str x1_a), (V.str x1_b), x1_c] true) fun S1 => nilV x0 = some x0 ∧ ifS (fieldAddrV 1 x0) fun x7 => ifS (loadV S1 x7) fun x8 => ∃ x9_a : List UInt8, ∃ x9_b : List UInt8, ∃ x9_c : V, loadNV S1 3 (V.ptr S.next 0) = some (V.agg [(V.str x9_a), (V.str x9_b), x9_c]) ∧ CallA P (N Fn.disk_names_do) [x8, (V.agg [(V.str x9_a), (V.str x9_b), x9_c])] S1 (retT [] fun (S2 : St) => nilV x0 = some x0 ∧ ifS (fieldAddrV 3 x0) fun x14 => ifS (loadV S2 x14) fun x15 => ∃ x16_a : List UInt8, ∃ x16_b : List UInt8, ∃ x16_c : V, loadNV S2 3 (V.ptr S.next 0) = some (V.agg [(V.str x16_a), (V.str x16_b), x16_c]) ∧ newS S2 (.cells [(V.str x16_a), (V.str x16_b), x16_c] true) fun S3 => sameK (V.block x14 ++ []) S2 S3 (ifP (appV S3 3 40 x15 (V.slice S2.next 0 1 1 3 true)) fun x18 S4 => nilV x0 = some x0 ∧ ifS (fieldAddrV 3 x0) fun x20 => ifS (storeV S4 1 x20 x18) fun S5 => CallA P (N Fn.disk_Disk_done) [x0] S5 (retT [(.one (.int .i64))] fun (x22 : Int) (S6 : St) => K x22 S6)))
abbrev disk_Disk_change.Ok (P : Program) (N : Nat → Nat) : Prop := Reads P (N Fn.disk_Disk_change) [(6, (.dt (.agg [.str, .str, .any])), []), (6, (.dt (.agg [.str, .str, .any])), []), (0, (.dt (.agg [.str, .str, .any])), []), (5, .no, [(.one (.int .i64))])] [] [] (fun A T (x0 : V) (x1_a : List UInt8) (x1_b : List UInt8) (x1_c : V) (S : St) (K : Int → St → Prop) => wpT P (envP P) T (endT A.results [(.one (.int .i64))] K) (frT A [x0, (V.agg [(V.str x1_a), (V.str x1_b), x1_c])]) S) (fun x0 x1_a x1_b x1_c S K => disk_Disk_change.p P N x0 x1_a x1_b x1_c S K)
theorem disk_Disk_change.run {P : Program} {N : Nat → Nat} (hF : disk_Disk_change.Ok P N) {x0 : V} {x1_a : List UInt8} {x1_b : List UInt8} {x1_c : V} {S : St} {K : Int → St → Prop} (h : disk_Disk_change.p P N x0 x1_a x1_b x1_c S K) : CallA P (N Fn.disk_Disk_change) [x0, (V.agg [(V.str x1_a), (V.str x1_b), x1_c])] S (retT [(.one (.int .i64))] K) := hF.run (fun q => q x0 x1_a x1_b x1_c S K) h rfl

def disk_Disk_done.p (P : Program) (N : Nat → Nat) (x0 : V) (S : St) (K : Int → St → Prop) : Prop :=
  nilV x0 = some x0 ∧ ifS (fieldAddrV 4 x0) fun x5 => ∃ x6 : Int, loadV S x5 = some (V.int .i64 x6) ∧ setI (IntKind.i64.wrap (x6 + (1 : Int))) fun x7 => nilV x0 = some x0 ∧ ifS (fieldAddrV 4 x0) fun x9 => ifS (storeV S 1 x9 (V.int .i64 x7)) fun S1 => nilV x0 = some x0 ∧ ifS (fieldAddrV 5 x0) fun x12 => ∃ x13 : Bool, loadV S1 x12 = some (V.bool x13) ∧ ifC x13 (nilV x0 = some x0 ∧ ifS (fieldAddrV 6 x0) fun x16 => ∃ x17 : Int, loadV S1 x16 = some (V.int .i64 x17) ∧ setI (IntKind.i64.wrap (x17 - (1 : Int))) fun x18 => nilV x0 = some x0 ∧ ifS (fieldAddrV 6 x0) fun x20 => ifS (storeV S1 1 x20 (V.int .i64 x18)) fun S2 => K 0 S2) (K 0 S1)
abbrev disk_Disk_done.Ok (P : Program) (N : Nat → Nat) : Prop := Reads P (N Fn.disk_Disk_done) [(4, (.dt (.one (.int .i64))), []), (7, (.dt (.one .bool)), []), (3, (.dt (.one (.int .i64))), [])] [] [] (fun A T (x0 : V) (S : St) (K : Int → St → Prop) => wpT P (envP P) T (endT A.results [(.one (.int .i64))] K) (frT A [x0]) S) (fun x0 S K => disk_Disk_done.p P N x0 S K)
theorem disk_Disk_done.run {P : Program} {N : Nat → Nat} (hF : disk_Disk_done.Ok P N) {x0 : V} {S : St} {K : Int → St → Prop} (h : disk_Disk_done.p P N x0 S K) : CallA P (N Fn.disk_Disk_done) [x0] S (retT [(.one (.int .i64))] K) := hF.run (fun q => q x0 S K) h rfl

def disk_Disk_find.p (P : Program) (N : Nat → Nat) (x0 : V) (x1 : List UInt8) (S : St) (K : V → Int → St → Prop) : Prop :=
  CallA P (N Fn.disk_Disk_ready) [x0] S (retT [(.one (.int .i64))] fun (x10 : Int) (S1 : St) => ifC (!decide (x10 = (0 : Int))) (K V.nilPtr x10 S1) (nilV x0 = some x0 ∧ ifS (fieldAddrV 1 x0) fun x17 => ifS (loadV S1 x17) fun x18 => ∃ x20a : V, ∃ x20b : Bool, lookupV S1 2 V.nilPtr true x18 (V.str x1) = some (V.tuple [x20a, (V.bool x20b)]) ∧ ifC (!x20b) (K V.nilPtr 172 S1) (K x20a 0 S1)))
abbrev disk_Disk_find.Ok (P : Program) (N : Nat → Nat) : Prop := Reads P (N Fn.disk_Disk_find) [(3, .no, [(.one (.int .i64))]), (11, (.tup [(.one .any), (.one .bool)]), [])] [] [] (fun A T (x0 : V) (x1 : List UInt8) (S : St) (K : V → Int → St → Prop) => wpT P (envP P) T (endT A.results [(.one .any), (.one (.int .i64))] K) (frT A [x0, (V.str x1)]) S) (fun x0 x1 S K => disk_Disk_find.p P N x0 x1 S K)
theorem disk_Disk_find.run {P : Program} {N : Nat → Nat} (hF : disk_Disk_find.Ok P N) {x0 : V} {x1 : List UInt8} {S : St} {K : V → Int → St → Prop} (h : disk_Disk_find.p P N x0 x1 S K) : CallA P (N Fn.disk_Disk_find) [x0, (V.str x1)] S (retT [(.one .any), (.one (.int .i64))] K) := hF.run (fun q => q x0 x1 S K) h rfl

end Go.Th.L
end

section
/- Functions of keep, read without frames (printed by tools/lib.py). -/
set_option linter.unusedVariables false
set_option maxRecDepth 100000
set_option maxHeartbeats 2000000
namespace Go.Th.L
open Go Go.Th

def keep_LendBytes.p (P : Program) (N : Nat → Nat) (x0 : V) (S : St) (K : V → St → Prop) : Prop :=
  ∃ x5 : Int, lenV S 2 x0 = some (V.int .i64 x5) ∧ setI (IntKind.i64.wrap (x5 + (2 : Int))) fun x6 => ifP (mkSliceV S 1 1 [(V.int .u8 0)] (V.int .i64 x6) (V.int .i64 x6)) fun x7 S1 => ifP (copyV S1 1 x7 x0) fun x10 S2 => ∃ x13 : Int, lenV S2 2 x0 = some (V.int .i64 x13) ∧ ifS (idxAddrV 1 x7 (V.int .i64 x13)) fun x14 => ifS (storeV S2 1 x14 (V.int .u8 165)) fun S3 => ∃ x17 : Int, lenV S3 2 x0 = some (V.int .i64 x17) ∧ setI (IntKind.i64.wrap (x17 + (1 : Int))) fun x18 => ifS (idxAddrV 1 x7 (V.int .i64 x18)) fun x19 => ifS (storeV S3 1 x19 (V.int .u8 90)) fun S4 => ∃ x22 : Int, lenV S4 2 x0 = some (V.int .i64 x22) ∧ ifS (sliceSlV 1 x7 none (some (V.int .i64 x22)) none) fun x23 => K x23 S4
abbrev keep_LendBytes.Ok (P : Program) (N : Nat → Nat) : Prop := Reads P (N Fn.keep_LendBytes) [(2, (.dt (.one (.int .i64))), []), (8, (.dt (.one (.int .i64))), []), (4, (.dt (.one (.int .i64))), []), (5, (.dt (.one (.int .i64))), [])] [] [] (fun A T (x0 : V) (S : St) (K : V → St → Prop) => wpT P (envP P) T (endT A.results [(.one .any)] K) (frT A [x0]) S) (fun x0 S K => keep_LendBytes.p P N x0 S K)
theorem keep_LendBytes.run {P : Program} {N : Nat → Nat} (hF : keep_LendBytes.Ok P N) {x0 : V} {S : St} {K : V → St → Prop} (h : keep_LendBytes.p P N x0 S K) : CallA P (N Fn.keep_LendBytes) [x0] S (retT [(.one .any)] K) := hF.run (fun q => q x0 S K) h rfl

def keep_BackBytes.p (P : Program) (N : Nat → Nat) (x0 : V) (x1 : V) (S : St) (K : Bool → St → Prop) : Prop :=
  ∃ x11 : Int, lenV S 2 x1 = some (V.int .i64 x11) ∧ setI (IntKind.i64.wrap (x11 + (2 : Int))) fun x12 => ifS (sliceSlV 1 x0 none (some (V.int .i64 x12)) none) fun x13 => Join1 (fun (k1 : Bool → St → Prop) => ∃ x16 : Int, lenV S 2 x1 = some (V.int .i64 x16) ∧ ifS (idxAddrV 1 x13 (V.int .i64 x16)) fun x17 => ∃ x18 : Int, loadV S x17 = some (V.int .u8 x18) ∧ ifC (decide (x18 = (165 : Int))) (∃ x23 : Int, lenV S 2 x1 = some (V.int .i64 x23) ∧ setI (IntKind.i64.wrap (x23 + (1 : Int))) fun x24 => ifS (idxAddrV 1 x13 (V.int .i64 x24)) fun x25 => ∃ x26 : Int, loadV S x25 = some (V.int .u8 x26) ∧ k1 (decide (x26 = (90 : Int))) S) (k1 false S)) (fun (x6 : Bool) (S1 : St) => Loop2 (fun (k2 : Bool → Int → St → Prop) (x6_1 : Bool) (x7 : Int) (S2 : St) => ∃ x31 : Int, lenV S2 2 x1 = some (V.int .i64 x31) ∧ ifC (decide (x7 < x31)) (ifC x6_1 (ifS (idxAddrV 1 x0 (V.int .i64 x7)) fun x39 => ∃ x40 : Int, loadV S2 x39 = some (V.int .u8 x40) ∧ ifS (idxAddrV 1 x1 (V.int .i64 x7)) fun x43 => ∃ x44 : Int, loadV S2 x43 = some (V.int .u8 x44) ∧ setI (IntKind.i64.wrap (x7 + (1 : Int))) fun x34 => k2 (decide (x40 = x44)) x34 S2) (setI (IntKind.i64.wrap (x7 + (1 : Int))) fun x34_1 => k2 false x34_1 S2)) (Loop1 (fun (k3 : Int → St → Prop) (x8 : Int) (S3 : St) => ∃ x49 : Int, lenV S3 2 x13 = some (V.int .i64 x49) ∧ ifC (decide (x8 < x49)) (ifS (idxAddrV 1 x13 (V.int .i64 x8)) fun x57 => ∃ x58 : Int, loadV S3 x57 = some (V.int .u8 x58) ∧ setI (IntKind.u8.wrap (x58 + (77 : Int))) fun x59 => ifS (idxAddrV 1 x13 (V.int .i64 x8)) fun x60 => ifS (storeV S3 1 x60 (V.int .u8 x59)) fun S4 => setI (IntKind.i64.wrap (x8 + (1 : Int))) fun x52 => k3 x52 S4) (K x6_1 S3)) 0 S2)) x6 0 S1)
abbrev keep_BackBytes.Ok (P : Program) (N : Nat → Nat) : Prop := Reads P (N Fn.keep_BackBytes) [(3, (.dt (.one (.int .i64))), []), (5, (.dt (.one (.int .i64))), []), (1, (.dt (.one (.int .u8))), []), (4, (.dt (.one (.int .i64))), []), (2, (.dt (.one (.int .u8))), []), (6, (.dt (.one (.int .i64))), []), (6, (.dt (.one (.int .u8))), []), (3, (.dt (.one (.int .u8))), []), (9, (.dt (.one (.int .i64))), []), (6, (.dt (.one (.int .u8))), [])] [(2, [(6, (.one .bool))])] [[(6, (.one .bool)), (7, (.one (.int .i64)))], [(8, (.one (.int .i64)))]] (fun A T (x0 : V) (x1 : V) (S : St) (K : Bool → St → Prop) => wpT P (envP P) T (endT A.results [(.one .bool)] K) (frT A [x0, x1]) S) (fun x0 x1 S K => keep_BackBytes.p P N x0 x1 S K)
theorem keep_BackBytes.run {P : Program} {N : Nat → Nat} (hF : keep_BackBytes.Ok P N) {x0 : V} {x1 : V} {S : St} {K : Bool → St → Prop} (h : keep_BackBytes.p P N x0 x1 S K) : CallA P (N Fn.keep_BackBytes) [x0, x1] S (retT [(.one .bool)] K) := hF.run (fun q => q x0 x1 S K) h rfl

def keep_Bytes.p (P : Program) (N : Nat → Nat) (x0 : V) (x1 : V) (S : St) (K : Bool → St → Prop) : Prop :=
  ∃ x7 : Int, lenV S 2 x0 = some (V.int .i64 x7) ∧ ∃ x9 : Int, lenV S 2 x1 = some (V.int .i64 x9) ∧ ifC (!decide (x7 = x9)) (K false S) (Loop1 (fun (k1 : Int → St → Prop) (x5 : Int) (S1 : St) => ∃ x13 : Int, lenV S1 2 x0 = some (V.int .i64 x13) ∧ ifC (decide (x5 < x13)) (ifS (idxAddrV 1 x0 (V.int .i64 x5)) fun x19 => ∃ x20 : Int, loadV S1 x19 = some (V.int .u8 x20) ∧ ifS (idxAddrV 1 x1 (V.int .i64 x5)) fun x23 => ∃ x24 : Int, loadV S1 x23 = some (V.int .u8 x24) ∧ ifC (!decide (x20 = x24)) (K false S1) (setI (IntKind.i64.wrap (x5 + (1 : Int))) fun x16 => k1 x16 S1)) (K true S1)) 0 S)
abbrev keep_Bytes.Ok (P : Program) (N : Nat → Nat) : Prop := Reads P (N Fn.keep_Bytes) [(2, (.dt (.one (.int .i64))), []), (1, (.dt (.one (.int .i64))), []), (5, (.dt (.one (.int .i64))), []), (4, (.dt (.one (.int .u8))), []), (3, (.dt (.one (.int .u8))), [])] [] [[(5, (.one (.int .i64)))]] (fun A T (x0 : V) (x1 : V) (S : St) (K : Bool → St → Prop) => wpT P (envP P) T (endT A.results [(.one .bool)] K) (frT A [x0, x1]) S) (fun x0 x1 S K => keep_Bytes.p P N x0 x1 S K)
theorem keep_Bytes.run {P : Program} {N : Nat → Nat} (hF : keep_Bytes.Ok P N) {x0 : V} {x1 : V} {S : St} {K : Bool → St → Prop} (h : keep_Bytes.p P N x0 x1 S K) : CallA P (N Fn.keep_Bytes) [x0, x1] S (retT [(.one .bool)] K) := hF.run (fun q => q x0 x1 S K) h rfl

def keep_Texts.p (P : Program) (N : Nat → Nat) (x0 : V) (x1 : V) (S : St) (K : Bool → St → Prop) : Prop :=
  ∃ x7 : Int, lenV S 2 x0 = some (V.int .i64 x7) ∧ ∃ x9 : Int, lenV S 2 x1 = some (V.int .i64 x9) ∧ ifC (!decide (x7 = x9)) (K false S) (Loop1 (fun (k1 : Int → St → Prop) (x5 : Int) (S1 : St) => ∃ x13 : Int, lenV S1 2 x0 = some (V.int .i64 x13) ∧ ifC (decide (x5 < x13)) (ifS (idxAddrV 1 x0 (V.int .i64 x5)) fun x19 => ∃ x20 : List UInt8, loadV S1 x19 = some (V.str x20) ∧ ifS (idxAddrV 1 x1 (V.int .i64 x5)) fun x23 => ∃ x24 : List UInt8, loadV S1 x23 = some (V.str x24) ∧ ifC (!decide (x20 = x24)) (K false S1) (setI (IntKind.i64.wrap (x5 + (1 : Int))) fun x16 => k1 x16 S1)) (K true S1)) 0 S)
abbrev keep_Texts.Ok (P : Program) (N : Nat → Nat) : Prop := Reads P (N Fn.keep_Texts) [(2, (.dt (.one (.int .i64))), []), (1, (.dt (.one (.int .i64))), []), (5, (.dt (.one (.int .i64))), []), (4, (.dt (.one .str)), []), (3, (.dt (.one .str)), [])] [] [[(5, (.one (.int .i64)))]] (fun A T (x0 : V) (x1 : V) (S : St) (K : Bool → St → Prop) => wpT P (envP P) T (endT A.results [(.one .bool)] K) (frT A [x0, x1]) S) (fun x0 x1 S K => keep_Texts.p P N x0 x1 S K)
theorem keep_Texts.run {P : Program} {N : Nat → Nat} (hF : keep_Texts.Ok P N) {x0 : V} {x1 : V} {S : St} {K : Bool → St → Prop} (h : keep_Texts.p P N x0 x1 S K) : CallA P (N Fn.keep_Texts) [x0, x1] S (retT [(.one .bool)] K) := hF.run (fun q => q x0 x1 S K) h rfl

def keep_SpoilBytes.p (P : Program) (N : Nat → Nat) (x0 : V) (S : St) (K : St → Prop) : Prop :=
  ∃ x5 : Int, capV x0 = some (V.int .i64 x5) ∧ ifS (sliceSlV 1 x0 none (some (V.int .i64 x5)) none) fun x6 => Loop1 (fun (k1 : Int → St → Prop) (x2 : Int) (S1 : St) => ∃ x9 : Int, lenV S1 2 x6 = some (V.int .i64 x9) ∧ ifC (decide (x2 < x9)) (ifS (idxAddrV 1 x6 (V.int .i64 x2)) fun x17 => ∃ x18 : Int, loadV S1 x17 = some (V.int .u8 x18) ∧ setI (IntKind.u8.wrap (x18 + (99 : Int))) fun x19 => ifS (idxAddrV 1 x6 (V.int .i64 x2)) fun x20 => ifS (storeV S1 1 x20 (V.int .u8 x19)) fun S2 => setI (IntKind.i64.wrap (x2 + (1 : Int))) fun x12 => k1 x12 S2) (K  S1)) 0 S
abbrev keep_SpoilBytes.Ok (P : Program) (N : Nat → Nat) : Prop := Reads P (N Fn.keep_SpoilBytes) [(2, (.dt (.one (.int .i64))), []), (5, (.dt (.one (.int .i64))), []), (6, (.dt (.one (.int .u8))), [])] [] [[(2, (.one (.int .i64)))]] (fun A T (x0 : V) (S : St) (K : St → Prop) => wpT P (envP P) T (endT A.results [] K) (frT A [x0]) S) (fun x0 S K => keep_SpoilBytes.p P N x0 S K)
theorem keep_SpoilBytes.run {P : Program} {N : Nat → Nat} (hF : keep_SpoilBytes.Ok P N) {x0 : V} {S : St} {K : St → Prop} (h : keep_SpoilBytes.p P N x0 S K) : CallA P (N Fn.keep_SpoilBytes) [x0] S (retT [] K) := hF.run (fun q => q x0 S K) h rfl

end Go.Th.L
end

section
/- Functions of law17, read without frames (printed by tools/lib.py). -/
set_option linter.unusedVariables false
set_option maxRecDepth 100000
set_option maxHeartbeats 2000000
namespace Go.Th.L
open Go Go.Th

def law17_DiskRuns.p (P : Program) (N : Nat → Nat) (x0 : Int) (x1 : V) (S : St) (K : Bool → St → Prop) : Prop :=
  Join1 (fun (k1 : Bool → St → Prop) => CallA P (N Fn.law17_large) [x1] S (retT [(.one .bool)] fun (x12 : Bool) (S2 : St) => ifC x12 (k1 true S2) (ifC (decide (x0 < (1 : Int))) (k1 true S2) (k1 (decide ((4194304 : Int) < x0)) S2)))) (fun (x20 : Bool) (S1 : St) => ifC x20 (CallA P (N Fn.law17_awake) [] S1 (retT [(.one .bool)] fun (x21 : Bool) (S3 : St) => K x21 S3)) (CallA P (N Fn.disk_New) [(V.int .i64 x0)] S1 (retT [(.one .any), (.one (.int .i64))] fun (x24a : V) (x24b : Int) (S4 : St) => Join0 (fun (k2 : St → Prop) => ∃ x28 : Bool, eqV 1 [] x24a V.nilPtr = some x28 ∧ ifC x28 (K false S4) (ifC (!decide (x24b = (0 : Int))) (K false S4) (k2  S4))) (fun (S5 : St) => CallA P (N Fn.ref17_New) [(V.int .i64 x0)] S5 (retT [(.one .any)] fun (x34 : V) (S6 : St) => Loop5 (fun (k3 : V → V → V → V → Int → St → Prop) (x5 : V) (x7 : V) (x8 : V) (x9 : V) (x10 : Int) (S7 : St) => ∃ x39 : Int, lenV S7 2 x1 = some (V.int .i64 x39) ∧ ifC (decide (x10 < x39)) (Join4 (fun (k4 : V → V → V → V → St → Prop) => ifS (idxAddrV 6 x1 (V.int .i64 x10)) fun x45 => ifS (fieldAddrV 0 x45) fun x46 => ∃ x47 : Int, loadV S7 x46 = some (V.int .i64 x47) ∧ ifC (decide (x47 = (10 : Int))) (CallA P (N Fn.disk_Disk_Clone) [x5] S7 (retT [(.one .any)] fun (x52 : V) (S9 : St) => CallA P (N Fn.ref17_Disk_Clone) [x7] S9 (retT [(.one .any)] fun (x54 : V) (S10 : St) => ∃ x56 : Bool, eqV 1 [] x52 V.nilPtr = some x56 ∧ ifC x56 (K false S10) (k4 x52 x54 x5 x7 S10)))) (k4 x5 x7 x8 x9 S7)) (fun (x5_1 : V) (x7_1 : V) (x8_1 : V) (x9_1 : V) (S8 : St) => ifS (idxAddrV 6 x1 (V.int .i64 x10)) fun x61 => ∃ x62_a : Int, ∃ x62_b : List UInt8, ∃ x62_c : List UInt8, ∃ x62_d : V, ∃ x62_e : Int, ∃ x62_f : V, loadNV S8 6 x61 = some (V.agg [(V.int .i64 x62_a), (V.str x62_b), (V.str x62_c), x62_d, (V.int .i64 x62_e), x62_f]) ∧ CallA P (N Fn.law17_step) [x5_1, x7_1, (V.agg [(V.int .i64 x62_a), (V.str x62_b), (V.str x62_c), x62_d, (V.int .i64 x62_e), x62_f])] S8 (retT [(.one .bool)] fun (x63 : Bool) (S11 : St) => ifC (!x63) (K false S11) (CallA P (N Fn.law17_same) [x5_1, x7_1] S11 (retT [(.one .bool)] fun (x68 : Bool) (S12 : St) => ifC (!x68) (K false S12) (setI (IntKind.i64.wrap (x10 + (1 : Int))) fun x42 => k3 x5_1 x7_1 x8_1 x9_1 x42 S12)))))) (CallA P (N Fn.law17_awake) [] S7 (retT [(.one .bool)] fun (x71 : Bool) (S13 : St) => ifC x71 (CallA P (N Fn.law17_same) [x8, x9] S13 (retT [(.one .bool)] fun (x75 : Bool) (S14 : St) => K x75 S14)) (K false S13)))) x24a x34 x24a x34 0 S6)))))
abbrev law17_DiskRuns.Ok (P : Program) (N : Nat → Nat) : Prop := Reads P (N Fn.law17_DiskRuns) [(2, .no, [(.one .bool)]), (8, .no, [(.one .bool)]), (2, .no, [(.one .any), (.one (.int .i64))]), (13, .no, [(.one .any)]), (8, (.dt (.one (.int .i64))), []), (5, (.dt (.one (.int .i64))), []), (6, .no, [(.one .any)]), (2, .no, [(.one .any)]), (9, (.dt (.agg [(.int .i64), .str, .str, .any, (.int .i64), .any])), []), (0, .no, [(.one .bool)]), (4, .no, [(.one .bool)]), (6, .no, [(.one .bool)]), (3, .no, [(.one .bool)])] [(2, [(20, (.one .bool))]), (2, []), (10, [(5, (.one .any)), (7, (.one .any)), (8, (.one .any)), (9, (.one .any))])] [[(5, (.one .any)), (7, (.one .any)), (8, (.one .any)), (9, (.one .any)), (10, (.one (.int .i64)))]] (fun A T (x0 : Int) (x1 : V) (S : St) (K : Bool → St → Prop) => wpT P (envP P) T (endT A.results [(.one .bool)] K) (frT A [(V.int .i64 x0), x1]) S) (fun x0 x1 S K => law17_DiskRuns.p P N x0 x1 S K)
theorem law17_DiskRuns.run {P : Program} {N : Nat → Nat} (hF : law17_DiskRuns.Ok P N) {x0 : Int} {x1 : V} {S : St} {K : Bool → St → Prop} (h : law17_DiskRuns.p P N x0 x1 S K) : CallA P (N Fn.law17_DiskRuns) [(V.int .i64 x0), x1] S (retT [(.one .bool)] K) := hF.run (fun q => q x0 x1 S K) h rfl

def law17_awake.p (P : Program) (N : Nat → Nat) (S : St) (K : Bool → St → Prop) : Prop :=
  CallA P (N Fn.disk_New) [(V.int .i64 4)] S (retT [(.one .any), (.one (.int .i64))] fun (x18a : V) (x18b : Int) (S1 : St) => Join0 (fun (k1 : St → Prop) => ∃ x22 : Bool, eqV 1 [] x18a V.nilPtr = some x22 ∧ ifC x22 (K false S1) (ifC (!decide (x18b = (0 : Int))) (K false S1) (k1  S1))) (fun (S2 : St) => CallA P (N Fn.disk_Disk_Create) [x18a, (V.str ([97] : List UInt8))] S2 (retT [(.one (.int .i64))] fun (x28 : Int) (S3 : St) => newS S3 (.cells [(V.int .u8 1), (V.int .u8 2), (V.int .u8 3)] true) fun S4 => CallA P (N Fn.disk_Disk_Append) [x18a, (V.str ([97] : List UInt8)), (V.slice S3.next 0 3 3 1 true)] S4 (retT [(.one (.int .i64))] fun (x31 : Int) (S5 : St) => newS S5 (.cells [(V.int .u8 4), (V.int .u8 5)] true) fun S6 => CallA P (N Fn.disk_Disk_Append) [x18a, (V.str ([97] : List UInt8)), (V.slice S5.next 0 2 2 1 true)] S6 (retT [(.one (.int .i64))] fun (x34 : Int) (S7 : St) => CallA P (N Fn.disk_Disk_Sync) [x18a, (V.str ([97] : List UInt8))] S7 (retT [(.one (.int .i64))] fun (x36 : Int) (S8 : St) => newS S8 (.cells [(V.int .u8 9)] true) fun S9 => CallA P (N Fn.disk_Disk_Append) [x18a, (V.str ([97] : List UInt8)), (V.slice S8.next 0 1 1 1 true)] S9 (retT [(.one (.int .i64))] fun (x39 : Int) (S10 : St) => CallA P (N Fn.disk_Disk_SyncDir) [x18a] S10 (retT [(.one (.int .i64))] fun (x41 : Int) (S11 : St) => CallA P (N Fn.disk_Disk_Clone) [x18a] S11 (retT [(.one .any)] fun (x43 : V) (S12 : St) => ∃ x45 : Bool, eqV 1 [] x43 V.nilPtr = some x45 ∧ ifC x45 (K false S12) (newS S12 (.cells [(V.int .i64 0), (V.int .i64 (-2))] true) fun S13 => CallA P (N Fn.disk_Disk_Crash) [x18a, (V.slice S12.next 0 2 2 1 true)] S13 (retT [(.one (.int .i64))] fun (x48 : Int) (S14 : St) => CallA P (N Fn.disk_Disk_Read) [x18a, (V.str ([97] : List UInt8))] S14 (retT [(.one .any), (.one (.int .i64))] fun (x51a : V) (x51b : Int) (S15 : St) => newS S15 (.cells [(V.int .i64 0), (V.int .i64 1)] true) fun S16 => CallA P (N Fn.disk_Disk_Crash) [x43, (V.slice S15.next 0 2 2 1 true)] S16 (retT [(.one (.int .i64))] fun (x56 : Int) (S17 : St) => CallA P (N Fn.disk_Disk_Read) [x43, (V.str ([97] : List UInt8))] S17 (retT [(.one .any), (.one (.int .i64))] fun (x59a : V) (x59b : Int) (S18 : St) => Join1 (fun (k2 : Bool → St → Prop) => ifC (decide (x28 = (0 : Int))) (ifC (decide (x31 = (0 : Int))) (ifC (decide (x34 = (173 : Int))) (ifC (decide (x36 = (0 : Int))) (ifC (decide (x39 = (0 : Int))) (ifC (decide (x41 = (0 : Int))) (ifC (decide (x48 = (0 : Int))) (ifC (decide (x51b = (0 : Int))) (ifC (decide (x56 = (0 : Int))) (k2 (decide (x59b = (0 : Int))) S18) (k2 false S18)) (k2 false S18)) (k2 false S18)) (k2 false S18)) (k2 false S18)) (k2 false S18)) (k2 false S18)) (k2 false S18)) (k2 false S18)) (fun (x16 : Bool) (S19 : St) => ifC x16 (newS S19 (.cells [(V.int .u8 1), (V.int .u8 2), (V.int .u8 3), (V.int .u8 0)] true) fun S20 => CallA P (N Fn.keep_Bytes) [x51a, (V.slice S19.next 0 4 4 1 true)] S20 (retT [(.one .bool)] fun (x104 : Bool) (S21 : St) => ifC x104 (newS S21 (.cells [(V.int .u8 1), (V.int .u8 2), (V.int .u8 3), (V.int .u8 9)] true) fun S22 => CallA P (N Fn.keep_Bytes) [x59a, (V.slice S21.next 0 4 4 1 true)] S22 (retT [(.one .bool)] fun (x109 : Bool) (S23 : St) => ifC x109 (CallA P (N Fn.disk_Disk_Steps) [x18a] S23 (retT [(.one (.int .i64))] fun (x113 : Int) (S24 : St) => K (decide (x113 = (5 : Int))) S24)) (K false S23))) (K false S21))) (K false S19))))))))))))))))
abbrev law17_awake.Ok (P : Program) (N : Nat → Nat) : Prop := Reads P (N Fn.law17_awake) [(1, .no, [(.one .any), (.one (.int .i64))]), (13, .no, [(.one (.int .i64))]), (2, (.dt (.agg [(.int .u8), (.int .u8), (.int .u8)])), []), (0, .no, [(.one (.int .i64))]), (2, (.dt (.agg [(.int .u8), (.int .u8)])), []), (0, .no, [(.one (.int .i64))]), (2, .no, [(.one (.int .i64))]), (2, (.dt (.agg [(.int .u8)])), []), (0, .no, [(.one (.int .i64))]), (2, .no, [(.one (.int .i64))]), (2, .no, [(.one .any)]), (5, (.dt (.agg [(.int .i64), (.int .i64)])), []), (0, .no, [(.one (.int .i64))]), (2, .no, [(.one .any), (.one (.int .i64))]), (6, (.dt (.agg [(.int .i64), (.int .i64)])), []), (0, .no, [(.one (.int .i64))]), (2, .no, [(.one .any), (.one (.int .i64))]), (47, (.dt (.agg [(.int .u8), (.int .u8), (.int .u8), (.int .u8)])), []), (0, .no, [(.one .bool)]), (3, (.dt (.agg [(.int .u8), (.int .u8), (.int .u8), (.int .u8)])), []), (0, .no, [(.one .bool)]), (3, .no, [(.one (.int .i64))])] [(2, []), (16, [(16, (.one .bool))])] [] (fun A T (S : St) (K : Bool → St → Prop) => wpT P (envP P) T (endT A.results [(.one .bool)] K) (frT A []) S) (fun  S K => law17_awake.p P N  S K)
theorem law17_awake.run {P : Program} {N : Nat → Nat} (hF : law17_awake.Ok P N) {S : St} {K : Bool → St → Prop} (h : law17_awake.p P N  S K) : CallA P (N Fn.law17_awake) [] S (retT [(.one .bool)] K) := hF.run (fun q => q  S K) h rfl

def law17_same.p (P : Program) (N : Nat → Nat) (x0 : V) (x1 : V) (S : St) (K : Bool → St → Prop) : Prop :=
  CallA P (N Fn.disk_Disk_Names) [x0] S (retT [(.one .any)] fun (x13 : V) (S1 : St) => CallA P (N Fn.ref17_Disk_Names) [x1] S1 (retT [(.one .any)] fun (x15 : V) (S2 : St) => Join0 (fun (k1 : St → Prop) => CallA P (N Fn.keep_Texts) [x13, x15] S2 (retT [(.one .bool)] fun (x18 : Bool) (S4 : St) => ifC (!x18) (K false S4) (CallA P (N Fn.disk_Disk_Used) [x0] S4 (retT [(.one (.int .i64))] fun (x22 : Int) (S5 : St) => CallA P (N Fn.ref17_Disk_Used) [x1] S5 (retT [(.one (.int .i64))] fun (x24 : Int) (S6 : St) => ifC (!decide (x22 = x24)) (K false S6) (nilV x1 = some x1 ∧ ifS (fieldAddrV 5 x1) fun x32 => ∃ x33 : Int, loadV S6 x32 = some (V.int .i64 x33) ∧ CallA P (N Fn.disk_Disk_Steps) [x0] S6 (retT [(.one (.int .i64))] fun (x29 : Int) (S7 : St) => sameK (V.block x32 ++ []) S6 S7 (ifC (!decide (x29 = x33)) (K false S7) (CallA P (N Fn.disk_Disk_Down) [x0] S7 (retT [(.one .bool)] fun (x38 : Bool) (S8 : St) => sameK (V.block x32 ++ []) S7 S8 (CallA P (N Fn.ref17_Disk_Down) [x1] S8 (retT [(.one .bool)] fun (x40 : Bool) (S9 : St) => sameK (V.block x32 ++ []) S8 S9 (ifC (!(x38 == x40)) (K false S9) (k1  S9)))))))))))))) (fun (S3 : St) => Loop1 (fun (k2 : Int → St → Prop) (x7 : Int) (S10 : St) => ∃ x45 : Int, lenV S10 2 x15 = some (V.int .i64 x45) ∧ ifC (decide (x7 < x45)) (ifS (idxAddrV 1 x15 (V.int .i64 x7)) fun x53 => ∃ x54 : List UInt8, loadV S10 x53 = some (V.str x54) ∧ CallA P (N Fn.disk_Disk_Read) [x0, (V.str x54)] S10 (retT [(.one .any), (.one (.int .i64))] fun (x55a : V) (x55b : Int) (S11 : St) => ifS (idxAddrV 1 x15 (V.int .i64 x7)) fun x62 => ∃ x63 : List UInt8, loadV S11 x62 = some (V.str x63) ∧ CallA P (N Fn.ref17_Disk_Read) [x1, (V.str x63)] S11 (retT [(.one .any), (.one (.int .i64))] fun (x64a : V) (x64b : Int) (S12 : St) => ifC (!decide (x55b = x64b)) (K false S12) (CallA P (N Fn.keep_Bytes) [x55a, x64a] S12 (retT [(.one .bool)] fun (x73 : Bool) (S13 : St) => ifC (!x73) (K false S13) (CallA P (N Fn.keep_SpoilBytes) [x55a] S13 (retT [] fun (S14 : St) => setI (IntKind.i64.wrap (x7 + (1 : Int))) fun x48 => k2 x48 S14))))))) (K true S10)) 0 S3)))
abbrev law17_same.Ok (P : Program) (N : Nat → Nat) : Prop := Reads P (N Fn.law17_same) [(2, .no, [(.one .any)]), (2, .no, [(.one .any)]), (3, .no, [(.one .bool)]), (4, .no, [(.one (.int .i64))]), (0, .no, [(.one (.int .i64))]), (7, (.dt (.one (.int .i64))), []), (0, .no, [(.one (.int .i64))]), (5, .no, [(.one .bool)]), (0, .no, [(.one .bool)]), (6, (.dt (.one (.int .i64))), []), (5, (.dt (.one .str)), []), (0, .no, [(.one .any), (.one (.int .i64))]), (9, (.dt (.one .str)), []), (0, .no, [(.one .any), (.one (.int .i64))]), (11, .no, [(.one .bool)])] [(3, [])] [[(7, (.one (.int .i64)))]] (fun A T (x0 : V) (x1 : V) (S : St) (K : Bool → St → Prop) => wpT P (envP P) T (endT A.results [(.one .bool)] K) (frT A [x0, x1]) S) (fun x0 x1 S K => law17_same.p P N x0 x1 S K)
theorem law17_same.run {P : Program} {N : Nat → Nat} (hF : law17_same.Ok P N) {x0 : V} {x1 : V} {S : St} {K : Bool → St → Prop} (h : law17_same.p P N x0 x1 S K) : CallA P (N Fn.law17_same) [x0, x1] S (retT [(.one .bool)] K) := hF.run (fun q => q x0 x1 S K) h rfl

def law17_large.p (P : Program) (N : Nat → Nat) (x0 : V) (S : St) (K : Bool → St → Prop) : Prop :=
  ∃ x6 : Int, lenV S 2 x0 = some (V.int .i64 x6) ∧ ifC (decide ((1000 : Int) < x6)) (K true S) (Loop1 (fun (k1 : Int → St → Prop) (x3 : Int) (S1 : St) => ∃ x10 : Int, lenV S1 2 x0 = some (V.int .i64 x10) ∧ ifC (decide (x3 < x10)) (ifS (idxAddrV 6 x0 (V.int .i64 x3)) fun x16 => ∃ x17_a : Int, ∃ x17_b : List UInt8, ∃ x17_c : List UInt8, ∃ x17_d : V, ∃ x17_e : Int, ∃ x17_f : V, loadNV S1 6 x16 = some (V.agg [(V.int .i64 x17_a), (V.str x17_b), (V.str x17_c), x17_d, (V.int .i64 x17_e), x17_f]) ∧ newS S1 (.cells [(V.int .i64 0), (V.str ([] : List UInt8)), (V.str ([] : List UInt8)), V.nilSlice, (V.int .i64 0), V.nilSlice] true) fun S2 => ifS (storeV S2 6 (V.ptr S1.next 0) (V.agg [(V.int .i64 x17_a), (V.str x17_b), (V.str x17_c), x17_d, (V.int .i64 x17_e), x17_f])) fun S3 => ifS (loadV S3 (V.ptr S1.next 3)) fun x19 => ∃ x20 : Int, lenV S3 2 x19 = some (V.int .i64 x20) ∧ ifC (decide ((65536 : Int) < x20)) (K true S3) (ifS (loadV S3 (V.ptr S1.next 5)) fun x24 => ∃ x25 : Int, lenV S3 2 x24 = some (V.int .i64 x25) ∧ ifC (decide ((1000 : Int) < x25)) (K true S3) (∃ x30 : List UInt8, loadV S3 (V.ptr S1.next 1) = some (V.str x30) ∧ ifC (decide ((65536 : Int) < (x30.length : Int))) (K true S3) (∃ x36 : List UInt8, loadV S3 (V.ptr S1.next 2) = some (V.str x36) ∧ ifC (decide ((65536 : Int) < (x36.length : Int))) (K true S3) (setI (IntKind.i64.wrap (x3 + (1 : Int))) fun x13 => k1 x13 S3))))) (K false S1)) 0 S)
abbrev law17_large.Ok (P : Program) (N : Nat → Nat) : Prop := Reads P (N Fn.law17_large) [(2, (.dt (.one (.int .i64))), []), (5, (.dt (.one (.int .i64))), []), (4, (.dt (.agg [(.int .i64), .str, .str, .any, (.int .i64), .any])), []), (4, (.dt (.one (.int .i64))), []), (4, (.dt (.one (.int .i64))), []), (4, (.dt (.one .str)), []), (5, (.dt (.one .str)), [])] [] [[(3, (.one (.int .i64)))]] (fun A T (x0 : V) (S : St) (K : Bool → St → Prop) => wpT P (envP P) T (endT A.results [(.one .bool)] K) (frT A [x0]) S) (fun x0 S K => law17_large.p P N x0 S K)
theorem law17_large.run {P : Program} {N : Nat → Nat} (hF : law17_large.Ok P N) {x0 : V} {S : St} {K : Bool → St → Prop} (h : law17_large.p P N x0 S K) : CallA P (N Fn.law17_large) [x0] S (retT [(.one .bool)] K) := hF.run (fun q => q x0 S K) h rfl

def law17_step.p (P : Program) (N : Nat → Nat) (x0 : V) (x1 : V) (x2_a : Int) (x2_b : List UInt8) (x2_c : List UInt8) (x2_d : V) (x2_e : Int) (x2_f : V) (S : St) (K : Bool → St → Prop) : Prop :=
  newS S (.cells [(V.int .i64 x2_a), (V.str x2_b), (V.str x2_c), x2_d, (V.int .i64 x2_e), x2_f] true) fun S1 => ∃ x14 : Int, loadV S1 (V.ptr S.next 0) = some (V.int .i64 x14) ∧ ifC (decide (x14 = (1 : Int))) (∃ x19 : List UInt8, loadV S1 (V.ptr S.next 1) = some (V.str x19) ∧ ∃ x23 : List UInt8, loadV S1 (V.ptr S.next 1) = some (V.str x23) ∧ CallA P (N Fn.disk_Disk_Create) [x0, (V.str x19)] S1 (retT [(.one (.int .i64))] fun (x20 : Int) (S2 : St) => Same (S.next :: []) S1 S2 ∧ CallA P (N Fn.ref17_Disk_Create) [x1, (V.str x23)] S2 (retT [(.one (.int .i64))] fun (x24 : Int) (S3 : St) => Same (S.next :: []) S2 S3 ∧ K (decide (x20 = x24)) S3))) (ifC (decide (x14 = (2 : Int))) (ifS (loadV S1 (V.ptr S.next 3)) fun x29 => CallA P (N Fn.keep_LendBytes) [x29] S1 (retT [(.one .any)] fun (x30 : V) (S4 : St) => ∃ x33 : List UInt8, loadV S4 (V.ptr S.next 1) = some (V.str x33) ∧ CallA P (N Fn.disk_Disk_Append) [x0, (V.str x33), x30] S4 (retT [(.one (.int .i64))] fun (x35 : Int) (S5 : St) => ifS (loadV S5 (V.ptr S.next 3)) fun x38 => CallA P (N Fn.keep_BackBytes) [x30, x38] S5 (retT [(.one .bool)] fun (x39 : Bool) (S6 : St) => ifC x39 (∃ x44 : List UInt8, loadV S6 (V.ptr S.next 1) = some (V.str x44) ∧ ifS (loadV S6 (V.ptr S.next 3)) fun x46 => CallA P (N Fn.ref17_Disk_Append) [x1, (V.str x44), x46] S6 (retT [(.one (.int .i64))] fun (x47 : Int) (S7 : St) => K (decide (x35 = x47)) S7)) (K false S6))))) (ifC (decide (x14 = (3 : Int))) (∃ x54 : List UInt8, loadV S1 (V.ptr S.next 1) = some (V.str x54) ∧ ∃ x58 : List UInt8, loadV S1 (V.ptr S.next 1) = some (V.str x58) ∧ CallA P (N Fn.disk_Disk_Sync) [x0, (V.str x54)] S1 (retT [(.one (.int .i64))] fun (x55 : Int) (S8 : St) => Same (S.next :: []) S1 S8 ∧ CallA P (N Fn.ref17_Disk_Sync) [x1, (V.str x58)] S8 (retT [(.one (.int .i64))] fun (x59 : Int) (S9 : St) => Same (S.next :: []) S8 S9 ∧ K (decide (x55 = x59)) S9))) (ifC (decide (x14 = (4 : Int))) (∃ x65 : List UInt8, loadV S1 (V.ptr S.next 1) = some (V.str x65) ∧ ∃ x67 : List UInt8, loadV S1 (V.ptr S.next 2) = some (V.str x67) ∧ ∃ x71 : List UInt8, loadV S1 (V.ptr S.next 1) = some (V.str x71) ∧ ∃ x73 : List UInt8, loadV S1 (V.ptr S.next 2) = some (V.str x73) ∧ CallA P (N Fn.disk_Disk_Rename) [x0, (V.str x65), (V.str x67)] S1 (retT [(.one (.int .i64))] fun (x68 : Int) (S10 : St) => Same (S.next :: (S.next :: [])) S1 S10 ∧ CallA P (N Fn.ref17_Disk_Rename) [x1, (V.str x71), (V.str x73)] S10 (retT [(.one (.int .i64))] fun (x74 : Int) (S11 : St) => Same (S.next :: (S.next :: [])) S10 S11 ∧ K (decide (x68 = x74)) S11))) (ifC (decide (x14 = (5 : Int))) (∃ x80 : List UInt8, loadV S1 (V.ptr S.next 1) = some (V.str x80) ∧ ∃ x84 : List UInt8, loadV S1 (V.ptr S.next 1) = some (V.str x84) ∧ CallA P (N Fn.disk_Disk_Remove) [x0, (V.str x80)] S1 (retT [(.one (.int .i64))] fun (x81 : Int) (S12 : St) => Same (S.next :: []) S1 S12 ∧ CallA P (N Fn.ref17_Disk_Remove) [x1, (V.str x84)] S12 (retT [(.one (.int .i64))] fun (x85 : Int) (S13 : St) => Same (S.next :: []) S12 S13 ∧ K (decide (x81 = x85)) S13))) (ifC (decide (x14 = (6 : Int))) (CallA P (N Fn.disk_Disk_SyncDir) [x0] S1 (retT [(.one (.int .i64))] fun (x90 : Int) (S14 : St) => CallA P (N Fn.ref17_Disk_SyncDir) [x1] S14 (retT [(.one (.int .i64))] fun (x92 : Int) (S15 : St) => K (decide (x90 = x92)) S15))) (ifC (decide (x14 = (7 : Int))) (∃ x99 : List UInt8, loadV S1 (V.ptr S.next 1) = some (V.str x99) ∧ CallA P (N Fn.disk_Disk_Read) [x0, (V.str x99)] S1 (retT [(.one .any), (.one (.int .i64))] fun (x100a : V) (x100b : Int) (S16 : St) => ∃ x106 : List UInt8, loadV S16 (V.ptr S.next 1) = some (V.str x106) ∧ CallA P (N Fn.ref17_Disk_Read) [x1, (V.str x106)] S16 (retT [(.one .any), (.one (.int .i64))] fun (x107a : V) (x107b : Int) (S17 : St) => ifC (decide (x100b = x107b)) (CallA P (N Fn.keep_Bytes) [x100a, x107a] S17 (retT [(.one .bool)] fun (x116 : Bool) (S18 : St) => K x116 S18)) (K false S17)))) (ifC (decide (x14 = (8 : Int))) (∃ x122 : Int, loadV S1 (V.ptr S.next 4) = some (V.int .i64 x122) ∧ ∃ x126 : Int, loadV S1 (V.ptr S.next 4) = some (V.int .i64 x126) ∧ CallA P (N Fn.disk_Disk_Stop) [x0, (V.int .i64 x122)] S1 (retT [(.one (.int .i64))] fun (x123 : Int) (S19 : St) => Same (S.next :: []) S1 S19 ∧ CallA P (N Fn.ref17_Disk_Stop) [x1, (V.int .i64 x126)] S19 (retT [(.one (.int .i64))] fun (x127 : Int) (S20 : St) => Same (S.next :: []) S19 S20 ∧ K (decide (x123 = x127)) S20))) (ifC (decide (x14 = (9 : Int))) (ifS (loadV S1 (V.ptr S.next 5)) fun x133 => CallA P (N Fn.ref17_Disk_Crash) [x1, x133] S1 (retT [] fun (S21 : St) => ifS (loadV S21 (V.ptr S.next 5)) fun x137 => CallA P (N Fn.disk_Disk_Crash) [x0, x137] S21 (retT [(.one (.int .i64))] fun (x138 : Int) (S22 : St) => K (decide (x138 = (0 : Int))) S22))) (K true S1)))))))))
abbrev law17_step.Ok (P : Program) (N : Nat → Nat) : Prop := Reads P (N Fn.law17_step) [(3, (.dt (.one (.int .i64))), []), (4, (.dt (.one .str)), []), (2, (.dt (.one .str)), []), (0, .no, [(.one (.int .i64))]), (0, .no, [(.one (.int .i64))]), (6, .no, [(.one .any)]), (3, (.dt (.one .str)), []), (1, .no, [(.one (.int .i64))]), (4, .no, [(.one .bool)]), (4, (.dt (.one .str)), []), (2, .no, [(.one (.int .i64))]), (7, (.dt (.one .str)), []), (2, (.dt (.one .str)), []), (0, .no, [(.one (.int .i64))]), (0, .no, [(.one (.int .i64))]), (6, (.dt (.one .str)), []), (1, (.dt (.one .str)), []), (2, (.dt (.one .str)), []), (1, (.dt (.one .str)), []), (0, .no, [(.one (.int .i64))]), (0, .no, [(.one (.int .i64))]), (6, (.dt (.one .str)), []), (2, (.dt (.one .str)), []), (0, .no, [(.one (.int .i64))]), (0, .no, [(.one (.int .i64))]), (5, .no, [(.one (.int .i64))]), (1, .no, [(.one (.int .i64))]), (6, (.dt (.one .str)), []), (0, .no, [(.one .any), (.one (.int .i64))]), (7, (.dt (.one .str)), []), (0, .no, [(.one .any), (.one (.int .i64))]), (11, .no, [(.one .bool)]), (6, (.dt (.one (.int .i64))), []), (2, (.dt (.one (.int .i64))), []), (0, .no, [(.one (.int .i64))]), (0, .no, [(.one (.int .i64))]), (11, .no, [(.one (.int .i64))])] [] [] (fun A T (x0 : V) (x1 : V) (x2_a : Int) (x2_b : List UInt8) (x2_c : List UInt8) (x2_d : V) (x2_e : Int) (x2_f : V) (S : St) (K : Bool → St → Prop) => wpT P (envP P) T (endT A.results [(.one .bool)] K) (frT A [x0, x1, (V.agg [(V.int .i64 x2_a), (V.str x2_b), (V.str x2_c), x2_d, (V.int .i64 x2_e), x2_f])]) S) (fun x0 x1 x2_a x2_b x2_c x2_d x2_e x2_f S K => law17_step.p P N x0 x1 x2_a x2_b x2_c x2_d x2_e x2_f S K)
theorem law17_step.run {P : Program} {N : Nat → Nat} (hF : law17_step.Ok P N) {x0 : V} {x1 : V} {x2_a : Int} {x2_b : List UInt8} {x2_c : List UInt8} {x2_d : V} {x2_e : Int} {x2_f : V} {S : St} {K : Bool → St → Prop} (h : law17_step.p P N x0 x1 x2_a x2_b x2_c x2_d x2_e x2_f S K) : CallA P (N Fn.law17_step) [x0, x1, (V.agg [(V.int .i64 x2_a), (V.str x2_b), (V.str x2_c), x2_d, (V.int .i64 x2_e), x2_f])] S (retT [(.one .bool)] K) := hF.run (fun q => q x0 x1 x2_a x2_b x2_c x2_d x2_e x2_f S K) h rfl

def law17_play.p (P : Program) (N : Nat → Nat) (x0 : V) (x1 : V) (S : St) (K : St → Prop) : Prop :=
  Loop1 (fun (k1 : Int → St → Prop) (x4 : Int) (S1 : St) => ∃ x8 : Int, lenV S1 2 x1 = some (V.int .i64 x8) ∧ ifC (decide (x4 < x8)) (ifS (idxAddrV 6 x1 (V.int .i64 x4)) fun x14 => ∃ x15_a : Int, ∃ x15_b : List UInt8, ∃ x15_c : List UInt8, ∃ x15_d : V, ∃ x15_e : Int, ∃ x15_f : V, loadNV S1 6 x14 = some (V.agg [(V.int .i64 x15_a), (V.str x15_b), (V.str x15_c), x15_d, (V.int .i64 x15_e), x15_f]) ∧ newS S1 (.cells [(V.int .i64 0), (V.str ([] : List UInt8)), (V.str ([] : List UInt8)), V.nilSlice, (V.int .i64 0), V.nilSlice] true) fun S2 => ifS (storeV S2 6 (V.ptr S1.next 0) (V.agg [(V.int .i64 x15_a), (V.str x15_b), (V.str x15_c), x15_d, (V.int .i64 x15_e), x15_f])) fun S3 => ∃ x17 : Int, loadV S3 (V.ptr S1.next 0) = some (V.int .i64 x17) ∧ ifC (decide (x17 = (1 : Int))) (∃ x22 : List UInt8, loadV S3 (V.ptr S1.next 1) = some (V.str x22) ∧ CallA P (N Fn.disk_Disk_Create) [x0, (V.str x22)] S3 (retT [(.one (.int .i64))] fun (x23 : Int) (S4 : St) => setI (IntKind.i64.wrap (x4 + (1 : Int))) fun x11 => k1 x11 S4)) (ifC (decide (x17 = (2 : Int))) (∃ x28 : List UInt8, loadV S3 (V.ptr S1.next 1) = some (V.str x28) ∧ ifS (loadV S3 (V.ptr S1.next 3)) fun x30 => CallA P (N Fn.disk_Disk_Append) [x0, (V.str x28), x30] S3 (retT [(.one (.int .i64))] fun (x31 : Int) (S5 : St) => setI (IntKind.i64.wrap (x4 + (1 : Int))) fun x11_1 => k1 x11_1 S5)) (ifC (decide (x17 = (3 : Int))) (∃ x36 : List UInt8, loadV S3 (V.ptr S1.next 1) = some (V.str x36) ∧ CallA P (N Fn.disk_Disk_Sync) [x0, (V.str x36)] S3 (retT [(.one (.int .i64))] fun (x37 : Int) (S6 : St) => setI (IntKind.i64.wrap (x4 + (1 : Int))) fun x11_2 => k1 x11_2 S6)) (ifC (decide (x17 = (4 : Int))) (∃ x42 : List UInt8, loadV S3 (V.ptr S1.next 1) = some (V.str x42) ∧ ∃ x44 : List UInt8, loadV S3 (V.ptr S1.next 2) = some (V.str x44) ∧ CallA P (N Fn.disk_Disk_Rename) [x0, (V.str x42), (V.str x44)] S3 (retT [(.one (.int .i64))] fun (x45 : Int) (S7 : St) => setI (IntKind.i64.wrap (x4 + (1 : Int))) fun x11_3 => k1 x11_3 S7)) (ifC (decide (x17 = (5 : Int))) (∃ x50 : List UInt8, loadV S3 (V.ptr S1.next 1) = some (V.str x50) ∧ CallA P (N Fn.disk_Disk_Remove) [x0, (V.str x50)] S3 (retT [(.one (.int .i64))] fun (x51 : Int) (S8 : St) => setI (IntKind.i64.wrap (x4 + (1 : Int))) fun x11_4 => k1 x11_4 S8)) (ifC (decide (x17 = (6 : Int))) (CallA P (N Fn.disk_Disk_SyncDir) [x0] S3 (retT [(.one (.int .i64))] fun (x55 : Int) (S9 : St) => setI (IntKind.i64.wrap (x4 + (1 : Int))) fun x11_5 => k1 x11_5 S9)) (ifC (decide (x17 = (8 : Int))) (∃ x60 : Int, loadV S3 (V.ptr S1.next 4) = some (V.int .i64 x60) ∧ CallA P (N Fn.disk_Disk_Stop) [x0, (V.int .i64 x60)] S3 (retT [(.one (.int .i64))] fun (x61 : Int) (S10 : St) => setI (IntKind.i64.wrap (x4 + (1 : Int))) fun x11_6 => k1 x11_6 S10)) (ifC (decide (x17 = (9 : Int))) (ifS (loadV S3 (V.ptr S1.next 5)) fun x66 => CallA P (N Fn.disk_Disk_Crash) [x0, x66] S3 (retT [(.one (.int .i64))] fun (x67 : Int) (S11 : St) => setI (IntKind.i64.wrap (x4 + (1 : Int))) fun x11_7 => k1 x11_7 S11)) (setI (IntKind.i64.wrap (x4 + (1 : Int))) fun x11_8 => k1 x11_8 S3))))))))) (K  S1)) 0 S
abbrev law17_play.Ok (P : Program) (N : Nat → Nat) : Prop := Reads P (N Fn.law17_play) [(3, (.dt (.one (.int .i64))), []), (4, (.dt (.agg [(.int .i64), .str, .str, .any, (.int .i64), .any])), []), (3, (.dt (.one (.int .i64))), []), (4, (.dt (.one .str)), []), (0, .no, [(.one (.int .i64))]), (4, (.dt (.one .str)), []), (2, .no, [(.one (.int .i64))]), (4, (.dt (.one .str)), []), (0, .no, [(.one (.int .i64))]), (4, (.dt (.one .str)), []), (1, (.dt (.one .str)), []), (0, .no, [(.one (.int .i64))]), (4, (.dt (.one .str)), []), (0, .no, [(.one (.int .i64))]), (3, .no, [(.one (.int .i64))]), (4, (.dt (.one (.int .i64))), []), (0, .no, [(.one (.int .i64))]), (5, .no, [(.one (.int .i64))])] [] [[(4, (.one (.int .i64)))]] (fun A T (x0 : V) (x1 : V) (S : St) (K : St → Prop) => wpT P (envP P) T (endT A.results [] K) (frT A [x0, x1]) S) (fun x0 x1 S K => law17_play.p P N x0 x1 S K)
end Go.Th.L
end

section
/- Functions of maps, read without frames (printed by tools/lib.py). -/
set_option linter.unusedVariables false
set_option maxRecDepth 100000
set_option maxHeartbeats 2000000
namespace Go.Th.L
open Go Go.Th

def maps_Keys_disk_names.p (P : Program) (N : Nat → Nat) (x0 : V) (S : St) (K : V → St → Prop) : Prop :=
  newS S (.cells (V.cells x0) true) fun S1 => K (V.func (.func (N Fn.maps_Keys_disk_names_1)) [] [(V.ptr S.next 0)]) S1
abbrev maps_Keys_disk_names.Ok (P : Program) (N : Nat → Nat) : Prop := Reads P (N Fn.maps_Keys_disk_names) [] [] [] (fun A T (x0 : V) (S : St) (K : V → St → Prop) => wpT P (envP P) T (endT A.results [(.one .any)] K) (frT A [x0]) S) (fun x0 S K => maps_Keys_disk_names.p P N x0 S K)
theorem maps_Keys_disk_names.run {P : Program} {N : Nat → Nat} (hF : maps_Keys_disk_names.Ok P N) {x0 : V} {S : St} {K : V → St → Prop} (h : maps_Keys_disk_names.p P N x0 S K) : CallA P (N Fn.maps_Keys_disk_names) [x0] S (retT [(.one .any)] K) := hF.run (fun q => q x0 S K) h rfl

def maps_Keys_disk_names_1.p (P : Program) (N : Nat → Nat) (x0 : V) (x1 : V) (S : St) (K : St → Prop) : Prop :=
  ifS (loadV S x1) fun x4 => anyK (rangeP S x4) fun x5 S1 => Loop0 (fun (k1 : St → Prop) (S2 : St) => anyK (nextP S2 x5) fun x6 S3 => ∃ x7 : Bool, extractV 0 x6 = some (V.bool x7) ∧ ifC x7 (ifS (entryV S3 x5) fun x8 => ∃ x9 : List UInt8, extractV 0 x8 = some (V.str x9) ∧ ifS (calleeV (envP P) x0 [(V.str x9)]) fun xf => CallA P xf.1 xf.2 S3 (retT [(.one .bool)] fun (x12 : Bool) (S4 : St) => ifC (!x12) (K  S4) (k1  S4))) (K  S3)) S1
abbrev maps_Keys_disk_names_1.Ok (P : Program) (N : Nat → Nat) : Prop := Reads P (N Fn.maps_Keys_disk_names_1) [(3, (.dt (.one .bool)), []), (1, (.dt (.one .str)), []), (3, .no, [(.one .bool)])] [] [[]] (fun A T (x0 : V) (x1 : V) (S : St) (K : St → Prop) => wpT P (envP P) T (endT A.results [] K) (frT A [x0, x1]) S) (fun x0 x1 S K => maps_Keys_disk_names_1.p P N x0 x1 S K)
theorem maps_Keys_disk_names_1.run {P : Program} {N : Nat → Nat} (hF : maps_Keys_disk_names_1.Ok P N) {x0 : V} {x1 : V} {S : St} {K : St → Prop} (h : maps_Keys_disk_names_1.p P N x0 x1 S K) : CallA P (N Fn.maps_Keys_disk_names_1) [x0, x1] S (retT [] K) := hF.run (fun q => q x0 x1 S K) h rfl

end Go.Th.L
end

section
/- Functions of math, read without frames (printed by tools/lib.py). -/
set_option linter.unusedVariables false
set_option maxRecDepth 100000
set_option maxHeartbeats 2000000
namespace Go.Th.L
open Go Go.Th

end Go.Th.L
end

section
/- Functions of ref17, read without frames (printed by tools/lib.py). -/
set_option linter.unusedVariables false
set_option maxRecDepth 100000
set_option maxHeartbeats 2000000
namespace Go.Th.L
open Go Go.Th

def ref17_New.p (P : Program) (N : Nat → Nat) (x0 : Int) (S : St) (K : V → St → Prop) : Prop :=
  newS S (.cells [(V.int .i64 x0), V.nilSlice, V.nilSlice, V.nilSlice, V.nilSlice, (V.int .i64 0), (V.int .i64 (-1))] true) fun S1 => K (V.ptr S.next 0) S1
abbrev ref17_New.Ok (P : Program) (N : Nat → Nat) : Prop := Reads P (N Fn.ref17_New) [(2, (.dt (.agg [(.int .i64), .any, .any, .any, .any, (.int .i64), (.int .i64)])), [])] [] [] (fun A T (x0 : Int) (S : St) (K : V → St → Prop) => wpT P (envP P) T (endT A.results [(.one .any)] K) (frT A [(V.int .i64 x0)]) S) (fun x0 S K => ref17_New.p P N x0 S K)
theorem ref17_New.run {P : Program} {N : Nat → Nat} (hF : ref17_New.Ok P N) {x0 : Int} {S : St} {K : V → St → Prop} (h : ref17_New.p P N x0 S K) : CallA P (N Fn.ref17_New) [(V.int .i64 x0)] S (retT [(.one .any)] K) := hF.run (fun q => q x0 S K) h rfl

def ref17_Disk_Clone.p (P : Program) (N : Nat → Nat) (x0 : V) (S : St) (K : V → St → Prop) : Prop :=
  nilV x0 = some x0 ∧ ∃ x8_a : Int, ∃ x8_b x8_c x8_d x8_e : V, ∃ x8_f x8_g : Int, loadNV S 7 x0 = some (V.agg [(V.int .i64 x8_a), x8_b, x8_c, x8_d, x8_e, (V.int .i64 x8_f), (V.int .i64 x8_g)]) ∧ newS S (.cells [(V.int .i64 0), V.nilSlice, V.nilSlice, V.nilSlice, V.nilSlice, (V.int .i64 0), (V.int .i64 0)] true) fun S1 => ifS (storeV S1 7 (V.ptr S.next 0) (V.agg [(V.int .i64 x8_a), x8_b, x8_c, x8_d, x8_e, (V.int .i64 x8_f), (V.int .i64 x8_g)])) fun S2 => ifS (storeV S2 1 (V.ptr S.next 1) V.nilSlice) fun S3 => Loop1 (fun (k1 : Int → St → Prop) (x4 : Int) (S4 : St) => nilV x0 = some x0 ∧ ifS (fieldAddrV 1 x0) fun x13 => ifS (loadV S4 x13) fun x14 => ∃ x15 : Int, lenV S4 2 x14 = some (V.int .i64 x15) ∧ ifC (decide (x4 < x15)) (ifS (loadV S4 (V.ptr S.next 1)) fun x20 => nilV x0 = some x0 ∧ ifS (fieldAddrV 1 x0) fun x23 => ifS (loadV S4 x23) fun x24 => ifS (idxAddrV 2 x24 (V.int .i64 x4)) fun x26 => ∃ x27_a : V, ∃ x27_b : Int, loadNV S4 2 x26 = some (V.agg [x27_a, (V.int .i64 x27_b)]) ∧ newS S4 (.cells [x27_a, (V.int .i64 x27_b)] true) fun S5 => sameK (V.block x23 ++ (S.next :: [])) S4 S5 (ifP (appV S5 2 32 x20 (V.slice S4.next 0 1 1 2 true)) fun x29 S6 => ifS (storeV S6 1 (V.ptr S.next 1) x29) fun S7 => setI (IntKind.i64.wrap (x4 + (1 : Int))) fun x18 => k1 x18 S7)) (nilV x0 = some x0 ∧ ifS (fieldAddrV 2 x0) fun x33 => ifS (loadV S4 x33) fun x34 => CallA P (N Fn.ref17_without) [x34, (V.str ([] : List UInt8))] S4 (retT [(.one .any)] fun (x35 : V) (S8 : St) => ifS (storeV S8 1 (V.ptr S.next 2) x35) fun S9 => nilV x0 = some x0 ∧ ifS (fieldAddrV 3 x0) fun x39 => ifS (loadV S9 x39) fun x40 => CallA P (N Fn.ref17_without) [x40, (V.str ([] : List UInt8))] S9 (retT [(.one .any)] fun (x41 : V) (S10 : St) => ifS (storeV S10 1 (V.ptr S.next 3) x41) fun S11 => ifS (storeV S11 1 (V.ptr S.next 4) V.nilSlice) fun S12 => Loop1 (fun (k2 : Int → St → Prop) (x5 : Int) (S13 : St) => nilV x0 = some x0 ∧ ifS (fieldAddrV 4 x0) fun x47 => ifS (loadV S13 x47) fun x48 => ∃ x49 : Int, lenV S13 2 x48 = some (V.int .i64 x49) ∧ ifC (decide (x5 < x49)) (ifS (loadV S13 (V.ptr S.next 4)) fun x54 => nilV x0 = some x0 ∧ ifS (fieldAddrV 4 x0) fun x57 => ifS (loadV S13 x57) fun x58 => ifS (idxAddrV 4 x58 (V.int .i64 x5)) fun x60 => ∃ x61_a : Int, ∃ x61_b : List UInt8, ∃ x61_c : List UInt8, ∃ x61_d : Int, loadNV S13 4 x60 = some (V.agg [(V.int .i64 x61_a), (V.str x61_b), (V.str x61_c), (V.int .i64 x61_d)]) ∧ newS S13 (.cells [(V.int .i64 x61_a), (V.str x61_b), (V.str x61_c), (V.int .i64 x61_d)] true) fun S14 => sameK (V.block x57 ++ (S.next :: [])) S13 S14 (ifP (appV S14 4 48 x54 (V.slice S13.next 0 1 1 4 true)) fun x63 S15 => ifS (storeV S15 1 (V.ptr S.next 4) x63) fun S16 => setI (IntKind.i64.wrap (x5 + (1 : Int))) fun x52 => k2 x52 S16)) (K (V.ptr S.next 0) S13)) 0 S12)))) 0 S3
abbrev ref17_Disk_Clone.Ok (P : Program) (N : Nat → Nat) : Prop := Reads P (N Fn.ref17_Disk_Clone) [(3, (.dt (.agg [(.int .i64), .any, .any, .any, .any, (.int .i64), (.int .i64)])), []), (10, (.dt (.one (.int .i64))), []), (9, (.dt (.agg [.any, (.int .i64)])), []), (0, (.dt (.agg [.any, (.int .i64)])), []), (10, .no, [(.one .any)]), (6, .no, [(.one .any)]), (10, (.dt (.one (.int .i64))), []), (9, (.dt (.agg [(.int .i64), .str, .str, (.int .i64)])), []), (0, (.dt (.agg [(.int .i64), .str, .str, (.int .i64)])), [])] [] [[(4, (.one (.int .i64)))], [(5, (.one (.int .i64)))]] (fun A T (x0 : V) (S : St) (K : V → St → Prop) => wpT P (envP P) T (endT A.results [(.one .any)] K) (frT A [x0]) S) (fun x0 S K => ref17_Disk_Clone.p P N x0 S K)
theorem ref17_Disk_Clone.run {P : Program} {N : Nat → Nat} (hF : ref17_Disk_Clone.Ok P N) {x0 : V} {S : St} {K : V → St → Prop} (h : ref17_Disk_Clone.p P N x0 S K) : CallA P (N Fn.ref17_Disk_Clone) [x0] S (retT [(.one .any)] K) := hF.run (fun q => q x0 S K) h rfl

def ref17_Disk_Names.p (P : Program) (N : Nat → Nat) (x0 : V) (S : St) (K : V → St → Prop) : Prop :=
  Loop2 (fun (k1 : V → Int → St → Prop) (x3 : V) (x4 : Int) (S1 : St) => Join0 (fun (k2 : St → Prop) => nilV x0 = some x0 ∧ ifS (fieldAddrV 2 x0) fun x8 => ifS (loadV S1 x8) fun x9 => ∃ x10 : Int, lenV S1 2 x9 = some (V.int .i64 x10) ∧ ifC (decide (x4 < x10)) (CallA P (N Fn.ref17_Disk_Down) [x0] S1 (retT [(.one .bool)] fun (x14 : Bool) (S3 : St) => ifC (!x14) (k2  S3) (K x3 S3))) (K x3 S1)) (fun (S2 : St) => nilV x0 = some x0 ∧ ifS (fieldAddrV 2 x0) fun x22 => ifS (loadV S2 x22) fun x23 => ifS (idxAddrV 2 x23 (V.int .i64 x4)) fun x25 => ifS (fieldAddrV 0 x25) fun x26 => ∃ x27 : List UInt8, loadV S2 x26 = some (V.str x27) ∧ newS S2 (.cells [(V.str x27)] true) fun S4 => ifP (appV S4 1 16 x3 (V.slice S2.next 0 1 1 1 true)) fun x29 S5 => setI (IntKind.i64.wrap (x4 + (1 : Int))) fun x18 => k1 x29 x18 S5)) V.nilSlice 0 S
abbrev ref17_Disk_Names.Ok (P : Program) (N : Nat → Nat) : Prop := Reads P (N Fn.ref17_Disk_Names) [(8, (.dt (.one (.int .i64))), []), (3, .no, [(.one .bool)]), (10, (.dt (.one .str)), []), (0, (.dt (.agg [.str])), [])] [(4, [])] [[(3, (.one .any)), (4, (.one (.int .i64)))]] (fun A T (x0 : V) (S : St) (K : V → St → Prop) => wpT P (envP P) T (endT A.results [(.one .any)] K) (frT A [x0]) S) (fun x0 S K => ref17_Disk_Names.p P N x0 S K)
theorem ref17_Disk_Names.run {P : Program} {N : Nat → Nat} (hF : ref17_Disk_Names.Ok P N) {x0 : V} {S : St} {K : V → St → Prop} (h : ref17_Disk_Names.p P N x0 S K) : CallA P (N Fn.ref17_Disk_Names) [x0] S (retT [(.one .any)] K) := hF.run (fun q => q x0 S K) h rfl

def ref17_Disk_Used.p (P : Program) (N : Nat → Nat) (x0 : V) (S : St) (K : Int → St → Prop) : Prop :=
  Loop2 (fun (k1 : Int → Int → St → Prop) (x3 : Int) (x4 : Int) (S1 : St) => Join0 (fun (k2 : St → Prop) => nilV x0 = some x0 ∧ ifS (fieldAddrV 2 x0) fun x8 => ifS (loadV S1 x8) fun x9 => ∃ x10 : Int, lenV S1 2 x9 = some (V.int .i64 x10) ∧ ifC (decide (x4 < x10)) (CallA P (N Fn.ref17_Disk_Down) [x0] S1 (retT [(.one .bool)] fun (x14 : Bool) (S3 : St) => ifC (!x14) (k2  S3) (K x3 S3))) (K x3 S1)) (fun (S2 : St) => nilV x0 = some x0 ∧ ifS (fieldAddrV 1 x0) fun x22 => ifS (loadV S2 x22) fun x23 => nilV x0 = some x0 ∧ ifS (fieldAddrV 2 x0) fun x26 => ifS (loadV S2 x26) fun x27 => ifS (idxAddrV 2 x27 (V.int .i64 x4)) fun x29 => ifS (fieldAddrV 1 x29) fun x30 => ∃ x31 : Int, loadV S2 x30 = some (V.int .i64 x31) ∧ ifS (idxAddrV 2 x23 (V.int .i64 x31)) fun x32 => ifS (fieldAddrV 0 x32) fun x33 => ifS (loadV S2 x33) fun x34 => ∃ x35 : Int, lenV S2 2 x34 = some (V.int .i64 x35) ∧ setI (IntKind.i64.wrap (x3 + x35)) fun x36 => setI (IntKind.i64.wrap (x4 + (1 : Int))) fun x18 => k1 x36 x18 S2)) 0 0 S
abbrev ref17_Disk_Used.Ok (P : Program) (N : Nat → Nat) : Prop := Reads P (N Fn.ref17_Disk_Used) [(8, (.dt (.one (.int .i64))), []), (3, .no, [(.one .bool)]), (14, (.dt (.one (.int .i64))), []), (3, (.dt (.one (.int .i64))), [])] [(4, [])] [[(3, (.one (.int .i64))), (4, (.one (.int .i64)))]] (fun A T (x0 : V) (S : St) (K : Int → St → Prop) => wpT P (envP P) T (endT A.results [(.one (.int .i64))] K) (frT A [x0]) S) (fun x0 S K => ref17_Disk_Used.p P N x0 S K)
theorem ref17_Disk_Used.run {P : Program} {N : Nat → Nat} (hF : ref17_Disk_Used.Ok P N) {x0 : V} {S : St} {K : Int → St → Prop} (h : ref17_Disk_Used.p P N x0 S K) : CallA P (N Fn.ref17_Disk_Used) [x0] S (retT [(.one (.int .i64))] K) := hF.run (fun q => q x0 S K) h rfl

def ref17_Disk_Down.p (P : Program) (N : Nat → Nat) (x0 : V) (S : St) (K : Bool → St → Prop) : Prop :=
  nilV x0 = some x0 ∧ ifS (fieldAddrV 6 x0) fun x5 => ∃ x6 : Int, loadV S x5 = some (V.int .i64 x6) ∧ K (decide (x6 = (0 : Int))) S
abbrev ref17_Disk_Down.Ok (P : Program) (N : Nat → Nat) : Prop := Reads P (N Fn.ref17_Disk_Down) [(4, (.dt (.one (.int .i64))), [])] [] [] (fun A T (x0 : V) (S : St) (K : Bool → St → Prop) => wpT P (envP P) T (endT A.results [(.one .bool)] K) (frT A [x0]) S) (fun x0 S K => ref17_Disk_Down.p P N x0 S K)
theorem ref17_Disk_Down.run {P : Program} {N : Nat → Nat} (hF : ref17_Disk_Down.Ok P N) {x0 : V} {S : St} {K : Bool → St → Prop} (h : ref17_Disk_Down.p P N x0 S K) : CallA P (N Fn.ref17_Disk_Down) [x0] S (retT [(.one .bool)] K) := hF.run (fun q => q x0 S K) h rfl

def ref17_Disk_Read.p (P : Program) (N : Nat → Nat) (x0 : V) (x1 : List UInt8) (S : St) (K : V → Int → St → Prop) : Prop :=
  CallA P (N Fn.ref17_Disk_Down) [x0] S (retT [(.one .bool)] fun (x8 : Bool) (S1 : St) => ifC x8 (K V.nilSlice 174 S1) (CallA P (N Fn.ref17_Disk_file) [x0, (V.str x1)] S1 (retT [(.one (.int .i64))] fun (x11 : Int) (S2 : St) => ifC (decide (x11 < (0 : Int))) (K V.nilSlice 172 S2) (nilV x0 = some x0 ∧ ifS (fieldAddrV 1 x0) fun x16 => ifS (loadV S2 x16) fun x17 => ifS (idxAddrV 2 x17 (V.int .i64 x11)) fun x19 => ifS (fieldAddrV 0 x19) fun x20 => ifS (loadV S2 x20) fun x21 => K x21 0 S2))))
abbrev ref17_Disk_Read.Ok (P : Program) (N : Nat → Nat) : Prop := Reads P (N Fn.ref17_Disk_Read) [(3, .no, [(.one .bool)]), (4, .no, [(.one (.int .i64))])] [] [] (fun A T (x0 : V) (x1 : List UInt8) (S : St) (K : V → Int → St → Prop) => wpT P (envP P) T (endT A.results [(.one .any), (.one (.int .i64))] K) (frT A [x0, (V.str x1)]) S) (fun x0 x1 S K => ref17_Disk_Read.p P N x0 x1 S K)
theorem ref17_Disk_Read.run {P : Program} {N : Nat → Nat} (hF : ref17_Disk_Read.Ok P N) {x0 : V} {x1 : List UInt8} {S : St} {K : V → Int → St → Prop} (h : ref17_Disk_Read.p P N x0 x1 S K) : CallA P (N Fn.ref17_Disk_Read) [x0, (V.str x1)] S (retT [(.one .any), (.one (.int .i64))] K) := hF.run (fun q => q x0 x1 S K) h rfl

def ref17_without.p (P : Program) (N : Nat → Nat) (x0 : V) (x1 : List UInt8) (S : St) (K : V → St → Prop) : Prop :=
  Loop2 (fun (k1 : V → Int → St → Prop) (x5 : V) (x6 : Int) (S1 : St) => ∃ x9 : Int, lenV S1 2 x0 = some (V.int .i64 x9) ∧ ifC (decide (x6 < x9)) (ifS (idxAddrV 2 x0 (V.int .i64 x6)) fun x15 => ifS (fieldAddrV 0 x15) fun x16 => ∃ x17 : List UInt8, loadV S1 x16 = some (V.str x17) ∧ ifC (!decide (x17 = x1)) (ifS (idxAddrV 2 x0 (V.int .i64 x6)) fun x23 => ∃ x24_a : List UInt8, ∃ x24_b : Int, loadNV S1 2 x23 = some (V.agg [(V.str x24_a), (V.int .i64 x24_b)]) ∧ newS S1 (.cells [(V.str x24_a), (V.int .i64 x24_b)] true) fun S2 => ifP (appV S2 2 24 x5 (V.slice S1.next 0 1 1 2 true)) fun x26 S3 => setI (IntKind.i64.wrap (x6 + (1 : Int))) fun x12 => k1 x26 x12 S3) (setI (IntKind.i64.wrap (x6 + (1 : Int))) fun x12_1 => k1 x5 x12_1 S1)) (K x5 S1)) V.nilSlice 0 S
abbrev ref17_without.Ok (P : Program) (N : Nat → Nat) : Prop := Reads P (N Fn.ref17_without) [(5, (.dt (.one (.int .i64))), []), (5, (.dt (.one .str)), []), (6, (.dt (.agg [.str, (.int .i64)])), []), (0, (.dt (.agg [.str, (.int .i64)])), [])] [] [[(5, (.one .any)), (6, (.one (.int .i64)))]] (fun A T (x0 : V) (x1 : List UInt8) (S : St) (K : V → St → Prop) => wpT P (envP P) T (endT A.results [(.one .any)] K) (frT A [x0, (V.str x1)]) S) (fun x0 x1 S K => ref17_without.p P N x0 x1 S K)
theorem ref17_without.run {P : Program} {N : Nat → Nat} (hF : ref17_without.Ok P N) {x0 : V} {x1 : List UInt8} {S : St} {K : V → St → Prop} (h : ref17_without.p P N x0 x1 S K) : CallA P (N Fn.ref17_without) [x0, (V.str x1)] S (retT [(.one .any)] K) := hF.run (fun q => q x0 x1 S K) h rfl

def ref17_Disk_Create.p (P : Program) (N : Nat → Nat) (x0 : V) (x1 : List UInt8) (S : St) (K : Int → St → Prop) : Prop :=
  CallA P (N Fn.ref17_Disk_Down) [x0] S (retT [(.one .bool)] fun (x7 : Bool) (S1 : St) => ifC x7 (K 174 S1) (CallA P (N Fn.ref17_Name) [(V.str x1)] S1 (retT [(.one .bool)] fun (x10 : Bool) (S2 : St) => ifC (!x10) (K 170 S2) (nilV x0 = some x0 ∧ ifS (fieldAddrV 2 x0) fun x15 => ifS (loadV S2 x15) fun x16 => CallA P (N Fn.ref17_find) [x16, (V.str x1)] S2 (retT [(.one (.int .i64))] fun (x18 : Int) (S3 : St) => ifC (decide ((0 : Int) ≤ x18)) (K 171 S3) (nilV x0 = some x0 ∧ ifS (fieldAddrV 2 x0) fun x23 => ifS (loadV S3 x23) fun x24 => ∃ x25 : Int, lenV S3 2 x24 = some (V.int .i64 x25) ∧ ifC (decide ((64 : Int) ≤ x25)) (K 175 S3) (nilV x0 = some x0 ∧ ifS (fieldAddrV 1 x0) fun x30 => ifS (loadV S3 x30) fun x31 => newS S3 (.cells [V.nilSlice, (V.int .i64 0)] true) fun S4 => ifP (appV S4 2 32 x31 (V.slice S3.next 0 1 1 2 true)) fun x34 S5 => nilV x0 = some x0 ∧ ifS (fieldAddrV 1 x0) fun x36 => ifS (storeV S5 1 x36 x34) fun S6 => nilV x0 = some x0 ∧ ifS (fieldAddrV 1 x0) fun x41 => ifS (loadV S6 x41) fun x42 => ∃ x43 : Int, lenV S6 2 x42 = some (V.int .i64 x43) ∧ setI (IntKind.i64.wrap (x43 - (1 : Int))) fun x44 => CallA P (N Fn.ref17_Disk_change) [x0, (V.agg [(V.int .i64 1), (V.str ([] : List UInt8)), (V.str x1), (V.int .i64 x44)])] S6 (retT [(.one (.int .i64))] fun (x46 : Int) (S7 : St) => K x46 S7))))))))
abbrev ref17_Disk_Create.Ok (P : Program) (N : Nat → Nat) : Prop := Reads P (N Fn.ref17_Disk_Create) [(2, .no, [(.one .bool)]), (3, .no, [(.one .bool)]), (8, .no, [(.one (.int .i64))]), (7, (.dt (.one (.int .i64))), []), (8, (.dt (.agg [.any, (.int .i64)])), []), (0, (.dt (.agg [.any, (.int .i64)])), []), (10, (.dt (.one (.int .i64))), []), (1, (.dt (.agg [(.int .i64), .str, .str, (.int .i64)])), []), (0, .no, [(.one (.int .i64))])] [] [] (fun A T (x0 : V) (x1 : List UInt8) (S : St) (K : Int → St → Prop) => wpT P (envP P) T (endT A.results [(.one (.int .i64))] K) (frT A [x0, (V.str x1)]) S) (fun x0 x1 S K => ref17_Disk_Create.p P N x0 x1 S K)
theorem ref17_Disk_Create.run {P : Program} {N : Nat → Nat} (hF : ref17_Disk_Create.Ok P N) {x0 : V} {x1 : List UInt8} {S : St} {K : Int → St → Prop} (h : ref17_Disk_Create.p P N x0 x1 S K) : CallA P (N Fn.ref17_Disk_Create) [x0, (V.str x1)] S (retT [(.one (.int .i64))] K) := hF.run (fun q => q x0 x1 S K) h rfl

def ref17_Disk_Append.p (P : Program) (N : Nat → Nat) (x0 : V) (x1 : List UInt8) (x2 : V) (S : St) (K : Int → St → Prop) : Prop :=
  CallA P (N Fn.ref17_Disk_Down) [x0] S (retT [(.one .bool)] fun (x10 : Bool) (S1 : St) => ifC x10 (K 174 S1) (CallA P (N Fn.ref17_Disk_file) [x0, (V.str x1)] S1 (retT [(.one (.int .i64))] fun (x13 : Int) (S2 : St) => ifC (decide (x13 < (0 : Int))) (K 172 S2) (∃ x17 : Int, lenV S2 2 x2 = some (V.int .i64 x17) ∧ nilV x0 = some x0 ∧ ifS (fieldAddrV 0 x0) fun x20 => ∃ x21 : Int, loadV S2 x20 = some (V.int .i64 x21) ∧ CallA P (N Fn.ref17_Disk_Used) [x0] S2 (retT [(.one (.int .i64))] fun (x23 : Int) (S3 : St) => sameK (V.block x20 ++ (V.block x2 ++ [])) S2 S3 (setI (IntKind.i64.wrap (x21 - x23)) fun x24 => ifC (decide (x24 < x17)) (K 173 S3) (nilV x0 = some x0 ∧ ifS (fieldAddrV 1 x0) fun x29 => ifS (loadV S3 x29) fun x30 => ifS (idxAddrV 2 x30 (V.int .i64 x13)) fun x32 => ifS (fieldAddrV 0 x32) fun x33 => ifS (loadV S3 x33) fun x34 => ifP (appV S3 1 1 V.nilSlice x34) fun x35 S4 => nilV x0 = some x0 ∧ ifS (fieldAddrV 1 x0) fun x38 => ifS (loadV S4 x38) fun x39 => ifP (appV S4 1 1 x35 x2) fun x43 S5 => sameK (V.block x38 ++ []) S4 S5 (ifS (idxAddrV 2 x39 (V.int .i64 x13)) fun x44 => ifS (fieldAddrV 0 x44) fun x45 => ifS (storeV S5 1 x45 x43) fun S6 => CallA P (N Fn.ref17_Disk_step) [x0] S6 (retT [(.one (.int .i64))] fun (x47 : Int) (S7 : St) => K x47 S7)))))))))
abbrev ref17_Disk_Append.Ok (P : Program) (N : Nat → Nat) : Prop := Reads P (N Fn.ref17_Disk_Append) [(2, .no, [(.one .bool)]), (3, .no, [(.one (.int .i64))]), (5, (.dt (.one (.int .i64))), []), (3, (.dt (.one (.int .i64))), []), (1, .no, [(.one (.int .i64))]), (27, .no, [(.one (.int .i64))])] [] [] (fun A T (x0 : V) (x1 : List UInt8) (x2 : V) (S : St) (K : Int → St → Prop) => wpT P (envP P) T (endT A.results [(.one (.int .i64))] K) (frT A [x0, (V.str x1), x2]) S) (fun x0 x1 x2 S K => ref17_Disk_Append.p P N x0 x1 x2 S K)
theorem ref17_Disk_Append.run {P : Program} {N : Nat → Nat} (hF : ref17_Disk_Append.Ok P N) {x0 : V} {x1 : List UInt8} {x2 : V} {S : St} {K : Int → St → Prop} (h : ref17_Disk_Append.p P N x0 x1 x2 S K) : CallA P (N Fn.ref17_Disk_Append) [x0, (V.str x1), x2] S (retT [(.one (.int .i64))] K) := hF.run (fun q => q x0 x1 x2 S K) h rfl

def ref17_Disk_Sync.p (P : Program) (N : Nat → Nat) (x0 : V) (x1 : List UInt8) (S : St) (K : Int → St → Prop) : Prop :=
  CallA P (N Fn.ref17_Disk_Down) [x0] S (retT [(.one .bool)] fun (x7 : Bool) (S1 : St) => ifC x7 (K 174 S1) (CallA P (N Fn.ref17_Disk_file) [x0, (V.str x1)] S1 (retT [(.one (.int .i64))] fun (x10 : Int) (S2 : St) => ifC (decide (x10 < (0 : Int))) (K 172 S2) (nilV x0 = some x0 ∧ ifS (fieldAddrV 1 x0) fun x15 => ifS (loadV S2 x15) fun x16 => nilV x0 = some x0 ∧ ifS (fieldAddrV 1 x0) fun x20 => ifS (loadV S2 x20) fun x21 => ifS (idxAddrV 2 x21 (V.int .i64 x10)) fun x23 => ifS (fieldAddrV 0 x23) fun x24 => ifS (loadV S2 x24) fun x25 => ∃ x26 : Int, lenV S2 2 x25 = some (V.int .i64 x26) ∧ ifS (idxAddrV 2 x16 (V.int .i64 x10)) fun x27 => ifS (fieldAddrV 1 x27) fun x28 => ifS (storeV S2 1 x28 (V.int .i64 x26)) fun S3 => CallA P (N Fn.ref17_Disk_step) [x0] S3 (retT [(.one (.int .i64))] fun (x30 : Int) (S4 : St) => K x30 S4)))))
abbrev ref17_Disk_Sync.Ok (P : Program) (N : Nat → Nat) : Prop := Reads P (N Fn.ref17_Disk_Sync) [(2, .no, [(.one .bool)]), (3, .no, [(.one (.int .i64))]), (17, (.dt (.one (.int .i64))), []), (4, .no, [(.one (.int .i64))])] [] [] (fun A T (x0 : V) (x1 : List UInt8) (S : St) (K : Int → St → Prop) => wpT P (envP P) T (endT A.results [(.one (.int .i64))] K) (frT A [x0, (V.str x1)]) S) (fun x0 x1 S K => ref17_Disk_Sync.p P N x0 x1 S K)
theorem ref17_Disk_Sync.run {P : Program} {N : Nat → Nat} (hF : ref17_Disk_Sync.Ok P N) {x0 : V} {x1 : List UInt8} {S : St} {K : Int → St → Prop} (h : ref17_Disk_Sync.p P N x0 x1 S K) : CallA P (N Fn.ref17_Disk_Sync) [x0, (V.str x1)] S (retT [(.one (.int .i64))] K) := hF.run (fun q => q x0 x1 S K) h rfl

def ref17_Disk_Rename.p (P : Program) (N : Nat → Nat) (x0 : V) (x1 : List UInt8) (x2 : List UInt8) (S : St) (K : Int → St → Prop) : Prop :=
  CallA P (N Fn.ref17_Disk_Down) [x0] S (retT [(.one .bool)] fun (x9 : Bool) (S1 : St) => ifC x9 (K 174 S1) (CallA P (N Fn.ref17_Disk_file) [x0, (V.str x1)] S1 (retT [(.one (.int .i64))] fun (x12 : Int) (S2 : St) => ifC (decide (x12 < (0 : Int))) (K 172 S2) (CallA P (N Fn.ref17_Name) [(V.str x2)] S2 (retT [(.one .bool)] fun (x16 : Bool) (S3 : St) => ifC (!x16) (K 170 S3) (CallA P (N Fn.ref17_Disk_change) [x0, (V.agg [(V.int .i64 2), (V.str x1), (V.str x2), (V.int .i64 x12)])] S3 (retT [(.one (.int .i64))] fun (x23 : Int) (S4 : St) => K x23 S4)))))))
abbrev ref17_Disk_Rename.Ok (P : Program) (N : Nat → Nat) : Prop := Reads P (N Fn.ref17_Disk_Rename) [(2, .no, [(.one .bool)]), (3, .no, [(.one (.int .i64))]), (5, .no, [(.one .bool)]), (6, (.dt (.agg [(.int .i64), .str, .str, (.int .i64)])), []), (0, .no, [(.one (.int .i64))])] [] [] (fun A T (x0 : V) (x1 : List UInt8) (x2 : List UInt8) (S : St) (K : Int → St → Prop) => wpT P (envP P) T (endT A.results [(.one (.int .i64))] K) (frT A [x0, (V.str x1), (V.str x2)]) S) (fun x0 x1 x2 S K => ref17_Disk_Rename.p P N x0 x1 x2 S K)
theorem ref17_Disk_Rename.run {P : Program} {N : Nat → Nat} (hF : ref17_Disk_Rename.Ok P N) {x0 : V} {x1 : List UInt8} {x2 : List UInt8} {S : St} {K : Int → St → Prop} (h : ref17_Disk_Rename.p P N x0 x1 x2 S K) : CallA P (N Fn.ref17_Disk_Rename) [x0, (V.str x1), (V.str x2)] S (retT [(.one (.int .i64))] K) := hF.run (fun q => q x0 x1 x2 S K) h rfl

def ref17_Disk_Remove.p (P : Program) (N : Nat → Nat) (x0 : V) (x1 : List UInt8) (S : St) (K : Int → St → Prop) : Prop :=
  CallA P (N Fn.ref17_Disk_Down) [x0] S (retT [(.one .bool)] fun (x6 : Bool) (S1 : St) => ifC x6 (K 174 S1) (CallA P (N Fn.ref17_Disk_file) [x0, (V.str x1)] S1 (retT [(.one (.int .i64))] fun (x9 : Int) (S2 : St) => ifC (decide (x9 < (0 : Int))) (K 172 S2) (CallA P (N Fn.ref17_Disk_change) [x0, (V.agg [(V.int .i64 3), (V.str x1), (V.str ([] : List UInt8)), (V.int .i64 0)])] S2 (retT [(.one (.int .i64))] fun (x14 : Int) (S3 : St) => K x14 S3)))))
abbrev ref17_Disk_Remove.Ok (P : Program) (N : Nat → Nat) : Prop := Reads P (N Fn.ref17_Disk_Remove) [(2, .no, [(.one .bool)]), (3, .no, [(.one (.int .i64))]), (4, (.dt (.agg [(.int .i64), .str, .str, (.int .i64)])), []), (0, .no, [(.one (.int .i64))])] [] [] (fun A T (x0 : V) (x1 : List UInt8) (S : St) (K : Int → St → Prop) => wpT P (envP P) T (endT A.results [(.one (.int .i64))] K) (frT A [x0, (V.str x1)]) S) (fun x0 x1 S K => ref17_Disk_Remove.p P N x0 x1 S K)
theorem ref17_Disk_Remove.run {P : Program} {N : Nat → Nat} (hF : ref17_Disk_Remove.Ok P N) {x0 : V} {x1 : List UInt8} {S : St} {K : Int → St → Prop} (h : ref17_Disk_Remove.p P N x0 x1 S K) : CallA P (N Fn.ref17_Disk_Remove) [x0, (V.str x1)] S (retT [(.one (.int .i64))] K) := hF.run (fun q => q x0 x1 S K) h rfl

def ref17_Disk_SyncDir.p (P : Program) (N : Nat → Nat) (x0 : V) (S : St) (K : Int → St → Prop) : Prop :=
  CallA P (N Fn.ref17_Disk_Down) [x0] S (retT [(.one .bool)] fun (x4 : Bool) (S1 : St) => ifC x4 (K 174 S1) (nilV x0 = some x0 ∧ ifS (fieldAddrV 2 x0) fun x8 => ifS (loadV S1 x8) fun x9 => CallA P (N Fn.ref17_without) [x9, (V.str ([] : List UInt8))] S1 (retT [(.one .any)] fun (x10 : V) (S2 : St) => nilV x0 = some x0 ∧ ifS (fieldAddrV 3 x0) fun x12 => ifS (storeV S2 1 x12 x10) fun S3 => nilV x0 = some x0 ∧ ifS (fieldAddrV 4 x0) fun x15 => ifS (storeV S3 1 x15 V.nilSlice) fun S4 => CallA P (N Fn.ref17_Disk_step) [x0] S4 (retT [(.one (.int .i64))] fun (x17 : Int) (S5 : St) => K x17 S5))))
abbrev ref17_Disk_SyncDir.Ok (P : Program) (N : Nat → Nat) : Prop := Reads P (N Fn.ref17_Disk_SyncDir) [(2, .no, [(.one .bool)]), (6, .no, [(.one .any)]), (8, .no, [(.one (.int .i64))])] [] [] (fun A T (x0 : V) (S : St) (K : Int → St → Prop) => wpT P (envP P) T (endT A.results [(.one (.int .i64))] K) (frT A [x0]) S) (fun x0 S K => ref17_Disk_SyncDir.p P N x0 S K)
theorem ref17_Disk_SyncDir.run {P : Program} {N : Nat → Nat} (hF : ref17_Disk_SyncDir.Ok P N) {x0 : V} {S : St} {K : Int → St → Prop} (h : ref17_Disk_SyncDir.p P N x0 S K) : CallA P (N Fn.ref17_Disk_SyncDir) [x0] S (retT [(.one (.int .i64))] K) := hF.run (fun q => q x0 S K) h rfl

def ref17_Disk_Stop.p (P : Program) (N : Nat → Nat) (x0 : V) (x1 : Int) (S : St) (K : Int → St → Prop) : Prop :=
  CallA P (N Fn.ref17_Disk_Down) [x0] S (retT [(.one .bool)] fun (x6 : Bool) (S1 : St) => ifC x6 (K 174 S1) (ifC (decide (x1 < (0 : Int))) (K 1 S1) (nilV x0 = some x0 ∧ ifS (fieldAddrV 6 x0) fun x12 => ifS (storeV S1 1 x12 (V.int .i64 x1)) fun S2 => K 0 S2)))
abbrev ref17_Disk_Stop.Ok (P : Program) (N : Nat → Nat) : Prop := Reads P (N Fn.ref17_Disk_Stop) [(2, .no, [(.one .bool)])] [] [] (fun A T (x0 : V) (x1 : Int) (S : St) (K : Int → St → Prop) => wpT P (envP P) T (endT A.results [(.one (.int .i64))] K) (frT A [x0, (V.int .i64 x1)]) S) (fun x0 x1 S K => ref17_Disk_Stop.p P N x0 x1 S K)
theorem ref17_Disk_Stop.run {P : Program} {N : Nat → Nat} (hF : ref17_Disk_Stop.Ok P N) {x0 : V} {x1 : Int} {S : St} {K : Int → St → Prop} (h : ref17_Disk_Stop.p P N x0 x1 S K) : CallA P (N Fn.ref17_Disk_Stop) [x0, (V.int .i64 x1)] S (retT [(.one (.int .i64))] K) := hF.run (fun q => q x0 x1 S K) h rfl

def ref17_Disk_Crash.p (P : Program) (N : Nat → Nat) (x0 : V) (x1 : V) (S : St) (K : St → Prop) : Prop :=
  nilV x0 = some x0 ∧ ifS (fieldAddrV 6 x0) fun x15 => ifS (storeV S 1 x15 (V.int .i64 (-1))) fun S1 => nilV x0 = some x0 ∧ ifS (fieldAddrV 3 x0) fun x18 => ifS (loadV S1 x18) fun x19 => nilV x0 = some x0 ∧ ifS (fieldAddrV 4 x0) fun x24 => ifS (loadV S1 x24) fun x25 => ∃ x26 : Int, lenV S1 2 x25 = some (V.int .i64 x26) ∧ CallA P (N Fn.ref17_choice) [x1, (V.int .i64 0)] S1 (retT [(.one (.int .i64))] fun (x21 : Int) (S2 : St) => sameK (V.block x25 ++ (V.block x24 ++ [])) S1 S2 (CallA P (N Fn.ref17_says) [(V.int .i64 x21), (V.int .i64 x26)] S2 (retT [(.one (.int .i64))] fun (x27 : Int) (S3 : St) => sameK (V.block x24 ++ []) S2 S3 (Loop2 (fun (k1 : V → Int → St → Prop) (x4 : V) (x6 : Int) (S4 : St) => ifC (decide (x6 < x27)) (nilV x0 = some x0 ∧ ifS (fieldAddrV 4 x0) fun x36 => ifS (loadV S4 x36) fun x37 => ifS (idxAddrV 4 x37 (V.int .i64 x6)) fun x39 => ∃ x40_a : Int, ∃ x40_b : List UInt8, ∃ x40_c : List UInt8, ∃ x40_d : Int, loadNV S4 4 x39 = some (V.agg [(V.int .i64 x40_a), (V.str x40_b), (V.str x40_c), (V.int .i64 x40_d)]) ∧ CallA P (N Fn.ref17_apply) [x4, (V.agg [(V.int .i64 x40_a), (V.str x40_b), (V.str x40_c), (V.int .i64 x40_d)])] S4 (retT [(.one .any)] fun (x41 : V) (S5 : St) => setI (IntKind.i64.wrap (x6 + (1 : Int))) fun x32 => k1 x41 x32 S5)) (CallA P (N Fn.ref17_without) [x4, (V.str ([] : List UInt8))] S4 (retT [(.one .any)] fun (x44 : V) (S6 : St) => nilV x0 = some x0 ∧ ifS (fieldAddrV 2 x0) fun x46 => ifS (storeV S6 1 x46 x44) fun S7 => Loop1 (fun (k2 : Int → St → Prop) (x7 : Int) (S8 : St) => nilV x0 = some x0 ∧ ifS (fieldAddrV 2 x0) fun x50 => ifS (loadV S8 x50) fun x51 => ∃ x52 : Int, lenV S8 2 x51 = some (V.int .i64 x52) ∧ ifC (decide (x7 < x52)) (nilV x0 = some x0 ∧ ifS (fieldAddrV 1 x0) fun x58 => ifS (loadV S8 x58) fun x59 => nilV x0 = some x0 ∧ ifS (fieldAddrV 2 x0) fun x62 => ifS (loadV S8 x62) fun x63 => ifS (idxAddrV 2 x63 (V.int .i64 x7)) fun x65 => ifS (fieldAddrV 1 x65) fun x66 => ∃ x67 : Int, loadV S8 x66 = some (V.int .i64 x67) ∧ ifS (idxAddrV 2 x59 (V.int .i64 x67)) fun x68 => ∃ x69_a : V, ∃ x69_b : Int, loadNV S8 2 x68 = some (V.agg [x69_a, (V.int .i64 x69_b)]) ∧ newS S8 (.cells [V.nilSlice, (V.int .i64 0)] true) fun S9 => sameK (V.block x68 ++ (V.block x66 ++ (V.block x62 ++ (V.block x58 ++ [])))) S8 S9 (ifS (storeV S9 2 (V.ptr S8.next 0) (V.agg [x69_a, (V.int .i64 x69_b)])) fun S10 => setI (IntKind.i64.wrap (x7 + (1 : Int))) fun x72 => CallA P (N Fn.ref17_choice) [x1, (V.int .i64 x72)] S10 (retT [(.one (.int .i64))] fun (x73 : Int) (S11 : St) => ifS (loadV S11 (V.ptr S8.next 0)) fun x76 => ∃ x77 : Int, lenV S11 2 x76 = some (V.int .i64 x77) ∧ ∃ x79 : Int, loadV S11 (V.ptr S8.next 1) = some (V.int .i64 x79) ∧ setI (IntKind.i64.wrap (x77 - x79)) fun x80 => CallA P (N Fn.ref17_says) [(V.int .i64 x73), (V.int .i64 x80)] S11 (retT [(.one (.int .i64))] fun (x81 : Int) (S12 : St) => ifS (loadV S12 (V.ptr S8.next 0)) fun x84 => ∃ x86 : Int, loadV S12 (V.ptr S8.next 1) = some (V.int .i64 x86) ∧ setI (IntKind.i64.wrap (x86 + x81)) fun x88 => ifS (sliceSlV 1 x84 none (some (V.int .i64 x88)) none) fun x89 => ifP (appV S12 1 1 V.nilSlice x89) fun x90 S13 => Join0 (fun (k3 : St → Prop) => ∃ x92 : Int, loadV S13 (V.ptr S8.next 1) = some (V.int .i64 x92) ∧ Loop1 (fun (k4 : Int → St → Prop) (x12 : Int) (S15 : St) => Join0 (fun (k5 : St → Prop) => ∃ x95 : Int, lenV S15 2 x90 = some (V.int .i64 x95) ∧ ifC (decide (x12 < x95)) (ifC (decide (x73 < (0 : Int))) (k5  S15) (k3  S15)) (k3  S15)) (fun (S16 : St) => ifS (idxAddrV 1 x90 (V.int .i64 x12)) fun x105 => ifS (storeV S16 1 x105 (V.int .u8 0)) fun S17 => setI (IntKind.i64.wrap (x12 + (1 : Int))) fun x102 => k4 x102 S17)) x92 S13) (fun (S14 : St) => nilV x0 = some x0 ∧ ifS (fieldAddrV 1 x0) fun x108 => ifS (loadV S14 x108) fun x109 => nilV x0 = some x0 ∧ ifS (fieldAddrV 2 x0) fun x112 => ifS (loadV S14 x112) fun x113 => ifS (idxAddrV 2 x113 (V.int .i64 x7)) fun x115 => ifS (fieldAddrV 1 x115) fun x116 => ∃ x117 : Int, loadV S14 x116 = some (V.int .i64 x117) ∧ ∃ x120 : Int, lenV S14 2 x90 = some (V.int .i64 x120) ∧ V.cells x90 = [x90] ∧ ifS (idxAddrV 2 x109 (V.int .i64 x117)) fun x122 => ifS (storeV S14 2 x122 (V.agg [x90, (V.int .i64 x120)])) fun S18 => setI (IntKind.i64.wrap (x7 + (1 : Int))) fun x55 => k2 x55 S18))))) (nilV x0 = some x0 ∧ ifS (fieldAddrV 2 x0) fun x126 => ifS (loadV S8 x126) fun x127 => CallA P (N Fn.ref17_without) [x127, (V.str ([] : List UInt8))] S8 (retT [(.one .any)] fun (x128 : V) (S19 : St) => nilV x0 = some x0 ∧ ifS (fieldAddrV 3 x0) fun x130 => ifS (storeV S19 1 x130 x128) fun S20 => nilV x0 = some x0 ∧ ifS (fieldAddrV 4 x0) fun x133 => ifS (storeV S20 1 x133 V.nilSlice) fun S21 => K  S21))) 0 S7))) x19 0 S3))))
abbrev ref17_Disk_Crash.Ok (P : Program) (N : Nat → Nat) : Prop := Reads P (N Fn.ref17_Disk_Crash) [(14, (.dt (.one (.int .i64))), []), (0, .no, [(.one (.int .i64))]), (0, .no, [(.one (.int .i64))]), (12, (.dt (.agg [(.int .i64), .str, .str, (.int .i64)])), []), (0, .no, [(.one .any)]), (6, .no, [(.one .any)]), (9, (.dt (.one (.int .i64))), []), (12, (.dt (.one (.int .i64))), []), (1, (.dt (.agg [.any, (.int .i64)])), []), (5, .no, [(.one (.int .i64))]), (4, (.dt (.one (.int .i64))), []), (1, (.dt (.one (.int .i64))), []), (1, .no, [(.one (.int .i64))]), (6, (.dt (.one (.int .i64))), []), (6, (.dt (.one (.int .i64))), []), (3, (.dt (.one (.int .i64))), []), (23, (.dt (.one (.int .i64))), []), (2, (.dt (.one (.int .i64))), []), (0, (.dt (.agg [.any, (.int .i64)])), []), (10, .no, [(.one .any)])] [(19, []), (1, [])] [[(4, (.one .any)), (6, (.one (.int .i64)))], [(7, (.one (.int .i64)))], [(12, (.one (.int .i64)))]] (fun A T (x0 : V) (x1 : V) (S : St) (K : St → Prop) => wpT P (envP P) T (endT A.results [] K) (frT A [x0, x1]) S) (fun x0 x1 S K => ref17_Disk_Crash.p P N x0 x1 S K)
theorem ref17_Disk_Crash.run {P : Program} {N : Nat → Nat} (hF : ref17_Disk_Crash.Ok P N) {x0 : V} {x1 : V} {S : St} {K : St → Prop} (h : ref17_Disk_Crash.p P N x0 x1 S K) : CallA P (N Fn.ref17_Disk_Crash) [x0, x1] S (retT [] K) := hF.run (fun q => q x0 x1 S K) h rfl

def ref17_Disk_file.p (P : Program) (N : Nat → Nat) (x0 : V) (x1 : List UInt8) (S : St) (K : Int → St → Prop) : Prop :=
  nilV x0 = some x0 ∧ ifS (fieldAddrV 2 x0) fun x8 => ifS (loadV S x8) fun x9 => CallA P (N Fn.ref17_find) [x9, (V.str x1)] S (retT [(.one (.int .i64))] fun (x11 : Int) (S1 : St) => ifC (decide (x11 < (0 : Int))) (K (-1) S1) (nilV x0 = some x0 ∧ ifS (fieldAddrV 2 x0) fun x16 => ifS (loadV S1 x16) fun x17 => ifS (idxAddrV 2 x17 (V.int .i64 x11)) fun x19 => ifS (fieldAddrV 1 x19) fun x20 => ∃ x21 : Int, loadV S1 x20 = some (V.int .i64 x21) ∧ K x21 S1))
abbrev ref17_Disk_file.Ok (P : Program) (N : Nat → Nat) : Prop := Reads P (N Fn.ref17_Disk_file) [(6, .no, [(.one (.int .i64))]), (11, (.dt (.one (.int .i64))), [])] [] [] (fun A T (x0 : V) (x1 : List UInt8) (S : St) (K : Int → St → Prop) => wpT P (envP P) T (endT A.results [(.one (.int .i64))] K) (frT A [x0, (V.str x1)]) S) (fun x0 x1 S K => ref17_Disk_file.p P N x0 x1 S K)
theorem ref17_Disk_file.run {P : Program} {N : Nat → Nat} (hF : ref17_Disk_file.Ok P N) {x0 : V} {x1 : List UInt8} {S : St} {K : Int → St → Prop} (h : ref17_Disk_file.p P N x0 x1 S K) : CallA P (N Fn.ref17_Disk_file) [x0, (V.str x1)] S (retT [(.one (.int .i64))] K) := hF.run (fun q => q x0 x1 S K) h rfl

def ref17_Name.p (P : Program) (N : Nat → Nat) (x0 : List UInt8) (S : St) (K : Bool → St → Prop) : Prop :=
  Join0 (fun (k1 : St → Prop) => ifC (decide ((x0.length : Int) < (1 : Int))) (K false S) (ifC (decide ((32 : Int) < (x0.length : Int))) (K false S) (k1  S))) (fun (S1 : St) => Loop1 (fun (k2 : Int → St → Prop) (x3 : Int) (S2 : St) => ifC (decide (x3 < (x0.length : Int))) (∃ x21 : Int, idxStrV (V.str x0) (V.int .i64 x3) = some (V.int .u8 x21) ∧ ifC (decide (x21 < (97 : Int))) (ifC (decide (x21 < (48 : Int))) (ifC (!decide (x21 = (46 : Int))) (ifC (!decide (x21 = (45 : Int))) (K false S2) (setI (IntKind.i64.wrap (x3 + (1 : Int))) fun x18 => k2 x18 S2)) (setI (IntKind.i64.wrap (x3 + (1 : Int))) fun x18_1 => k2 x18_1 S2)) (ifC (decide ((57 : Int) < x21)) (ifC (!decide (x21 = (46 : Int))) (ifC (!decide (x21 = (45 : Int))) (K false S2) (setI (IntKind.i64.wrap (x3 + (1 : Int))) fun x18_2 => k2 x18_2 S2)) (setI (IntKind.i64.wrap (x3 + (1 : Int))) fun x18_3 => k2 x18_3 S2)) (setI (IntKind.i64.wrap (x3 + (1 : Int))) fun x18_4 => k2 x18_4 S2))) (ifC (decide ((122 : Int) < x21)) (ifC (decide (x21 < (48 : Int))) (ifC (!decide (x21 = (46 : Int))) (ifC (!decide (x21 = (45 : Int))) (K false S2) (setI (IntKind.i64.wrap (x3 + (1 : Int))) fun x18_5 => k2 x18_5 S2)) (setI (IntKind.i64.wrap (x3 + (1 : Int))) fun x18_6 => k2 x18_6 S2)) (ifC (decide ((57 : Int) < x21)) (ifC (!decide (x21 = (46 : Int))) (ifC (!decide (x21 = (45 : Int))) (K false S2) (setI (IntKind.i64.wrap (x3 + (1 : Int))) fun x18_7 => k2 x18_7 S2)) (setI (IntKind.i64.wrap (x3 + (1 : Int))) fun x18_8 => k2 x18_8 S2)) (setI (IntKind.i64.wrap (x3 + (1 : Int))) fun x18_9 => k2 x18_9 S2))) (setI (IntKind.i64.wrap (x3 + (1 : Int))) fun x18_10 => k2 x18_10 S2))) (K true S2)) 0 S1)
abbrev ref17_Name.Ok (P : Program) (N : Nat → Nat) : Prop := Reads P (N Fn.ref17_Name) [(17, (.dt (.one (.int .u8))), [])] [(1, [])] [[(3, (.one (.int .i64)))]] (fun A T (x0 : List UInt8) (S : St) (K : Bool → St → Prop) => wpT P (envP P) T (endT A.results [(.one .bool)] K) (frT A [(V.str x0)]) S) (fun x0 S K => ref17_Name.p P N x0 S K)
theorem ref17_Name.run {P : Program} {N : Nat → Nat} (hF : ref17_Name.Ok P N) {x0 : List UInt8} {S : St} {K : Bool → St → Prop} (h : ref17_Name.p P N x0 S K) : CallA P (N Fn.ref17_Name) [(V.str x0)] S (retT [(.one .bool)] K) := hF.run (fun q => q x0 S K) h rfl

def ref17_find.p (P : Program) (N : Nat → Nat) (x0 : V) (x1 : List UInt8) (S : St) (K : Int → St → Prop) : Prop :=
  Loop1 (fun (k1 : Int → St → Prop) (x5 : Int) (S1 : St) => ∃ x8 : Int, lenV S1 2 x0 = some (V.int .i64 x8) ∧ ifC (decide (x5 < x8)) (ifS (idxAddrV 2 x0 (V.int .i64 x5)) fun x14 => ifS (fieldAddrV 0 x14) fun x15 => ∃ x16 : List UInt8, loadV S1 x15 = some (V.str x16) ∧ ifC (decide (x16 = x1)) (K x5 S1) (setI (IntKind.i64.wrap (x5 + (1 : Int))) fun x11 => k1 x11 S1)) (K (-1) S1)) 0 S
abbrev ref17_find.Ok (P : Program) (N : Nat → Nat) : Prop := Reads P (N Fn.ref17_find) [(4, (.dt (.one (.int .i64))), []), (5, (.dt (.one .str)), [])] [] [[(5, (.one (.int .i64)))]] (fun A T (x0 : V) (x1 : List UInt8) (S : St) (K : Int → St → Prop) => wpT P (envP P) T (endT A.results [(.one (.int .i64))] K) (frT A [x0, (V.str x1)]) S) (fun x0 x1 S K => ref17_find.p P N x0 x1 S K)
theorem ref17_find.run {P : Program} {N : Nat → Nat} (hF : ref17_find.Ok P N) {x0 : V} {x1 : List UInt8} {S : St} {K : Int → St → Prop} (h : ref17_find.p P N x0 x1 S K) : CallA P (N Fn.ref17_find) [x0, (V.str x1)] S (retT [(.one (.int .i64))] K) := hF.run (fun q => q x0 x1 S K) h rfl

def ref17_Disk_change.p (P : Program) (N : Nat → Nat) (x0 : V) (x1_a : Int) (x1_b : List UInt8) (x1_c : List UInt8) (x1_d : Int) (S : St) (K : Int → St → Prop) : Prop :=
  newS S (.cells [(V.int .i64 x1_a), (V.str x1_b), (V.str x1_c), (V.int .i64 x1_d)] true) fun S1 => nilV x0 = some x0 ∧ ifS (fieldAddrV 2 x0) fun x8 => ifS (loadV S1 x8) fun x9 => ∃ x10_a : Int, ∃ x10_b : List UInt8, ∃ x10_c : List UInt8, ∃ x10_d : Int, loadNV S1 4 (V.ptr S.next 0) = some (V.agg [(V.int .i64 x10_a), (V.str x10_b), (V.str x10_c), (V.int .i64 x10_d)]) ∧ CallA P (N Fn.ref17_apply) [x9, (V.agg [(V.int .i64 x10_a), (V.str x10_b), (V.str x10_c), (V.int .i64 x10_d)])] S1 (retT [(.one .any)] fun (x11 : V) (S2 : St) => nilV x0 = some x0 ∧ ifS (fieldAddrV 2 x0) fun x13 => ifS (storeV S2 1 x13 x11) fun S3 => nilV x0 = some x0 ∧ ifS (fieldAddrV 4 x0) fun x17 => ifS (loadV S3 x17) fun x18 => ∃ x19_a : Int, ∃ x19_b : List UInt8, ∃ x19_c : List UInt8, ∃ x19_d : Int, loadNV S3 4 (V.ptr S.next 0) = some (V.agg [(V.int .i64 x19_a), (V.str x19_b), (V.str x19_c), (V.int .i64 x19_d)]) ∧ newS S3 (.cells [(V.int .i64 x19_a), (V.str x19_b), (V.str x19_c), (V.int .i64 x19_d)] true) fun S4 => sameK (V.block x17 ++ []) S3 S4 (ifP (appV S4 4 48 x18 (V.slice S3.next 0 1 1 4 true)) fun x21 S5 => nilV x0 = some x0 ∧ ifS (fieldAddrV 4 x0) fun x23 => ifS (storeV S5 1 x23 x21) fun S6 => CallA P (N Fn.ref17_Disk_step) [x0] S6 (retT [(.one (.int .i64))] fun (x25 : Int) (S7 : St) => K x25 S7)))
abbrev ref17_Disk_change.Ok (P : Program) (N : Nat → Nat) : Prop := Reads P (N Fn.ref17_Disk_change) [(7, (.dt (.agg [(.int .i64), .str, .str, (.int .i64)])), []), (0, .no, [(.one .any)]), (8, (.dt (.agg [(.int .i64), .str, .str, (.int .i64)])), []), (0, (.dt (.agg [(.int .i64), .str, .str, (.int .i64)])), []), (5, .no, [(.one (.int .i64))])] [] [] (fun A T (x0 : V) (x1_a : Int) (x1_b : List UInt8) (x1_c : List UInt8) (x1_d : Int) (S : St) (K : Int → St → Prop) => wpT P (envP P) T (endT A.results [(.one (.int .i64))] K) (frT A [x0, (V.agg [(V.int .i64 x1_a), (V.str x1_b), (V.str x1_c), (V.int .i64 x1_d)])]) S) (fun x0 x1_a x1_b x1_c x1_d S K => ref17_Disk_change.p P N x0 x1_a x1_b x1_c x1_d S K)
theorem ref17_Disk_change.run {P : Program} {N : Nat → Nat} (hF : ref17_Disk_change.Ok P N) {x0 : V} {x1_a : Int} {x1_b : List UInt8} {x1_c : List UInt8} {x1_d : Int} {S : St} {K : Int → St → Prop} (h : ref17_Disk_change.p P N x0 x1_a x1_b x1_c x1_d S K) : CallA P (N Fn.ref17_Disk_change) [x0, (V.agg [(V.int .i64 x1_a), (V.str x1_b), (V.str x1_c), (V.int .i64 x1_d)])] S (retT [(.one (.int .i64))] K) := hF.run (fun q => q x0 x1_a x1_b x1_c x1_d S K) h rfl

def ref17_Disk_step.p (P : Program) (N : Nat → Nat) (x0 : V) (S : St) (K : Int → St → Prop) : Prop :=
  nilV x0 = some x0 ∧ ifS (fieldAddrV 5 x0) fun x5 => ∃ x6 : Int, loadV S x5 = some (V.int .i64 x6) ∧ setI (IntKind.i64.wrap (x6 + (1 : Int))) fun x7 => nilV x0 = some x0 ∧ ifS (fieldAddrV 5 x0) fun x9 => ifS (storeV S 1 x9 (V.int .i64 x7)) fun S1 => nilV x0 = some x0 ∧ ifS (fieldAddrV 6 x0) fun x12 => ∃ x13 : Int, loadV S1 x12 = some (V.int .i64 x13) ∧ ifC (decide ((0 : Int) < x13)) (nilV x0 = some x0 ∧ ifS (fieldAddrV 6 x0) fun x17 => ∃ x18 : Int, loadV S1 x17 = some (V.int .i64 x18) ∧ setI (IntKind.i64.wrap (x18 - (1 : Int))) fun x19 => nilV x0 = some x0 ∧ ifS (fieldAddrV 6 x0) fun x21 => ifS (storeV S1 1 x21 (V.int .i64 x19)) fun S2 => K 0 S2) (K 0 S1)
abbrev ref17_Disk_step.Ok (P : Program) (N : Nat → Nat) : Prop := Reads P (N Fn.ref17_Disk_step) [(4, (.dt (.one (.int .i64))), []), (7, (.dt (.one (.int .i64))), []), (4, (.dt (.one (.int .i64))), [])] [] [] (fun A T (x0 : V) (S : St) (K : Int → St → Prop) => wpT P (envP P) T (endT A.results [(.one (.int .i64))] K) (frT A [x0]) S) (fun x0 S K => ref17_Disk_step.p P N x0 S K)
theorem ref17_Disk_step.run {P : Program} {N : Nat → Nat} (hF : ref17_Disk_step.Ok P N) {x0 : V} {S : St} {K : Int → St → Prop} (h : ref17_Disk_step.p P N x0 S K) : CallA P (N Fn.ref17_Disk_step) [x0] S (retT [(.one (.int .i64))] K) := hF.run (fun q => q x0 S K) h rfl

def ref17_says.p (P : Program) (N : Nat → Nat) (x0 : Int) (x1 : Int) (S : St) (K : Int → St → Prop) : Prop :=
  Join1 (fun (k1 : Int → St → Prop) => ifC (decide (x0 < (0 : Int))) (setI (IntKind.i64.wrap (x0 + (1 : Int))) fun x8 => setI (IntKind.i64.wrap (0 - x8)) fun x9 => k1 x9 S) (k1 x0 S)) (fun (x0_1 : Int) (S1 : St) => setI (IntKind.i64.wrap (x1 + (1 : Int))) fun x12 => x12 ≠ 0 ∧ setI (Int.tmod x0_1 x12) fun x13 => K x13 S1)
abbrev ref17_says.Ok (P : Program) (N : Nat → Nat) : Prop := Reads P (N Fn.ref17_says) [] [(1, [(0, (.one (.int .i64)))])] [] (fun A T (x0 : Int) (x1 : Int) (S : St) (K : Int → St → Prop) => wpT P (envP P) T (endT A.results [(.one (.int .i64))] K) (frT A [(V.int .i64 x0), (V.int .i64 x1)]) S) (fun x0 x1 S K => ref17_says.p P N x0 x1 S K)
theorem ref17_says.run {P : Program} {N : Nat → Nat} (hF : ref17_says.Ok P N) {x0 : Int} {x1 : Int} {S : St} {K : Int → St → Prop} (h : ref17_says.p P N x0 x1 S K) : CallA P (N Fn.ref17_says) [(V.int .i64 x0), (V.int .i64 x1)] S (retT [(.one (.int .i64))] K) := hF.run (fun q => q x0 x1 S K) h rfl

def ref17_choice.p (P : Program) (N : Nat → Nat) (x0 : V) (x1 : Int) (S : St) (K : Int → St → Prop) : Prop :=
  ∃ x7 : Int, lenV S 2 x0 = some (V.int .i64 x7) ∧ ifC (decide (x1 < x7)) (ifS (idxAddrV 1 x0 (V.int .i64 x1)) fun x11 => ∃ x12 : Int, loadV S x11 = some (V.int .i64 x12) ∧ K x12 S) (K 0 S)
abbrev ref17_choice.Ok (P : Program) (N : Nat → Nat) : Prop := Reads P (N Fn.ref17_choice) [(3, (.dt (.one (.int .i64))), []), (4, (.dt (.one (.int .i64))), [])] [] [] (fun A T (x0 : V) (x1 : Int) (S : St) (K : Int → St → Prop) => wpT P (envP P) T (endT A.results [(.one (.int .i64))] K) (frT A [x0, (V.int .i64 x1)]) S) (fun x0 x1 S K => ref17_choice.p P N x0 x1 S K)
theorem ref17_choice.run {P : Program} {N : Nat → Nat} (hF : ref17_choice.Ok P N) {x0 : V} {x1 : Int} {S : St} {K : Int → St → Prop} (h : ref17_choice.p P N x0 x1 S K) : CallA P (N Fn.ref17_choice) [x0, (V.int .i64 x1)] S (retT [(.one (.int .i64))] K) := hF.run (fun q => q x0 x1 S K) h rfl

def ref17_apply.p (P : Program) (N : Nat → Nat) (x0 : V) (x1_a : Int) (x1_b : List UInt8) (x1_c : List UInt8) (x1_d : Int) (S : St) (K : V → St → Prop) : Prop :=
  newS S (.cells [(V.int .i64 x1_a), (V.str x1_b), (V.str x1_c), (V.int .i64 x1_d)] true) fun S1 => ∃ x6 : Int, loadV S1 (V.ptr S.next 0) = some (V.int .i64 x6) ∧ ifC (decide (x6 = (1 : Int))) (∃ x11 : List UInt8, loadV S1 (V.ptr S.next 2) = some (V.str x11) ∧ ∃ x14 : List UInt8, loadV S1 (V.ptr S.next 2) = some (V.str x14) ∧ ∃ x16 : Int, loadV S1 (V.ptr S.next 3) = some (V.int .i64 x16) ∧ CallA P (N Fn.ref17_without) [x0, (V.str x11)] S1 (retT [(.one .any)] fun (x12 : V) (S2 : St) => Same (S.next :: (S.next :: [])) S1 S2 ∧ CallA P (N Fn.ref17_with) [x12, (V.agg [(V.str x14), (V.int .i64 x16)])] S2 (retT [(.one .any)] fun (x18 : V) (S3 : St) => Same (S.next :: (S.next :: (S.next :: []))) S2 S3 ∧ K x18 S3))) (ifC (decide (x6 = (2 : Int))) (∃ x23 : List UInt8, loadV S1 (V.ptr S.next 1) = some (V.str x23) ∧ ∃ x26 : List UInt8, loadV S1 (V.ptr S.next 2) = some (V.str x26) ∧ ∃ x29 : List UInt8, loadV S1 (V.ptr S.next 2) = some (V.str x29) ∧ ∃ x31 : Int, loadV S1 (V.ptr S.next 3) = some (V.int .i64 x31) ∧ CallA P (N Fn.ref17_without) [x0, (V.str x23)] S1 (retT [(.one .any)] fun (x24 : V) (S4 : St) => Same (S.next :: (S.next :: (S.next :: []))) S1 S4 ∧ CallA P (N Fn.ref17_without) [x24, (V.str x26)] S4 (retT [(.one .any)] fun (x27 : V) (S5 : St) => Same (S.next :: (S.next :: (S.next :: []))) S4 S5 ∧ CallA P (N Fn.ref17_with) [x27, (V.agg [(V.str x29), (V.int .i64 x31)])] S5 (retT [(.one .any)] fun (x33 : V) (S6 : St) => Same (S.next :: (S.next :: (S.next :: (S.next :: [])))) S5 S6 ∧ K x33 S6)))) (∃ x36 : List UInt8, loadV S1 (V.ptr S.next 1) = some (V.str x36) ∧ CallA P (N Fn.ref17_without) [x0, (V.str x36)] S1 (retT [(.one .any)] fun (x37 : V) (S7 : St) => K x37 S7)))
abbrev ref17_apply.Ok (P : Program) (N : Nat → Nat) : Prop := Reads P (N Fn.ref17_apply) [(3, (.dt (.one (.int .i64))), []), (4, (.dt (.one .str)), []), (1, (.dt (.one .str)), []), (1, (.dt (.one (.int .i64))), []), (0, (.dt (.agg [.str, (.int .i64)])), []), (0, .no, [(.one .any)]), (0, .no, [(.one .any)]), (5, (.dt (.one .str)), []), (1, (.dt (.one .str)), []), (1, (.dt (.one .str)), []), (1, (.dt (.one (.int .i64))), []), (0, (.dt (.agg [.str, (.int .i64)])), []), (0, .no, [(.one .any)]), (0, .no, [(.one .any)]), (0, .no, [(.one .any)]), (3, (.dt (.one .str)), []), (0, .no, [(.one .any)])] [] [] (fun A T (x0 : V) (x1_a : Int) (x1_b : List UInt8) (x1_c : List UInt8) (x1_d : Int) (S : St) (K : V → St → Prop) => wpT P (envP P) T (endT A.results [(.one .any)] K) (frT A [x0, (V.agg [(V.int .i64 x1_a), (V.str x1_b), (V.str x1_c), (V.int .i64 x1_d)])]) S) (fun x0 x1_a x1_b x1_c x1_d S K => ref17_apply.p P N x0 x1_a x1_b x1_c x1_d S K)
theorem ref17_apply.run {P : Program} {N : Nat → Nat} (hF : ref17_apply.Ok P N) {x0 : V} {x1_a : Int} {x1_b : List UInt8} {x1_c : List UInt8} {x1_d : Int} {S : St} {K : V → St → Prop} (h : ref17_apply.p P N x0 x1_a x1_b x1_c x1_d S K) : CallA P (N Fn.ref17_apply) [x0, (V.agg [(V.int .i64 x1_a), (V.str x1_b), (V.str x1_c), (V.int .i64 x1_d)])] S (retT [(.one .any)] K) := hF.run (fun q => q x0 x1_a x1_b x1_c x1_d S K) h rfl

def ref17_with.p (P : Program) (N : Nat → Nat) (x0 : V) (x1_a : List UInt8) (x1_b : Int) (S : St) (K : V → St → Prop) : Prop :=
  newS S (.cells [(V.str x1_a), (V.int .i64 x1_b)] true) fun S1 => Join1 (fun (k1 : Int → St → Prop) => Loop1 (fun (k2 : Int → St → Prop) (x5_1 : Int) (S3 : St) => ∃ x9 : Int, lenV S3 2 x0 = some (V.int .i64 x9) ∧ ifC (decide (x5_1 < x9)) (ifS (idxAddrV 2 x0 (V.int .i64 x5_1)) fun x14 => ifS (fieldAddrV 0 x14) fun x15 => ∃ x16 : List UInt8, loadV S3 x15 = some (V.str x16) ∧ ∃ x18 : List UInt8, loadV S3 (V.ptr S.next 0) = some (V.str x18) ∧ ifC (Op.bytesLess x16 x18) (setI (IntKind.i64.wrap (x5_1 + (1 : Int))) fun x22 => k2 x22 S3) (k1 x5_1 S3)) (k1 x5_1 S3)) 0 S1) (fun (x5 : Int) (S2 : St) => ifS (sliceSlV 2 x0 none (some (V.int .i64 x5)) none) fun x26 => ifP (appV S2 2 24 V.nilSlice x26) fun x27 S4 => ∃ x29_a : List UInt8, ∃ x29_b : Int, loadNV S4 2 (V.ptr S.next 0) = some (V.agg [(V.str x29_a), (V.int .i64 x29_b)]) ∧ newS S4 (.cells [(V.str x29_a), (V.int .i64 x29_b)] true) fun S5 => ifP (appV S5 2 24 x27 (V.slice S4.next 0 1 1 2 true)) fun x31 S6 => ifS (sliceSlV 2 x0 (some (V.int .i64 x5)) none none) fun x35 => ifP (appV S6 2 24 x31 x35) fun x36 S7 => K x36 S7)
abbrev ref17_with.Ok (P : Program) (N : Nat → Nat) : Prop := Reads P (N Fn.ref17_with) [(5, (.dt (.one (.int .i64))), []), (6, (.dt (.one .str)), []), (1, (.dt (.one .str)), []), (13, (.dt (.agg [.str, (.int .i64)])), []), (0, (.dt (.agg [.str, (.int .i64)])), [])] [(2, [(5, (.one (.int .i64)))])] [[(5, (.one (.int .i64)))]] (fun A T (x0 : V) (x1_a : List UInt8) (x1_b : Int) (S : St) (K : V → St → Prop) => wpT P (envP P) T (endT A.results [(.one .any)] K) (frT A [x0, (V.agg [(V.str x1_a), (V.int .i64 x1_b)])]) S) (fun x0 x1_a x1_b S K => ref17_with.p P N x0 x1_a x1_b S K)
theorem ref17_with.run {P : Program} {N : Nat → Nat} (hF : ref17_with.Ok P N) {x0 : V} {x1_a : List UInt8} {x1_b : Int} {S : St} {K : V → St → Prop} (h : ref17_with.p P N x0 x1_a x1_b S K) : CallA P (N Fn.ref17_with) [x0, (V.agg [(V.str x1_a), (V.int .i64 x1_b)])] S (retT [(.one .any)] K) := hF.run (fun q => q x0 x1_a x1_b S K) h rfl

end Go.Th.L
end

section
/- Functions of slicesBase, read without frames (printed by tools/lib.py). -/
set_option linter.unusedVariables false
set_option maxRecDepth 100000
set_option maxHeartbeats 2000000
namespace Go.Th.L
open Go Go.Th

end Go.Th.L
end

section
/- Functions of slicesByte, read without frames (printed by tools/lib.py). -/
set_option linter.unusedVariables false
set_option maxRecDepth 100000
set_option maxHeartbeats 2000000
namespace Go.Th.L
open Go Go.Th

def slices_Clone_Lbyte.p (P : Program) (N : Nat → Nat) (x0 : V) (S : St) (K : V → St → Prop) : Prop :=
  ∃ x4 : Bool, eqV 2 [] x0 V.nilSlice = some x4 ∧ ifC x4 (K V.nilSlice S) (newS S (.cells [] true) fun S1 => ifP (appV S1 1 1 (V.slice S.next 0 0 0 1 true) x0) fun x7 S2 => K x7 S2)
abbrev slices_Clone_Lbyte.Ok (P : Program) (N : Nat → Nat) : Prop := Reads P (N Fn.slices_Clone_Lbyte) [(4, (.dt (.agg [])), [])] [] [] (fun A T (x0 : V) (S : St) (K : V → St → Prop) => wpT P (envP P) T (endT A.results [(.one .any)] K) (frT A [x0]) S) (fun x0 S K => slices_Clone_Lbyte.p P N x0 S K)
theorem slices_Clone_Lbyte.run {P : Program} {N : Nat → Nat} (hF : slices_Clone_Lbyte.Ok P N) {x0 : V} {S : St} {K : V → St → Prop} (h : slices_Clone_Lbyte.p P N x0 S K) : CallA P (N Fn.slices_Clone_Lbyte) [x0] S (retT [(.one .any)] K) := hF.run (fun q => q x0 S K) h rfl

end Go.Th.L
end

section
/- Functions of slicesStr, read without frames (printed by tools/lib.py). -/
set_option linter.unusedVariables false
set_option maxRecDepth 100000
set_option maxHeartbeats 2000000
namespace Go.Th.L
open Go Go.Th

def slices_Sorted_string.p (P : Program) (N : Nat → Nat) (x0 : V) (S : St) (K : V → St → Prop) : Prop :=
  CallA P (N Fn.slices_Collect_string) [x0] S (retT [(.one .any)] fun (x5 : V) (S1 : St) => CallA P (N Fn.slices_Sort_Lstring) [x5] S1 (retT [] fun (S2 : St) => K x5 S2))
abbrev slices_Sorted_string.Ok (P : Program) (N : Nat → Nat) : Prop := Reads P (N Fn.slices_Sorted_string) [(2, .no, [(.one .any)])] [] [] (fun A T (x0 : V) (S : St) (K : V → St → Prop) => wpT P (envP P) T (endT A.results [(.one .any)] K) (frT A [x0]) S) (fun x0 S K => slices_Sorted_string.p P N x0 S K)
theorem slices_Sorted_string.run {P : Program} {N : Nat → Nat} (hF : slices_Sorted_string.Ok P N) {x0 : V} {S : St} {K : V → St → Prop} (h : slices_Sorted_string.p P N x0 S K) : CallA P (N Fn.slices_Sorted_string) [x0] S (retT [(.one .any)] K) := hF.run (fun q => q x0 S K) h rfl

def slices_Collect_string.p (P : Program) (N : Nat → Nat) (x0 : V) (S : St) (K : V → St → Prop) : Prop :=
  CallA P (N Fn.slices_AppendSeq_Lstring) [V.nilSlice, x0] S (retT [(.one .any)] fun (x4 : V) (S1 : St) => K x4 S1)
abbrev slices_Collect_string.Ok (P : Program) (N : Nat → Nat) : Prop := Reads P (N Fn.slices_Collect_string) [(2, .no, [(.one .any)])] [] [] (fun A T (x0 : V) (S : St) (K : V → St → Prop) => wpT P (envP P) T (endT A.results [(.one .any)] K) (frT A [x0]) S) (fun x0 S K => slices_Collect_string.p P N x0 S K)
theorem slices_Collect_string.run {P : Program} {N : Nat → Nat} (hF : slices_Collect_string.Ok P N) {x0 : V} {S : St} {K : V → St → Prop} (h : slices_Collect_string.p P N x0 S K) : CallA P (N Fn.slices_Collect_string) [x0] S (retT [(.one .any)] K) := hF.run (fun q => q x0 S K) h rfl

end Go.Th.L
end
