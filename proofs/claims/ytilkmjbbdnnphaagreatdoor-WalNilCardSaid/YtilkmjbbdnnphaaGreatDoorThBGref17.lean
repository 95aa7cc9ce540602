/- What the row of one statement stands on: a store, abstract code, functions of the program and their laws (ThFn, ThGcodec, ThGdisk, ThGlaw18, ThGmaps, ThGslicesByte, ThGslicesStr, ThGwal, ThGlaw17, ThGkeep, ThGref17). -/
import Derived.Test.YtilkmjbbdnnphaaGreatDoorThBQ11

section
/- Keys of the functions' names (printed by tools/lib.py). -/
namespace Go.Th.L
abbrev Fn.law16_CodecRecords : Nat := 1
abbrev Fn.codec_Encode : Nat := 2
abbrev Fn.ref16_Encode : Nat := 3
abbrev Fn.keep_LendBytes : Nat := 4
abbrev Fn.codec_Decode : Nat := 5
abbrev Fn.codec_Sum : Nat := 6
abbrev Fn.keep_BackBytes : Nat := 7
abbrev Fn.ref16_Decode : Nat := 8
abbrev Fn.law16_awake : Nat := 9
abbrev Fn.keep_Bytes : Nat := 10
abbrev Fn.ref16_Sum : Nat := 11
abbrev Fn.law16_CodecTexts : Nat := 12
abbrev Fn.law16_big : Nat := 13
abbrev Fn.keep_Lend : Nat := 14
abbrev Fn.codec_PutChange : Nat := 15
abbrev Fn.keep_Back : Nat := 16
abbrev Fn.ref16_PutChange : Nat := 17
abbrev Fn.keep_LendRows : Nat := 18
abbrev Fn.codec_PutRows : Nat := 19
abbrev Fn.keep_BackRows : Nat := 20
abbrev Fn.ref16_PutRows : Nat := 21
abbrev Fn.law16_CodecSpoilt : Nat := 22
abbrev Fn.law16_CodecReads : Nat := 23
abbrev Fn.codec_GetChange : Nat := 24
abbrev Fn.ref16_GetChange : Nat := 25
abbrev Fn.codec_GetRows : Nat := 26
abbrev Fn.ref16_GetRows : Nat := 27
abbrev Fn.keep_Ints : Nat := 28
abbrev Fn.keep_Rows : Nat := 29
abbrev Fn.law16_CodecRound : Nat := 30
abbrev Fn.codec_lay : Nat := 31
abbrev Fn.codec_check : Nat := 32
abbrev Fn.ref16_number : Nat := 33
abbrev Fn.codec_reading_number : Nat := 34
abbrev Fn.codec_reading_cut : Nat := 35
abbrev Fn.ref16_get : Nat := 36
abbrev Fn.keep_Vectors : Nat := 37
abbrev Fn.codec_may : Nat := 38
abbrev Fn.ref03_Id : Nat := 39
abbrev Fn.ref03_Check : Nat := 40
abbrev Fn.ref16_coord : Nat := 41
abbrev Fn.flat_Check : Nat := 42
abbrev Fn.codec_rising : Nat := 43
abbrev Fn.ref05_Check : Nat := 44
abbrev Fn.codec_reading_coords : Nat := 45
abbrev Fn.ref16_coords : Nat := 46
abbrev Fn.vec_Check : Nat := 47
abbrev Fn.ref03_Rows : Nat := 48
abbrev Fn.codec_reading_coords_1 : Nat := 49
abbrev Fn.vec_dim : Nat := 50
abbrev Fn.law02_TopkLess : Nat := 51
abbrev Fn.topk_Less : Nat := 52
abbrev Fn.ref02_Less : Nat := 53
abbrev Fn.law02_awake : Nat := 54
abbrev Fn.law02_TopkMerges : Nat := 55
abbrev Fn.law02_total : Nat := 56
abbrev Fn.law02_hit : Nat := 57
abbrev Fn.topk_Merge : Nat := 58
abbrev Fn.ref02_Same : Nat := 59
abbrev Fn.law02_spoil : Nat := 60
abbrev Fn.ref02_First : Nat := 61
abbrev Fn.law02_TopkOrder : Nat := 62
abbrev Fn.topk_New : Nat := 63
abbrev Fn.topk_Heap_Offer : Nat := 64
abbrev Fn.topk_Heap_List : Nat := 65
abbrev Fn.law02_TopkOffers : Nat := 66
abbrev Fn.ref02_With : Nat := 67
abbrev Fn.topk_Heap_Worst : Nat := 68
abbrev Fn.topk_Heap_Len : Nat := 69
abbrev Fn.topk_Heap_Full : Nat := 70
abbrev Fn.law02_TopkNil : Nat := 71
abbrev Fn.topk_compare : Nat := 72
abbrev Fn.topk_together_api_Hit : Nat := 73
abbrev Fn.ref02_Sorted : Nat := 74
abbrev Fn.container_heap_Push : Nat := 75
abbrev Fn.container_heap_Fix : Nat := 76
abbrev Fn.ty_ptopk_hits : Nat := 77
abbrev Fn.ty_api_Hit : Nat := 78
abbrev Fn.slices_Clone_Lapi_Hit : Nat := 79
abbrev Fn.slices_SortFunc_Lapi_Hit : Nat := 80
abbrev Fn.wide_Cmp : Nat := 81
abbrev Fn.cmp_Compare_int : Nat := 82
abbrev Fn.cmp_Or_int : Nat := 83
abbrev Fn.container_heap_up : Nat := 84
abbrev Fn.container_heap_down : Nat := 85
abbrev Fn.math_bits_Len : Nat := 86
abbrev Fn.slices_pdqsortCmpFunc_api_Hit : Nat := 87
abbrev Fn.cmp_isNaN_int : Nat := 88
abbrev Fn.slices_insertionSortCmpFunc_api_Hit : Nat := 89
abbrev Fn.slices_heapSortCmpFunc_api_Hit : Nat := 90
abbrev Fn.slices_breakPatternsCmpFunc_api_Hit : Nat := 91
abbrev Fn.slices_choosePivotCmpFunc_api_Hit : Nat := 92
abbrev Fn.slices_reverseRangeCmpFunc_api_Hit : Nat := 93
abbrev Fn.slices_partialInsertionSortCmpFunc_api_Hit : Nat := 94
abbrev Fn.slices_partitionEqualCmpFunc_api_Hit : Nat := 95
abbrev Fn.slices_partitionCmpFunc_api_Hit : Nat := 96
abbrev Fn.math_bits_Len32 : Nat := 97
abbrev Fn.math_bits_Len64 : Nat := 98
abbrev Fn.slices_siftDownCmpFunc_api_Hit : Nat := 99
abbrev Fn.slices_nextPowerOfTwo : Nat := 100
abbrev Fn.slices_xorshift_Next : Nat := 101
abbrev Fn.slices_medianAdjacentCmpFunc_api_Hit : Nat := 102
abbrev Fn.slices_medianCmpFunc_api_Hit : Nat := 103
abbrev Fn.slices_order2CmpFunc_api_Hit : Nat := 104
abbrev Fn.topk_hits_Len : Nat := 105
abbrev Fn.topk_hits_Less : Nat := 106
abbrev Fn.topk_hits_Swap : Nat := 107
abbrev Fn.topk_hits_Push : Nat := 108
abbrev Fn.law03_VecDists : Nat := 109
abbrev Fn.vec_Dist : Nat := 110
abbrev Fn.ref03_Dist : Nat := 111
abbrev Fn.law03_awake : Nat := 112
abbrev Fn.law03_VecBounds : Nat := 113
abbrev Fn.law03_big : Nat := 114
abbrev Fn.vec_Inside : Nat := 115
abbrev Fn.vec_Bound : Nat := 116
abbrev Fn.ref01_Less : Nat := 117
abbrev Fn.law03_VecMoves : Nat := 118
abbrev Fn.law03_VecScale : Nat := 119
abbrev Fn.ref01_Add : Nat := 120
abbrev Fn.law03_VecTriangle : Nat := 121
abbrev Fn.ref03_Root : Nat := 122
abbrev Fn.law03_VecShapes : Nat := 123
abbrev Fn.vec_Box : Nat := 124
abbrev Fn.vec_Ball : Nat := 125
abbrev Fn.ref03_Box : Nat := 126
abbrev Fn.ref03_Ball : Nat := 127
abbrev Fn.ref03_Same : Nat := 128
abbrev Fn.law03_VecHolds : Nat := 129
abbrev Fn.vec_far : Nat := 130
abbrev Fn.ref03_Far : Nat := 131
abbrev Fn.law03_box : Nat := 132
abbrev Fn.law03_ball : Nat := 133
abbrev Fn.law03_lo : Nat := 134
abbrev Fn.vec_CheckRegion : Nat := 135
abbrev Fn.vec_both : Nat := 136
abbrev Fn.vec_Inside_1 : Nat := 137
abbrev Fn.vec_plus : Nat := 138
abbrev Fn.wide_Sqrt : Nat := 139
abbrev Fn.wide_Mul : Nat := 140
abbrev Fn.ref03_Inside : Nat := 141
abbrev Fn.ref03_CheckRegion : Nat := 142
abbrev Fn.ref03_In : Nat := 143
abbrev Fn.ref03_Bound : Nat := 144
abbrev Fn.ref03_Near : Nat := 145
abbrev Fn.ref03_form : Nat := 146
abbrev Fn.ref03_ids : Nat := 147
abbrev Fn.ref01_Of : Nat := 148
abbrev Fn.ref01_Cmp : Nat := 149
abbrev Fn.ref01_Mul : Nat := 150
abbrev Fn.vec_ids : Nat := 151
abbrev Fn.slices_Clone_Lint : Nat := 152
abbrev Fn.ref03_Ids : Nat := 153
abbrev Fn.ref03_Ints : Nat := 154
abbrev Fn.ref03_Square : Nat := 155
abbrev Fn.ref03_Sum : Nat := 156
abbrev Fn.wide_Add : Nat := 157
abbrev Fn.math_bits_Mul64 : Nat := 158
abbrev Fn.ref01_Num_Plus : Nat := 159
abbrev Fn.ref01_Num_plus : Nat := 160
abbrev Fn.ref01_Num_Wide : Nat := 161
abbrev Fn.ref01_Num_Times : Nat := 162
abbrev Fn.slices_Sort_Lint : Nat := 163
abbrev Fn.ref03_With : Nat := 164
abbrev Fn.slices_pdqsortOrdered_int : Nat := 165
abbrev Fn.slices_insertionSortOrdered_int : Nat := 166
abbrev Fn.slices_heapSortOrdered_int : Nat := 167
abbrev Fn.slices_breakPatternsOrdered_int : Nat := 168
abbrev Fn.slices_choosePivotOrdered_int : Nat := 169
abbrev Fn.slices_reverseRangeOrdered_int : Nat := 170
abbrev Fn.slices_partialInsertionSortOrdered_int : Nat := 171
abbrev Fn.cmp_Less_int : Nat := 172
abbrev Fn.slices_partitionEqualOrdered_int : Nat := 173
abbrev Fn.slices_partitionOrdered_int : Nat := 174
abbrev Fn.slices_siftDownOrdered_int : Nat := 175
abbrev Fn.slices_medianAdjacentOrdered_int : Nat := 176
abbrev Fn.slices_medianOrdered_int : Nat := 177
abbrev Fn.slices_order2Ordered_int : Nat := 178
abbrev Fn.law03_VecRegions : Nat := 179
abbrev Fn.law12_FactoryParses : Nat := 180
abbrev Fn.factory_Parse : Nat := 181
abbrev Fn.ref12_Parse : Nat := 182
abbrev Fn.law12_awake : Nat := 183
abbrev Fn.law12_FactoryPrints : Nat := 184
abbrev Fn.factory_Print : Nat := 185
abbrev Fn.ref12_Print : Nat := 186
abbrev Fn.factory_Check : Nat := 187
abbrev Fn.ref12_Check : Nat := 188
abbrev Fn.law12_FactoryRound : Nat := 189
abbrev Fn.factory_Parse_1 : Nat := 190
abbrev Fn.factory_Parse_2 : Nat := 191
abbrev Fn.ref12_one : Nat := 192
abbrev Fn.ref12_ivf : Nat := 193
abbrev Fn.strconv_Itoa : Nat := 194
abbrev Fn.ref12_Number : Nat := 195
abbrev Fn.ref12_within : Nat := 196
abbrev Fn.strings_CutPrefix : Nat := 197
abbrev Fn.internal_stringslite_CutPrefix : Nat := 198
abbrev Fn.strconv_Atoi : Nat := 199
abbrev Fn.ref12_front : Nat := 200
abbrev Fn.ref12_digits : Nat := 201
abbrev Fn.internal_stringslite_HasPrefix : Nat := 202
abbrev Fn.internal_strconv_Atoi : Nat := 203
abbrev Fn.strconv_toError : Nat := 204
abbrev Fn.internal_strconv_Itoa : Nat := 205
abbrev Fn.law22_HttpPrints : Nat := 206
abbrev Fn.http_Print : Nat := 207
abbrev Fn.ref22_Print : Nat := 208
abbrev Fn.http_Read : Nat := 209
abbrev Fn.ref22_Read : Nat := 210
abbrev Fn.law22_awake : Nat := 211
abbrev Fn.law22_HttpRound : Nat := 212
abbrev Fn.law22_HttpFields : Nat := 213
abbrev Fn.http_Fields : Nat := 214
abbrev Fn.ref22_Fields : Nat := 215
abbrev Fn.keep_Texts : Nat := 216
abbrev Fn.law22_HttpFeeds : Nat := 217
abbrev Fn.http_New : Nat := 218
abbrev Fn.http_Parser_Feed : Nat := 219
abbrev Fn.http_Parser_Wrong : Nat := 220
abbrev Fn.ref22_Requests : Nat := 221
abbrev Fn.law22_same : Nat := 222
abbrev Fn.law22_HttpParts : Nat := 223
abbrev Fn.law22_cut : Nat := 224
abbrev Fn.law22_HttpNil : Nat := 225
abbrev Fn.http_word : Nat := 226
abbrev Fn.ref22_Word : Nat := 227
abbrev Fn.ref22_digits : Nat := 228
abbrev Fn.strings_Cut : Nat := 229
abbrev Fn.strings_Split : Nat := 230
abbrev Fn.bytes_HasPrefix : Nat := 231
abbrev Fn.ref22_begins : Nat := 232
abbrev Fn.slices_Contains_Lstring : Nat := 233
abbrev Fn.ref22_parts : Nat := 234
abbrev Fn.ref22_find : Nat := 235
abbrev Fn.http_Parser_first : Nat := 236
abbrev Fn.ref22_Reading_one : Nat := 237
abbrev Fn.ref22_Reading_stop : Nat := 238
abbrev Fn.internal_stringslite_Cut : Nat := 239
abbrev Fn.strings_genSplit : Nat := 240
abbrev Fn.bytes_Equal : Nat := 241
abbrev Fn.slices_Index_Lstring : Nat := 242
abbrev Fn.http_Parser_line : Nat := 243
abbrev Fn.http_all : Nat := 244
abbrev Fn.http_Parser_first_1 : Nat := 245
abbrev Fn.strings_HasPrefix : Nat := 246
abbrev Fn.http_Parser_first_2 : Nat := 247
abbrev Fn.http_Parser_bad : Nat := 248
abbrev Fn.http_Parser_head : Nat := 249
abbrev Fn.ref22_Reading_line : Nat := 250
abbrev Fn.ref22_first : Nat := 251
abbrev Fn.ref22_Reading_heads : Nat := 252
abbrev Fn.internal_stringslite_Index : Nat := 253
abbrev Fn.bytes_Index : Nat := 254
abbrev Fn.http_all_1 : Nat := 255
abbrev Fn.slices_ContainsFunc_Lbyte : Nat := 256
abbrev Fn.http_Parser_body : Nat := 257
abbrev Fn.http_Parser_head_1 : Nat := 258
abbrev Fn.http_Parser_head_2 : Nat := 259
abbrev Fn.strings_Trim : Nat := 260
abbrev Fn.http_means : Nat := 261
abbrev Fn.http_Parser_head_3 : Nat := 262
abbrev Fn.ty_http_length : Nat := 263
abbrev Fn.ty_http_end : Nat := 264
abbrev Fn.ty_http_no : Nat := 265
abbrev Fn.ref22_within : Nat := 266
abbrev Fn.ref22_header : Nat := 267
abbrev Fn.ref22_number : Nat := 268
abbrev Fn.strings_Index : Nat := 269
abbrev Fn.slices_IndexFunc_Lbyte : Nat := 270
abbrev Fn.strings_ToLower : Nat := 271
abbrev Fn.strings_trimRightByte : Nat := 272
abbrev Fn.strings_trimLeftByte : Nat := 273
abbrev Fn.strings_makeASCIISet : Nat := 274
abbrev Fn.strings_trimRightASCII : Nat := 275
abbrev Fn.strings_trimLeftASCII : Nat := 276
abbrev Fn.strings_trimRightUnicode : Nat := 277
abbrev Fn.strings_trimLeftUnicode : Nat := 278
abbrev Fn.ref22_name : Nat := 279
abbrev Fn.ref22_small : Nat := 280
abbrev Fn.strings_Builder_Grow : Nat := 281
abbrev Fn.strings_Builder_WriteString : Nat := 282
abbrev Fn.strings_Builder_WriteByte : Nat := 283
abbrev Fn.strings_Builder_String : Nat := 284
abbrev Fn.strings_Map : Nat := 285
abbrev Fn.unicode_ToLower : Nat := 286
abbrev Fn.law13_CertTrue : Nat := 287
abbrev Fn.law13_big : Nat := 288
abbrev Fn.cert_Certain : Nat := 289
abbrev Fn.cert_Sound : Nat := 290
abbrev Fn.flat_TopK : Nat := 291
abbrev Fn.law13_awake : Nat := 292
abbrev Fn.keep_Hits : Nat := 293
abbrev Fn.law13_CertSpoilt : Nat := 294
abbrev Fn.law13_lent : Nat := 295
abbrev Fn.law13_CertAll : Nat := 296
abbrev Fn.cert_Sound_1 : Nat := 297
abbrev Fn.slices_Equal_Lapi_Hit : Nat := 298
abbrev Fn.law13_rows : Nat := 299
abbrev Fn.law13_told : Nat := 300
abbrev Fn.flat_asked : Nat := 301
abbrev Fn.flat_hits : Nat := 302
abbrev Fn.flat_hits_1 : Nat := 303
abbrev Fn.law13_CertChecks : Nat := 304
abbrev Fn.ref13_Sound : Nat := 305
abbrev Fn.ref13_Certain : Nat := 306
abbrev Fn.keep_Answer : Nat := 307
abbrev Fn.ref13_Asked : Nat := 308
abbrev Fn.ref05_Sound : Nat := 309
abbrev Fn.ref05_Certain : Nat := 310
abbrev Fn.keep_Region : Nat := 311
abbrev Fn.ref05_TopK : Nat := 312
abbrev Fn.ref05_find : Nat := 313
abbrev Fn.ref05_region : Nat := 314
abbrev Fn.ref05_Hits : Nat := 315
abbrev Fn.ref05_First : Nat := 316
abbrev Fn.ref05_Asked : Nat := 317
abbrev Fn.ref05_Before : Nat := 318
abbrev Fn.law17_DiskNew : Nat := 319
abbrev Fn.disk_New : Nat := 320
abbrev Fn.law17_awake : Nat := 321
abbrev Fn.ref17_New : Nat := 322
abbrev Fn.law17_same : Nat := 323
abbrev Fn.law17_DiskRuns : Nat := 324
abbrev Fn.law17_large : Nat := 325
abbrev Fn.disk_Disk_Clone : Nat := 326
abbrev Fn.ref17_Disk_Clone : Nat := 327
abbrev Fn.law17_step : Nat := 328
abbrev Fn.law17_DiskSafe : Nat := 329
abbrev Fn.law17_play : Nat := 330
abbrev Fn.disk_Disk_Crash : Nat := 331
abbrev Fn.disk_Disk_Create : Nat := 332
abbrev Fn.disk_Disk_SyncDir : Nat := 333
abbrev Fn.disk_Disk_Sync : Nat := 334
abbrev Fn.disk_Disk_Read : Nat := 335
abbrev Fn.disk_Disk_Append : Nat := 336
abbrev Fn.disk_Disk_Names : Nat := 337
abbrev Fn.disk_Disk_Down : Nat := 338
abbrev Fn.law17_DiskStops : Nat := 339
abbrev Fn.disk_Disk_Stop : Nat := 340
abbrev Fn.disk_Disk_Steps : Nat := 341
abbrev Fn.disk_Disk_Used : Nat := 342
abbrev Fn.law17_DiskNil : Nat := 343
abbrev Fn.disk_Disk_Rename : Nat := 344
abbrev Fn.disk_Disk_Remove : Nat := 345
abbrev Fn.ref17_Disk_Names : Nat := 346
abbrev Fn.ref17_Disk_Used : Nat := 347
abbrev Fn.ref17_Disk_Down : Nat := 348
abbrev Fn.ref17_Disk_Read : Nat := 349
abbrev Fn.keep_SpoilBytes : Nat := 350
abbrev Fn.disk_Disk_Clone_1 : Nat := 351
abbrev Fn.ref17_without : Nat := 352
abbrev Fn.ref17_Disk_Create : Nat := 353
abbrev Fn.ref17_Disk_Append : Nat := 354
abbrev Fn.ref17_Disk_Sync : Nat := 355
abbrev Fn.ref17_Disk_Rename : Nat := 356
abbrev Fn.ref17_Disk_Remove : Nat := 357
abbrev Fn.ref17_Disk_SyncDir : Nat := 358
abbrev Fn.ref17_Disk_Stop : Nat := 359
abbrev Fn.ref17_Disk_Crash : Nat := 360
abbrev Fn.disk_Disk_Crash_1 : Nat := 361
abbrev Fn.maps_Clone_disk_names : Nat := 362
abbrev Fn.disk_says : Nat := 363
abbrev Fn.disk_names_do : Nat := 364
abbrev Fn.slices_Clone_Lbyte : Nat := 365
abbrev Fn.disk_Disk_ready : Nat := 366
abbrev Fn.disk_good : Nat := 367
abbrev Fn.disk_Disk_change : Nat := 368
abbrev Fn.disk_Disk_done : Nat := 369
abbrev Fn.disk_Disk_find : Nat := 370
abbrev Fn.maps_Keys_disk_names : Nat := 371
abbrev Fn.slices_Sorted_string : Nat := 372
abbrev Fn.ref17_Disk_file : Nat := 373
abbrev Fn.ref17_Name : Nat := 374
abbrev Fn.ref17_find : Nat := 375
abbrev Fn.ref17_Disk_change : Nat := 376
abbrev Fn.ref17_Disk_step : Nat := 377
abbrev Fn.ref17_choice : Nat := 378
abbrev Fn.ref17_says : Nat := 379
abbrev Fn.ref17_apply : Nat := 380
abbrev Fn.slices_Collect_string : Nat := 381
abbrev Fn.slices_Sort_Lstring : Nat := 382
abbrev Fn.maps_Keys_disk_names_1 : Nat := 383
abbrev Fn.ref17_with : Nat := 384
abbrev Fn.slices_AppendSeq_Lstring : Nat := 385
abbrev Fn.slices_pdqsortOrdered_string : Nat := 386
abbrev Fn.law18_WalNil : Nat := 387
abbrev Fn.law18_awake : Nat := 388
abbrev Fn.wal_Open : Nat := 389
abbrev Fn.wal_Log_Append : Nat := 390
abbrev Fn.wal_Log_Sync : Nat := 391
abbrev Fn.wal_Log_Cut : Nat := 392
abbrev Fn.wal_Log_Synced : Nat := 393
abbrev Fn.wal_Log_Last : Nat := 394
abbrev Fn.wal_Log_First : Nat := 395
abbrev Fn.law18_room : Nat := 396
abbrev Fn.wal_Open_1 : Nat := 397
abbrev Fn.wal_begins : Nat := 398
abbrev Fn.wal_records : Nat := 399
abbrev Fn.wal_Log_settle : Nat := 400
abbrev Fn.wal_Log_begin : Nat := 401
abbrev Fn.wal_Log_lay : Nat := 402
abbrev Fn.slices_Delete_Lpwal_segment : Nat := 403
abbrev Fn.wal_whole : Nat := 404
abbrev Fn.wal_get32 : Nat := 405
abbrev Fn.wal_get64 : Nat := 406
abbrev Fn.wal_head : Nat := 407
abbrev Fn.wal_laid : Nat := 408
abbrev Fn.internal_strconv_ParseInt : Nat := 409
abbrev Fn.ty_internal_strconv_Error : Nat := 410
abbrev Fn.strconv_syntaxError : Nat := 411
abbrev Fn.strconv_rangeError : Nat := 412
abbrev Fn.strconv_baseError : Nat := 413
abbrev Fn.strconv_bitSizeError : Nat := 414
abbrev Fn.ty_pstrconv_NumError : Nat := 415
abbrev Fn.wal_put32 : Nat := 416
abbrev Fn.wal_put64 : Nat := 417
abbrev Fn.wal_sealed : Nat := 418
abbrev Fn.internal_strconv_ParseUint : Nat := 419
abbrev Fn.internal_stringslite_Clone : Nat := 420
abbrev Fn.errors_New : Nat := 421
abbrev Fn.internal_strconv_FormatInt : Nat := 422
abbrev Fn.slices_insertionSortOrdered_string : Nat := 423
abbrev Fn.slices_heapSortOrdered_string : Nat := 424
abbrev Fn.slices_breakPatternsOrdered_string : Nat := 425
abbrev Fn.slices_choosePivotOrdered_string : Nat := 426
abbrev Fn.slices_reverseRangeOrdered_string : Nat := 427
abbrev Fn.slices_partialInsertionSortOrdered_string : Nat := 428
abbrev Fn.cmp_Less_string : Nat := 429
abbrev Fn.slices_partitionEqualOrdered_string : Nat := 430
abbrev Fn.slices_partitionOrdered_string : Nat := 431
abbrev Fn.internal_strconv_lower : Nat := 432
abbrev Fn.internal_strconv_underscoreOK : Nat := 433
abbrev Fn.ty_perrors_errorString : Nat := 434
abbrev Fn.internal_strconv_small : Nat := 435
abbrev Fn.internal_strconv_numDigits : Nat := 436
abbrev Fn.internal_strconv_formatBase10 : Nat := 437
abbrev Fn.internal_strconv_formatBits : Nat := 438
abbrev Fn.slices_siftDownOrdered_string : Nat := 439
abbrev Fn.slices_medianAdjacentOrdered_string : Nat := 440
abbrev Fn.slices_medianOrdered_string : Nat := 441
abbrev Fn.cmp_isNaN_string : Nat := 442
abbrev Fn.internal_strconv_log10Pow2 : Nat := 443
abbrev Fn.internal_strconv_bool2_int : Nat := 444
abbrev Fn.slices_order2Ordered_string : Nat := 445
abbrev Fn.internal_strconv_isPowerOfTwo : Nat := 446
abbrev Fn.math_bits_TrailingZeros : Nat := 447
abbrev Fn.math_bits_TrailingZeros32 : Nat := 448
abbrev Fn.math_bits_TrailingZeros64 : Nat := 449
abbrev Fn.gosem_cut_vars : Nat := 450
end Go.Th.L
end

section
/- Functions of codec, read without frames (printed by tools/lib.py). -/
set_option linter.unusedVariables false
set_option maxRecDepth 100000
set_option maxHeartbeats 2000000
namespace Go.Th.L
open Go Go.Th

def codec_Sum.p (P : Program) (N : Nat → Nat) (x0 : V) (S : St) (K : Int → St → Prop) : Prop :=
  ∃ x7 : Int, lenV S 2 x0 = some (V.int .i64 x7) ∧ Loop2 (fun (k1 : Int → Int → St → Prop) (x3 : Int) (x8 : Int) (S1 : St) => ifC (decide (x8 < x7)) (ifS (idxAddrV 1 x0 (V.int .i64 x8)) fun x10 => ∃ x11 : Int, loadV S1 x10 = some (V.int .u8 x11) ∧ setI (IntKind.u32.wrap x11) fun x14 => setI (intBits .xor .u32 x3 x14) fun x15 => Loop2 (fun (k2 : Int → Int → St → Prop) (x3_1 : Int) (x16 : Int) (S2 : St) => ifC (decide (x16 < (8 : Int))) (0 ≤ (1 : Int) ∧ setI (Int.fdiv x3_1 (2 ^ (min (Int.toNat (1 : Int)) (IntKind.bits .u32)))) fun x19 => setI (intBits .and .u32 x3_1 (1 : Int)) fun x21 => setI (IntKind.u32.wrap (0 - x21)) fun x22 => setI (intBits .and .u32 x22 (3988292384 : Int)) fun x23 => setI (intBits .xor .u32 x19 x23) fun x24 => setI (IntKind.i64.wrap (x16 + (1 : Int))) fun x25 => k2 x24 x25 S2) (setI (IntKind.i64.wrap (x8 + (1 : Int))) fun x26 => k1 x3_1 x26 S2)) x15 0 S1) (setI (intBits .xor .u32 (if (IntKind.signed .u32) then -1 else (IntKind.max .u32)) x3) fun x28 => K x28 S1)) 4294967295 0 S
abbrev codec_Sum.Ok (P : Program) (N : Nat → Nat) : Prop := Reads P (N Fn.codec_Sum) [(3, (.dt (.one (.int .i64))), []), (3, (.dt (.one (.int .u8))), [])] [] [[(3, (.one (.int .u32))), (8, (.one (.int .i64)))], [(3, (.one (.int .u32))), (16, (.one (.int .i64)))]] (fun A T (x0 : V) (S : St) (K : Int → St → Prop) => wpT P (envP P) T (endT A.results [(.one (.int .u32))] K) (frT A [x0]) S) (fun x0 S K => codec_Sum.p P N x0 S K)
theorem codec_Sum.run {P : Program} {N : Nat → Nat} (hF : codec_Sum.Ok P N) {x0 : V} {S : St} {K : Int → St → Prop} (h : codec_Sum.p P N x0 S K) : CallA P (N Fn.codec_Sum) [x0] S (retT [(.one (.int .u32))] K) := hF.run (fun q => q x0 S K) h rfl

end Go.Th.L
end

section
/- Functions of disk, read without frames (printed by tools/lib.py). -/
set_option linter.unusedVariables false
set_option maxRecDepth 100000
set_option maxHeartbeats 2000000
namespace Go.Th.L
open Go Go.Th

def disk_New.p (P : Program) (N : Nat → Nat) (x0 : Int) (S : St) (K : V → Int → St → Prop) : Prop :=
  Join0 (fun (k1 : St → Prop) => ifC (decide (x0 < (1 : Int))) (K V.nilPtr 1 S) (ifC (decide ((4194304 : Int) < x0)) (K V.nilPtr 1 S) (k1  S))) (fun (S1 : St) => newS S1 (.map [] true) fun S2 => newS S2 (.map [] true) fun S3 => V.cells (V.map S1.next) = [(V.map S1.next)] ∧ V.cells (V.map S2.next) = [(V.map S2.next)] ∧ newS S3 (.cells [(V.int .i64 x0), (V.map S1.next), (V.map S2.next), V.nilSlice, (V.int .i64 0), (V.bool false), (V.int .i64 0)] true) fun S4 => K (V.ptr S3.next 0) 0 S4)
abbrev disk_New.Ok (P : Program) (N : Nat → Nat) : Prop := Reads P (N Fn.disk_New) [(13, (.dt (.agg [(.int .i64), .any, .any, .any, (.int .i64), .bool, (.int .i64)])), [])] [(1, [])] [] (fun A T (x0 : Int) (S : St) (K : V → Int → St → Prop) => wpT P (envP P) T (endT A.results [(.one .any), (.one (.int .i64))] K) (frT A [(V.int .i64 x0)]) S) (fun x0 S K => disk_New.p P N x0 S K)
theorem disk_New.run {P : Program} {N : Nat → Nat} (hF : disk_New.Ok P N) {x0 : Int} {S : St} {K : V → Int → St → Prop} (h : disk_New.p P N x0 S K) : CallA P (N Fn.disk_New) [(V.int .i64 x0)] S (retT [(.one .any), (.one (.int .i64))] K) := hF.run (fun q => q x0 S K) h rfl

def disk_Disk_Clone.p (P : Program) (N : Nat → Nat) (x0 : V) (S : St) (K : V → St → Prop) : Prop :=
  ∃ x13 : Bool, eqV 1 [] x0 V.nilPtr = some x13 ∧ ifC x13 (K V.nilPtr S) (nilV x0 = some x0 ∧ ∃ x16_a : Int, ∃ x16_b x16_c x16_d : V, ∃ x16_e : Int, ∃ x16_f : Bool, ∃ x16_g : Int, loadNV S 7 x0 = some (V.agg [(V.int .i64 x16_a), x16_b, x16_c, x16_d, (V.int .i64 x16_e), (V.bool x16_f), (V.int .i64 x16_g)]) ∧ newS S (.cells [(V.int .i64 0), V.nilMap, V.nilMap, V.nilSlice, (V.int .i64 0), (V.bool false), (V.int .i64 0)] true) fun S1 => ifS (storeV S1 7 (V.ptr S.next 0) (V.agg [(V.int .i64 x16_a), x16_b, x16_c, x16_d, (V.int .i64 x16_e), (V.bool x16_f), (V.int .i64 x16_g)])) fun S2 => newS S2 (.map [] true) fun S3 => newS S3 (.cells [V.nilMap] true) fun S4 => ifS (storeV S4 1 (V.ptr S3.next 0) (V.map S2.next)) fun S5 => newS S5 (.map [] true) fun S6 => newS S6 (.map [] true) fun S7 => ifS (storeV S7 1 (V.ptr S.next 1) (V.map S5.next)) fun S8 => ifS (storeV S8 1 (V.ptr S.next 2) (V.map S6.next)) fun S9 => ifS (storeV S9 1 (V.ptr S.next 3) V.nilSlice) fun S10 => nilV x0 = some x0 ∧ ifS (fieldAddrV 1 x0) fun x26 => ifS (loadV S10 x26) fun x27 => anyK (rangeP S10 x27) fun x28 S11 => Loop0 (fun (k1 : St → Prop) (S12 : St) => anyK (nextP S12 x28) fun x29 S13 => ∃ x30 : Bool, extractV 0 x29 = some (V.bool x30) ∧ ifC x30 (ifS (entryV S13 x28) fun x31 => ∃ x32 : List UInt8, extractV 0 x31 = some (V.str x32) ∧ ifS (extractV 1 x31) fun x33 => ifS (loadV S13 (V.ptr S.next 1)) fun x35 => ifS (calleeV (envP P) (V.func (.func (N Fn.disk_Disk_Clone_1)) [] [(V.ptr S3.next 0)]) [x33]) fun xf => CallA P xf.1 xf.2 S13 (retT [(.one .any)] fun (x39 : V) (S14 : St) => Same (S.next :: []) S13 S14 ∧ ifS (mapUpdV S14 2 x35 (V.str x32) x39) fun S15 => k1  S15)) (nilV x0 = some x0 ∧ ifS (fieldAddrV 2 x0) fun x42 => ifS (loadV S13 x42) fun x43 => anyK (rangeP S13 x43) fun x44 S16 => Loop0 (fun (k2 : St → Prop) (S17 : St) => anyK (nextP S17 x44) fun x45 S18 => ∃ x46 : Bool, extractV 0 x45 = some (V.bool x46) ∧ ifC x46 (ifS (entryV S18 x44) fun x47 => ∃ x48 : List UInt8, extractV 0 x47 = some (V.str x48) ∧ ifS (extractV 1 x47) fun x49 => ifS (loadV S18 (V.ptr S.next 2)) fun x51 => ifS (calleeV (envP P) (V.func (.func (N Fn.disk_Disk_Clone_1)) [] [(V.ptr S3.next 0)]) [x49]) fun xf_1 => CallA P xf_1.1 xf_1.2 S18 (retT [(.one .any)] fun (x55 : V) (S19 : St) => Same (S.next :: []) S18 S19 ∧ ifS (mapUpdV S19 2 x51 (V.str x48) x55) fun S20 => k2  S20)) (nilV x0 = some x0 ∧ ifS (fieldAddrV 3 x0) fun x58 => ifS (loadV S18 x58) fun x59 => ∃ x60 : Int, lenV S18 2 x59 = some (V.int .i64 x60) ∧ Loop1 (fun (k3 : Int → St → Prop) (x61 : Int) (S21 : St) => ifC (decide (x61 < x60)) (ifS (idxAddrV 3 x59 (V.int .i64 x61)) fun x63 => ∃ x64_a : List UInt8, ∃ x64_b : List UInt8, ∃ x64_c : V, loadNV S21 3 x63 = some (V.agg [(V.str x64_a), (V.str x64_b), x64_c]) ∧ newS S21 (.cells [(V.str ([] : List UInt8)), (V.str ([] : List UInt8)), V.nilPtr] true) fun S22 => ifS (storeV S22 3 (V.ptr S21.next 0) (V.agg [(V.str x64_a), (V.str x64_b), x64_c])) fun S23 => ifS (loadV S23 (V.ptr S.next 3)) fun x66 => ∃ x68 : List UInt8, loadV S23 (V.ptr S21.next 0) = some (V.str x68) ∧ ∃ x70 : List UInt8, loadV S23 (V.ptr S21.next 1) = some (V.str x70) ∧ ifS (loadV S23 (V.ptr S21.next 2)) fun x73 => ifS (calleeV (envP P) (V.func (.func (N Fn.disk_Disk_Clone_1)) [] [(V.ptr S3.next 0)]) [x73]) fun xf_2 => CallA P xf_2.1 xf_2.2 S23 (retT [(.one .any)] fun (x74 : V) (S24 : St) => Same (S21.next :: (S21.next :: (S.next :: []))) S23 S24 ∧ V.cells x74 = [x74] ∧ newS S24 (.cells [(V.str x68), (V.str x70), x74] true) fun S25 => Same (S21.next :: (S21.next :: (S21.next :: (S.next :: [])))) S24 S25 ∧ ifP (appV S25 3 40 x66 (V.slice S24.next 0 1 1 3 true)) fun x77 S26 => ifS (storeV S26 1 (V.ptr S.next 3) x77) fun S27 => setI (IntKind.i64.wrap (x61 + (1 : Int))) fun x79 => k3 x79 S27)) (K (V.ptr S.next 0) S21)) 0 S18)) S16)) S11)
abbrev disk_Disk_Clone.Ok (P : Program) (N : Nat → Nat) : Prop := Reads P (N Fn.disk_Disk_Clone) [(6, (.dt (.agg [(.int .i64), .any, .any, .any, (.int .i64), .bool, (.int .i64)])), []), (21, (.dt (.one .bool)), []), (1, (.dt (.one .str)), []), (8, .no, [(.one .any)]), (7, (.dt (.one .bool)), []), (1, (.dt (.one .str)), []), (8, .no, [(.one .any)]), (5, (.dt (.one (.int .i64))), []), (3, (.dt (.agg [.str, .str, .any])), []), (5, (.dt (.one .str)), []), (1, (.dt (.one .str)), []), (3, .no, [(.one .any)]), (0, (.dt (.agg [.str, .str, .any])), []), (0, (.dt (.agg [.str, .str, .any])), [])] [] [[], [], [(61, (.one (.int .i64)))]] (fun A T (x0 : V) (S : St) (K : V → St → Prop) => wpT P (envP P) T (endT A.results [(.one .any)] K) (frT A [x0]) S) (fun x0 S K => disk_Disk_Clone.p P N x0 S K)
theorem disk_Disk_Clone.run {P : Program} {N : Nat → Nat} (hF : disk_Disk_Clone.Ok P N) {x0 : V} {S : St} {K : V → St → Prop} (h : disk_Disk_Clone.p P N x0 S K) : CallA P (N Fn.disk_Disk_Clone) [x0] S (retT [(.one .any)] K) := hF.run (fun q => q x0 S K) h rfl

def disk_Disk_Crash.p (P : Program) (N : Nat → Nat) (x0 : V) (x1 : V) (S : St) (K : Int → St → Prop) : Prop :=
  newS S (.cells (V.cells x1) true) fun S1 => ∃ x14 : Bool, eqV 1 [] x0 V.nilPtr = some x14 ∧ ifC x14 (K 3 S1) (nilV x0 = some x0 ∧ ifS (fieldAddrV 5 x0) fun x19 => ifS (storeV S1 1 x19 (V.bool false)) fun S2 => nilV x0 = some x0 ∧ ifS (fieldAddrV 6 x0) fun x21 => ifS (storeV S2 1 x21 (V.int .i64 0)) fun S3 => nilV x0 = some x0 ∧ ifS (fieldAddrV 2 x0) fun x25 => ifS (loadV S3 x25) fun x26 => CallA P (N Fn.maps_Clone_disk_names) [x26] S3 (retT [(.one .any)] fun (x27 : V) (S4 : St) => nilV x0 = some x0 ∧ ifS (fieldAddrV 1 x0) fun x29 => ifS (storeV S4 1 x29 x27) fun S5 => nilV x0 = some x0 ∧ ifS (fieldAddrV 3 x0) fun x32 => ifS (loadV S5 x32) fun x33 => nilV x0 = some x0 ∧ ifS (fieldAddrV 3 x0) fun x38 => ifS (loadV S5 x38) fun x39 => ∃ x40 : Int, lenV S5 2 x39 = some (V.int .i64 x40) ∧ ifS (calleeV (envP P) (V.func (.func (N Fn.disk_Disk_Crash_1)) [] [(V.ptr S.next 0)]) []) fun xf => CallA P xf.1 xf.2 S5 (retT [(.one (.int .i64))] fun (x35 : Int) (S6 : St) => sameK (V.block x39 ++ (V.block x38 ++ (V.block x32 ++ []))) S5 S6 (CallA P (N Fn.disk_says) [(V.int .i64 x35), (V.int .i64 x40)] S6 (retT [(.one (.int .i64))] fun (x41 : Int) (S7 : St) => sameK (V.block x38 ++ (V.block x32 ++ [])) S6 S7 (ifS (sliceSlV 3 x33 none (some (V.int .i64 x41)) none) fun x42 => ∃ x43 : Int, lenV S7 2 x42 = some (V.int .i64 x43) ∧ Loop1 (fun (k1 : Int → St → Prop) (x44 : Int) (S8 : St) => ifC (decide (x44 < x43)) (ifS (idxAddrV 3 x42 (V.int .i64 x44)) fun x46 => ∃ x47_a : List UInt8, ∃ x47_b : List UInt8, ∃ x47_c : V, loadNV S8 3 x46 = some (V.agg [(V.str x47_a), (V.str x47_b), x47_c]) ∧ newS S8 (.cells [(V.str ([] : List UInt8)), (V.str ([] : List UInt8)), V.nilPtr] true) fun S9 => ifS (storeV S9 3 (V.ptr S8.next 0) (V.agg [(V.str x47_a), (V.str x47_b), x47_c])) fun S10 => nilV x0 = some x0 ∧ ifS (fieldAddrV 1 x0) fun x50 => ifS (loadV S10 x50) fun x51 => ∃ x52_a : List UInt8, ∃ x52_b : List UInt8, ∃ x52_c : V, loadNV S10 3 (V.ptr S8.next 0) = some (V.agg [(V.str x52_a), (V.str x52_b), x52_c]) ∧ CallA P (N Fn.disk_names_do) [x51, (V.agg [(V.str x52_a), (V.str x52_b), x52_c])] S10 (retT [] fun (S11 : St) => setI (IntKind.i64.wrap (x44 + (1 : Int))) fun x54 => k1 x54 S11)) (CallA P (N Fn.disk_Disk_Names) [x0] S8 (retT [(.one .any)] fun (x56 : V) (S12 : St) => ∃ x57 : Int, lenV S12 2 x56 = some (V.int .i64 x57) ∧ Loop1 (fun (k2 : Int → St → Prop) (x58 : Int) (S13 : St) => ifC (decide (x58 < x57)) (ifS (idxAddrV 1 x56 (V.int .i64 x58)) fun x60 => ∃ x61 : List UInt8, loadV S13 x60 = some (V.str x61) ∧ nilV x0 = some x0 ∧ ifS (fieldAddrV 1 x0) fun x64 => ifS (loadV S13 x64) fun x65 => ifS (lookupV S13 2 V.nilPtr false x65 (V.str x61)) fun x67 => ifS (calleeV (envP P) (V.func (.func (N Fn.disk_Disk_Crash_1)) [] [(V.ptr S.next 0)]) []) fun xf_1 => CallA P xf_1.1 xf_1.2 S13 (retT [(.one (.int .i64))] fun (x69 : Int) (S14 : St) => nilV x67 = some x67 ∧ ifS (fieldAddrV 0 x67) fun x72 => ifS (loadV S14 x72) fun x73 => nilV x67 = some x67 ∧ ifS (fieldAddrV 1 x67) fun x76 => ∃ x77 : Int, loadV S14 x76 = some (V.int .i64 x77) ∧ nilV x67 = some x67 ∧ ifS (fieldAddrV 0 x67) fun x81 => ifS (loadV S14 x81) fun x82 => ∃ x83 : Int, lenV S14 2 x82 = some (V.int .i64 x83) ∧ nilV x67 = some x67 ∧ ifS (fieldAddrV 1 x67) fun x86 => ∃ x87 : Int, loadV S14 x86 = some (V.int .i64 x87) ∧ setI (IntKind.i64.wrap (x83 - x87)) fun x88 => CallA P (N Fn.disk_says) [(V.int .i64 x69), (V.int .i64 x88)] S14 (retT [(.one (.int .i64))] fun (x89 : Int) (S15 : St) => sameK (V.block x86 ++ (V.block x82 ++ (V.block x81 ++ (V.block x76 ++ (V.block x72 ++ []))))) S14 S15 (setI (IntKind.i64.wrap (x77 + x89)) fun x90 => ifS (sliceSlV 1 x73 none (some (V.int .i64 x90)) none) fun x91 => CallA P (N Fn.slices_Clone_Lbyte) [x91] S15 (retT [(.one .any)] fun (x92 : V) (S16 : St) => sameK (V.block x86 ++ (V.block x82 ++ (V.block x81 ++ (V.block x76 ++ (V.block x72 ++ []))))) S15 S16 (Join0 (fun (k3 : St → Prop) => ifC (decide (x69 < (0 : Int))) (nilV x67 = some x67 ∧ ifS (fieldAddrV 1 x67) fun x98 => ∃ x99 : Int, loadV S16 x98 = some (V.int .i64 x99) ∧ ifS (sliceSlV 1 x92 (some (V.int .i64 x99)) none none) fun x100 => ifS (clearV S16 1 [(V.int .u8 0)] x100) fun S18 => k3  S18) (k3  S16)) (fun (S17 : St) => nilV x0 = some x0 ∧ ifS (fieldAddrV 1 x0) fun x103 => ifS (loadV S17 x103) fun x104 => ∃ x108 : Int, lenV S17 2 x92 = some (V.int .i64 x108) ∧ V.cells x92 = [x92] ∧ newS S17 (.cells [x92, (V.int .i64 x108)] true) fun S19 => ifS (mapUpdV S19 2 x104 (V.str x61) (V.ptr S17.next 0)) fun S20 => setI (IntKind.i64.wrap (x58 + (1 : Int))) fun x111 => k2 x111 S20))))))) (nilV x0 = some x0 ∧ ifS (fieldAddrV 1 x0) fun x115 => ifS (loadV S13 x115) fun x116 => CallA P (N Fn.maps_Clone_disk_names) [x116] S13 (retT [(.one .any)] fun (x117 : V) (S21 : St) => nilV x0 = some x0 ∧ ifS (fieldAddrV 2 x0) fun x119 => ifS (storeV S21 1 x119 x117) fun S22 => nilV x0 = some x0 ∧ ifS (fieldAddrV 3 x0) fun x122 => ifS (storeV S22 1 x122 V.nilSlice) fun S23 => K 0 S23))) 0 S12))) 0 S7))))))
abbrev disk_Disk_Crash.Ok (P : Program) (N : Nat → Nat) : Prop := Reads P (N Fn.disk_Disk_Crash) [(20, .no, [(.one .any)]), (12, (.dt (.one (.int .i64))), []), (1, .no, [(.one (.int .i64))]), (0, .no, [(.one (.int .i64))]), (1, (.dt (.one (.int .i64))), []), (2, (.dt (.agg [.str, .str, .any])), []), (6, (.dt (.agg [.str, .str, .any])), []), (4, .no, [(.one .any)]), (0, (.dt (.one (.int .i64))), []), (3, (.dt (.one .str)), []), (9, .no, [(.one (.int .i64))]), (8, (.dt (.one (.int .i64))), []), (5, (.dt (.one (.int .i64))), []), (3, (.dt (.one (.int .i64))), []), (1, .no, [(.one (.int .i64))]), (2, .no, [(.one .any)]), (7, (.dt (.one (.int .i64))), []), (9, (.dt (.one (.int .i64))), []), (0, (.dt (.agg [.any, (.int .i64)])), []), (9, .no, [(.one .any)])] [(22, [])] [[(44, (.one (.int .i64)))], [(58, (.one (.int .i64)))]] (fun A T (x0 : V) (x1 : V) (S : St) (K : Int → St → Prop) => wpT P (envP P) T (endT A.results [(.one (.int .i64))] K) (frT A [x0, x1]) S) (fun x0 x1 S K => disk_Disk_Crash.p P N x0 x1 S K)
theorem disk_Disk_Crash.run {P : Program} {N : Nat → Nat} (hF : disk_Disk_Crash.Ok P N) {x0 : V} {x1 : V} {S : St} {K : Int → St → Prop} (h : disk_Disk_Crash.p P N x0 x1 S K) : CallA P (N Fn.disk_Disk_Crash) [x0, x1] S (retT [(.one (.int .i64))] K) := hF.run (fun q => q x0 x1 S K) h rfl

def disk_Disk_Create.p (P : Program) (N : Nat → Nat) (x0 : V) (x1 : List UInt8) (S : St) (K : Int → St → Prop) : Prop :=
  CallA P (N Fn.disk_Disk_ready) [x0] S (retT [(.one (.int .i64))] fun (x9 : Int) (S1 : St) => ifC (!decide (x9 = (0 : Int))) (K x9 S1) (nilV x0 = some x0 ∧ ifS (fieldAddrV 1 x0) fun x16 => ifS (loadV S1 x16) fun x17 => ∃ x19a : V, ∃ x19b : Bool, lookupV S1 2 V.nilPtr true x17 (V.str x1) = some (V.tuple [x19a, (V.bool x19b)]) ∧ CallA P (N Fn.disk_good) [(V.str x1)] S1 (retT [(.one .bool)] fun (x24 : Bool) (S2 : St) => ifC (!x24) (K 170 S2) (ifC x19b (K 171 S2) (nilV x0 = some x0 ∧ ifS (fieldAddrV 1 x0) fun x31 => ifS (loadV S2 x31) fun x32 => ∃ x33 : Int, lenV S2 3 x32 = some (V.int .i64 x33) ∧ ifC (decide ((64 : Int) ≤ x33)) (K 175 S2) (newS S2 (.cells [V.nilSlice, (V.int .i64 0)] true) fun S3 => V.cells (V.ptr S2.next 0) = [(V.ptr S2.next 0)] ∧ CallA P (N Fn.disk_Disk_change) [x0, (V.agg [(V.str ([] : List UInt8)), (V.str x1), (V.ptr S2.next 0)])] S3 (retT [(.one (.int .i64))] fun (x40 : Int) (S4 : St) => K x40 S4)))))))
abbrev disk_Disk_Create.Ok (P : Program) (N : Nat → Nat) : Prop := Reads P (N Fn.disk_Disk_Create) [(2, .no, [(.one (.int .i64))]), (10, (.tup [(.one .any), (.one .bool)]), []), (6, .no, [(.one .bool)]), (10, (.dt (.one (.int .i64))), []), (5, (.dt (.agg [.any, (.int .i64)])), []), (1, (.dt (.agg [.str, .str, .any])), []), (0, .no, [(.one (.int .i64))])] [] [] (fun A T (x0 : V) (x1 : List UInt8) (S : St) (K : Int → St → Prop) => wpT P (envP P) T (endT A.results [(.one (.int .i64))] K) (frT A [x0, (V.str x1)]) S) (fun x0 x1 S K => disk_Disk_Create.p P N x0 x1 S K)
theorem disk_Disk_Create.run {P : Program} {N : Nat → Nat} (hF : disk_Disk_Create.Ok P N) {x0 : V} {x1 : List UInt8} {S : St} {K : Int → St → Prop} (h : disk_Disk_Create.p P N x0 x1 S K) : CallA P (N Fn.disk_Disk_Create) [x0, (V.str x1)] S (retT [(.one (.int .i64))] K) := hF.run (fun q => q x0 x1 S K) h rfl

def disk_Disk_SyncDir.p (P : Program) (N : Nat → Nat) (x0 : V) (S : St) (K : Int → St → Prop) : Prop :=
  CallA P (N Fn.disk_Disk_ready) [x0] S (retT [(.one (.int .i64))] fun (x5 : Int) (S1 : St) => ifC (!decide (x5 = (0 : Int))) (K x5 S1) (nilV x0 = some x0 ∧ ifS (fieldAddrV 1 x0) fun x12 => ifS (loadV S1 x12) fun x13 => CallA P (N Fn.maps_Clone_disk_names) [x13] S1 (retT [(.one .any)] fun (x14 : V) (S2 : St) => nilV x0 = some x0 ∧ ifS (fieldAddrV 2 x0) fun x16 => ifS (storeV S2 1 x16 x14) fun S3 => nilV x0 = some x0 ∧ ifS (fieldAddrV 3 x0) fun x19 => ifS (storeV S3 1 x19 V.nilSlice) fun S4 => CallA P (N Fn.disk_Disk_done) [x0] S4 (retT [(.one (.int .i64))] fun (x21 : Int) (S5 : St) => K x21 S5))))
abbrev disk_Disk_SyncDir.Ok (P : Program) (N : Nat → Nat) : Prop := Reads P (N Fn.disk_Disk_SyncDir) [(2, .no, [(.one (.int .i64))]), (10, .no, [(.one .any)]), (8, .no, [(.one (.int .i64))])] [] [] (fun A T (x0 : V) (S : St) (K : Int → St → Prop) => wpT P (envP P) T (endT A.results [(.one (.int .i64))] K) (frT A [x0]) S) (fun x0 S K => disk_Disk_SyncDir.p P N x0 S K)
theorem disk_Disk_SyncDir.run {P : Program} {N : Nat → Nat} (hF : disk_Disk_SyncDir.Ok P N) {x0 : V} {S : St} {K : Int → St → Prop} (h : disk_Disk_SyncDir.p P N x0 S K) : CallA P (N Fn.disk_Disk_SyncDir) [x0] S (retT [(.one (.int .i64))] K) := hF.run (fun q => q x0 S K) h rfl

def disk_Disk_Sync.p (P : Program) (N : Nat → Nat) (x0 : V) (x1 : List UInt8) (S : St) (K : Int → St → Prop) : Prop :=
  CallA P (N Fn.disk_Disk_find) [x0, (V.str x1)] S (retT [(.one .any), (.one (.int .i64))] fun (x10a : V) (x10b : Int) (S1 : St) => ifC (!decide (x10b = (0 : Int))) (K x10b S1) (nilV x10a = some x10a ∧ ifS (fieldAddrV 0 x10a) fun x19 => ifS (loadV S1 x19) fun x20 => ∃ x21 : Int, lenV S1 2 x20 = some (V.int .i64 x21) ∧ nilV x10a = some x10a ∧ ifS (fieldAddrV 1 x10a) fun x23 => ifS (storeV S1 1 x23 (V.int .i64 x21)) fun S2 => CallA P (N Fn.disk_Disk_done) [x0] S2 (retT [(.one (.int .i64))] fun (x25 : Int) (S3 : St) => K x25 S3)))
abbrev disk_Disk_Sync.Ok (P : Program) (N : Nat → Nat) : Prop := Reads P (N Fn.disk_Disk_Sync) [(3, .no, [(.one .any), (.one (.int .i64))]), (14, (.dt (.one (.int .i64))), []), (4, .no, [(.one (.int .i64))])] [] [] (fun A T (x0 : V) (x1 : List UInt8) (S : St) (K : Int → St → Prop) => wpT P (envP P) T (endT A.results [(.one (.int .i64))] K) (frT A [x0, (V.str x1)]) S) (fun x0 x1 S K => disk_Disk_Sync.p P N x0 x1 S K)
theorem disk_Disk_Sync.run {P : Program} {N : Nat → Nat} (hF : disk_Disk_Sync.Ok P N) {x0 : V} {x1 : List UInt8} {S : St} {K : Int → St → Prop} (h : disk_Disk_Sync.p P N x0 x1 S K) : CallA P (N Fn.disk_Disk_Sync) [x0, (V.str x1)] S (retT [(.one (.int .i64))] K) := hF.run (fun q => q x0 x1 S K) h rfl

def disk_Disk_Read.p (P : Program) (N : Nat → Nat) (x0 : V) (x1 : List UInt8) (S : St) (K : V → Int → St → Prop) : Prop :=
  CallA P (N Fn.disk_Disk_find) [x0, (V.str x1)] S (retT [(.one .any), (.one (.int .i64))] fun (x11a : V) (x11b : Int) (S1 : St) => ifC (!decide (x11b = (0 : Int))) (K V.nilSlice x11b S1) (nilV x11a = some x11a ∧ ifS (fieldAddrV 0 x11a) fun x19 => ifS (loadV S1 x19) fun x20 => CallA P (N Fn.slices_Clone_Lbyte) [x20] S1 (retT [(.one .any)] fun (x21 : V) (S2 : St) => K x21 0 S2)))
abbrev disk_Disk_Read.Ok (P : Program) (N : Nat → Nat) : Prop := Reads P (N Fn.disk_Disk_Read) [(4, .no, [(.one .any), (.one (.int .i64))]), (14, .no, [(.one .any)])] [] [] (fun A T (x0 : V) (x1 : List UInt8) (S : St) (K : V → Int → St → Prop) => wpT P (envP P) T (endT A.results [(.one .any), (.one (.int .i64))] K) (frT A [x0, (V.str x1)]) S) (fun x0 x1 S K => disk_Disk_Read.p P N x0 x1 S K)
theorem disk_Disk_Read.run {P : Program} {N : Nat → Nat} (hF : disk_Disk_Read.Ok P N) {x0 : V} {x1 : List UInt8} {S : St} {K : V → Int → St → Prop} (h : disk_Disk_Read.p P N x0 x1 S K) : CallA P (N Fn.disk_Disk_Read) [x0, (V.str x1)] S (retT [(.one .any), (.one (.int .i64))] K) := hF.run (fun q => q x0 x1 S K) h rfl

def disk_Disk_Append.p (P : Program) (N : Nat → Nat) (x0 : V) (x1 : List UInt8) (x2 : V) (S : St) (K : Int → St → Prop) : Prop :=
  CallA P (N Fn.disk_Disk_find) [x0, (V.str x1)] S (retT [(.one .any), (.one (.int .i64))] fun (x12a : V) (x12b : Int) (S1 : St) => ifC (!decide (x12b = (0 : Int))) (K x12b S1) (∃ x21 : Int, lenV S1 2 x2 = some (V.int .i64 x21) ∧ nilV x0 = some x0 ∧ ifS (fieldAddrV 0 x0) fun x24 => ∃ x25 : Int, loadV S1 x24 = some (V.int .i64 x25) ∧ CallA P (N Fn.disk_Disk_Used) [x0] S1 (retT [(.one (.int .i64))] fun (x27 : Int) (S2 : St) => sameK (V.block x24 ++ (V.block x2 ++ [])) S1 S2 (setI (IntKind.i64.wrap (x25 - x27)) fun x28 => ifC (decide (x28 < x21)) (K 173 S2) (nilV x12a = some x12a ∧ ifS (fieldAddrV 0 x12a) fun x33 => ifS (loadV S2 x33) fun x34 => nilV x12a = some x12a ∧ ifS (fieldAddrV 0 x12a) fun x37 => ifS (loadV S2 x37) fun x38 => ∃ x39 : Int, lenV S2 2 x38 = some (V.int .i64 x39) ∧ nilV x12a = some x12a ∧ ifS (fieldAddrV 0 x12a) fun x42 => ifS (loadV S2 x42) fun x43 => ∃ x44 : Int, lenV S2 2 x43 = some (V.int .i64 x44) ∧ ifS (sliceSlV 1 x34 none (some (V.int .i64 x39)) (some (V.int .i64 x44))) fun x45 => ifP (appV S2 1 1 x45 x2) fun x47 S3 => nilV x12a = some x12a ∧ ifS (fieldAddrV 0 x12a) fun x49 => ifS (storeV S3 1 x49 x47) fun S4 => CallA P (N Fn.disk_Disk_done) [x0] S4 (retT [(.one (.int .i64))] fun (x51 : Int) (S5 : St) => K x51 S5))))))
abbrev disk_Disk_Append.Ok (P : Program) (N : Nat → Nat) : Prop := Reads P (N Fn.disk_Disk_Append) [(3, .no, [(.one .any), (.one (.int .i64))]), (11, (.dt (.one (.int .i64))), []), (3, (.dt (.one (.int .i64))), []), (1, .no, [(.one (.int .i64))]), (13, (.dt (.one (.int .i64))), []), (4, (.dt (.one (.int .i64))), []), (7, .no, [(.one (.int .i64))])] [] [] (fun A T (x0 : V) (x1 : List UInt8) (x2 : V) (S : St) (K : Int → St → Prop) => wpT P (envP P) T (endT A.results [(.one (.int .i64))] K) (frT A [x0, (V.str x1), x2]) S) (fun x0 x1 x2 S K => disk_Disk_Append.p P N x0 x1 x2 S K)
theorem disk_Disk_Append.run {P : Program} {N : Nat → Nat} (hF : disk_Disk_Append.Ok P N) {x0 : V} {x1 : List UInt8} {x2 : V} {S : St} {K : Int → St → Prop} (h : disk_Disk_Append.p P N x0 x1 x2 S K) : CallA P (N Fn.disk_Disk_Append) [x0, (V.str x1), x2] S (retT [(.one (.int .i64))] K) := hF.run (fun q => q x0 x1 x2 S K) h rfl

def disk_Disk_Names.p (P : Program) (N : Nat → Nat) (x0 : V) (S : St) (K : V → St → Prop) : Prop :=
  CallA P (N Fn.disk_Disk_ready) [x0] S (retT [(.one (.int .i64))] fun (x4 : Int) (S1 : St) => ifC (!decide (x4 = (0 : Int))) (K V.nilSlice S1) (nilV x0 = some x0 ∧ ifS (fieldAddrV 1 x0) fun x8 => ifS (loadV S1 x8) fun x9 => CallA P (N Fn.maps_Keys_disk_names) [x9] S1 (retT [(.one .any)] fun (x10 : V) (S2 : St) => CallA P (N Fn.slices_Sorted_string) [x10] S2 (retT [(.one .any)] fun (x11 : V) (S3 : St) => K x11 S3))))
abbrev disk_Disk_Names.Ok (P : Program) (N : Nat → Nat) : Prop := Reads P (N Fn.disk_Disk_Names) [(2, .no, [(.one (.int .i64))]), (6, .no, [(.one .any)]), (0, .no, [(.one .any)])] [] [] (fun A T (x0 : V) (S : St) (K : V → St → Prop) => wpT P (envP P) T (endT A.results [(.one .any)] K) (frT A [x0]) S) (fun x0 S K => disk_Disk_Names.p P N x0 S K)
theorem disk_Disk_Names.run {P : Program} {N : Nat → Nat} (hF : disk_Disk_Names.Ok P N) {x0 : V} {S : St} {K : V → St → Prop} (h : disk_Disk_Names.p P N x0 S K) : CallA P (N Fn.disk_Disk_Names) [x0] S (retT [(.one .any)] K) := hF.run (fun q => q x0 S K) h rfl

def disk_Disk_Down.p (P : Program) (N : Nat → Nat) (x0 : V) (S : St) (K : Bool → St → Prop) : Prop :=
  ∃ x4 : Bool, eqV 1 [] x0 V.nilPtr = some x4 ∧ ifC (!x4) (nilV x0 = some x0 ∧ ifS (fieldAddrV 5 x0) fun x8 => ∃ x9 : Bool, loadV S x8 = some (V.bool x9) ∧ ifC x9 (nilV x0 = some x0 ∧ ifS (fieldAddrV 6 x0) fun x14 => ∃ x15 : Int, loadV S x14 = some (V.int .i64 x15) ∧ K (decide (x15 = (0 : Int))) S) (K false S)) (K false S)
abbrev disk_Disk_Down.Ok (P : Program) (N : Nat → Nat) : Prop := Reads P (N Fn.disk_Disk_Down) [(7, (.dt (.one .bool)), []), (5, (.dt (.one (.int .i64))), [])] [] [] (fun A T (x0 : V) (S : St) (K : Bool → St → Prop) => wpT P (envP P) T (endT A.results [(.one .bool)] K) (frT A [x0]) S) (fun x0 S K => disk_Disk_Down.p P N x0 S K)
theorem disk_Disk_Down.run {P : Program} {N : Nat → Nat} (hF : disk_Disk_Down.Ok P N) {x0 : V} {S : St} {K : Bool → St → Prop} (h : disk_Disk_Down.p P N x0 S K) : CallA P (N Fn.disk_Disk_Down) [x0] S (retT [(.one .bool)] K) := hF.run (fun q => q x0 S K) h rfl

def disk_Disk_Stop.p (P : Program) (N : Nat → Nat) (x0 : V) (x1 : Int) (S : St) (K : Int → St → Prop) : Prop :=
  CallA P (N Fn.disk_Disk_ready) [x0] S (retT [(.one (.int .i64))] fun (x7 : Int) (S1 : St) => ifC (!decide (x7 = (0 : Int))) (K x7 S1) (ifC (decide (x1 < (0 : Int))) (K 1 S1) (nilV x0 = some x0 ∧ ifS (fieldAddrV 5 x0) fun x17 => ifS (storeV S1 1 x17 (V.bool true)) fun S2 => nilV x0 = some x0 ∧ ifS (fieldAddrV 6 x0) fun x19 => ifS (storeV S2 1 x19 (V.int .i64 x1)) fun S3 => K 0 S3)))
abbrev disk_Disk_Stop.Ok (P : Program) (N : Nat → Nat) : Prop := Reads P (N Fn.disk_Disk_Stop) [(2, .no, [(.one (.int .i64))])] [] [] (fun A T (x0 : V) (x1 : Int) (S : St) (K : Int → St → Prop) => wpT P (envP P) T (endT A.results [(.one (.int .i64))] K) (frT A [x0, (V.int .i64 x1)]) S) (fun x0 x1 S K => disk_Disk_Stop.p P N x0 x1 S K)
theorem disk_Disk_Stop.run {P : Program} {N : Nat → Nat} (hF : disk_Disk_Stop.Ok P N) {x0 : V} {x1 : Int} {S : St} {K : Int → St → Prop} (h : disk_Disk_Stop.p P N x0 x1 S K) : CallA P (N Fn.disk_Disk_Stop) [x0, (V.int .i64 x1)] S (retT [(.one (.int .i64))] K) := hF.run (fun q => q x0 x1 S K) h rfl

def disk_Disk_Steps.p (P : Program) (N : Nat → Nat) (x0 : V) (S : St) (K : Int → St → Prop) : Prop :=
  ∃ x4 : Bool, eqV 1 [] x0 V.nilPtr = some x4 ∧ ifC x4 (K 0 S) (nilV x0 = some x0 ∧ ifS (fieldAddrV 4 x0) fun x7 => ∃ x8 : Int, loadV S x7 = some (V.int .i64 x8) ∧ K x8 S)
abbrev disk_Disk_Steps.Ok (P : Program) (N : Nat → Nat) : Prop := Reads P (N Fn.disk_Disk_Steps) [(7, (.dt (.one (.int .i64))), [])] [] [] (fun A T (x0 : V) (S : St) (K : Int → St → Prop) => wpT P (envP P) T (endT A.results [(.one (.int .i64))] K) (frT A [x0]) S) (fun x0 S K => disk_Disk_Steps.p P N x0 S K)
theorem disk_Disk_Steps.run {P : Program} {N : Nat → Nat} (hF : disk_Disk_Steps.Ok P N) {x0 : V} {S : St} {K : Int → St → Prop} (h : disk_Disk_Steps.p P N x0 S K) : CallA P (N Fn.disk_Disk_Steps) [x0] S (retT [(.one (.int .i64))] K) := hF.run (fun q => q x0 S K) h rfl

def disk_Disk_Used.p (P : Program) (N : Nat → Nat) (x0 : V) (S : St) (K : Int → St → Prop) : Prop :=
  CallA P (N Fn.disk_Disk_ready) [x0] S (retT [(.one (.int .i64))] fun (x7 : Int) (S1 : St) => ifC (!decide (x7 = (0 : Int))) (K 0 S1) (nilV x0 = some x0 ∧ ifS (fieldAddrV 1 x0) fun x11 => ifS (loadV S1 x11) fun x12 => anyK (rangeP S1 x12) fun x13 S2 => Loop1 (fun (k1 : Int → St → Prop) (x3 : Int) (S3 : St) => anyK (nextP S3 x13) fun x14 S4 => ∃ x15 : Bool, extractV 0 x14 = some (V.bool x15) ∧ ifC x15 (ifS (entryV S4 x13) fun x16 => ifS (extractV 1 x16) fun x17 => nilV x17 = some x17 ∧ ifS (fieldAddrV 0 x17) fun x21 => ifS (loadV S4 x21) fun x22 => ∃ x23 : Int, lenV S4 2 x22 = some (V.int .i64 x23) ∧ setI (IntKind.i64.wrap (x3 + x23)) fun x24 => k1 x24 S4) (K x3 S4)) 0 S2))
abbrev disk_Disk_Used.Ok (P : Program) (N : Nat → Nat) : Prop := Reads P (N Fn.disk_Disk_Used) [(2, .no, [(.one (.int .i64))]), (9, (.dt (.one .bool)), []), (8, (.dt (.one (.int .i64))), [])] [] [[(3, (.one (.int .i64)))]] (fun A T (x0 : V) (S : St) (K : Int → St → Prop) => wpT P (envP P) T (endT A.results [(.one (.int .i64))] K) (frT A [x0]) S) (fun x0 S K => disk_Disk_Used.p P N x0 S K)
theorem disk_Disk_Used.run {P : Program} {N : Nat → Nat} (hF : disk_Disk_Used.Ok P N) {x0 : V} {S : St} {K : Int → St → Prop} (h : disk_Disk_Used.p P N x0 S K) : CallA P (N Fn.disk_Disk_Used) [x0] S (retT [(.one (.int .i64))] K) := hF.run (fun q => q x0 S K) h rfl

def disk_Disk_Rename.p (P : Program) (N : Nat → Nat) (x0 : V) (x1 : List UInt8) (x2 : List UInt8) (S : St) (K : Int → St → Prop) : Prop :=
  CallA P (N Fn.disk_Disk_find) [x0, (V.str x1)] S (retT [(.one .any), (.one (.int .i64))] fun (x12a : V) (x12b : Int) (S1 : St) => ifC (!decide (x12b = (0 : Int))) (K x12b S1) (CallA P (N Fn.disk_good) [(V.str x2)] S1 (retT [(.one .bool)] fun (x21 : Bool) (S2 : St) => ifC (!x21) (K 170 S2) (V.cells x12a = [x12a] ∧ CallA P (N Fn.disk_Disk_change) [x0, (V.agg [(V.str x1), (V.str x2), x12a])] S2 (retT [(.one (.int .i64))] fun (x28 : Int) (S3 : St) => K x28 S3)))))
abbrev disk_Disk_Rename.Ok (P : Program) (N : Nat → Nat) : Prop := Reads P (N Fn.disk_Disk_Rename) [(3, .no, [(.one .any), (.one (.int .i64))]), (11, .no, [(.one .bool)]), (7, (.dt (.agg [.str, .str, .any])), []), (0, .no, [(.one (.int .i64))])] [] [] (fun A T (x0 : V) (x1 : List UInt8) (x2 : List UInt8) (S : St) (K : Int → St → Prop) => wpT P (envP P) T (endT A.results [(.one (.int .i64))] K) (frT A [x0, (V.str x1), (V.str x2)]) S) (fun x0 x1 x2 S K => disk_Disk_Rename.p P N x0 x1 x2 S K)
theorem disk_Disk_Rename.run {P : Program} {N : Nat → Nat} (hF : disk_Disk_Rename.Ok P N) {x0 : V} {x1 : List UInt8} {x2 : List UInt8} {S : St} {K : Int → St → Prop} (h : disk_Disk_Rename.p P N x0 x1 x2 S K) : CallA P (N Fn.disk_Disk_Rename) [x0, (V.str x1), (V.str x2)] S (retT [(.one (.int .i64))] K) := hF.run (fun q => q x0 x1 x2 S K) h rfl

def disk_Disk_Remove.p (P : Program) (N : Nat → Nat) (x0 : V) (x1 : List UInt8) (S : St) (K : Int → St → Prop) : Prop :=
  CallA P (N Fn.disk_Disk_find) [x0, (V.str x1)] S (retT [(.one .any), (.one (.int .i64))] fun (x10a : V) (x10b : Int) (S1 : St) => ifC (!decide (x10b = (0 : Int))) (K x10b S1) (CallA P (N Fn.disk_Disk_change) [x0, (V.agg [(V.str x1), (V.str ([] : List UInt8)), V.nilPtr])] S1 (retT [(.one (.int .i64))] fun (x19 : Int) (S2 : St) => K x19 S2)))
abbrev disk_Disk_Remove.Ok (P : Program) (N : Nat → Nat) : Prop := Reads P (N Fn.disk_Disk_Remove) [(3, .no, [(.one .any), (.one (.int .i64))]), (11, (.dt (.agg [.str, .str, .any])), []), (0, .no, [(.one (.int .i64))])] [] [] (fun A T (x0 : V) (x1 : List UInt8) (S : St) (K : Int → St → Prop) => wpT P (envP P) T (endT A.results [(.one (.int .i64))] K) (frT A [x0, (V.str x1)]) S) (fun x0 x1 S K => disk_Disk_Remove.p P N x0 x1 S K)
theorem disk_Disk_Remove.run {P : Program} {N : Nat → Nat} (hF : disk_Disk_Remove.Ok P N) {x0 : V} {x1 : List UInt8} {S : St} {K : Int → St → Prop} (h : disk_Disk_Remove.p P N x0 x1 S K) : CallA P (N Fn.disk_Disk_Remove) [x0, (V.str x1)] S (retT [(.one (.int .i64))] K) := hF.run (fun q => q x0 x1 S K) h rfl

def disk_Disk_Clone_1.p (P : Program) (N : Nat → Nat) (x0 : V) (x1 : V) (S : St) (K : V → St → Prop) : Prop :=
  ∃ x5 : Bool, eqV 1 [] x0 V.nilPtr = some x5 ∧ ifC x5 (K V.nilPtr S) (Join0 (fun (k1 : St → Prop) => ifS (loadV S x1) fun x6 => ifS (lookupPV S V.nilPtr false x6 x0) fun x8 => ∃ x9 : Bool, eqV 1 [] x8 V.nilPtr = some x9 ∧ ifC x9 (ifS (loadV S x1) fun x10 => nilV x0 = some x0 ∧ ifS (fieldAddrV 0 x0) fun x14 => ifS (loadV S x14) fun x15 => nilV x0 = some x0 ∧ ifS (fieldAddrV 1 x0) fun x19 => ∃ x20 : Int, loadV S x19 = some (V.int .i64 x20) ∧ CallA P (N Fn.slices_Clone_Lbyte) [x15] S (retT [(.one .any)] fun (x16 : V) (S2 : St) => sameK (V.block x19 ++ (V.block x1 ++ [])) S S2 (V.cells x16 = [x16] ∧ newS S2 (.cells [x16, (V.int .i64 x20)] true) fun S3 => sameK (V.block x19 ++ (V.block x14 ++ (V.block x1 ++ []))) S2 S3 (ifS (mapUpdPV S3 x10 x0 (V.ptr S2.next 0)) fun S4 => k1  S4)))) (k1  S)) (fun (S1 : St) => ifS (loadV S1 x1) fun x23 => ifS (lookupPV S1 V.nilPtr false x23 x0) fun x25 => K x25 S1))
abbrev disk_Disk_Clone_1.Ok (P : Program) (N : Nat → Nat) : Prop := Reads P (N Fn.disk_Disk_Clone_1) [(17, (.dt (.one (.int .i64))), []), (0, .no, [(.one .any)]), (0, (.dt (.agg [.any, (.int .i64)])), [])] [(4, [])] [] (fun A T (x0 : V) (x1 : V) (S : St) (K : V → St → Prop) => wpT P (envP P) T (endT A.results [(.one .any)] K) (frT A [x0, x1]) S) (fun x0 x1 S K => disk_Disk_Clone_1.p P N x0 x1 S K)
theorem disk_Disk_Clone_1.run {P : Program} {N : Nat → Nat} (hF : disk_Disk_Clone_1.Ok P N) {x0 : V} {x1 : V} {S : St} {K : V → St → Prop} (h : disk_Disk_Clone_1.p P N x0 x1 S K) : CallA P (N Fn.disk_Disk_Clone_1) [x0, x1] S (retT [(.one .any)] K) := hF.run (fun q => q x0 x1 S K) h rfl

def disk_Disk_Crash_1.p (P : Program) (N : Nat → Nat) (x0 : V) (S : St) (K : Int → St → Prop) : Prop :=
  ifS (loadV S x0) fun x3 => ∃ x4 : Int, lenV S 2 x3 = some (V.int .i64 x4) ∧ ifC (decide (x4 = (0 : Int))) (K 0 S) (ifS (loadV S x0) fun x6 => ifS (idxAddrV 1 x6 (V.int .i64 0)) fun x7 => ∃ x8 : Int, loadV S x7 = some (V.int .i64 x8) ∧ ifS (loadV S x0) fun x9 => ifS (sliceSlV 1 x9 (some (V.int .i64 1)) none none) fun x10 => ifS (storeV S 1 x0 x10) fun S1 => K x8 S1)
abbrev disk_Disk_Crash_1.Ok (P : Program) (N : Nat → Nat) : Prop := Reads P (N Fn.disk_Disk_Crash_1) [(2, (.dt (.one (.int .i64))), []), (4, (.dt (.one (.int .i64))), [])] [] [] (fun A T (x0 : V) (S : St) (K : Int → St → Prop) => wpT P (envP P) T (endT A.results [(.one (.int .i64))] K) (frT A [x0]) S) (fun x0 S K => disk_Disk_Crash_1.p P N x0 S K)
theorem disk_Disk_Crash_1.run {P : Program} {N : Nat → Nat} (hF : disk_Disk_Crash_1.Ok P N) {x0 : V} {S : St} {K : Int → St → Prop} (h : disk_Disk_Crash_1.p P N x0 S K) : CallA P (N Fn.disk_Disk_Crash_1) [x0] S (retT [(.one (.int .i64))] K) := hF.run (fun q => q x0 S K) h rfl

def disk_says.p (P : Program) (N : Nat → Nat) (x0 : Int) (x1 : Int) (S : St) (K : Int → St → Prop) : Prop :=
  Join1 (fun (k1 : Int → St → Prop) => ifC (decide (x0 < (0 : Int))) (setI (IntKind.i64.wrap (x0 + (1 : Int))) fun x8 => setI (IntKind.i64.wrap (0 - x8)) fun x9 => k1 x9 S) (k1 x0 S)) (fun (x0_1 : Int) (S1 : St) => setI (IntKind.i64.wrap (x1 + (1 : Int))) fun x12 => x12 ≠ 0 ∧ setI (Int.tmod x0_1 x12) fun x13 => K x13 S1)
abbrev disk_says.Ok (P : Program) (N : Nat → Nat) : Prop := Reads P (N Fn.disk_says) [] [(1, [(0, (.one (.int .i64)))])] [] (fun A T (x0 : Int) (x1 : Int) (S : St) (K : Int → St → Prop) => wpT P (envP P) T (endT A.results [(.one (.int .i64))] K) (frT A [(V.int .i64 x0), (V.int .i64 x1)]) S) (fun x0 x1 S K => disk_says.p P N x0 x1 S K)
theorem disk_says.run {P : Program} {N : Nat → Nat} (hF : disk_says.Ok P N) {x0 : Int} {x1 : Int} {S : St} {K : Int → St → Prop} (h : disk_says.p P N x0 x1 S K) : CallA P (N Fn.disk_says) [(V.int .i64 x0), (V.int .i64 x1)] S (retT [(.one (.int .i64))] K) := hF.run (fun q => q x0 x1 S K) h rfl

def disk_names_do.p (P : Program) (N : Nat → Nat) (x0 : V) (x1_a : List UInt8) (x1_b : List UInt8) (x1_c : V) (S : St) (K : St → Prop) : Prop :=
  newS S (.cells [(V.str x1_a), (V.str x1_b), x1_c] true) fun S1 => Join0 (fun (k1 : St → Prop) => ∃ x5 : List UInt8, loadV S1 (V.ptr S.next 0) = some (V.str x5) ∧ ifC (!decide (x5 = ([] : List UInt8))) (∃ x9 : List UInt8, loadV S1 (V.ptr S.next 0) = some (V.str x9) ∧ ifS (deleteV S1 2 x0 (V.str x9)) fun S3 => k1  S3) (k1  S1)) (fun (S2 : St) => ∃ x11 : List UInt8, loadV S2 (V.ptr S.next 1) = some (V.str x11) ∧ ifC (!decide (x11 = ([] : List UInt8))) (∃ x15 : List UInt8, loadV S2 (V.ptr S.next 1) = some (V.str x15) ∧ ifS (loadV S2 (V.ptr S.next 2)) fun x17 => ifS (mapUpdV S2 2 x0 (V.str x15) x17) fun S4 => K  S4) (K  S2))
abbrev disk_names_do.Ok (P : Program) (N : Nat → Nat) : Prop := Reads P (N Fn.disk_names_do) [(2, (.dt (.one .str)), []), (3, (.dt (.one .str)), []), (2, (.dt (.one .str)), []), (3, (.dt (.one .str)), [])] [(1, [])] [] (fun A T (x0 : V) (x1_a : List UInt8) (x1_b : List UInt8) (x1_c : V) (S : St) (K : St → Prop) => wpT P (envP P) T (endT A.results [] K) (frT A [x0, (V.agg [(V.str x1_a), (V.str x1_b), x1_c])]) S) (fun x0 x1_a x1_b x1_c S K => disk_names_do.p P N x0 x1_a x1_b x1_c S K)
theorem disk_names_do.run {P : Program} {N : Nat → Nat} (hF : disk_names_do.Ok P N) {x0 : V} {x1_a : List UInt8} {x1_b : List UInt8} {x1_c : V} {S : St} {K : St → Prop} (h : disk_names_do.p P N x0 x1_a x1_b x1_c S K) : CallA P (N Fn.disk_names_do) [x0, (V.agg [(V.str x1_a), (V.str x1_b), x1_c])] S (retT [] K) := hF.run (fun q => q x0 x1_a x1_b x1_c S K) h rfl

def disk_Disk_ready.p (P : Program) (N : Nat → Nat) (x0 : V) (S : St) (K : Int → St → Prop) : Prop :=
  ∃ x5 : Bool, eqV 1 [] x0 V.nilPtr = some x5 ∧ ifC x5 (K 3 S) (CallA P (N Fn.disk_Disk_Down) [x0] S (retT [(.one .bool)] fun (x8 : Bool) (S1 : St) => ifC x8 (K 174 S1) (K 0 S1)))
abbrev disk_Disk_ready.Ok (P : Program) (N : Nat → Nat) : Prop := Reads P (N Fn.disk_Disk_ready) [(6, .no, [(.one .bool)])] [] [] (fun A T (x0 : V) (S : St) (K : Int → St → Prop) => wpT P (envP P) T (endT A.results [(.one (.int .i64))] K) (frT A [x0]) S) (fun x0 S K => disk_Disk_ready.p P N x0 S K)
theorem disk_Disk_ready.run {P : Program} {N : Nat → Nat} (hF : disk_Disk_ready.Ok P N) {x0 : V} {S : St} {K : Int → St → Prop} (h : disk_Disk_ready.p P N x0 S K) : CallA P (N Fn.disk_Disk_ready) [x0] S (retT [(.one (.int .i64))] K) := hF.run (fun q => q x0 S K) h rfl

def disk_good.p (P : Program) (N : Nat → Nat) (x0 : List UInt8) (S : St) (K : Bool → St → Prop) : Prop :=
  newS S (.cells (bytesV x0) false) fun S1 => ∃ x7 : Int, lenV S1 2 (V.slice S.next 0 x0.length x0.length 1 false) = some (V.int .i64 x7) ∧ Loop1 (fun (k1 : Int → St → Prop) (x8 : Int) (S2 : St) => ifC (decide (x8 < x7)) (ifS (idxAddrV 1 (V.slice S.next 0 x0.length x0.length 1 false) (V.int .i64 x8)) fun x10 => ∃ x11 : Int, loadV S2 x10 = some (V.int .u8 x11) ∧ ifC (decide (x11 < (97 : Int))) (ifC (decide (x11 < (48 : Int))) (ifC (!decide (x11 = (46 : Int))) (ifC (!decide (x11 = (45 : Int))) (K false S2) (setI (IntKind.i64.wrap (x8 + (1 : Int))) fun x34 => k1 x34 S2)) (setI (IntKind.i64.wrap (x8 + (1 : Int))) fun x34_1 => k1 x34_1 S2)) (ifC (decide ((57 : Int) < x11)) (ifC (!decide (x11 = (46 : Int))) (ifC (!decide (x11 = (45 : Int))) (K false S2) (setI (IntKind.i64.wrap (x8 + (1 : Int))) fun x34_2 => k1 x34_2 S2)) (setI (IntKind.i64.wrap (x8 + (1 : Int))) fun x34_3 => k1 x34_3 S2)) (setI (IntKind.i64.wrap (x8 + (1 : Int))) fun x34_4 => k1 x34_4 S2))) (ifC (decide ((122 : Int) < x11)) (ifC (decide (x11 < (48 : Int))) (ifC (!decide (x11 = (46 : Int))) (ifC (!decide (x11 = (45 : Int))) (K false S2) (setI (IntKind.i64.wrap (x8 + (1 : Int))) fun x34_5 => k1 x34_5 S2)) (setI (IntKind.i64.wrap (x8 + (1 : Int))) fun x34_6 => k1 x34_6 S2)) (ifC (decide ((57 : Int) < x11)) (ifC (!decide (x11 = (46 : Int))) (ifC (!decide (x11 = (45 : Int))) (K false S2) (setI (IntKind.i64.wrap (x8 + (1 : Int))) fun x34_7 => k1 x34_7 S2)) (setI (IntKind.i64.wrap (x8 + (1 : Int))) fun x34_8 => k1 x34_8 S2)) (setI (IntKind.i64.wrap (x8 + (1 : Int))) fun x34_9 => k1 x34_9 S2))) (setI (IntKind.i64.wrap (x8 + (1 : Int))) fun x34_10 => k1 x34_10 S2))) (ifC (!decide (x0 = ([] : List UInt8))) (K (decide ((x0.length : Int) ≤ (32 : Int))) S2) (K false S2))) 0 S1
abbrev disk_good.Ok (P : Program) (N : Nat → Nat) : Prop := Reads P (N Fn.disk_good) [(3, (.dt (.one (.int .i64))), []), (3, (.dt (.one (.int .u8))), [])] [] [[(8, (.one (.int .i64)))]] (fun A T (x0 : List UInt8) (S : St) (K : Bool → St → Prop) => wpT P (envP P) T (endT A.results [(.one .bool)] K) (frT A [(V.str x0)]) S) (fun x0 S K => disk_good.p P N x0 S K)
theorem disk_good.run {P : Program} {N : Nat → Nat} (hF : disk_good.Ok P N) {x0 : List UInt8} {S : St} {K : Bool → St → Prop} (h : disk_good.p P N x0 S K) : CallA P (N Fn.disk_good) [(V.str x0)] S (retT [(.one .bool)] K) := hF.run (fun q => q x0 S K) h rfl

def disk_Disk_change.p (P : Program) (N : Nat → Nat) (x0 : V) (x1_a : List UInt8) (x1_b : List UInt8) (x1_c : V) (S : St) (K : Int → St → Prop) : Prop :=
  newS S (.cells [(V.str x1_a), (V.str x1_b), x1_c] true) fun S1 => nilV x0 = some x0 ∧ ifS (fieldAddrV 1 x0) fun x7 => ifS (loadV S1 x7) fun x8 => ∃ x9_a : List UInt8, ∃ x9_b : List UInt8, ∃ x9_c : V, loadNV S1 3 (V.ptr S.next 0) = some (V.agg [(V.str x9_a), (V.str x9_b), x9_c]) ∧ CallA P (N Fn.disk_names_do) [x8, (V.agg [(V.str x9_a), (V.str x9_b), x9_c])] S1 (retT [] fun (S2 : St) => nilV x0 = some x0 ∧ ifS (fieldAddrV 3 x0) fun x14 => ifS (loadV S2 x14) fun x15 => ∃ x16_a : List UInt8, ∃ x16_b : List UInt8, ∃ x16_c : V, loadNV S2 3 (V.ptr S.next 0) = some (V.agg [(V.str x16_a), (V.str x16_b), x16_c]) ∧ newS S2 (.cells [(V.str x16_a), (V.str x16_b), x16_c] true) fun S3 => sameK (V.block x14 ++ []) S2 S3 (ifP (appV S3 3 40 x15 (V.slice S2.next 0 1 1 3 true)) fun x18 S4 => nilV x0 = some x0 ∧ ifS (fieldAddrV 3 x0) fun x20 => ifS (storeV S4 1 x20 x18) fun S5 => CallA P (N Fn.disk_Disk_done) [x0] S5 (retT [(.one (.int .i64))] fun (x22 : Int) (S6 : St) => K x22 S6)))
abbrev disk_Disk_change.Ok (P : Program) (N : Nat → Nat) : Prop := Reads P (N Fn.disk_Disk_change) [(6, (.dt (.agg [.str, .str, .any])), []), (6, (.dt (.agg [.str, .str, .any])), []), (0, (.dt (.agg [.str, .str, .any])), []), (5, .no, [(.one (.int .i64))])] [] [] (fun A T (x0 : V) (x1_a : List UInt8) (x1_b : List UInt8) (x1_c : V) (S : St) (K : Int → St → Prop) => wpT P (envP P) T (endT A.results [(.one (.int .i64))] K) (frT A [x0, (V.agg [(V.str x1_a), (V.str x1_b), x1_c])]) S) (fun x0 x1_a x1_b x1_c S K => disk_Disk_change.p P N x0 x1_a x1_b x1_c S K)
theorem disk_Disk_change.run {P : Program} {N : Nat → Nat} (hF : disk_Disk_change.Ok P N) {x0 : V} {x1_a : List UInt8} {x1_b : List UInt8} {x1_c : V} {S : St} {K : Int → St → Prop} (h : disk_Disk_change.p P N x0 x1_a x1_b x1_c S K) : CallA P (N Fn.disk_Disk_change) [x0, (V.agg [(V.str x1_a), (V.str x1_b), x1_c])] S (retT [(.one (.int .i64))] K) := hF.run (fun q => q x0 x1_a x1_b x1_c S K) h rfl

def disk_Disk_done.p (P : Program) (N : Nat → Nat) (x0 : V) (S : St) (K : Int → St → Prop) : Prop :=
  nilV x0 = some x0 ∧ ifS (fieldAddrV 4 x0) fun x5 => ∃ x6 : Int, loadV S x5 = some (V.int .i64 x6) ∧ setI (IntKind.i64.wrap (x6 + (1 : Int))) fun x7 => nilV x0 = some x0 ∧ ifS (fieldAddrV 4 x0) fun x9 => ifS (storeV S 1 x9 (V.int .i64 x7)) fun S1 => nilV x0 = some x0 ∧ ifS (fieldAddrV 5 x0) fun x12 => ∃ x13 : Bool, loadV S1 x12 = some (V.bool x13) ∧ ifC x13 (nilV x0 = some x0 ∧ ifS (fieldAddrV 6 x0) fun x16 => ∃ x17 : Int, loadV S1 x16 = some (V.int .i64 x17) ∧ setI (IntKind.i64.wrap (x17 - (1 : Int))) fun x18 => nilV x0 = some x0 ∧ ifS (fieldAddrV 6 x0) fun x20 => ifS (storeV S1 1 x20 (V.int .i64 x18)) fun S2 => K 0 S2) (K 0 S1)
abbrev disk_Disk_done.Ok (P : Program) (N : Nat → Nat) : Prop := Reads P (N Fn.disk_Disk_done) [(4, (.dt (.one (.int .i64))), []), (7, (.dt (.one .bool)), []), (3, (.dt (.one (.int .i64))), [])] [] [] (fun A T (x0 : V) (S : St) (K : Int → St → Prop) => wpT P (envP P) T (endT A.results [(.one (.int .i64))] K) (frT A [x0]) S) (fun x0 S K => disk_Disk_done.p P N x0 S K)
theorem disk_Disk_done.run {P : Program} {N : Nat → Nat} (hF : disk_Disk_done.Ok P N) {x0 : V} {S : St} {K : Int → St → Prop} (h : disk_Disk_done.p P N x0 S K) : CallA P (N Fn.disk_Disk_done) [x0] S (retT [(.one (.int .i64))] K) := hF.run (fun q => q x0 S K) h rfl

def disk_Disk_find.p (P : Program) (N : Nat → Nat) (x0 : V) (x1 : List UInt8) (S : St) (K : V → Int → St → Prop) : Prop :=
  CallA P (N Fn.disk_Disk_ready) [x0] S (retT [(.one (.int .i64))] fun (x10 : Int) (S1 : St) => ifC (!decide (x10 = (0 : Int))) (K V.nilPtr x10 S1) (nilV x0 = some x0 ∧ ifS (fieldAddrV 1 x0) fun x17 => ifS (loadV S1 x17) fun x18 => ∃ x20a : V, ∃ x20b : Bool, lookupV S1 2 V.nilPtr true x18 (V.str x1) = some (V.tuple [x20a, (V.bool x20b)]) ∧ ifC (!x20b) (K V.nilPtr 172 S1) (K x20a 0 S1)))
abbrev disk_Disk_find.Ok (P : Program) (N : Nat → Nat) : Prop := Reads P (N Fn.disk_Disk_find) [(3, .no, [(.one (.int .i64))]), (11, (.tup [(.one .any), (.one .bool)]), [])] [] [] (fun A T (x0 : V) (x1 : List UInt8) (S : St) (K : V → Int → St → Prop) => wpT P (envP P) T (endT A.results [(.one .any), (.one (.int .i64))] K) (frT A [x0, (V.str x1)]) S) (fun x0 x1 S K => disk_Disk_find.p P N x0 x1 S K)
theorem disk_Disk_find.run {P : Program} {N : Nat → Nat} (hF : disk_Disk_find.Ok P N) {x0 : V} {x1 : List UInt8} {S : St} {K : V → Int → St → Prop} (h : disk_Disk_find.p P N x0 x1 S K) : CallA P (N Fn.disk_Disk_find) [x0, (V.str x1)] S (retT [(.one .any), (.one (.int .i64))] K) := hF.run (fun q => q x0 x1 S K) h rfl

end Go.Th.L
end

section
/- Functions of law18, read without frames (printed by tools/lib.py). -/
set_option linter.unusedVariables false
set_option maxRecDepth 100000
set_option maxHeartbeats 2000000
namespace Go.Th.L
open Go Go.Th

def law18_WalNil.p (P : Program) (N : Nat → Nat) (x0 : List UInt8) (x1 : Int) (S : St) (K : Bool → St → Prop) : Prop :=
  ifC (decide ((262144 : Int) < (x0.length : Int))) (CallA P (N Fn.law18_awake) [] S (retT [(.one .bool)] fun (x14 : Bool) (S1 : St) => K x14 S1)) (CallA P (N Fn.wal_Open) [V.nilPtr] S (retT [(.one .any), (.one .any), (.one (.int .i64))] fun (x16a : V) (x16b : V) (x16c : Int) (S2 : St) => CallA P (N Fn.wal_Log_Append) [V.nilPtr, (V.str x0)] S2 (retT [(.one (.int .i64)), (.one (.int .i64))] fun (x23a : Int) (x23b : Int) (S3 : St) => CallA P (N Fn.law18_awake) [] S3 (retT [(.one .bool)] fun (x26 : Bool) (S4 : St) => ifC x26 (∃ x29 : Bool, eqV 1 [] x16a V.nilPtr = some x29 ∧ ifC x29 (∃ x33 : Int, lenV S4 2 x16b = some (V.int .i64 x33) ∧ ifC (decide (x33 = (0 : Int))) (ifC (decide (x16c = (3 : Int))) (ifC (decide (x23a = (0 : Int))) (ifC (decide (x23b = (3 : Int))) (CallA P (N Fn.wal_Log_Sync) [V.nilPtr] S4 (retT [(.one (.int .i64))] fun (x50 : Int) (S5 : St) => ifC (decide (x50 = (3 : Int))) (CallA P (N Fn.wal_Log_Cut) [V.nilPtr, (V.int .i64 x1)] S5 (retT [(.one (.int .i64))] fun (x56 : Int) (S6 : St) => ifC (decide (x56 = (3 : Int))) (CallA P (N Fn.wal_Log_Synced) [V.nilPtr] S6 (retT [(.one (.int .i64))] fun (x61 : Int) (S7 : St) => ifC (decide (x61 = (0 : Int))) (CallA P (N Fn.wal_Log_Last) [V.nilPtr] S7 (retT [(.one (.int .i64))] fun (x66 : Int) (S8 : St) => ifC (decide (x66 = (0 : Int))) (CallA P (N Fn.wal_Log_First) [V.nilPtr] S8 (retT [(.one (.int .i64))] fun (x71 : Int) (S9 : St) => K (decide (x71 = (0 : Int))) S9)) (K false S8))) (K false S7))) (K false S6))) (K false S5))) (K false S4)) (K false S4)) (K false S4)) (K false S4)) (K false S4)) (K false S4)))))
abbrev law18_WalNil.Ok (P : Program) (N : Nat → Nat) : Prop := Reads P (N Fn.law18_WalNil) [(4, .no, [(.one .bool)]), (1, .no, [(.one .any), (.one .any), (.one (.int .i64))]), (10, .no, [(.one (.int .i64)), (.one (.int .i64))]), (5, .no, [(.one .bool)]), (6, (.dt (.one (.int .i64))), []), (16, .no, [(.one (.int .i64))]), (5, .no, [(.one (.int .i64))]), (4, .no, [(.one (.int .i64))]), (4, .no, [(.one (.int .i64))]), (4, .no, [(.one (.int .i64))])] [] [] (fun A T (x0 : List UInt8) (x1 : Int) (S : St) (K : Bool → St → Prop) => wpT P (envP P) T (endT A.results [(.one .bool)] K) (frT A [(V.str x0), (V.int .i64 x1)]) S) (fun x0 x1 S K => law18_WalNil.p P N x0 x1 S K)
theorem law18_WalNil.run {P : Program} {N : Nat → Nat} (hF : law18_WalNil.Ok P N) {x0 : List UInt8} {x1 : Int} {S : St} {K : Bool → St → Prop} (h : law18_WalNil.p P N x0 x1 S K) : CallA P (N Fn.law18_WalNil) [(V.str x0), (V.int .i64 x1)] S (retT [(.one .bool)] K) := hF.run (fun q => q x0 x1 S K) h rfl

def law18_awake.p (P : Program) (N : Nat → Nat) (S : St) (K : Bool → St → Prop) : Prop :=
  CallA P (N Fn.law18_room) [] S (retT [(.one .any)] fun (x16 : V) (S1 : St) => CallA P (N Fn.wal_Open) [x16] S1 (retT [(.one .any), (.one .any), (.one (.int .i64))] fun (x19a : V) (x19b : V) (x19c : Int) (S2 : St) => Join0 (fun (k1 : St → Prop) => ∃ x24 : Bool, eqV 1 [] x19a V.nilPtr = some x24 ∧ ifC x24 (K false S2) (ifC (!decide (x19c = (0 : Int))) (K false S2) (∃ x31 : Int, lenV S2 2 x19b = some (V.int .i64 x31) ∧ ifC (decide ((0 : Int) < x31)) (K false S2) (k1  S2)))) (fun (S3 : St) => CallA P (N Fn.wal_Log_Append) [x19a, (V.str ([97] : List UInt8))] S3 (retT [(.one (.int .i64)), (.one (.int .i64))] fun (x36a : Int) (x36b : Int) (S4 : St) => CallA P (N Fn.wal_Log_Append) [x19a, (V.str ([98] : List UInt8))] S4 (retT [(.one (.int .i64)), (.one (.int .i64))] fun (x41a : Int) (x41b : Int) (S5 : St) => CallA P (N Fn.wal_Log_Sync) [x19a] S5 (retT [(.one (.int .i64))] fun (x45 : Int) (S6 : St) => CallA P (N Fn.wal_Log_Synced) [x19a] S6 (retT [(.one (.int .i64))] fun (x47 : Int) (S7 : St) => ifP (mkSliceV S7 1 1 [(V.int .u8 0)] (V.int .i64 65537) (V.int .i64 65537)) fun x50 S8 => ∃ x51 : List UInt8, convBSV S8 x50 = some (V.str x51) ∧ CallA P (N Fn.wal_Log_Append) [x19a, (V.str x51)] S8 (retT [(.one (.int .i64)), (.one (.int .i64))] fun (x52a : Int) (x52b : Int) (S9 : St) => CallA P (N Fn.wal_Log_Append) [x19a, (V.str ([99] : List UInt8))] S9 (retT [(.one (.int .i64)), (.one (.int .i64))] fun (x56a : Int) (x56b : Int) (S10 : St) => CallA P (N Fn.disk_Disk_Crash) [x16, V.nilSlice] S10 (retT [(.one (.int .i64))] fun (x58 : Int) (S11 : St) => CallA P (N Fn.wal_Open) [x16] S11 (retT [(.one .any), (.one .any), (.one (.int .i64))] fun (x61a : V) (x61b : V) (x61c : Int) (S12 : St) => Join0 (fun (k2 : St → Prop) => ∃ x66 : Bool, eqV 1 [] x61a V.nilPtr = some x66 ∧ ifC x66 (K false S12) (ifC (!decide (x61c = (0 : Int))) (K false S12) (∃ x73 : Int, lenV S12 2 x61b = some (V.int .i64 x73) ∧ ifC (decide (x73 < (2 : Int))) (K false S12) (∃ x78 : Int, lenV S12 2 x61b = some (V.int .i64 x78) ∧ ifC (decide ((3 : Int) < x78)) (K false S12) (k2  S12))))) (fun (S13 : St) => ifC (decide (x36b = (0 : Int))) (ifC (decide (x41b = (0 : Int))) (ifC (decide (x36a = (1 : Int))) (ifC (decide (x41a = (2 : Int))) (ifC (decide (x45 = (0 : Int))) (ifC (decide (x47 = (2 : Int))) (ifC (decide (x52b = (2 : Int))) (ifS (idxAddrV 2 x61b (V.int .i64 0)) fun x109 => ∃ x110_a : Int, ∃ x110_b : List UInt8, loadNV S13 2 x109 = some (V.agg [(V.int .i64 x110_a), (V.str x110_b)]) ∧ ∃ x112 : Bool, eqV 6 [1, 2] (V.agg [(V.int .i64 x110_a), (V.str x110_b)]) (V.agg [(V.int .i64 1), (V.str ([97] : List UInt8))]) = some x112 ∧ ifC x112 (ifS (idxAddrV 2 x61b (V.int .i64 1)) fun x116 => ∃ x117_a : Int, ∃ x117_b : List UInt8, loadNV S13 2 x116 = some (V.agg [(V.int .i64 x117_a), (V.str x117_b)]) ∧ ∃ x119 : Bool, eqV 6 [1, 2] (V.agg [(V.int .i64 x117_a), (V.str x117_b)]) (V.agg [(V.int .i64 2), (V.str ([98] : List UInt8))]) = some x119 ∧ ifC x119 (CallA P (N Fn.wal_Log_Last) [x61a] S13 (retT [(.one (.int .i64))] fun (x123 : Int) (S14 : St) => ∃ x125 : Int, lenV S14 2 x61b = some (V.int .i64 x125) ∧ ifC (decide (x123 = x125)) (CallA P (N Fn.wal_Log_Cut) [x61a, (V.int .i64 9)] S14 (retT [(.one (.int .i64))] fun (x130 : Int) (S15 : St) => K (decide (x130 = (180 : Int))) S15)) (K false S14))) (K false S13)) (K false S13)) (K false S13)) (K false S13)) (K false S13)) (K false S13)) (K false S13)) (K false S13)) (K false S13)))))))))))))
abbrev law18_awake.Ok (P : Program) (N : Nat → Nat) : Prop := Reads P (N Fn.law18_awake) [(1, .no, [(.one .any)]), (2, .no, [(.one .any), (.one .any), (.one (.int .i64))]), (15, (.dt (.one (.int .i64))), []), (4, .no, [(.one (.int .i64)), (.one (.int .i64))]), (6, .no, [(.one (.int .i64)), (.one (.int .i64))]), (6, .no, [(.one (.int .i64))]), (2, .no, [(.one (.int .i64))]), (3, (.dt (.one .str)), []), (0, .no, [(.one (.int .i64)), (.one (.int .i64))]), (6, .no, [(.one (.int .i64)), (.one (.int .i64))]), (1, .no, [(.one (.int .i64))]), (1, .no, [(.one .any), (.one .any), (.one (.int .i64))]), (15, (.dt (.one (.int .i64))), []), (4, (.dt (.one (.int .i64))), []), (32, (.dt (.agg [(.int .i64), .str])), []), (0, (.dt (.agg [(.int .i64), .str])), []), (5, (.dt (.agg [(.int .i64), .str])), []), (0, (.dt (.agg [(.int .i64), .str])), []), (4, .no, [(.one (.int .i64))]), (1, (.dt (.one (.int .i64))), []), (4, .no, [(.one (.int .i64))])] [(3, []), (10, [])] [] (fun A T (S : St) (K : Bool → St → Prop) => wpT P (envP P) T (endT A.results [(.one .bool)] K) (frT A []) S) (fun  S K => law18_awake.p P N  S K)
theorem law18_awake.run {P : Program} {N : Nat → Nat} (hF : law18_awake.Ok P N) {S : St} {K : Bool → St → Prop} (h : law18_awake.p P N  S K) : CallA P (N Fn.law18_awake) [] S (retT [(.one .bool)] K) := hF.run (fun q => q  S K) h rfl

def law18_room.p (P : Program) (N : Nat → Nat) (S : St) (K : V → St → Prop) : Prop :=
  CallA P (N Fn.disk_New) [(V.int .i64 4194304)] S (retT [(.one .any), (.one (.int .i64))] fun (x4a : V) (x4b : Int) (S1 : St) => K x4a S1)
abbrev law18_room.Ok (P : Program) (N : Nat → Nat) : Prop := Reads P (N Fn.law18_room) [(1, .no, [(.one .any), (.one (.int .i64))])] [] [] (fun A T (S : St) (K : V → St → Prop) => wpT P (envP P) T (endT A.results [(.one .any)] K) (frT A []) S) (fun  S K => law18_room.p P N  S K)
theorem law18_room.run {P : Program} {N : Nat → Nat} (hF : law18_room.Ok P N) {S : St} {K : V → St → Prop} (h : law18_room.p P N  S K) : CallA P (N Fn.law18_room) [] S (retT [(.one .any)] K) := hF.run (fun q => q  S K) h rfl

end Go.Th.L
end

section
/- Functions of maps, read without frames (printed by tools/lib.py). -/
set_option linter.unusedVariables false
set_option maxRecDepth 100000
set_option maxHeartbeats 2000000
namespace Go.Th.L
open Go Go.Th

def maps_Keys_disk_names.p (P : Program) (N : Nat → Nat) (x0 : V) (S : St) (K : V → St → Prop) : Prop :=
  newS S (.cells (V.cells x0) true) fun S1 => K (V.func (.func (N Fn.maps_Keys_disk_names_1)) [] [(V.ptr S.next 0)]) S1
abbrev maps_Keys_disk_names.Ok (P : Program) (N : Nat → Nat) : Prop := Reads P (N Fn.maps_Keys_disk_names) [] [] [] (fun A T (x0 : V) (S : St) (K : V → St → Prop) => wpT P (envP P) T (endT A.results [(.one .any)] K) (frT A [x0]) S) (fun x0 S K => maps_Keys_disk_names.p P N x0 S K)
theorem maps_Keys_disk_names.run {P : Program} {N : Nat → Nat} (hF : maps_Keys_disk_names.Ok P N) {x0 : V} {S : St} {K : V → St → Prop} (h : maps_Keys_disk_names.p P N x0 S K) : CallA P (N Fn.maps_Keys_disk_names) [x0] S (retT [(.one .any)] K) := hF.run (fun q => q x0 S K) h rfl

def maps_Keys_disk_names_1.p (P : Program) (N : Nat → Nat) (x0 : V) (x1 : V) (S : St) (K : St → Prop) : Prop :=
  ifS (loadV S x1) fun x4 => anyK (rangeP S x4) fun x5 S1 => Loop0 (fun (k1 : St → Prop) (S2 : St) => anyK (nextP S2 x5) fun x6 S3 => ∃ x7 : Bool, extractV 0 x6 = some (V.bool x7) ∧ ifC x7 (ifS (entryV S3 x5) fun x8 => ∃ x9 : List UInt8, extractV 0 x8 = some (V.str x9) ∧ ifS (calleeV (envP P) x0 [(V.str x9)]) fun xf => CallA P xf.1 xf.2 S3 (retT [(.one .bool)] fun (x12 : Bool) (S4 : St) => ifC (!x12) (K  S4) (k1  S4))) (K  S3)) S1
abbrev maps_Keys_disk_names_1.Ok (P : Program) (N : Nat → Nat) : Prop := Reads P (N Fn.maps_Keys_disk_names_1) [(3, (.dt (.one .bool)), []), (1, (.dt (.one .str)), []), (3, .no, [(.one .bool)])] [] [[]] (fun A T (x0 : V) (x1 : V) (S : St) (K : St → Prop) => wpT P (envP P) T (endT A.results [] K) (frT A [x0, x1]) S) (fun x0 x1 S K => maps_Keys_disk_names_1.p P N x0 x1 S K)
theorem maps_Keys_disk_names_1.run {P : Program} {N : Nat → Nat} (hF : maps_Keys_disk_names_1.Ok P N) {x0 : V} {x1 : V} {S : St} {K : St → Prop} (h : maps_Keys_disk_names_1.p P N x0 x1 S K) : CallA P (N Fn.maps_Keys_disk_names_1) [x0, x1] S (retT [] K) := hF.run (fun q => q x0 x1 S K) h rfl

end Go.Th.L
end

section
/- Functions of slicesByte, read without frames (printed by tools/lib.py). -/
set_option linter.unusedVariables false
set_option maxRecDepth 100000
set_option maxHeartbeats 2000000
namespace Go.Th.L
open Go Go.Th

def slices_Clone_Lbyte.p (P : Program) (N : Nat → Nat) (x0 : V) (S : St) (K : V → St → Prop) : Prop :=
  ∃ x4 : Bool, eqV 2 [] x0 V.nilSlice = some x4 ∧ ifC x4 (K V.nilSlice S) (newS S (.cells [] true) fun S1 => ifP (appV S1 1 1 (V.slice S.next 0 0 0 1 true) x0) fun x7 S2 => K x7 S2)
abbrev slices_Clone_Lbyte.Ok (P : Program) (N : Nat → Nat) : Prop := Reads P (N Fn.slices_Clone_Lbyte) [(4, (.dt (.agg [])), [])] [] [] (fun A T (x0 : V) (S : St) (K : V → St → Prop) => wpT P (envP P) T (endT A.results [(.one .any)] K) (frT A [x0]) S) (fun x0 S K => slices_Clone_Lbyte.p P N x0 S K)
theorem slices_Clone_Lbyte.run {P : Program} {N : Nat → Nat} (hF : slices_Clone_Lbyte.Ok P N) {x0 : V} {S : St} {K : V → St → Prop} (h : slices_Clone_Lbyte.p P N x0 S K) : CallA P (N Fn.slices_Clone_Lbyte) [x0] S (retT [(.one .any)] K) := hF.run (fun q => q x0 S K) h rfl

end Go.Th.L
end

section
/- Functions of slicesStr, read without frames (printed by tools/lib.py). -/
set_option linter.unusedVariables false
set_option maxRecDepth 100000
set_option maxHeartbeats 2000000
namespace Go.Th.L
open Go Go.Th

def slices_Sorted_string.p (P : Program) (N : Nat → Nat) (x0 : V) (S : St) (K : V → St → Prop) : Prop :=
  CallA P (N Fn.slices_Collect_string) [x0] S (retT [(.one .any)] fun (x5 : V) (S1 : St) => CallA P (N Fn.slices_Sort_Lstring) [x5] S1 (retT [] fun (S2 : St) => K x5 S2))
abbrev slices_Sorted_string.Ok (P : Program) (N : Nat → Nat) : Prop := Reads P (N Fn.slices_Sorted_string) [(2, .no, [(.one .any)])] [] [] (fun A T (x0 : V) (S : St) (K : V → St → Prop) => wpT P (envP P) T (endT A.results [(.one .any)] K) (frT A [x0]) S) (fun x0 S K => slices_Sorted_string.p P N x0 S K)
theorem slices_Sorted_string.run {P : Program} {N : Nat → Nat} (hF : slices_Sorted_string.Ok P N) {x0 : V} {S : St} {K : V → St → Prop} (h : slices_Sorted_string.p P N x0 S K) : CallA P (N Fn.slices_Sorted_string) [x0] S (retT [(.one .any)] K) := hF.run (fun q => q x0 S K) h rfl

def slices_Collect_string.p (P : Program) (N : Nat → Nat) (x0 : V) (S : St) (K : V → St → Prop) : Prop :=
  CallA P (N Fn.slices_AppendSeq_Lstring) [V.nilSlice, x0] S (retT [(.one .any)] fun (x4 : V) (S1 : St) => K x4 S1)
abbrev slices_Collect_string.Ok (P : Program) (N : Nat → Nat) : Prop := Reads P (N Fn.slices_Collect_string) [(2, .no, [(.one .any)])] [] [] (fun A T (x0 : V) (S : St) (K : V → St → Prop) => wpT P (envP P) T (endT A.results [(.one .any)] K) (frT A [x0]) S) (fun x0 S K => slices_Collect_string.p P N x0 S K)
theorem slices_Collect_string.run {P : Program} {N : Nat → Nat} (hF : slices_Collect_string.Ok P N) {x0 : V} {S : St} {K : V → St → Prop} (h : slices_Collect_string.p P N x0 S K) : CallA P (N Fn.slices_Collect_string) [x0] S (retT [(.one .any)] K) := hF.run (fun q => q x0 S K) h rfl

end Go.Th.L
end

section
/- Functions of wal, read without frames (printed by tools/lib.py). -/
set_option linter.unusedVariables false
set_option maxRecDepth 100000
set_option maxHeartbeats 2000000
namespace Go.Th.L
open Go Go.Th

def wal_Open.p (P : Program) (N : Nat → Nat) (x0 : V) (S : St) (K : V → V → Int → St → Prop) : Prop :=
  ∃ x22 : Bool, eqV 1 [] x0 V.nilPtr = some x22 ∧ ifC x22 (K V.nilPtr V.nilSlice 3 S) (CallA P (N Fn.disk_Disk_Down) [x0] S (retT [(.one .bool)] fun (x25 : Bool) (S1 : St) => ifC x25 (K V.nilPtr V.nilSlice 174 S1) (V.cells x0 = [x0] ∧ newS S1 (.cells [x0, V.nilSlice, (V.int .i64 0), (V.bool false), (V.int .i64 0)] true) fun S2 => newS S2 (.cells [V.nilSlice] true) fun S3 => CallA P (N Fn.disk_Disk_Names) [x0] S3 (retT [(.one .any)] fun (x31 : V) (S4 : St) => ∃ x32 : Int, lenV S4 2 x31 = some (V.int .i64 x32) ∧ Loop4 (fun (k1 : V → V → Bool → Int → St → Prop) (x6 : V) (x7 : V) (x10 : Bool) (x33 : Int) (S5 : St) => ifC (decide (x33 < x32)) (ifS (idxAddrV 1 x31 (V.int .i64 x33)) fun x35 => ∃ x36 : List UInt8, loadV S5 x35 = some (V.str x36) ∧ CallA P (N Fn.strings_HasPrefix) [(V.str x36), (V.str ([108, 111, 103, 46] : List UInt8))] S5 (retT [(.one .bool)] fun (x38 : Bool) (S6 : St) => ifC (!x38) (setI (IntKind.i64.wrap (x33 + (1 : Int))) fun x119 => k1 x6 x7 x10 x119 S6) (Join0 (fun (k2 : St → Prop) => ∃ x42 : List UInt8, sliceStrV (V.str x36) (some (V.int .i64 4)) none = some (V.str x42) ∧ CallA P (N Fn.strconv_Atoi) [(V.str x42)] S6 (retT [(.one (.int .i64)), (.one .any)] fun (x43a : Int) (x43b : V) (S8 : St) => ∃ x47 : Bool, eqV 5 [] x43b V.nilIface = some x47 ∧ ifC x47 (nilV (V.ptr S1.next 0) = some (V.ptr S1.next 0) ∧ ∃ x52 : Int, loadV S8 (V.ptr S1.next 4) = some (V.int .i64 x52) ∧ nilV (V.ptr S1.next 0) = some (V.ptr S1.next 0) ∧ ifS (storeV S8 1 (V.ptr S1.next 4) (V.int .i64 (goMax x52 x43a))) fun S9 => k2  S9) (k2  S8))) (fun (S7 : St) => CallA P (N Fn.disk_Disk_Read) [x0, (V.str x36)] S7 (retT [(.one .any), (.one (.int .i64))] fun (x60a : V) (x60b : Int) (S10 : St) => ifC (!decide (x60b = (0 : Int))) (K V.nilPtr V.nilSlice x60b S10) (CallA P (N Fn.wal_begins) [x60a] S10 (retT [(.one (.int .i64)), (.one .bool)] fun (x68a : Int) (x68b : Bool) (S11 : St) => Join1 (fun (k3 : Bool → St → Prop) => ifC (!x68b) (k3 true S11) (nilV (V.ptr S1.next 0) = some (V.ptr S1.next 0) ∧ ifS (loadV S11 (V.ptr S1.next 1)) fun x77 => ∃ x78 : Int, lenV S11 2 x77 = some (V.int .i64 x78) ∧ ifC (decide ((0 : Int) < x78)) (CallA P (N Fn.wal_Log_Last) [(V.ptr S1.next 0)] S11 (retT [(.one (.int .i64))] fun (x83 : Int) (S13 : St) => setI (IntKind.i64.wrap (x83 + (1 : Int))) fun x84 => k3 (!decide (x68a = x84)) S13)) (k3 false S11))) (fun (x87 : Bool) (S12 : St) => ifC x87 (ifS (calleeV (envP P) (V.func (.func (N Fn.wal_Open_1)) [] [(V.ptr S2.next 0)]) [(V.str x36)]) fun xf => CallA P xf.1 xf.2 S12 (retT [] fun (S14 : St) => setI (IntKind.i64.wrap (x33 + (1 : Int))) fun x119_1 => k1 x6 x7 x10 x119_1 S14)) (CallA P (N Fn.wal_records) [x60a, (V.int .i64 x68a)] S12 (retT [(.one .any), (.one .bool)] fun (x94a : V) (x94b : Bool) (S15 : St) => ifP (appV S15 2 24 x6 x94a) fun x99 S16 => nilV (V.ptr S1.next 0) = some (V.ptr S1.next 0) ∧ ifS (loadV S16 (V.ptr S1.next 1)) fun x104 => ∃ x109 : Int, lenV S16 2 x94a = some (V.int .i64 x109) ∧ setI (IntKind.i64.wrap (x68a + x109)) fun x110 => ∃ x112 : Int, lenV S16 2 x60a = some (V.int .i64 x112) ∧ newS S16 (.cells [(V.str x36), (V.int .i64 x68a), (V.int .i64 x110), (V.int .i64 x112), (V.bool true)] true) fun S17 => V.cells (V.ptr S16.next 0) = [(V.ptr S16.next 0)] ∧ newS S17 (.cells [(V.ptr S16.next 0)] true) fun S18 => ifP (appV S18 1 8 x104 (V.slice S17.next 0 1 1 1 true)) fun x116 S19 => nilV (V.ptr S1.next 0) = some (V.ptr S1.next 0) ∧ ifS (storeV S19 1 (V.ptr S1.next 1) x116) fun S20 => setI (IntKind.i64.wrap (x33 + (1 : Int))) fun x119_2 => k1 x99 x94a x94b x119_2 S20)))))))))) (ifS (loadV S5 (V.ptr S2.next 0)) fun x121 => CallA P (N Fn.wal_Log_settle) [(V.ptr S1.next 0), x121, x7, (V.bool x10)] S5 (retT [(.one (.int .i64))] fun (x124 : Int) (S21 : St) => ifC (!decide (x124 = (0 : Int))) (K V.nilPtr V.nilSlice x124 S21) (CallA P (N Fn.wal_Log_Last) [(V.ptr S1.next 0)] S21 (retT [(.one (.int .i64))] fun (x130 : Int) (S22 : St) => nilV (V.ptr S1.next 0) = some (V.ptr S1.next 0) ∧ ifS (storeV S22 1 (V.ptr S1.next 2) (V.int .i64 x130)) fun S23 => K (V.ptr S1.next 0) x6 0 S23))))) V.nilSlice V.nilSlice false 0 S4))))
abbrev wal_Open.Ok (P : Program) (N : Nat → Nat) : Prop := Reads P (N Fn.wal_Open) [(10, .no, [(.one .bool)]), (5, (.dt (.agg [.any, .any, (.int .i64), .bool, (.int .i64)])), []), (9, .no, [(.one .any)]), (0, (.dt (.one (.int .i64))), []), (3, (.dt (.one .str)), []), (2, .no, [(.one .bool)]), (2, (.dt (.one .str)), []), (0, .no, [(.one (.int .i64)), (.one .any)]), (11, (.dt (.one (.int .i64))), []), (7, .no, [(.one .any), (.one (.int .i64))]), (12, .no, [(.one (.int .i64)), (.one .bool)]), (12, (.dt (.one (.int .i64))), []), (4, .no, [(.one (.int .i64))]), (9, .no, [(.one .any), (.one .bool)]), (18, (.dt (.one (.int .i64))), []), (2, (.dt (.one (.int .i64))), []), (0, (.dt (.agg [.str, (.int .i64), (.int .i64), (.int .i64), .bool])), []), (1, (.dt (.agg [.any])), []), (10, .no, [(.one (.int .i64))]), (9, .no, [(.one (.int .i64))])] [(19, []), (8, [(87, (.one .bool))])] [[(6, (.one .any)), (7, (.one .any)), (10, (.one .bool)), (33, (.one (.int .i64)))]] (fun A T (x0 : V) (S : St) (K : V → V → Int → St → Prop) => wpT P (envP P) T (endT A.results [(.one .any), (.one .any), (.one (.int .i64))] K) (frT A [x0]) S) (fun x0 S K => wal_Open.p P N x0 S K)
theorem wal_Open.run {P : Program} {N : Nat → Nat} (hF : wal_Open.Ok P N) {x0 : V} {S : St} {K : V → V → Int → St → Prop} (h : wal_Open.p P N x0 S K) : CallA P (N Fn.wal_Open) [x0] S (retT [(.one .any), (.one .any), (.one (.int .i64))] K) := hF.run (fun q => q x0 S K) h rfl

def wal_Log_Append.p (P : Program) (N : Nat → Nat) (x0 : V) (x1 : List UInt8) (S : St) (K : Int → Int → St → Prop) : Prop :=
  ∃ x11 : Bool, eqV 1 [] x0 V.nilPtr = some x11 ∧ ifC x11 (K 0 3 S) (ifC (decide ((65536 : Int) < (x1.length : Int))) (K 0 2 S) (CallA P (N Fn.wal_Log_Last) [x0] S (retT [(.one (.int .i64))] fun (x17 : Int) (S1 : St) => setI (IntKind.i64.wrap (x17 + (1 : Int))) fun x18 => newS S1 (.cells [(V.int .i64 0), (V.str ([] : List UInt8))] true) fun S2 => ifS (storeV S2 2 (V.ptr S1.next 0) (V.agg [(V.int .i64 x18), (V.str x1)])) fun S3 => Join0 (fun (k1 : St → Prop) => nilV x0 = some x0 ∧ ifS (fieldAddrV 1 x0) fun x23 => ifS (loadV S3 x23) fun x24 => nilV x0 = some x0 ∧ ifS (fieldAddrV 1 x0) fun x27 => ifS (loadV S3 x27) fun x28 => ∃ x29 : Int, lenV S3 2 x28 = some (V.int .i64 x29) ∧ setI (IntKind.i64.wrap (x29 - (1 : Int))) fun x30 => ifS (idxAddrV 1 x24 (V.int .i64 x30)) fun x31 => ifS (loadV S3 x31) fun x32 => nilV x32 = some x32 ∧ ifS (fieldAddrV 3 x32) fun x34 => ∃ x35 : Int, loadV S3 x34 = some (V.int .i64 x35) ∧ ifC (decide ((16384 : Int) < x35)) (∃ x39 : Int, loadV S3 (V.ptr S1.next 0) = some (V.int .i64 x39) ∧ CallA P (N Fn.wal_Log_begin) [x0, (V.int .i64 x39)] S3 (retT [(.one (.int .i64))] fun (x40 : Int) (S5 : St) => ifC (!decide (x40 = (0 : Int))) (K 0 x40 S5) (k1  S5))) (k1  S3)) (fun (S4 : St) => ∃ x45_a : Int, ∃ x45_b : List UInt8, loadNV S4 2 (V.ptr S1.next 0) = some (V.agg [(V.int .i64 x45_a), (V.str x45_b)]) ∧ CallA P (N Fn.wal_Log_lay) [x0, (V.agg [(V.int .i64 x45_a), (V.str x45_b)])] S4 (retT [(.one (.int .i64))] fun (x46 : Int) (S6 : St) => ifC (!decide (x46 = (0 : Int))) (K 0 x46 S6) (∃ x51 : Int, loadV S6 (V.ptr S1.next 0) = some (V.int .i64 x51) ∧ K x51 0 S6))))))
abbrev wal_Log_Append.Ok (P : Program) (N : Nat → Nat) : Prop := Reads P (N Fn.wal_Log_Append) [(14, .no, [(.one (.int .i64))]), (2, (.dt (.agg [(.int .i64), .str])), []), (10, (.dt (.one (.int .i64))), []), (5, (.dt (.one (.int .i64))), []), (3, (.dt (.one (.int .i64))), []), (0, .no, [(.one (.int .i64))]), (7, (.dt (.agg [(.int .i64), .str])), []), (0, .no, [(.one (.int .i64))]), (7, (.dt (.one (.int .i64))), [])] [(7, [])] [] (fun A T (x0 : V) (x1 : List UInt8) (S : St) (K : Int → Int → St → Prop) => wpT P (envP P) T (endT A.results [(.one (.int .i64)), (.one (.int .i64))] K) (frT A [x0, (V.str x1)]) S) (fun x0 x1 S K => wal_Log_Append.p P N x0 x1 S K)
theorem wal_Log_Append.run {P : Program} {N : Nat → Nat} (hF : wal_Log_Append.Ok P N) {x0 : V} {x1 : List UInt8} {S : St} {K : Int → Int → St → Prop} (h : wal_Log_Append.p P N x0 x1 S K) : CallA P (N Fn.wal_Log_Append) [x0, (V.str x1)] S (retT [(.one (.int .i64)), (.one (.int .i64))] K) := hF.run (fun q => q x0 x1 S K) h rfl

def wal_Log_Sync.p (P : Program) (N : Nat → Nat) (x0 : V) (S : St) (K : Int → St → Prop) : Prop :=
  ∃ x8 : Bool, eqV 1 [] x0 V.nilPtr = some x8 ∧ ifC x8 (K 3 S) (nilV x0 = some x0 ∧ ifS (fieldAddrV 1 x0) fun x11 => ifS (loadV S x11) fun x12 => ∃ x13 : Int, lenV S 2 x12 = some (V.int .i64 x13) ∧ Loop1 (fun (k1 : Int → St → Prop) (x14 : Int) (S1 : St) => ifC (decide (x14 < x13)) (ifS (idxAddrV 1 x12 (V.int .i64 x14)) fun x16 => ifS (loadV S1 x16) fun x17 => nilV x17 = some x17 ∧ ifS (fieldAddrV 4 x17) fun x20 => ∃ x21 : Bool, loadV S1 x20 = some (V.bool x21) ∧ ifC (!x21) (setI (IntKind.i64.wrap (x14 + (1 : Int))) fun x38 => k1 x38 S1) (nilV x0 = some x0 ∧ ifS (fieldAddrV 0 x0) fun x25 => ifS (loadV S1 x25) fun x26 => nilV x17 = some x17 ∧ ifS (fieldAddrV 0 x17) fun x29 => ∃ x30 : List UInt8, loadV S1 x29 = some (V.str x30) ∧ CallA P (N Fn.disk_Disk_Sync) [x26, (V.str x30)] S1 (retT [(.one (.int .i64))] fun (x31 : Int) (S2 : St) => ifC (!decide (x31 = (0 : Int))) (K x31 S2) (nilV x17 = some x17 ∧ ifS (fieldAddrV 4 x17) fun x37 => ifS (storeV S2 1 x37 (V.bool false)) fun S3 => setI (IntKind.i64.wrap (x14 + (1 : Int))) fun x38_1 => k1 x38_1 S3)))) (Join0 (fun (k2 : St → Prop) => nilV x0 = some x0 ∧ ifS (fieldAddrV 3 x0) fun x41 => ∃ x42 : Bool, loadV S1 x41 = some (V.bool x42) ∧ ifC x42 (nilV x0 = some x0 ∧ ifS (fieldAddrV 0 x0) fun x45 => ifS (loadV S1 x45) fun x46 => CallA P (N Fn.disk_Disk_SyncDir) [x46] S1 (retT [(.one (.int .i64))] fun (x47 : Int) (S5 : St) => ifC (!decide (x47 = (0 : Int))) (K x47 S5) (nilV x0 = some x0 ∧ ifS (fieldAddrV 3 x0) fun x53 => ifS (storeV S5 1 x53 (V.bool false)) fun S6 => k2  S6))) (k2  S1)) (fun (S4 : St) => CallA P (N Fn.wal_Log_Last) [x0] S4 (retT [(.one (.int .i64))] fun (x56 : Int) (S7 : St) => nilV x0 = some x0 ∧ ifS (fieldAddrV 2 x0) fun x58 => ifS (storeV S7 1 x58 (V.int .i64 x56)) fun S8 => K 0 S8)))) 0 S)
abbrev wal_Log_Sync.Ok (P : Program) (N : Nat → Nat) : Prop := Reads P (N Fn.wal_Log_Sync) [(8, (.dt (.one (.int .i64))), []), (8, (.dt (.one .bool)), []), (8, (.dt (.one .str)), []), (0, .no, [(.one (.int .i64))]), (14, (.dt (.one .bool)), []), (4, .no, [(.one (.int .i64))]), (11, .no, [(.one (.int .i64))])] [(16, [])] [[(14, (.one (.int .i64)))]] (fun A T (x0 : V) (S : St) (K : Int → St → Prop) => wpT P (envP P) T (endT A.results [(.one (.int .i64))] K) (frT A [x0]) S) (fun x0 S K => wal_Log_Sync.p P N x0 S K)
theorem wal_Log_Sync.run {P : Program} {N : Nat → Nat} (hF : wal_Log_Sync.Ok P N) {x0 : V} {S : St} {K : Int → St → Prop} (h : wal_Log_Sync.p P N x0 S K) : CallA P (N Fn.wal_Log_Sync) [x0] S (retT [(.one (.int .i64))] K) := hF.run (fun q => q x0 S K) h rfl

def wal_Log_Cut.p (P : Program) (N : Nat → Nat) (x0 : V) (x1 : Int) (S : St) (K : Int → St → Prop) : Prop :=
  Join0 (fun (k1 : St → Prop) => ∃ x12 : Bool, eqV 1 [] x0 V.nilPtr = some x12 ∧ ifC x12 (K 3 S) (ifC (decide (x1 < (0 : Int))) (K 180 S) (CallA P (N Fn.wal_Log_Last) [x0] S (retT [(.one (.int .i64))] fun (x19 : Int) (S2 : St) => ifC (decide (x19 < x1)) (K 180 S2) (k1  S2))))) (fun (S1 : St) => Join0 (fun (k2 : St → Prop) => nilV x0 = some x0 ∧ ifS (fieldAddrV 1 x0) fun x24 => ifS (loadV S1 x24) fun x25 => ∃ x26 : Int, lenV S1 2 x25 = some (V.int .i64 x26) ∧ Join1 (fun (k3 : Bool → St → Prop) => CallA P (N Fn.wal_Log_Last) [x0] S1 (retT [(.one (.int .i64))] fun (x29 : Int) (S5 : St) => ifC (decide (x1 = x29)) (nilV x0 = some x0 ∧ ifS (fieldAddrV 1 x0) fun x34 => ifS (loadV S5 x34) fun x35 => setI (IntKind.i64.wrap (x26 - (1 : Int))) fun x37 => ifS (idxAddrV 1 x35 (V.int .i64 x37)) fun x38 => ifS (loadV S5 x38) fun x39 => nilV x39 = some x39 ∧ ifS (fieldAddrV 2 x39) fun x41 => ∃ x42 : Int, loadV S5 x41 = some (V.int .i64 x42) ∧ nilV x0 = some x0 ∧ ifS (fieldAddrV 1 x0) fun x45 => ifS (loadV S5 x45) fun x46 => setI (IntKind.i64.wrap (x26 - (1 : Int))) fun x48 => ifS (idxAddrV 1 x46 (V.int .i64 x48)) fun x49 => ifS (loadV S5 x49) fun x50 => nilV x50 = some x50 ∧ ifS (fieldAddrV 1 x50) fun x52 => ∃ x53 : Int, loadV S5 x52 = some (V.int .i64 x53) ∧ k3 (decide (x53 < x42)) S5) (k3 false S5))) (fun (x55 : Bool) (S4 : St) => ifC x55 (setI (IntKind.i64.wrap (x1 + (1 : Int))) fun x58 => CallA P (N Fn.wal_Log_begin) [x0, (V.int .i64 x58)] S4 (retT [(.one (.int .i64))] fun (x59 : Int) (S6 : St) => ifC (!decide (x59 = (0 : Int))) (K x59 S6) (k2  S6))) (k2  S4))) (fun (S3 : St) => Join1 (fun (k4 : Int → St → Prop) => Loop1 (fun (k5 : Int → St → Prop) (x7_1 : Int) (S8 : St) => nilV x0 = some x0 ∧ ifS (fieldAddrV 1 x0) fun x66 => ifS (loadV S8 x66) fun x67 => ∃ x68 : Int, lenV S8 2 x67 = some (V.int .i64 x68) ∧ setI (IntKind.i64.wrap (x68 - (1 : Int))) fun x69 => ifC (decide (x7_1 < x69)) (nilV x0 = some x0 ∧ ifS (fieldAddrV 1 x0) fun x74 => ifS (loadV S8 x74) fun x75 => ifS (idxAddrV 1 x75 (V.int .i64 x7_1)) fun x77 => ifS (loadV S8 x77) fun x78 => nilV x78 = some x78 ∧ ifS (fieldAddrV 2 x78) fun x80 => ∃ x81 : Int, loadV S8 x80 = some (V.int .i64 x81) ∧ setI (IntKind.i64.wrap (x1 + (1 : Int))) fun x83 => ifC (decide (x81 ≤ x83)) (setI (IntKind.i64.wrap (x7_1 + (1 : Int))) fun x87 => k5 x87 S8) (k4 x7_1 S8)) (k4 x7_1 S8)) 0 S3) (fun (x7 : Int) (S7 : St) => ifC (decide (x7 = (0 : Int))) (K 0 S7) (CallA P (N Fn.wal_Log_Sync) [x0] S7 (retT [(.one (.int .i64))] fun (x91 : Int) (S9 : St) => ifC (!decide (x91 = (0 : Int))) (K x91 S9) (Loop1 (fun (k6 : Int → St → Prop) (x96 : Int) (S10 : St) => ifC (decide (x96 < x7)) (nilV x0 = some x0 ∧ ifS (fieldAddrV 3 x0) fun x100 => ifS (storeV S10 1 x100 (V.bool true)) fun S11 => nilV x0 = some x0 ∧ ifS (fieldAddrV 0 x0) fun x103 => ifS (loadV S11 x103) fun x104 => nilV x0 = some x0 ∧ ifS (fieldAddrV 1 x0) fun x107 => ifS (loadV S11 x107) fun x108 => ifS (idxAddrV 1 x108 (V.int .i64 0)) fun x109 => ifS (loadV S11 x109) fun x110 => nilV x110 = some x110 ∧ ifS (fieldAddrV 0 x110) fun x112 => ∃ x113 : List UInt8, loadV S11 x112 = some (V.str x113) ∧ CallA P (N Fn.disk_Disk_Remove) [x104, (V.str x113)] S11 (retT [(.one (.int .i64))] fun (x114 : Int) (S12 : St) => sameK (V.block x109 ++ (V.block x107 ++ [])) S11 S12 (ifC (!decide (x114 = (0 : Int))) (K x114 S12) (nilV x0 = some x0 ∧ ifS (fieldAddrV 1 x0) fun x121 => ifS (loadV S12 x121) fun x122 => CallA P (N Fn.slices_Delete_Lpwal_segment) [x122, (V.int .i64 0), (V.int .i64 1)] S12 (retT [(.one .any)] fun (x123 : V) (S13 : St) => nilV x0 = some x0 ∧ ifS (fieldAddrV 1 x0) fun x125 => ifS (storeV S13 1 x125 x123) fun S14 => setI (IntKind.i64.wrap (x96 + (1 : Int))) fun x126 => k6 x126 S14))))) (K 0 S10)) 0 S9))))))
abbrev wal_Log_Cut.Ok (P : Program) (N : Nat → Nat) : Prop := Reads P (N Fn.wal_Log_Cut) [(10, .no, [(.one (.int .i64))]), (8, (.dt (.one (.int .i64))), []), (3, .no, [(.one (.int .i64))]), (12, (.dt (.one (.int .i64))), []), (10, (.dt (.one (.int .i64))), []), (5, .no, [(.one (.int .i64))]), (11, (.dt (.one (.int .i64))), []), (12, (.dt (.one (.int .i64))), []), (11, .no, [(.one (.int .i64))]), (24, (.dt (.one .str)), []), (0, .no, [(.one (.int .i64))]), (10, .no, [(.one .any)])] [(1, []), (4, []), (1, [(55, (.one .bool))]), (4, [(7, (.one (.int .i64)))])] [[(7, (.one (.int .i64)))], [(96, (.one (.int .i64)))]] (fun A T (x0 : V) (x1 : Int) (S : St) (K : Int → St → Prop) => wpT P (envP P) T (endT A.results [(.one (.int .i64))] K) (frT A [x0, (V.int .i64 x1)]) S) (fun x0 x1 S K => wal_Log_Cut.p P N x0 x1 S K)
theorem wal_Log_Cut.run {P : Program} {N : Nat → Nat} (hF : wal_Log_Cut.Ok P N) {x0 : V} {x1 : Int} {S : St} {K : Int → St → Prop} (h : wal_Log_Cut.p P N x0 x1 S K) : CallA P (N Fn.wal_Log_Cut) [x0, (V.int .i64 x1)] S (retT [(.one (.int .i64))] K) := hF.run (fun q => q x0 x1 S K) h rfl

def wal_Log_Synced.p (P : Program) (N : Nat → Nat) (x0 : V) (S : St) (K : Int → St → Prop) : Prop :=
  ∃ x4 : Bool, eqV 1 [] x0 V.nilPtr = some x4 ∧ ifC x4 (K 0 S) (nilV x0 = some x0 ∧ ifS (fieldAddrV 2 x0) fun x7 => ∃ x8 : Int, loadV S x7 = some (V.int .i64 x8) ∧ K x8 S)
abbrev wal_Log_Synced.Ok (P : Program) (N : Nat → Nat) : Prop := Reads P (N Fn.wal_Log_Synced) [(7, (.dt (.one (.int .i64))), [])] [] [] (fun A T (x0 : V) (S : St) (K : Int → St → Prop) => wpT P (envP P) T (endT A.results [(.one (.int .i64))] K) (frT A [x0]) S) (fun x0 S K => wal_Log_Synced.p P N x0 S K)
theorem wal_Log_Synced.run {P : Program} {N : Nat → Nat} (hF : wal_Log_Synced.Ok P N) {x0 : V} {S : St} {K : Int → St → Prop} (h : wal_Log_Synced.p P N x0 S K) : CallA P (N Fn.wal_Log_Synced) [x0] S (retT [(.one (.int .i64))] K) := hF.run (fun q => q x0 S K) h rfl

def wal_Log_Last.p (P : Program) (N : Nat → Nat) (x0 : V) (S : St) (K : Int → St → Prop) : Prop :=
  Join0 (fun (k1 : St → Prop) => ∃ x4 : Bool, eqV 1 [] x0 V.nilPtr = some x4 ∧ ifC x4 (K 0 S) (nilV x0 = some x0 ∧ ifS (fieldAddrV 1 x0) fun x8 => ifS (loadV S x8) fun x9 => ∃ x10 : Int, lenV S 2 x9 = some (V.int .i64 x10) ∧ ifC (decide (x10 = (0 : Int))) (K 0 S) (k1  S))) (fun (S1 : St) => nilV x0 = some x0 ∧ ifS (fieldAddrV 1 x0) fun x15 => ifS (loadV S1 x15) fun x16 => nilV x0 = some x0 ∧ ifS (fieldAddrV 1 x0) fun x19 => ifS (loadV S1 x19) fun x20 => ∃ x21 : Int, lenV S1 2 x20 = some (V.int .i64 x21) ∧ setI (IntKind.i64.wrap (x21 - (1 : Int))) fun x22 => ifS (idxAddrV 1 x16 (V.int .i64 x22)) fun x23 => ifS (loadV S1 x23) fun x24 => nilV x24 = some x24 ∧ ifS (fieldAddrV 2 x24) fun x26 => ∃ x27 : Int, loadV S1 x26 = some (V.int .i64 x27) ∧ setI (IntKind.i64.wrap (x27 - (1 : Int))) fun x28 => K x28 S1)
abbrev wal_Log_Last.Ok (P : Program) (N : Nat → Nat) : Prop := Reads P (N Fn.wal_Log_Last) [(8, (.dt (.one (.int .i64))), []), (11, (.dt (.one (.int .i64))), []), (5, (.dt (.one (.int .i64))), [])] [(1, [])] [] (fun A T (x0 : V) (S : St) (K : Int → St → Prop) => wpT P (envP P) T (endT A.results [(.one (.int .i64))] K) (frT A [x0]) S) (fun x0 S K => wal_Log_Last.p P N x0 S K)
theorem wal_Log_Last.run {P : Program} {N : Nat → Nat} (hF : wal_Log_Last.Ok P N) {x0 : V} {S : St} {K : Int → St → Prop} (h : wal_Log_Last.p P N x0 S K) : CallA P (N Fn.wal_Log_Last) [x0] S (retT [(.one (.int .i64))] K) := hF.run (fun q => q x0 S K) h rfl

def wal_Log_First.p (P : Program) (N : Nat → Nat) (x0 : V) (S : St) (K : Int → St → Prop) : Prop :=
  Join0 (fun (k1 : St → Prop) => ∃ x4 : Bool, eqV 1 [] x0 V.nilPtr = some x4 ∧ ifC x4 (K 0 S) (nilV x0 = some x0 ∧ ifS (fieldAddrV 1 x0) fun x8 => ifS (loadV S x8) fun x9 => ∃ x10 : Int, lenV S 2 x9 = some (V.int .i64 x10) ∧ ifC (decide (x10 = (0 : Int))) (K 0 S) (k1  S))) (fun (S1 : St) => nilV x0 = some x0 ∧ ifS (fieldAddrV 1 x0) fun x15 => ifS (loadV S1 x15) fun x16 => ifS (idxAddrV 1 x16 (V.int .i64 0)) fun x17 => ifS (loadV S1 x17) fun x18 => nilV x18 = some x18 ∧ ifS (fieldAddrV 1 x18) fun x20 => ∃ x21 : Int, loadV S1 x20 = some (V.int .i64 x21) ∧ K x21 S1)
abbrev wal_Log_First.Ok (P : Program) (N : Nat → Nat) : Prop := Reads P (N Fn.wal_Log_First) [(8, (.dt (.one (.int .i64))), []), (11, (.dt (.one (.int .i64))), [])] [(1, [])] [] (fun A T (x0 : V) (S : St) (K : Int → St → Prop) => wpT P (envP P) T (endT A.results [(.one (.int .i64))] K) (frT A [x0]) S) (fun x0 S K => wal_Log_First.p P N x0 S K)
theorem wal_Log_First.run {P : Program} {N : Nat → Nat} (hF : wal_Log_First.Ok P N) {x0 : V} {S : St} {K : Int → St → Prop} (h : wal_Log_First.p P N x0 S K) : CallA P (N Fn.wal_Log_First) [x0] S (retT [(.one (.int .i64))] K) := hF.run (fun q => q x0 S K) h rfl

def wal_begins.p (P : Program) (N : Nat → Nat) (x0 : V) (S : St) (K : Int → Bool → St → Prop) : Prop :=
  Join0 (fun (k1 : St → Prop) => ∃ x9 : Int, lenV S 2 x0 = some (V.int .i64 x9) ∧ ifC (decide (x9 < (16 : Int))) (K 0 false S) (ifS (sliceSlV 1 x0 none (some (V.int .i64 16)) none) fun x13 => CallA P (N Fn.wal_whole) [x13] S (retT [(.one .bool)] fun (x14 : Bool) (S2 : St) => ifC (!x14) (K 0 false S2) (k1  S2)))) (fun (S1 : St) => CallA P (N Fn.wal_get32) [x0, (V.int .i64 0)] S1 (retT [(.one (.int .u32)), (.one (.int .i64))] fun (x19a : Int) (x19b : Int) (S3 : St) => CallA P (N Fn.wal_get64) [x0, (V.int .i64 4)] S3 (retT [(.one (.int .u64)), (.one (.int .i64))] fun (x24a : Int) (x24b : Int) (S4 : St) => setI (IntKind.i64.wrap x24a) fun x28 => K x28 (decide (x19a = (1818326888 : Int))) S4)))
abbrev wal_begins.Ok (P : Program) (N : Nat → Nat) : Prop := Reads P (N Fn.wal_begins) [(3, (.dt (.one (.int .i64))), []), (4, .no, [(.one .bool)]), (5, .no, [(.one (.int .u32)), (.one (.int .i64))]), (6, .no, [(.one (.int .u64)), (.one (.int .i64))])] [(1, [])] [] (fun A T (x0 : V) (S : St) (K : Int → Bool → St → Prop) => wpT P (envP P) T (endT A.results [(.one (.int .i64)), (.one .bool)] K) (frT A [x0]) S) (fun x0 S K => wal_begins.p P N x0 S K)
theorem wal_begins.run {P : Program} {N : Nat → Nat} (hF : wal_begins.Ok P N) {x0 : V} {S : St} {K : Int → Bool → St → Prop} (h : wal_begins.p P N x0 S K) : CallA P (N Fn.wal_begins) [x0] S (retT [(.one (.int .i64)), (.one .bool)] K) := hF.run (fun q => q x0 S K) h rfl

def wal_records.p (P : Program) (N : Nat → Nat) (x0 : V) (x1 : Int) (S : St) (K : V → Bool → St → Prop) : Prop :=
  ifS (sliceSlV 1 x0 (some (V.int .i64 16)) none none) fun x11 => Loop3 (fun (k1 : V → Int → V → St → Prop) (x0_1 : V) (x1_1 : Int) (x4 : V) (S1 : St) => ∃ x13 : Int, lenV S1 2 x0_1 = some (V.int .i64 x13) ∧ ifC (decide ((16 : Int) ≤ x13)) (CallA P (N Fn.wal_get32) [x0_1, (V.int .i64 0)] S1 (retT [(.one (.int .u32)), (.one (.int .i64))] fun (x17a : Int) (x17b : Int) (S2 : St) => CallA P (N Fn.wal_get64) [x0_1, (V.int .i64 4)] S2 (retT [(.one (.int .u64)), (.one (.int .i64))] fun (x22a : Int) (x22b : Int) (S3 : St) => Join1 (fun (k2 : V → St → Prop) => ifC (decide ((65536 : Int) < x17a)) (K x4 false S3) (setI (IntKind.i64.wrap x17a) fun x29 => setI (IntKind.i64.wrap (x29 + (16 : Int))) fun x30 => ∃ x32 : Int, lenV S3 2 x0_1 = some (V.int .i64 x32) ∧ ifC (decide (x32 < x30)) (K x4 false S3) (setI (IntKind.u64.wrap x1_1) fun x38 => ifC (!decide (x22a = x38)) (K x4 false S3) (setI (IntKind.i64.wrap x17a) fun x44 => setI (IntKind.i64.wrap (x44 + (16 : Int))) fun x45 => ifS (sliceSlV 1 x0_1 none (some (V.int .i64 x45)) none) fun x46 => CallA P (N Fn.wal_whole) [x46] S3 (retT [(.one .bool)] fun (x47 : Bool) (S5 : St) => ifC (!x47) (K x4 false S5) (k2 x4 S5)))))) (fun (x4_1 : V) (S4 : St) => setI (IntKind.u32.wrap ((12 : Int) + x17a)) fun x55 => ifS (sliceSlV 1 x0_1 (some (V.int .i64 12)) (some (V.int .u32 x55)) none) fun x56 => ∃ x57 : List UInt8, convBSV S4 x56 = some (V.str x57) ∧ newS S4 (.cells [(V.int .i64 x1_1), (V.str x57)] true) fun S6 => ifP (appV S6 2 24 x4_1 (V.slice S4.next 0 1 1 2 true)) fun x60 S7 => setI (IntKind.i64.wrap x17a) fun x63 => setI (IntKind.i64.wrap (x63 + (16 : Int))) fun x64 => ifS (sliceSlV 1 x0_1 (some (V.int .i64 x64)) none none) fun x65 => setI (IntKind.i64.wrap (x1_1 + (1 : Int))) fun x67 => k1 x65 x67 x60 S7)))) (∃ x70 : Int, lenV S1 2 x0_1 = some (V.int .i64 x70) ∧ K x4 (decide (x70 = (0 : Int))) S1)) x11 x1 V.nilSlice S
abbrev wal_records.Ok (P : Program) (N : Nat → Nat) : Prop := Reads P (N Fn.wal_records) [(6, (.dt (.one (.int .i64))), []), (2, .no, [(.one (.int .u32)), (.one (.int .i64))]), (6, .no, [(.one (.int .u64)), (.one (.int .i64))]), (12, (.dt (.one (.int .i64))), []), (14, .no, [(.one .bool)]), (11, (.dt (.one .str)), []), (0, (.dt (.agg [(.int .i64), .str])), []), (0, (.dt (.agg [(.int .i64), .str])), []), (13, (.dt (.one (.int .i64))), [])] [(7, [(4, (.one .any))])] [[(0, (.one .any)), (1, (.one (.int .i64))), (4, (.one .any))]] (fun A T (x0 : V) (x1 : Int) (S : St) (K : V → Bool → St → Prop) => wpT P (envP P) T (endT A.results [(.one .any), (.one .bool)] K) (frT A [x0, (V.int .i64 x1)]) S) (fun x0 x1 S K => wal_records.p P N x0 x1 S K)
theorem wal_records.run {P : Program} {N : Nat → Nat} (hF : wal_records.Ok P N) {x0 : V} {x1 : Int} {S : St} {K : V → Bool → St → Prop} (h : wal_records.p P N x0 x1 S K) : CallA P (N Fn.wal_records) [x0, (V.int .i64 x1)] S (retT [(.one .any), (.one .bool)] K) := hF.run (fun q => q x0 x1 S K) h rfl

def wal_Log_settle.p (P : Program) (N : Nat → Nat) (x0 : V) (x1 : V) (x2 : V) (x3 : Bool) (S : St) (K : Int → St → Prop) : Prop :=
  nilV x0 = some x0 ∧ ifS (fieldAddrV 3 x0) fun x24 => ifS (storeV S 1 x24 (V.bool true)) fun S1 => ∃ x26 : Int, lenV S1 2 x1 = some (V.int .i64 x26) ∧ Loop1 (fun (k1 : Int → St → Prop) (x27 : Int) (S2 : St) => ifC (decide (x27 < x26)) (ifS (idxAddrV 1 x1 (V.int .i64 x27)) fun x29 => ∃ x30 : List UInt8, loadV S2 x29 = some (V.str x30) ∧ nilV x0 = some x0 ∧ ifS (fieldAddrV 0 x0) fun x33 => ifS (loadV S2 x33) fun x34 => CallA P (N Fn.disk_Disk_Remove) [x34, (V.str x30)] S2 (retT [(.one (.int .i64))] fun (x36 : Int) (S3 : St) => ifC (!decide (x36 = (0 : Int))) (K x36 S3) (setI (IntKind.i64.wrap (x27 + (1 : Int))) fun x40 => k1 x40 S3))) (CallA P (N Fn.wal_Log_Sync) [x0] S2 (retT [(.one (.int .i64))] fun (x42 : Int) (S4 : St) => ifC (!decide (x42 = (0 : Int))) (K x42 S4) (ifC x3 (K 0 S4) (CallA P (N Fn.wal_Log_Last) [x0] S4 (retT [(.one (.int .i64))] fun (x48 : Int) (S5 : St) => setI (IntKind.i64.wrap (x48 + (1 : Int))) fun x49 => Join3 (fun (k2 : V → V → Int → St → Prop) => nilV x0 = some x0 ∧ ifS (fieldAddrV 1 x0) fun x52 => ifS (loadV S5 x52) fun x53 => ∃ x54 : Int, lenV S5 2 x53 = some (V.int .i64 x54) ∧ Join1 (fun (k3 : Bool → St → Prop) => ifC (decide ((0 : Int) < x54)) (ifC (decide ((8 : Int) ≤ x54)) (k3 true S5) (∃ x62 : Int, lenV S5 2 x2 = some (V.int .i64 x62) ∧ k3 (decide (x62 = (0 : Int))) S5)) (k3 false S5)) (fun (x65 : Bool) (S7 : St) => ifC x65 (nilV x0 = some x0 ∧ ifS (fieldAddrV 1 x0) fun x68 => ifS (loadV S7 x68) fun x69 => setI (IntKind.i64.wrap (x54 - (1 : Int))) fun x71 => ifS (idxAddrV 1 x69 (V.int .i64 x71)) fun x72 => ifS (loadV S7 x72) fun x73 => nilV x0 = some x0 ∧ ifS (fieldAddrV 1 x0) fun x77 => ifS (loadV S7 x77) fun x78 => setI (IntKind.i64.wrap (x54 - (1 : Int))) fun x80 => ifS (sliceSlV 1 x78 none (some (V.int .i64 x80)) none) fun x81 => nilV x0 = some x0 ∧ ifS (fieldAddrV 1 x0) fun x83 => ifS (storeV S7 1 x83 x81) fun S8 => nilV x73 = some x73 ∧ ifS (fieldAddrV 1 x73) fun x86 => ∃ x87 : Int, loadV S8 x86 = some (V.int .i64 x87) ∧ k2 x2 x73 x87 S8) (k2 V.nilSlice V.nilPtr x49 S7))) (fun (x2_1 : V) (x13 : V) (x14 : Int) (S6 : St) => CallA P (N Fn.wal_Log_begin) [x0, (V.int .i64 x14)] S6 (retT [(.one (.int .i64))] fun (x90 : Int) (S9 : St) => ifC (!decide (x90 = (0 : Int))) (K x90 S9) (∃ x95 : Int, lenV S9 2 x2_1 = some (V.int .i64 x95) ∧ Loop1 (fun (k4 : Int → St → Prop) (x96 : Int) (S10 : St) => ifC (decide (x96 < x95)) (ifS (idxAddrV 2 x2_1 (V.int .i64 x96)) fun x98 => ∃ x99_a : Int, ∃ x99_b : List UInt8, loadNV S10 2 x98 = some (V.agg [(V.int .i64 x99_a), (V.str x99_b)]) ∧ newS S10 (.cells [(V.int .i64 0), (V.str ([] : List UInt8))] true) fun S11 => ifS (storeV S11 2 (V.ptr S10.next 0) (V.agg [(V.int .i64 x99_a), (V.str x99_b)])) fun S12 => ∃ x101_a : Int, ∃ x101_b : List UInt8, loadNV S12 2 (V.ptr S10.next 0) = some (V.agg [(V.int .i64 x101_a), (V.str x101_b)]) ∧ CallA P (N Fn.wal_Log_lay) [x0, (V.agg [(V.int .i64 x101_a), (V.str x101_b)])] S12 (retT [(.one (.int .i64))] fun (x102 : Int) (S13 : St) => ifC (!decide (x102 = (0 : Int))) (K x102 S13) (setI (IntKind.i64.wrap (x96 + (1 : Int))) fun x106 => k4 x106 S13))) (Join0 (fun (k5 : St → Prop) => CallA P (N Fn.wal_Log_Sync) [x0] S10 (retT [(.one (.int .i64))] fun (x108 : Int) (S15 : St) => ifC (!decide (x108 = (0 : Int))) (K x108 S15) (∃ x113 : Bool, eqV 1 [] x13 V.nilPtr = some x113 ∧ ifC x113 (K x108 S15) (k5  S15)))) (fun (S14 : St) => nilV x0 = some x0 ∧ ifS (fieldAddrV 3 x0) fun x118 => ifS (storeV S14 1 x118 (V.bool true)) fun S16 => nilV x0 = some x0 ∧ ifS (fieldAddrV 0 x0) fun x121 => ifS (loadV S16 x121) fun x122 => nilV x13 = some x13 ∧ ifS (fieldAddrV 0 x13) fun x125 => ∃ x126 : List UInt8, loadV S16 x125 = some (V.str x126) ∧ CallA P (N Fn.disk_Disk_Remove) [x122, (V.str x126)] S16 (retT [(.one (.int .i64))] fun (x127 : Int) (S17 : St) => ifC (!decide (x127 = (0 : Int))) (K x127 S17) (CallA P (N Fn.wal_Log_Sync) [x0] S17 (retT [(.one (.int .i64))] fun (x132 : Int) (S18 : St) => K x132 S18)))))) 0 S9))))))))) 0 S1
abbrev wal_Log_settle.Ok (P : Program) (N : Nat → Nat) : Prop := Reads P (N Fn.wal_Log_settle) [(6, (.dt (.one (.int .i64))), []), (3, (.dt (.one .str)), []), (6, .no, [(.one (.int .i64))]), (8, .no, [(.one (.int .i64))]), (9, .no, [(.one (.int .i64))]), (6, (.dt (.one (.int .i64))), []), (8, (.dt (.one (.int .i64))), []), (26, (.dt (.one (.int .i64))), []), (4, .no, [(.one (.int .i64))]), (6, (.dt (.one (.int .i64))), []), (3, (.dt (.agg [(.int .i64), .str])), []), (3, (.dt (.agg [(.int .i64), .str])), []), (0, .no, [(.one (.int .i64))]), (8, .no, [(.one (.int .i64))]), (20, (.dt (.one .str)), []), (0, .no, [(.one (.int .i64))]), (6, .no, [(.one (.int .i64))])] [(20, [(2, (.one .any)), (13, (.one .any)), (14, (.one (.int .i64)))]), (1, [(65, (.one .bool))]), (15, [])] [[(27, (.one (.int .i64)))], [(96, (.one (.int .i64)))]] (fun A T (x0 : V) (x1 : V) (x2 : V) (x3 : Bool) (S : St) (K : Int → St → Prop) => wpT P (envP P) T (endT A.results [(.one (.int .i64))] K) (frT A [x0, x1, x2, (V.bool x3)]) S) (fun x0 x1 x2 x3 S K => wal_Log_settle.p P N x0 x1 x2 x3 S K)
theorem wal_Log_settle.run {P : Program} {N : Nat → Nat} (hF : wal_Log_settle.Ok P N) {x0 : V} {x1 : V} {x2 : V} {x3 : Bool} {S : St} {K : Int → St → Prop} (h : wal_Log_settle.p P N x0 x1 x2 x3 S K) : CallA P (N Fn.wal_Log_settle) [x0, x1, x2, (V.bool x3)] S (retT [(.one (.int .i64))] K) := hF.run (fun q => q x0 x1 x2 x3 S K) h rfl

def wal_Log_begin.p (P : Program) (N : Nat → Nat) (x0 : V) (x1 : Int) (S : St) (K : Int → St → Prop) : Prop :=
  nilV x0 = some x0 ∧ ifS (fieldAddrV 4 x0) fun x11 => ∃ x12 : Int, loadV S x11 = some (V.int .i64 x12) ∧ setI (IntKind.i64.wrap ((1000001 : Int) + x12)) fun x13 => CallA P (N Fn.strconv_Itoa) [(V.int .i64 x13)] S (retT [(.one .str)] fun (x14 : List UInt8) (S1 : St) => ∃ x15 : List UInt8, sliceStrV (V.str x14) (some (V.int .i64 1)) none = some (V.str x15) ∧ ([108, 111, 103, 46] : List UInt8).length + x15.length < 2 ^ 62 ∧ newS S1 (.cells [(V.str (([108, 111, 103, 46] : List UInt8) ++ x15)), (V.int .i64 x1), (V.int .i64 x1), (V.int .i64 16), (V.bool true)] true) fun S2 => Join0 (fun (k1 : St → Prop) => nilV x0 = some x0 ∧ ifS (fieldAddrV 0 x0) fun x24 => ifS (loadV S2 x24) fun x25 => nilV (V.ptr S1.next 0) = some (V.ptr S1.next 0) ∧ ∃ x29 : List UInt8, loadV S2 (V.ptr S1.next 0) = some (V.str x29) ∧ CallA P (N Fn.disk_Disk_Create) [x25, (V.str x29)] S2 (retT [(.one (.int .i64))] fun (x30 : Int) (S4 : St) => ifC (!decide (x30 = (0 : Int))) (ifC (!decide (x30 = (171 : Int))) (K x30 S4) (k1  S4)) (k1  S4))) (fun (S3 : St) => nilV x0 = some x0 ∧ ifS (fieldAddrV 3 x0) fun x40 => ifS (storeV S3 1 x40 (V.bool true)) fun S5 => nilV x0 = some x0 ∧ ifS (fieldAddrV 0 x0) fun x43 => ifS (loadV S5 x43) fun x44 => nilV (V.ptr S1.next 0) = some (V.ptr S1.next 0) ∧ ∃ x48 : List UInt8, loadV S5 (V.ptr S1.next 0) = some (V.str x48) ∧ CallA P (N Fn.wal_head) [(V.int .i64 x1)] S5 (retT [(.one .any)] fun (x50 : V) (S6 : St) => Same (S1.next :: (V.block x43 ++ [])) S5 S6 ∧ CallA P (N Fn.disk_Disk_Append) [x44, (V.str x48), x50] S6 (retT [(.one (.int .i64))] fun (x51 : Int) (S7 : St) => ifC (!decide (x51 = (0 : Int))) (nilV x0 = some x0 ∧ ifS (fieldAddrV 0 x0) fun x56 => ifS (loadV S7 x56) fun x57 => nilV (V.ptr S1.next 0) = some (V.ptr S1.next 0) ∧ ∃ x61 : List UInt8, loadV S7 (V.ptr S1.next 0) = some (V.str x61) ∧ CallA P (N Fn.disk_Disk_Remove) [x57, (V.str x61)] S7 (retT [(.one (.int .i64))] fun (x62 : Int) (S8 : St) => K x51 S8)) (nilV x0 = some x0 ∧ ifS (fieldAddrV 4 x0) fun x66 => ∃ x67 : Int, loadV S7 x66 = some (V.int .i64 x67) ∧ setI (IntKind.i64.wrap (x67 + (1 : Int))) fun x68 => nilV x0 = some x0 ∧ ifS (fieldAddrV 4 x0) fun x70 => ifS (storeV S7 1 x70 (V.int .i64 x68)) fun S9 => nilV x0 = some x0 ∧ ifS (fieldAddrV 1 x0) fun x74 => ifS (loadV S9 x74) fun x75 => V.cells (V.ptr S1.next 0) = [(V.ptr S1.next 0)] ∧ newS S9 (.cells [(V.ptr S1.next 0)] true) fun S10 => ifP (appV S10 1 8 x75 (V.slice S9.next 0 1 1 1 true)) fun x78 S11 => nilV x0 = some x0 ∧ ifS (fieldAddrV 1 x0) fun x80 => ifS (storeV S11 1 x80 x78) fun S12 => K 0 S12)))))
abbrev wal_Log_begin.Ok (P : Program) (N : Nat → Nat) : Prop := Reads P (N Fn.wal_Log_begin) [(4, (.dt (.one (.int .i64))), []), (1, .no, [(.one .str)]), (0, (.dt (.one .str)), []), (5, (.dt (.agg [.str, (.int .i64), (.int .i64), (.int .i64), .bool])), []), (9, (.dt (.one .str)), []), (0, .no, [(.one (.int .i64))]), (20, (.dt (.one .str)), []), (1, .no, [(.one .any)]), (0, .no, [(.one (.int .i64))]), (10, (.dt (.one .str)), []), (0, .no, [(.one (.int .i64))]), (5, (.dt (.one (.int .i64))), []), (10, (.dt (.agg [.any])), [])] [(3, [])] [] (fun A T (x0 : V) (x1 : Int) (S : St) (K : Int → St → Prop) => wpT P (envP P) T (endT A.results [(.one (.int .i64))] K) (frT A [x0, (V.int .i64 x1)]) S) (fun x0 x1 S K => wal_Log_begin.p P N x0 x1 S K)
theorem wal_Log_begin.run {P : Program} {N : Nat → Nat} (hF : wal_Log_begin.Ok P N) {x0 : V} {x1 : Int} {S : St} {K : Int → St → Prop} (h : wal_Log_begin.p P N x0 x1 S K) : CallA P (N Fn.wal_Log_begin) [x0, (V.int .i64 x1)] S (retT [(.one (.int .i64))] K) := hF.run (fun q => q x0 x1 S K) h rfl

def wal_Log_lay.p (P : Program) (N : Nat → Nat) (x0 : V) (x1_a : Int) (x1_b : List UInt8) (S : St) (K : Int → St → Prop) : Prop :=
  newS S (.cells [(V.int .i64 x1_a), (V.str x1_b)] true) fun S1 => nilV x0 = some x0 ∧ ifS (fieldAddrV 1 x0) fun x10 => ifS (loadV S1 x10) fun x11 => nilV x0 = some x0 ∧ ifS (fieldAddrV 1 x0) fun x14 => ifS (loadV S1 x14) fun x15 => ∃ x16 : Int, lenV S1 2 x15 = some (V.int .i64 x16) ∧ setI (IntKind.i64.wrap (x16 - (1 : Int))) fun x17 => ifS (idxAddrV 1 x11 (V.int .i64 x17)) fun x18 => ifS (loadV S1 x18) fun x19 => ∃ x20_a : Int, ∃ x20_b : List UInt8, loadNV S1 2 (V.ptr S.next 0) = some (V.agg [(V.int .i64 x20_a), (V.str x20_b)]) ∧ CallA P (N Fn.wal_laid) [(V.agg [(V.int .i64 x20_a), (V.str x20_b)])] S1 (retT [(.one .any)] fun (x21 : V) (S2 : St) => nilV x0 = some x0 ∧ ifS (fieldAddrV 0 x0) fun x24 => ifS (loadV S2 x24) fun x25 => nilV x19 = some x19 ∧ ifS (fieldAddrV 0 x19) fun x28 => ∃ x29 : List UInt8, loadV S2 x28 = some (V.str x29) ∧ CallA P (N Fn.disk_Disk_Append) [x25, (V.str x29), x21] S2 (retT [(.one (.int .i64))] fun (x31 : Int) (S3 : St) => ifC (!decide (x31 = (0 : Int))) (K x31 S3) (nilV x19 = some x19 ∧ ifS (fieldAddrV 3 x19) fun x37 => ∃ x38 : Int, loadV S3 x37 = some (V.int .i64 x38) ∧ ∃ x40 : Int, lenV S3 2 x21 = some (V.int .i64 x40) ∧ setI (IntKind.i64.wrap (x38 + x40)) fun x41 => nilV x19 = some x19 ∧ ifS (fieldAddrV 3 x19) fun x43 => ifS (storeV S3 1 x43 (V.int .i64 x41)) fun S4 => nilV x19 = some x19 ∧ ifS (fieldAddrV 2 x19) fun x46 => ∃ x47 : Int, loadV S4 x46 = some (V.int .i64 x47) ∧ setI (IntKind.i64.wrap (x47 + (1 : Int))) fun x48 => nilV x19 = some x19 ∧ ifS (fieldAddrV 2 x19) fun x50 => ifS (storeV S4 1 x50 (V.int .i64 x48)) fun S5 => nilV x19 = some x19 ∧ ifS (fieldAddrV 4 x19) fun x53 => ifS (storeV S5 1 x53 (V.bool true)) fun S6 => K 0 S6)))
abbrev wal_Log_lay.Ok (P : Program) (N : Nat → Nat) : Prop := Reads P (N Fn.wal_Log_lay) [(10, (.dt (.one (.int .i64))), []), (4, (.dt (.agg [(.int .i64), .str])), []), (0, .no, [(.one .any)]), (8, (.dt (.one .str)), []), (1, .no, [(.one (.int .i64))]), (8, (.dt (.one (.int .i64))), []), (1, (.dt (.one (.int .i64))), []), (7, (.dt (.one (.int .i64))), [])] [] [] (fun A T (x0 : V) (x1_a : Int) (x1_b : List UInt8) (S : St) (K : Int → St → Prop) => wpT P (envP P) T (endT A.results [(.one (.int .i64))] K) (frT A [x0, (V.agg [(V.int .i64 x1_a), (V.str x1_b)])]) S) (fun x0 x1_a x1_b S K => wal_Log_lay.p P N x0 x1_a x1_b S K)
theorem wal_Log_lay.run {P : Program} {N : Nat → Nat} (hF : wal_Log_lay.Ok P N) {x0 : V} {x1_a : Int} {x1_b : List UInt8} {S : St} {K : Int → St → Prop} (h : wal_Log_lay.p P N x0 x1_a x1_b S K) : CallA P (N Fn.wal_Log_lay) [x0, (V.agg [(V.int .i64 x1_a), (V.str x1_b)])] S (retT [(.one (.int .i64))] K) := hF.run (fun q => q x0 x1_a x1_b S K) h rfl

def wal_whole.p (P : Program) (N : Nat → Nat) (x0 : V) (S : St) (K : Bool → St → Prop) : Prop :=
  ∃ x8 : Int, lenV S 2 x0 = some (V.int .i64 x8) ∧ setI (IntKind.i64.wrap (x8 - (4 : Int))) fun x9 => CallA P (N Fn.wal_get32) [x0, (V.int .i64 x9)] S (retT [(.one (.int .u32)), (.one (.int .i64))] fun (x10a : Int) (x10b : Int) (S1 : St) => ifC (decide (x10b = (0 : Int))) (∃ x19 : Int, lenV S1 2 x0 = some (V.int .i64 x19) ∧ setI (IntKind.i64.wrap (x19 - (4 : Int))) fun x20 => ifS (sliceSlV 1 x0 none (some (V.int .i64 x20)) none) fun x21 => CallA P (N Fn.codec_Sum) [x21] S1 (retT [(.one (.int .u32))] fun (x22 : Int) (S2 : St) => K (decide (x10a = x22)) S2)) (K false S1))
abbrev wal_whole.Ok (P : Program) (N : Nat → Nat) : Prop := Reads P (N Fn.wal_whole) [(3, (.dt (.one (.int .i64))), []), (1, .no, [(.one (.int .u32)), (.one (.int .i64))]), (11, (.dt (.one (.int .i64))), []), (2, .no, [(.one (.int .u32))])] [] [] (fun A T (x0 : V) (S : St) (K : Bool → St → Prop) => wpT P (envP P) T (endT A.results [(.one .bool)] K) (frT A [x0]) S) (fun x0 S K => wal_whole.p P N x0 S K)
theorem wal_whole.run {P : Program} {N : Nat → Nat} (hF : wal_whole.Ok P N) {x0 : V} {S : St} {K : Bool → St → Prop} (h : wal_whole.p P N x0 S K) : CallA P (N Fn.wal_whole) [x0] S (retT [(.one .bool)] K) := hF.run (fun q => q x0 S K) h rfl

def wal_get32.p (P : Program) (N : Nat → Nat) (x0 : V) (x1 : Int) (S : St) (K : Int → Int → St → Prop) : Prop :=
  Join0 (fun (k1 : St → Prop) => ifC (decide (x1 < (0 : Int))) (K 0 161 S) (setI (IntKind.i64.wrap (x1 + (4 : Int))) fun x10 => ∃ x12 : Int, lenV S 2 x0 = some (V.int .i64 x12) ∧ ifC (decide (x12 < x10)) (K 0 161 S) (k1  S))) (fun (S1 : St) => ifS (idxAddrV 1 x0 (V.int .i64 x1)) fun x17 => ∃ x18 : Int, loadV S1 x17 = some (V.int .u8 x18) ∧ setI (IntKind.u32.wrap x18) fun x19 => setI (IntKind.i64.wrap (x1 + (1 : Int))) fun x22 => ifS (idxAddrV 1 x0 (V.int .i64 x22)) fun x23 => ∃ x24 : Int, loadV S1 x23 = some (V.int .u8 x24) ∧ setI (IntKind.u32.wrap x24) fun x25 => 0 ≤ (8 : Int) ∧ setI (IntKind.u32.wrap (x25 * 2 ^ (min (Int.toNat (8 : Int)) (IntKind.bits .u32)))) fun x26 => setI (intBits .or .u32 x19 x26) fun x27 => setI (IntKind.i64.wrap (x1 + (2 : Int))) fun x30 => ifS (idxAddrV 1 x0 (V.int .i64 x30)) fun x31 => ∃ x32 : Int, loadV S1 x31 = some (V.int .u8 x32) ∧ setI (IntKind.u32.wrap x32) fun x33 => 0 ≤ (16 : Int) ∧ setI (IntKind.u32.wrap (x33 * 2 ^ (min (Int.toNat (16 : Int)) (IntKind.bits .u32)))) fun x34 => setI (intBits .or .u32 x27 x34) fun x35 => setI (IntKind.i64.wrap (x1 + (3 : Int))) fun x38 => ifS (idxAddrV 1 x0 (V.int .i64 x38)) fun x39 => ∃ x40 : Int, loadV S1 x39 = some (V.int .u8 x40) ∧ setI (IntKind.u32.wrap x40) fun x41 => 0 ≤ (24 : Int) ∧ setI (IntKind.u32.wrap (x41 * 2 ^ (min (Int.toNat (24 : Int)) (IntKind.bits .u32)))) fun x42 => setI (intBits .or .u32 x35 x42) fun x43 => K x43 0 S1)
abbrev wal_get32.Ok (P : Program) (N : Nat → Nat) : Prop := Reads P (N Fn.wal_get32) [(8, (.dt (.one (.int .i64))), []), (7, (.dt (.one (.int .u8))), []), (5, (.dt (.one (.int .u8))), []), (7, (.dt (.one (.int .u8))), []), (7, (.dt (.one (.int .u8))), [])] [(1, [])] [] (fun A T (x0 : V) (x1 : Int) (S : St) (K : Int → Int → St → Prop) => wpT P (envP P) T (endT A.results [(.one (.int .u32)), (.one (.int .i64))] K) (frT A [x0, (V.int .i64 x1)]) S) (fun x0 x1 S K => wal_get32.p P N x0 x1 S K)
theorem wal_get32.run {P : Program} {N : Nat → Nat} (hF : wal_get32.Ok P N) {x0 : V} {x1 : Int} {S : St} {K : Int → Int → St → Prop} (h : wal_get32.p P N x0 x1 S K) : CallA P (N Fn.wal_get32) [x0, (V.int .i64 x1)] S (retT [(.one (.int .u32)), (.one (.int .i64))] K) := hF.run (fun q => q x0 x1 S K) h rfl

def wal_get64.p (P : Program) (N : Nat → Nat) (x0 : V) (x1 : Int) (S : St) (K : Int → Int → St → Prop) : Prop :=
  CallA P (N Fn.wal_get32) [x0, (V.int .i64 x1)] S (retT [(.one (.int .u32)), (.one (.int .i64))] fun (x12a : Int) (x12b : Int) (S1 : St) => ifC (!decide (x12b = (0 : Int))) (K 0 x12b S1) (setI (IntKind.i64.wrap (x1 + (4 : Int))) fun x21 => CallA P (N Fn.wal_get32) [x0, (V.int .i64 x21)] S1 (retT [(.one (.int .u32)), (.one (.int .i64))] fun (x22a : Int) (x22b : Int) (S2 : St) => setI (IntKind.u64.wrap x12a) fun x26 => setI (IntKind.u64.wrap x22a) fun x28 => 0 ≤ (32 : Int) ∧ setI (IntKind.u64.wrap (x28 * 2 ^ (min (Int.toNat (32 : Int)) (IntKind.bits .u64)))) fun x29 => setI (intBits .or .u64 x26 x29) fun x30 => K x30 x22b S2)))
abbrev wal_get64.Ok (P : Program) (N : Nat → Nat) : Prop := Reads P (N Fn.wal_get64) [(4, .no, [(.one (.int .u32)), (.one (.int .i64))]), (13, .no, [(.one (.int .u32)), (.one (.int .i64))])] [] [] (fun A T (x0 : V) (x1 : Int) (S : St) (K : Int → Int → St → Prop) => wpT P (envP P) T (endT A.results [(.one (.int .u64)), (.one (.int .i64))] K) (frT A [x0, (V.int .i64 x1)]) S) (fun x0 x1 S K => wal_get64.p P N x0 x1 S K)
theorem wal_get64.run {P : Program} {N : Nat → Nat} (hF : wal_get64.Ok P N) {x0 : V} {x1 : Int} {S : St} {K : Int → Int → St → Prop} (h : wal_get64.p P N x0 x1 S K) : CallA P (N Fn.wal_get64) [x0, (V.int .i64 x1)] S (retT [(.one (.int .u64)), (.one (.int .i64))] K) := hF.run (fun q => q x0 x1 S K) h rfl

def wal_head.p (P : Program) (N : Nat → Nat) (x0 : Int) (S : St) (K : V → St → Prop) : Prop :=
  CallA P (N Fn.wal_put32) [V.nilSlice, (V.int .u32 1818326888)] S (retT [(.one .any)] fun (x3 : V) (S1 : St) => setI (IntKind.u64.wrap x0) fun x5 => CallA P (N Fn.wal_put64) [x3, (V.int .u64 x5)] S1 (retT [(.one .any)] fun (x6 : V) (S2 : St) => CallA P (N Fn.wal_sealed) [x6] S2 (retT [(.one .any)] fun (x7 : V) (S3 : St) => K x7 S3)))
abbrev wal_head.Ok (P : Program) (N : Nat → Nat) : Prop := Reads P (N Fn.wal_head) [(1, .no, [(.one .any)]), (2, .no, [(.one .any)]), (0, .no, [(.one .any)])] [] [] (fun A T (x0 : Int) (S : St) (K : V → St → Prop) => wpT P (envP P) T (endT A.results [(.one .any)] K) (frT A [(V.int .i64 x0)]) S) (fun x0 S K => wal_head.p P N x0 S K)
theorem wal_head.run {P : Program} {N : Nat → Nat} (hF : wal_head.Ok P N) {x0 : Int} {S : St} {K : V → St → Prop} (h : wal_head.p P N x0 S K) : CallA P (N Fn.wal_head) [(V.int .i64 x0)] S (retT [(.one .any)] K) := hF.run (fun q => q x0 S K) h rfl

def wal_laid.p (P : Program) (N : Nat → Nat) (x0_a : Int) (x0_b : List UInt8) (S : St) (K : V → St → Prop) : Prop :=
  newS S (.cells [(V.int .i64 x0_a), (V.str x0_b)] true) fun S1 => ∃ x5 : List UInt8, loadV S1 (V.ptr S.next 1) = some (V.str x5) ∧ setI (IntKind.u32.wrap (x5.length : Int)) fun x7 => ∃ x10 : Int, loadV S1 (V.ptr S.next 0) = some (V.int .i64 x10) ∧ setI (IntKind.u64.wrap x10) fun x11 => CallA P (N Fn.wal_put32) [V.nilSlice, (V.int .u32 x7)] S1 (retT [(.one .any)] fun (x8 : V) (S2 : St) => Same (S.next :: (S.next :: [])) S1 S2 ∧ CallA P (N Fn.wal_put64) [x8, (V.int .u64 x11)] S2 (retT [(.one .any)] fun (x12 : V) (S3 : St) => Same (S.next :: (S.next :: [])) S2 S3 ∧ ∃ x15 : List UInt8, loadV S3 (V.ptr S.next 1) = some (V.str x15) ∧ ifP (appV S3 1 1 x12 (V.str x15)) fun x16 S4 => CallA P (N Fn.wal_sealed) [x16] S4 (retT [(.one .any)] fun (x17 : V) (S5 : St) => K x17 S5)))
abbrev wal_laid.Ok (P : Program) (N : Nat → Nat) : Prop := Reads P (N Fn.wal_laid) [(3, (.dt (.one .str)), []), (3, (.dt (.one (.int .i64))), []), (1, .no, [(.one .any)]), (0, .no, [(.one .any)]), (3, (.dt (.one .str)), []), (1, .no, [(.one .any)])] [] [] (fun A T (x0_a : Int) (x0_b : List UInt8) (S : St) (K : V → St → Prop) => wpT P (envP P) T (endT A.results [(.one .any)] K) (frT A [(V.agg [(V.int .i64 x0_a), (V.str x0_b)])]) S) (fun x0_a x0_b S K => wal_laid.p P N x0_a x0_b S K)
theorem wal_laid.run {P : Program} {N : Nat → Nat} (hF : wal_laid.Ok P N) {x0_a : Int} {x0_b : List UInt8} {S : St} {K : V → St → Prop} (h : wal_laid.p P N x0_a x0_b S K) : CallA P (N Fn.wal_laid) [(V.agg [(V.int .i64 x0_a), (V.str x0_b)])] S (retT [(.one .any)] K) := hF.run (fun q => q x0_a x0_b S K) h rfl

def wal_sealed.p (P : Program) (N : Nat → Nat) (x0 : V) (S : St) (K : V → St → Prop) : Prop :=
  CallA P (N Fn.codec_Sum) [x0] S (retT [(.one (.int .u32))] fun (x5 : Int) (S1 : St) => CallA P (N Fn.wal_put32) [x0, (V.int .u32 x5)] S1 (retT [(.one .any)] fun (x6 : V) (S2 : St) => K x6 S2))
abbrev wal_sealed.Ok (P : Program) (N : Nat → Nat) : Prop := Reads P (N Fn.wal_sealed) [(3, .no, [(.one (.int .u32))]), (0, .no, [(.one .any)])] [] [] (fun A T (x0 : V) (S : St) (K : V → St → Prop) => wpT P (envP P) T (endT A.results [(.one .any)] K) (frT A [x0]) S) (fun x0 S K => wal_sealed.p P N x0 S K)
theorem wal_sealed.run {P : Program} {N : Nat → Nat} (hF : wal_sealed.Ok P N) {x0 : V} {S : St} {K : V → St → Prop} (h : wal_sealed.p P N x0 S K) : CallA P (N Fn.wal_sealed) [x0] S (retT [(.one .any)] K) := hF.run (fun q => q x0 S K) h rfl

def wal_put64.p (P : Program) (N : Nat → Nat) (x0 : V) (x1 : Int) (S : St) (K : V → St → Prop) : Prop :=
  setI (IntKind.u32.wrap x1) fun x7 => CallA P (N Fn.wal_put32) [x0, (V.int .u32 x7)] S (retT [(.one .any)] fun (x8 : V) (S1 : St) => 0 ≤ (32 : Int) ∧ setI (Int.fdiv x1 (2 ^ (min (Int.toNat (32 : Int)) (IntKind.bits .u64)))) fun x10 => setI (IntKind.u32.wrap x10) fun x11 => CallA P (N Fn.wal_put32) [x8, (V.int .u32 x11)] S1 (retT [(.one .any)] fun (x12 : V) (S2 : St) => K x12 S2))
abbrev wal_put64.Ok (P : Program) (N : Nat → Nat) : Prop := Reads P (N Fn.wal_put64) [(4, .no, [(.one .any)]), (3, .no, [(.one .any)])] [] [] (fun A T (x0 : V) (x1 : Int) (S : St) (K : V → St → Prop) => wpT P (envP P) T (endT A.results [(.one .any)] K) (frT A [x0, (V.int .u64 x1)]) S) (fun x0 x1 S K => wal_put64.p P N x0 x1 S K)
theorem wal_put64.run {P : Program} {N : Nat → Nat} (hF : wal_put64.Ok P N) {x0 : V} {x1 : Int} {S : St} {K : V → St → Prop} (h : wal_put64.p P N x0 x1 S K) : CallA P (N Fn.wal_put64) [x0, (V.int .u64 x1)] S (retT [(.one .any)] K) := hF.run (fun q => q x0 x1 S K) h rfl

def wal_put32.p (P : Program) (N : Nat → Nat) (x0 : V) (x1 : Int) (S : St) (K : V → St → Prop) : Prop :=
  setI (IntKind.u8.wrap x1) fun x7 => 0 ≤ (8 : Int) ∧ setI (Int.fdiv x1 (2 ^ (min (Int.toNat (8 : Int)) (IntKind.bits .u32)))) fun x9 => setI (IntKind.u8.wrap x9) fun x10 => 0 ≤ (16 : Int) ∧ setI (Int.fdiv x1 (2 ^ (min (Int.toNat (16 : Int)) (IntKind.bits .u32)))) fun x12 => setI (IntKind.u8.wrap x12) fun x13 => 0 ≤ (24 : Int) ∧ setI (Int.fdiv x1 (2 ^ (min (Int.toNat (24 : Int)) (IntKind.bits .u32)))) fun x15 => setI (IntKind.u8.wrap x15) fun x16 => newS S (.cells [(V.int .u8 x7), (V.int .u8 x10), (V.int .u8 x13), (V.int .u8 x16)] true) fun S1 => ifP (appV S1 1 1 x0 (V.slice S.next 0 4 4 1 true)) fun x18 S2 => K x18 S2
abbrev wal_put32.Ok (P : Program) (N : Nat → Nat) : Prop := Reads P (N Fn.wal_put32) [(13, (.dt (.agg [(.int .u8), (.int .u8), (.int .u8), (.int .u8)])), [])] [] [] (fun A T (x0 : V) (x1 : Int) (S : St) (K : V → St → Prop) => wpT P (envP P) T (endT A.results [(.one .any)] K) (frT A [x0, (V.int .u32 x1)]) S) (fun x0 x1 S K => wal_put32.p P N x0 x1 S K)
theorem wal_put32.run {P : Program} {N : Nat → Nat} (hF : wal_put32.Ok P N) {x0 : V} {x1 : Int} {S : St} {K : V → St → Prop} (h : wal_put32.p P N x0 x1 S K) : CallA P (N Fn.wal_put32) [x0, (V.int .u32 x1)] S (retT [(.one .any)] K) := hF.run (fun q => q x0 x1 S K) h rfl

end Go.Th.L
end

section
/- Functions of law17, read without frames (printed by tools/lib.py). -/
set_option linter.unusedVariables false
set_option maxRecDepth 100000
set_option maxHeartbeats 2000000
namespace Go.Th.L
open Go Go.Th

end Go.Th.L
end

section
/- Functions of keep, read without frames (printed by tools/lib.py). -/
set_option linter.unusedVariables false
set_option maxRecDepth 100000
set_option maxHeartbeats 2000000
namespace Go.Th.L
open Go Go.Th

def keep_Bytes.p (P : Program) (N : Nat → Nat) (x0 : V) (x1 : V) (S : St) (K : Bool → St → Prop) : Prop :=
  ∃ x7 : Int, lenV S 2 x0 = some (V.int .i64 x7) ∧ ∃ x9 : Int, lenV S 2 x1 = some (V.int .i64 x9) ∧ ifC (!decide (x7 = x9)) (K false S) (Loop1 (fun (k1 : Int → St → Prop) (x5 : Int) (S1 : St) => ∃ x13 : Int, lenV S1 2 x0 = some (V.int .i64 x13) ∧ ifC (decide (x5 < x13)) (ifS (idxAddrV 1 x0 (V.int .i64 x5)) fun x19 => ∃ x20 : Int, loadV S1 x19 = some (V.int .u8 x20) ∧ ifS (idxAddrV 1 x1 (V.int .i64 x5)) fun x23 => ∃ x24 : Int, loadV S1 x23 = some (V.int .u8 x24) ∧ ifC (!decide (x20 = x24)) (K false S1) (setI (IntKind.i64.wrap (x5 + (1 : Int))) fun x16 => k1 x16 S1)) (K true S1)) 0 S)
abbrev keep_Bytes.Ok (P : Program) (N : Nat → Nat) : Prop := Reads P (N Fn.keep_Bytes) [(2, (.dt (.one (.int .i64))), []), (1, (.dt (.one (.int .i64))), []), (5, (.dt (.one (.int .i64))), []), (4, (.dt (.one (.int .u8))), []), (3, (.dt (.one (.int .u8))), [])] [] [[(5, (.one (.int .i64)))]] (fun A T (x0 : V) (x1 : V) (S : St) (K : Bool → St → Prop) => wpT P (envP P) T (endT A.results [(.one .bool)] K) (frT A [x0, x1]) S) (fun x0 x1 S K => keep_Bytes.p P N x0 x1 S K)
end Go.Th.L
end

section
/- Functions of ref17, read without frames (printed by tools/lib.py). -/
set_option linter.unusedVariables false
set_option maxRecDepth 100000
set_option maxHeartbeats 2000000
namespace Go.Th.L
open Go Go.Th

end Go.Th.L
end
