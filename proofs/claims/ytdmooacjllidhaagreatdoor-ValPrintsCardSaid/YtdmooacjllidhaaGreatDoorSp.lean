/-
  Contracts of Go's library at this program, laid by the kit's tools; only those that are used. Conditions: as each states.
-/
import Derived.Shelf.Strings.Builder1
import Derived.Shelf.Strings.Builder2
import Derived.Shelf.Strings.Trim
import Derived.Shelf.Small.Utf8
import Derived.Shelf.Small.Bits
import Derived.Shelf.Small.Strs
import Derived.Shelf.Small.Wraps
import Derived.Shelf.Strings.BuilderF
import Derived.Shelf.Strings.BuilderK
import Derived.Shelf.Strings.BuilderRune
import Derived.Shelf.Utf8.AppendRune
import Derived.Shelf.Utf8.AppendRunePlain
import Derived.Shelf.Utf8.RuneCount
import Derived.Shelf.Strings.Builder2Cap
import Derived.Shelf.Strconv.Itoa0
import Derived.Shelf.Strconv.Itoa1
import Derived.Shelf.LaysM
import Derived.Shelf.Strconv.Itoa2
import Derived.Shelf.Strconv.Itoa3
import Derived.Shelf.Strconv.Itoa4
import Derived.Shelf.Strconv.ParseIntEmpty
import Derived.Shelf.Strconv.Clone
import Derived.Shelf.Strconv.SyntaxError
import Derived.Shelf.LaysC
import Derived.Shelf.Strconv.ToError
import Derived.Shelf.Strconv.Lower
import Derived.Shelf.Strconv.ParseUint10
import Derived.Shelf.Strconv.ParseUint10Empty
import Derived.Shelf.Strconv.ParseUint10Any
import Derived.Shelf.Strconv.ParseInt10
import Derived.Shelf.Strconv.RangeError
import Derived.Shelf.Strconv.ToErrorRange
import Derived.Shelf.Strconv.ParseUintEmpty
import Derived.Shelf.Strconv.ParseUint10b64
import Derived.Shelf.Strconv.ParseUint10b32
import Derived.Shelf.Strconv.ParseUint10b16
import Derived.Shelf.Strconv.ParseUint10b8
import Derived.Shelf.Strconv.ParseUint10At
import Derived.Shelf.Strconv.ParseInt10At64
import Derived.Shelf.Strconv.ParseInt10At32
import Derived.Shelf.Strconv.ParseInt10At16
import Derived.Shelf.Strconv.ParseInt10At8
import Derived.Shelf.Strconv.ParseInt10All
import Derived.Shelf.Strconv.ParseIntPublic10
import Derived.Shelf.Strconv.ErrVarParseInt
import Derived.Shelf.Strings.Search1
import Derived.Shelf.Strings.Search2
import Derived.Shelf.Strings.Search3
import Derived.Shelf.Strings.Count
import Derived.Shelf.Strings.Shaped
import Derived.Shelf.Sort.Plain
import Derived.Shelf.Strings.Prefix
import Derived.Shelf.Strings.Split
import Derived.Shelf.Strings.Replace
import Derived.Shelf.Strings.SplitShaped
import Derived.Shelf.Unicode.Decode
import Derived.Shelf.Strings.Runes
import Derived.Shelf.Strings.RuneCount
import Derived.Shelf.Strings.AsciiSet
import Derived.Shelf.Unicode.DecodeSlow
import Derived.Shelf.Unicode.DecodeAny
import Derived.Shelf.Unicode.DecodeLast
import Derived.Shelf.Strings.MapAny
import Derived.Shelf.Strings.BuilderCap
import Derived.Shelf.Strings.MapGrows
import Derived.Shelf.Slices.Reverse
import Derived.Ground.Names2Prog
import Derived.Shelf.Slices.ReverseS
import Derived.Shelf.Slices.Clone
import Derived.Shelf.Slices.SearchI
import Derived.Shelf.Slices.Delete
import Derived.Shelf.Slices.Cells
import Derived.Shelf.Slices.In.SortNone
import Derived.Shelf.Slices.Empties
import Derived.Ground.SlgnProg
import Derived.Shelf.SlicesE.Clone
import Derived.Test.YtdmooacjllidhaaGreatDoorProg
import Derived.Shelf.Strings.SlTrimAscii
import Derived.Test.YtdmooacjllidhaaGreatDoorShelf
namespace Go.Proofs
open Go.Shelf
def Tryz.lays160_ren : Go.Shelf.Ren := ⟨fun | 160 => 97 | 232 => 169 | 231 => 168 | 227 => 170 | 234 => 172 | 233 => 171 | 236 => 174 | 235 => 173 | 228 => 257 | 271 => 259 | 151 => 258 | 197 => 160 | 120 => 320 | 152 => 319 | 260 => 253 | 137 => 362 | 119 => 363 | 224 => 364 | 225 => 365 | 217 => 378 | 266 => 391 | n => n, fun | 9 => 9 | 4 => 4 | 3 => 3 | 5 => 5 | 117 => 281 | 116 => 280 | 0 => 0 | 124 => 284 | 21 => 21 | 105 => 267 | 46 => 256 | 119 => 418 | 139 => 421 | 138 => 420 | n => n, fun | 3 => 0 | 4 => 1 | n => n⟩
theorem Tryz.lays160 : Go.Proofs.Lays.n160 Tryz.prog Tryz.lays160_ren := {
  mixed := by kernel_rfl
  f119 := Tryz.func363.trans (congrArg some (by kernel_rfl))
  f120 := Tryz.func320.trans (congrArg some (by kernel_rfl))
  f137 := Tryz.func362.trans (congrArg some (by kernel_rfl))
  f151 := Tryz.func258.trans (congrArg some (by kernel_rfl))
  f152 := Tryz.func319.trans (congrArg some (by kernel_rfl))
  f160 := Tryz.func97.trans (congrArg some (by kernel_rfl))
  f197 := Tryz.func160.trans (congrArg some (by kernel_rfl))
  f217 := Tryz.func378.trans (congrArg some (by kernel_rfl))
  f224 := Tryz.func364.trans (congrArg some (by kernel_rfl))
  f225 := Tryz.func365.trans (congrArg some (by kernel_rfl))
  f227 := Tryz.func170.trans (congrArg some (by kernel_rfl))
  f228 := Tryz.func257.trans (congrArg some (by kernel_rfl))
  f231 := Tryz.func168.trans (congrArg some (by kernel_rfl))
  f232 := Tryz.func169.trans (congrArg some (by kernel_rfl))
  f233 := Tryz.func171.trans (congrArg some (by kernel_rfl))
  f234 := Tryz.func172.trans (congrArg some (by kernel_rfl))
  f235 := Tryz.func173.trans (congrArg some (by kernel_rfl))
  f236 := Tryz.func174.trans (congrArg some (by kernel_rfl))
  f260 := Tryz.func253.trans (congrArg some (by kernel_rfl))
  f266 := Tryz.func391.trans (congrArg some (by kernel_rfl))
  f271 := Tryz.func259.trans (congrArg some (by kernel_rfl))
  t0 := Tryz.underlying0
  a0 := Tryz.isAgg0
  z0 := Tryz.sizeOf0
  v0 := Tryz.zeroValue0
  t3 := Tryz.underlying3
  a3 := Tryz.isAgg3
  z3 := Tryz.sizeOf3
  v3 := Tryz.zeroValue3
  t4 := Tryz.underlying4
  a4 := Tryz.isAgg4
  z4 := Tryz.sizeOf4
  v4 := Tryz.zeroValue4
  t5 := Tryz.underlying5
  a5 := Tryz.isAgg5
  z5 := Tryz.sizeOf5
  v5 := Tryz.zeroValue5
  t9 := Tryz.underlying9
  a9 := Tryz.isAgg9
  z9 := Tryz.sizeOf9
  v9 := Tryz.zeroValue9
  t21 := Tryz.underlying21
  a21 := Tryz.isAgg21
  z21 := Tryz.sizeOf21
  v21 := Tryz.zeroValue21
  t46 := Tryz.underlying256
  a46 := Tryz.isAgg256
  z46 := Tryz.sizeOf256
  v46 := Tryz.zeroValue256
  t105 := Tryz.underlying267
  a105 := Tryz.isAgg267
  z105 := Tryz.sizeOf267
  v105 := Tryz.zeroValue267
  t116 := Tryz.underlying280
  a116 := Tryz.isAgg280
  z116 := Tryz.sizeOf280
  t117 := Tryz.underlying281
  a117 := Tryz.isAgg281
  z117 := Tryz.sizeOf281
  v117 := Tryz.zeroValue281
  t119 := Tryz.underlying418
  a119 := Tryz.isAgg418
  z119 := Tryz.sizeOf418
  t124 := Tryz.underlying284
  a124 := Tryz.isAgg284
  z124 := Tryz.sizeOf284
  v124 := Tryz.zeroValue284
  t138 := Tryz.underlying420
  a138 := Tryz.isAgg420
  z138 := Tryz.sizeOf420
  v138 := Tryz.zeroValue420
  t139 := Tryz.underlying421
  a139 := Tryz.isAgg421
  z139 := Tryz.sizeOf421
  v139 := Tryz.zeroValue421
  g3 := by kernel_rfl
  g4 := by kernel_rfl }
def Tryz.laysM173_ren : Go.Shelf.Ren := ⟨fun | 173 => 208 | 246 => 277 | 283 => 335 | 284 => 336 | 285 => 337 | 286 => 338 | 129 => 246 | 317 => 374 | 318 => 375 | 319 => 376 | 320 => 377 | 337 => 389 | 338 => 390 | n => n, fun | 2 => 2 | 3 => 3 | 9 => 9 | 4 => 4 | 171 => 435 | 0 => 0 | 53 => 333 | 37 => 39 | 5 => 5 | 173 => 437 | 212 => 462 | 51 => 132 | 20 => 20 | 213 => 463 | 46 => 256 | 232 => 486 | 233 => 487 | n => n, fun | 17 => 3 | 18 => 6 | 19 => 7 | n => n⟩
theorem Tryz.laysM173 : Go.Proofs.LaysM.n173 Tryz.prog Tryz.laysM173_ren := {
  mixed := by kernel_rfl
  f129 := Tryz.func246.trans (congrArg some (by kernel_rfl))
  f173 := Tryz.func208.trans (congrArg some (by kernel_rfl))
  f246 := Tryz.func277.trans (congrArg some (by kernel_rfl))
  f283 := Tryz.func335.trans (congrArg some (by kernel_rfl))
  f284 := Tryz.func336.trans (congrArg some (by kernel_rfl))
  f285 := Tryz.func337.trans (congrArg some (by kernel_rfl))
  f286 := Tryz.func338.trans (congrArg some (by kernel_rfl))
  f317 := Tryz.func374.trans (congrArg some (by kernel_rfl))
  f318 := Tryz.func375.trans (congrArg some (by kernel_rfl))
  f319 := Tryz.func376.trans (congrArg some (by kernel_rfl))
  f320 := Tryz.func377.trans (congrArg some (by kernel_rfl))
  f337 := Tryz.func389.trans (congrArg some (by kernel_rfl))
  f338 := Tryz.func390.trans (congrArg some (by kernel_rfl))
  t0 := Tryz.underlying0
  a0 := Tryz.isAgg0
  z0 := Tryz.sizeOf0
  v0 := Tryz.zeroValue0
  t2 := Tryz.underlying2
  a2 := Tryz.isAgg2
  z2 := Tryz.sizeOf2
  v2 := Tryz.zeroValue2
  t3 := Tryz.underlying3
  a3 := Tryz.isAgg3
  z3 := Tryz.sizeOf3
  v3 := Tryz.zeroValue3
  t4 := Tryz.underlying4
  a4 := Tryz.isAgg4
  z4 := Tryz.sizeOf4
  v4 := Tryz.zeroValue4
  t5 := Tryz.underlying5
  a5 := Tryz.isAgg5
  z5 := Tryz.sizeOf5
  v5 := Tryz.zeroValue5
  t9 := Tryz.underlying9
  a9 := Tryz.isAgg9
  z9 := Tryz.sizeOf9
  v9 := Tryz.zeroValue9
  t20 := Tryz.underlying20
  a20 := Tryz.isAgg20
  z20 := Tryz.sizeOf20
  v20 := Tryz.zeroValue20
  t37 := Tryz.underlying39
  a37 := Tryz.isAgg39
  z37 := Tryz.sizeOf39
  v37 := Tryz.zeroValue39
  t46 := Tryz.underlying256
  a46 := Tryz.isAgg256
  z46 := Tryz.sizeOf256
  v46 := Tryz.zeroValue256
  t51 := Tryz.underlying132
  a51 := Tryz.isAgg132
  z51 := Tryz.sizeOf132
  v51 := Tryz.zeroValue132
  t53 := Tryz.underlying333
  a53 := Tryz.isAgg333
  z53 := Tryz.sizeOf333
  v53 := Tryz.zeroValue333
  t171 := Tryz.underlying435
  a171 := Tryz.isAgg435
  z171 := Tryz.sizeOf435
  v171 := Tryz.zeroValue435
  t173 := Tryz.underlying437
  a173 := Tryz.isAgg437
  z173 := Tryz.sizeOf437
  v173 := Tryz.zeroValue437
  t212 := Tryz.underlying462
  a212 := Tryz.isAgg462
  z212 := Tryz.sizeOf462
  v212 := Tryz.zeroValue462
  t213 := Tryz.underlying463
  a213 := Tryz.isAgg463
  z213 := Tryz.sizeOf463
  t232 := Tryz.underlying486
  a232 := Tryz.isAgg486
  z232 := Tryz.sizeOf486
  v232 := Tryz.zeroValue486
  t233 := Tryz.underlying487
  a233 := Tryz.isAgg487
  z233 := Tryz.sizeOf487
  v233 := Tryz.zeroValue487
  g17 := by kernel_rfl
  g18 := by kernel_rfl
  g19 := by kernel_rfl
  i0 := by kernel_rfl
  i2 := by kernel_rfl
  i3 := by kernel_rfl
  i4 := by kernel_rfl
  i5 := by kernel_rfl
  i9 := by kernel_rfl
  i20 := by kernel_rfl
  i37 := by kernel_rfl
  i46 := by kernel_rfl
  i51 := by kernel_rfl
  i53 := by kernel_rfl
  i171 := by kernel_rfl
  i173 := by kernel_rfl
  i212 := by kernel_rfl
  i232 := by kernel_rfl
  i233 := by kernel_rfl
  m17 := by kernel_rfl
  m18 := by kernel_rfl
  m19 := by kernel_rfl }
open Go.RowKit Go.Sort Go.Lib in
theorem Tryz.strconv_FormatInt_10 (n : Int) (h0 : -9223372036854775808 ≤ n) (h1 : n ≤ 9223372036854775807) (w : World) (htab : Lib.TabIs Tryz.prog w "internal/strconv.uint64pow10" .u64 Lib.pow10Tab) :
    Calls Tryz.prog 208 #[.int .i64 n, .int .i64 10] w fun e w' => e = .returned (.string ⟨(Lib.itoa n).toArray⟩) ∧ ∃ k os, w' = grow (w.drewN k) os := Any.strconv_FormatInt_10 Tryz.laysM173 n h0 h1 w htab
def Tryz.laysC174_ren : Go.Shelf.Ren := ⟨fun | 174 => 211 | 247 => 281 | 245 => 282 | 287 => 343 | 279 => 344 | 280 => 345 | 281 => 346 | 282 => 347 | 321 => 380 | 322 => 381 | 316 => 382 | 171 => 384 | 205 => 383 | 243 => 393 | 246 => 277 | 283 => 335 | 284 => 336 | 285 => 337 | 286 => 338 | 129 => 246 | 317 => 374 | 318 => 375 | 319 => 376 | 320 => 377 | 337 => 389 | 338 => 390 | n => n, fun | 9 => 9 | 3 => 3 | 2 => 2 | 75 => 272 | 85 => 315 | 4 => 4 | 167 => 440 | 5 => 5 | 53 => 333 | 175 => 441 | 46 => 256 | 168 => 443 | 37 => 39 | 0 => 0 | 210 => 466 | 21 => 21 | 127 => 369 | 145 => 481 | 143 => 479 | 171 => 435 | 173 => 437 | 212 => 462 | 51 => 132 | 20 => 20 | 213 => 463 | 232 => 486 | 233 => 487 | 80 => 277 | n => n, fun | 15 => 4 | 16 => 5 | 17 => 3 | 18 => 6 | 19 => 7 | n => n⟩
theorem Tryz.laysC174 : Go.Proofs.LaysC.n174 Tryz.prog Tryz.laysC174_ren := {
  mixed := by kernel_rfl
  f129 := Tryz.func246.trans (congrArg some (by kernel_rfl))
  f171 := Tryz.func384.trans (congrArg some (by kernel_rfl))
  f174 := Tryz.func211.trans (congrArg some (by kernel_rfl))
  f205 := Tryz.func383.trans (congrArg some (by kernel_rfl))
  f243 := Tryz.func393.trans (congrArg some (by kernel_rfl))
  f245 := Tryz.func282.trans (congrArg some (by kernel_rfl))
  f246 := Tryz.func277.trans (congrArg some (by kernel_rfl))
  f247 := Tryz.func281.trans (congrArg some (by kernel_rfl))
  f279 := Tryz.func344.trans (congrArg some (by kernel_rfl))
  f280 := Tryz.func345.trans (congrArg some (by kernel_rfl))
  f281 := Tryz.func346.trans (congrArg some (by kernel_rfl))
  f282 := Tryz.func347.trans (congrArg some (by kernel_rfl))
  f283 := Tryz.func335.trans (congrArg some (by kernel_rfl))
  f284 := Tryz.func336.trans (congrArg some (by kernel_rfl))
  f285 := Tryz.func337.trans (congrArg some (by kernel_rfl))
  f286 := Tryz.func338.trans (congrArg some (by kernel_rfl))
  f287 := Tryz.func343.trans (congrArg some (by kernel_rfl))
  f316 := Tryz.func382.trans (congrArg some (by kernel_rfl))
  f317 := Tryz.func374.trans (congrArg some (by kernel_rfl))
  f318 := Tryz.func375.trans (congrArg some (by kernel_rfl))
  f319 := Tryz.func376.trans (congrArg some (by kernel_rfl))
  f320 := Tryz.func377.trans (congrArg some (by kernel_rfl))
  f321 := Tryz.func380.trans (congrArg some (by kernel_rfl))
  f322 := Tryz.func381.trans (congrArg some (by kernel_rfl))
  f337 := Tryz.func389.trans (congrArg some (by kernel_rfl))
  f338 := Tryz.func390.trans (congrArg some (by kernel_rfl))
  t0 := Tryz.underlying0
  a0 := Tryz.isAgg0
  z0 := Tryz.sizeOf0
  v0 := Tryz.zeroValue0
  t2 := Tryz.underlying2
  a2 := Tryz.isAgg2
  z2 := Tryz.sizeOf2
  v2 := Tryz.zeroValue2
  t3 := Tryz.underlying3
  a3 := Tryz.isAgg3
  z3 := Tryz.sizeOf3
  v3 := Tryz.zeroValue3
  t4 := Tryz.underlying4
  a4 := Tryz.isAgg4
  z4 := Tryz.sizeOf4
  v4 := Tryz.zeroValue4
  t5 := Tryz.underlying5
  a5 := Tryz.isAgg5
  z5 := Tryz.sizeOf5
  v5 := Tryz.zeroValue5
  t9 := Tryz.underlying9
  a9 := Tryz.isAgg9
  z9 := Tryz.sizeOf9
  v9 := Tryz.zeroValue9
  t20 := Tryz.underlying20
  a20 := Tryz.isAgg20
  z20 := Tryz.sizeOf20
  v20 := Tryz.zeroValue20
  t21 := Tryz.underlying21
  a21 := Tryz.isAgg21
  z21 := Tryz.sizeOf21
  v21 := Tryz.zeroValue21
  t37 := Tryz.underlying39
  a37 := Tryz.isAgg39
  z37 := Tryz.sizeOf39
  v37 := Tryz.zeroValue39
  t46 := Tryz.underlying256
  a46 := Tryz.isAgg256
  z46 := Tryz.sizeOf256
  v46 := Tryz.zeroValue256
  t51 := Tryz.underlying132
  a51 := Tryz.isAgg132
  z51 := Tryz.sizeOf132
  v51 := Tryz.zeroValue132
  t53 := Tryz.underlying333
  a53 := Tryz.isAgg333
  z53 := Tryz.sizeOf333
  v53 := Tryz.zeroValue333
  t75 := Tryz.underlying272
  a75 := Tryz.isAgg272
  z75 := Tryz.sizeOf272
  v75 := Tryz.zeroValue272
  t85 := Tryz.underlying315
  a85 := Tryz.isAgg315
  z85 := Tryz.sizeOf315
  v85 := Tryz.zeroValue315
  t127 := Tryz.underlying369
  a127 := Tryz.isAgg369
  z127 := Tryz.sizeOf369
  v127 := Tryz.zeroValue369
  t143 := Tryz.underlying479
  a143 := Tryz.isAgg479
  z143 := Tryz.sizeOf479
  v143 := Tryz.zeroValue479
  t145 := Tryz.underlying481
  a145 := Tryz.isAgg481
  z145 := Tryz.sizeOf481
  v145 := Tryz.zeroValue481
  t167 := Tryz.underlying440
  a167 := Tryz.isAgg440
  z167 := Tryz.sizeOf440
  v167 := Tryz.zeroValue440
  t168 := Tryz.underlying443
  a168 := Tryz.isAgg443
  z168 := Tryz.sizeOf443
  v168 := Tryz.zeroValue443
  t171 := Tryz.underlying435
  a171 := Tryz.isAgg435
  z171 := Tryz.sizeOf435
  v171 := Tryz.zeroValue435
  t173 := Tryz.underlying437
  a173 := Tryz.isAgg437
  z173 := Tryz.sizeOf437
  v173 := Tryz.zeroValue437
  t175 := Tryz.underlying441
  a175 := Tryz.isAgg441
  z175 := Tryz.sizeOf441
  v175 := Tryz.zeroValue441
  t210 := Tryz.underlying466
  a210 := Tryz.isAgg466
  z210 := Tryz.sizeOf466
  v210 := Tryz.zeroValue466
  t212 := Tryz.underlying462
  a212 := Tryz.isAgg462
  z212 := Tryz.sizeOf462
  v212 := Tryz.zeroValue462
  t213 := Tryz.underlying463
  a213 := Tryz.isAgg463
  z213 := Tryz.sizeOf463
  t232 := Tryz.underlying486
  a232 := Tryz.isAgg486
  z232 := Tryz.sizeOf486
  v232 := Tryz.zeroValue486
  t233 := Tryz.underlying487
  a233 := Tryz.isAgg487
  z233 := Tryz.sizeOf487
  v233 := Tryz.zeroValue487
  g15 := by kernel_rfl
  g16 := by kernel_rfl
  g17 := by kernel_rfl
  g18 := by kernel_rfl
  g19 := by kernel_rfl
  t80 := Tryz.underlying277
  a80 := Tryz.isAgg277
  z80 := Tryz.sizeOf277
  v80 := Tryz.zeroValue277
  i0 := by kernel_rfl
  i2 := by kernel_rfl
  i3 := by kernel_rfl
  i4 := by kernel_rfl
  i5 := by kernel_rfl
  i9 := by kernel_rfl
  i20 := by kernel_rfl
  i21 := by kernel_rfl
  i37 := by kernel_rfl
  i46 := by kernel_rfl
  i51 := by kernel_rfl
  i53 := by kernel_rfl
  i75 := by kernel_rfl
  i80 := by kernel_rfl
  i85 := by kernel_rfl
  i127 := by kernel_rfl
  i143 := by kernel_rfl
  i145 := by kernel_rfl
  i167 := by kernel_rfl
  i168 := by kernel_rfl
  i171 := by kernel_rfl
  i173 := by kernel_rfl
  i175 := by kernel_rfl
  i210 := by kernel_rfl
  i212 := by kernel_rfl
  i232 := by kernel_rfl
  i233 := by kernel_rfl
  m15 := by kernel_rfl
  m16 := by kernel_rfl
  m17 := by kernel_rfl
  m18 := by kernel_rfl
  m19 := by kernel_rfl
  c0 := by kernel_rfl
  c2 := by kernel_rfl
  c3 := by kernel_rfl
  c4 := by kernel_rfl
  c5 := by kernel_rfl
  c9 := by kernel_rfl
  c20 := by kernel_rfl
  c21 := by kernel_rfl
  c37 := by kernel_rfl
  c46 := by kernel_rfl
  c51 := by kernel_rfl
  c53 := by kernel_rfl
  c75 := by kernel_rfl
  c80 := by kernel_rfl
  c85 := by kernel_rfl
  c127 := by kernel_rfl
  c143 := by kernel_rfl
  c145 := by kernel_rfl
  c167 := by kernel_rfl
  c168 := by kernel_rfl
  c171 := by kernel_rfl
  c173 := by kernel_rfl
  c175 := by kernel_rfl
  c210 := by kernel_rfl
  c212 := by kernel_rfl
  c213 := by kernel_rfl
  c232 := by kernel_rfl
  c233 := by kernel_rfl }
open Go.RowKit in
theorem Tryz.strconv_ParseInt_10_at64_ok (s : ByteArray) (hmax : s.size ≤ 9223372036854775806) (v : Int) (h : Lib.parseIntB 64 s.data.toList = .ok v) (w : World) :
    Calls Tryz.prog 211 #[.string s, .int .i64 10, .int .i64 64] w fun e w' => e = .returned (.tuple #[.int .i64 v, .nilIface]) ∧ (w' = w ∨ ∃ t, w' = Lib.bytesWorld w 5 t) := Any.strconv_ParseInt_10_at64_ok Tryz.laysC174 s hmax v h w
open Go.RowKit in
theorem Tryz.strconv_ParseInt_10_at64_range_var (s : ByteArray) (hlim : s.size ≤ 281474976710656) (h : Lib.parseIntB 64 s.data.toList = .range) (tp : TypeId) (p : Value) (w : World) (hvar : w.var? Tryz.prog "strconv.ErrRange" = some #[.iface tp p]) :
    Calls Tryz.prog 211 #[.string s, .int .i64 10, .int .i64 64] w fun e w' => ∃ N, e = .returned (.tuple #[.int .i64 (Lib.intSat 64 s.data.toList), .iface 443 (.pointer (some ⟨N, 0, none⟩))]) ∧ w.heap.size ≤ N ∧ w'.heap[N]? = some (.cells #[.string ⟨#[80, 97, 114, 115, 101, 73, 110, 116]⟩, .string s, .iface tp p] 466 (0, 0)) ∧ Below w.heap.size w w' := Any.strconv_ParseInt_10_at64_range_var Tryz.laysC174 s hlim h tp p w hvar
def Tryz.lays101_ren : Go.Shelf.Ren := ⟨fun | 101 => 210 | 208 => 280 | 206 => 342 | n => n, fun | 9 => 9 | 4 => 4 | 3 => 3 | n => n, fun | n => n⟩
theorem Tryz.lays101 : Go.Proofs.Lays.n101 Tryz.prog Tryz.lays101_ren := {
  mixed := by kernel_rfl
  f101 := Tryz.func210.trans (congrArg some (by kernel_rfl))
  f206 := Tryz.func342.trans (congrArg some (by kernel_rfl))
  f208 := Tryz.func280.trans (congrArg some (by kernel_rfl))
  t3 := Tryz.underlying3
  a3 := Tryz.isAgg3
  z3 := Tryz.sizeOf3
  v3 := Tryz.zeroValue3
  t4 := Tryz.underlying4
  a4 := Tryz.isAgg4
  z4 := Tryz.sizeOf4
  v4 := Tryz.zeroValue4
  t9 := Tryz.underlying9
  a9 := Tryz.isAgg9
  z9 := Tryz.sizeOf9
  v9 := Tryz.zeroValue9 }
open Go.RowKit Go.Lib in
theorem Tryz.strings_TrimPrefix (s p : ByteArray) (w : World) :
    Calls Tryz.prog 210 #[.string s, .string p] w fun e w' => e = .returned (.string ⟨(Lib.trimPrefix s.data.toList p.data.toList).toArray⟩) ∧ w' = w := Any.strings_TrimPrefix Tryz.lays101 s p w

open Go.RowKit in
theorem Tryz.strings_Trim_ascii (s cutset : ByteArray) (w : World) (hs : s.size ≤ 9223372036854775807) (hcs : cutset.size < 4294967281)
    (hascii : ∀ (j : Nat) b, cutset.data.toList[j]? = some b → b.toNat < 128) :
    Calls Tryz.prog 97 #[.string s, .string cutset] w fun e w' => e = .returned (.string ⟨(Lib.trimS s.data.toList cutset.data.toList).toArray⟩) ∧ Below w.heap.size w w' :=
  Any.strings_Trim_laid Tryz.lays160 (by kernel_rfl) s cutset w hs hcs hascii
end Go.Proofs
