/-
  Contracts of Go's library at this program, laid by the kit's tools; only those that are used. Conditions: as each states.
-/
import Derived.Shelf.Strings.Builder1
import Derived.Shelf.Strings.Builder2
import Derived.Shelf.Strings.Trim
import Derived.Shelf.Small.Utf8
import Derived.Shelf.Small.Bits
import Derived.Shelf.Small.Strs
import Derived.Shelf.Small.Wraps
import Derived.Shelf.Strings.BuilderF
import Derived.Shelf.Strings.BuilderK
import Derived.Shelf.Strings.BuilderRune
import Derived.Shelf.Utf8.AppendRune
import Derived.Shelf.Utf8.AppendRunePlain
import Derived.Shelf.Utf8.RuneCount
import Derived.Shelf.Strings.Builder2Cap
import Derived.Shelf.Strconv.Itoa0
import Derived.Shelf.Strconv.Itoa1
import Derived.Shelf.LaysM
import Derived.Shelf.Strconv.Itoa2
import Derived.Shelf.Strconv.Itoa3
import Derived.Shelf.Strconv.Itoa4
import Derived.Shelf.Strconv.ParseIntEmpty
import Derived.Shelf.Strconv.Clone
import Derived.Shelf.Strconv.SyntaxError
import Derived.Shelf.LaysC
import Derived.Shelf.Strconv.ToError
import Derived.Shelf.Strconv.Lower
import Derived.Shelf.Strconv.ParseUint10
import Derived.Shelf.Strconv.ParseUint10Empty
import Derived.Shelf.Strconv.ParseUint10Any
import Derived.Shelf.Strconv.ParseInt10
import Derived.Shelf.Strconv.RangeError
import Derived.Shelf.Strconv.ToErrorRange
import Derived.Shelf.Strconv.ParseUintEmpty
import Derived.Shelf.Strconv.ParseUint10b64
import Derived.Shelf.Strconv.ParseUint10b32
import Derived.Shelf.Strconv.ParseUint10b16
import Derived.Shelf.Strconv.ParseUint10b8
import Derived.Shelf.Strconv.ParseUint10At
import Derived.Shelf.Strconv.ParseInt10At64
import Derived.Shelf.Strconv.ParseInt10At32
import Derived.Shelf.Strconv.ParseInt10At16
import Derived.Shelf.Strconv.ParseInt10At8
import Derived.Shelf.Strconv.ParseInt10All
import Derived.Shelf.Strconv.ParseIntPublic10
import Derived.Shelf.Strconv.ErrVarParseInt
import Derived.Shelf.Strings.Search1
import Derived.Shelf.Strings.Search2
import Derived.Shelf.Strings.Search3
import Derived.Shelf.Strings.Count
import Derived.Shelf.Strings.Shaped
import Derived.Shelf.Sort.Plain
import Derived.Shelf.Strings.Prefix
import Derived.Shelf.Strings.Split
import Derived.Shelf.Strings.Replace
import Derived.Shelf.Strings.SplitShaped
import Derived.Shelf.Unicode.Decode
import Derived.Shelf.Strings.Runes
import Derived.Shelf.Strings.RuneCount
import Derived.Shelf.Strings.AsciiSet
import Derived.Shelf.Unicode.DecodeSlow
import Derived.Shelf.Unicode.DecodeAny
import Derived.Shelf.Unicode.DecodeLast
import Derived.Shelf.Strings.MapAny
import Derived.Shelf.Strings.BuilderCap
import Derived.Shelf.Strings.MapGrows
import Derived.Shelf.Slices.Reverse
import Derived.Ground.Names2Prog
import Derived.Shelf.Slices.ReverseS
import Derived.Shelf.Slices.Clone
import Derived.Shelf.Slices.SearchI
import Derived.Shelf.Slices.Delete
import Derived.Shelf.Slices.Cells
import Derived.Shelf.Slices.In.SortNone
import Derived.Shelf.Slices.Empties
import Derived.Ground.SlgnProg
import Derived.Shelf.SlicesE.Clone
import Derived.Test.YtdmooacjllidhaaGreatDoorProg
namespace Go.Proofs
open Go.Shelf
def Tryz.lays122_ren : Go.Shelf.Ren := ⟨fun | 122 => 101 | 215 => 176 | n => n, fun | 3 => 3 | 4 => 4 | n => n, fun | n => n⟩
theorem Tryz.lays122 : Go.Proofs.Lays.n122 Tryz.prog Tryz.lays122_ren := {
  mixed := by kernel_rfl
  f122 := Tryz.func101.trans (congrArg some (by kernel_rfl))
  f215 := Tryz.func176.trans (congrArg some (by kernel_rfl))
  t3 := Tryz.underlying3
  a3 := Tryz.isAgg3
  z3 := Tryz.sizeOf3
  v3 := Tryz.zeroValue3
  t4 := Tryz.underlying4
  a4 := Tryz.isAgg4
  z4 := Tryz.sizeOf4
  v4 := Tryz.zeroValue4 }
open Go.RowKit in
theorem Tryz.cmp_Compare_int (x y : Int) (w : World) :
    Calls Tryz.prog 101 #[.int .i64 x, .int .i64 y] w fun e w' => e = .returned (.int .i64 (Lib.compareInt x y)) ∧ w' = w := Any.cmp_Compare_int Tryz.lays122 x y w
def Tryz.lays155_ren : Go.Shelf.Ren := ⟨fun | 155 => 131 | 154 => 209 | 138 => 278 | 165 => 162 | 143 => 279 | 166 => 163 | 197 => 160 | 169 => 167 | 195 => 339 | 218 => 340 | 240 => 254 | 241 => 255 | 219 => 341 | 260 => 253 | 276 => 316 | 277 => 317 | 217 => 378 | 225 => 365 | 224 => 364 | 267 => 379 | 266 => 391 | 314 => 392 | n => n, fun | 9 => 9 | 3 => 3 | 4 => 4 | 72 => 266 | 0 => 0 | 76 => 273 | 105 => 267 | 21 => 21 | 5 => 5 | 70 => 264 | 20 => 20 | 37 => 39 | 75 => 272 | 127 => 369 | 164 => 422 | 46 => 256 | 119 => 418 | 139 => 421 | 138 => 420 | 146 => 477 | 51 => 132 | 80 => 277 | n => n, fun | 1 => 2 | 3 => 0 | 4 => 1 | n => n⟩
theorem Tryz.lays155 : Go.Proofs.Lays.n155 Tryz.prog Tryz.lays155_ren := {
  mixed := by kernel_rfl
  f138 := Tryz.func278.trans (congrArg some (by kernel_rfl))
  f143 := Tryz.func279.trans (congrArg some (by kernel_rfl))
  f154 := Tryz.func209.trans (congrArg some (by kernel_rfl))
  f155 := Tryz.func131.trans (congrArg some (by kernel_rfl))
  f165 := Tryz.func162.trans (congrArg some (by kernel_rfl))
  f166 := Tryz.func163.trans (congrArg some (by kernel_rfl))
  f169 := Tryz.func167.trans (congrArg some (by kernel_rfl))
  f195 := Tryz.func339.trans (congrArg some (by kernel_rfl))
  f197 := Tryz.func160.trans (congrArg some (by kernel_rfl))
  f217 := Tryz.func378.trans (congrArg some (by kernel_rfl))
  f218 := Tryz.func340.trans (congrArg some (by kernel_rfl))
  f219 := Tryz.func341.trans (congrArg some (by kernel_rfl))
  f224 := Tryz.func364.trans (congrArg some (by kernel_rfl))
  f225 := Tryz.func365.trans (congrArg some (by kernel_rfl))
  f240 := Tryz.func254.trans (congrArg some (by kernel_rfl))
  f241 := Tryz.func255.trans (congrArg some (by kernel_rfl))
  f260 := Tryz.func253.trans (congrArg some (by kernel_rfl))
  f266 := Tryz.func391.trans (congrArg some (by kernel_rfl))
  f267 := Tryz.func379.trans (congrArg some (by kernel_rfl))
  f276 := Tryz.func316.trans (congrArg some (by kernel_rfl))
  f277 := Tryz.func317.trans (congrArg some (by kernel_rfl))
  f314 := Tryz.func392.trans (congrArg some (by kernel_rfl))
  t0 := Tryz.underlying0
  a0 := Tryz.isAgg0
  z0 := Tryz.sizeOf0
  v0 := Tryz.zeroValue0
  t3 := Tryz.underlying3
  a3 := Tryz.isAgg3
  z3 := Tryz.sizeOf3
  v3 := Tryz.zeroValue3
  t4 := Tryz.underlying4
  a4 := Tryz.isAgg4
  z4 := Tryz.sizeOf4
  v4 := Tryz.zeroValue4
  t5 := Tryz.underlying5
  a5 := Tryz.isAgg5
  z5 := Tryz.sizeOf5
  v5 := Tryz.zeroValue5
  t9 := Tryz.underlying9
  a9 := Tryz.isAgg9
  z9 := Tryz.sizeOf9
  v9 := Tryz.zeroValue9
  t20 := Tryz.underlying20
  a20 := Tryz.isAgg20
  z20 := Tryz.sizeOf20
  v20 := Tryz.zeroValue20
  t21 := Tryz.underlying21
  a21 := Tryz.isAgg21
  z21 := Tryz.sizeOf21
  v21 := Tryz.zeroValue21
  t37 := Tryz.underlying39
  a37 := Tryz.isAgg39
  z37 := Tryz.sizeOf39
  v37 := Tryz.zeroValue39
  t46 := Tryz.underlying256
  a46 := Tryz.isAgg256
  z46 := Tryz.sizeOf256
  v46 := Tryz.zeroValue256
  t51 := Tryz.underlying132
  a51 := Tryz.isAgg132
  z51 := Tryz.sizeOf132
  v51 := Tryz.zeroValue132
  t70 := Tryz.underlying264
  a70 := Tryz.isAgg264
  z70 := Tryz.sizeOf264
  v70 := Tryz.zeroValue264
  t72 := Tryz.underlying266
  a72 := Tryz.isAgg266
  z72 := Tryz.sizeOf266
  v72 := Tryz.zeroValue266
  t75 := Tryz.underlying272
  a75 := Tryz.isAgg272
  z75 := Tryz.sizeOf272
  v75 := Tryz.zeroValue272
  t76 := Tryz.underlying273
  a76 := Tryz.isAgg273
  z76 := Tryz.sizeOf273
  v76 := Tryz.zeroValue273
  t105 := Tryz.underlying267
  a105 := Tryz.isAgg267
  z105 := Tryz.sizeOf267
  v105 := Tryz.zeroValue267
  t119 := Tryz.underlying418
  a119 := Tryz.isAgg418
  z119 := Tryz.sizeOf418
  t127 := Tryz.underlying369
  a127 := Tryz.isAgg369
  z127 := Tryz.sizeOf369
  v127 := Tryz.zeroValue369
  t138 := Tryz.underlying420
  a138 := Tryz.isAgg420
  z138 := Tryz.sizeOf420
  v138 := Tryz.zeroValue420
  t139 := Tryz.underlying421
  a139 := Tryz.isAgg421
  z139 := Tryz.sizeOf421
  v139 := Tryz.zeroValue421
  t146 := Tryz.underlying477
  a146 := Tryz.isAgg477
  z146 := Tryz.sizeOf477
  v146 := Tryz.zeroValue477
  t164 := Tryz.underlying422
  a164 := Tryz.isAgg422
  z164 := Tryz.sizeOf422
  v164 := Tryz.zeroValue422
  g1 := by kernel_rfl
  g3 := by kernel_rfl
  g4 := by kernel_rfl }
theorem Tryz.Builder_Extra_155 : Builder.Extra Tryz.prog Tryz.lays155_ren := {
  sizeBuilder := by kernel_rfl
  liesBuilder := by kernel_rfl
  t5 := Tryz.underlying5
  a5 := Tryz.isAgg5
  z5 := Tryz.sizeOf5
  v5 := Tryz.zeroValue5
  infoByte := by kernel_rfl
  cellsByte := by kernel_rfl
  sizeByte := by kernel_rfl
  neB5 := by decide }
open Go.RowKit Go.Lib in
theorem Tryz.strings_ReplaceAll (s old new : ByteArray) (m : Int) (w : World) (hs : s.size < 4294967281) (hm : w.cell? ⟨2, 0, none⟩ = some (.int .i64 m)) (h1 : 1 ≤ old.size) (hlen : s.size + Lib.countB s old * new.size ≤ 140737488355328) :
    Calls Tryz.prog 131 #[.string s, .string old, .string new] w fun e w' =>
      e = .returned (.string ⟨(Lib.replaceAll s.data.toList old.data.toList new.data.toList).toArray⟩) ∧ Below w.heap.size w w' := Any.strings_ReplaceAll Tryz.lays155 Tryz.Builder_Extra_155 s old new m w hs hm h1 hlen
end Go.Proofs
