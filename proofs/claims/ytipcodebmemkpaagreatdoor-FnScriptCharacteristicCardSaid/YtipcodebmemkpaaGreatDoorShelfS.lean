/-
  The library's contracts that this seat uses, laid by the kit's own program over this seat's numbers. No conditions but those that each theorem names.
-/
import Derived.Shelf.Strings.Builder1
import Derived.Shelf.Strings.Builder2
import Derived.Shelf.Strings.OnBuilder
import Derived.Shelf.Small.Bits
import Derived.Shelf.Small.Strs
import Derived.Shelf.Small.Wraps
import Derived.Shelf.Strings.BuilderF
import Derived.Shelf.Strings.BuilderK
import Derived.Shelf.Utf8.RuneCount
import Derived.Shelf.Strings.Builder2Cap
import Derived.Shelf.Strconv.Atoi
import Derived.Shelf.Strconv.Itoa0
import Derived.Shelf.Strconv.Itoa1
import Derived.Shelf.LaysM
import Derived.Shelf.Strconv.Itoa2
import Derived.Shelf.Strconv.Itoa3
import Derived.Shelf.Strconv.AtoiErrFast
import Derived.Shelf.Strconv.ParseIntEmpty
import Derived.Shelf.Strconv.AtoiFail
import Derived.Shelf.Strconv.Clone
import Derived.Shelf.Strconv.SyntaxError
import Derived.Shelf.LaysC
import Derived.Shelf.Strconv.ToError
import Derived.Shelf.Strconv.AtoiErr
import Derived.Shelf.Strconv.ErrVar
import Derived.Shelf.Strconv.Lower
import Derived.Shelf.Strconv.ParseUint10
import Derived.Shelf.Strconv.ParseUint10Empty
import Derived.Shelf.Strconv.ParseUint10Any
import Derived.Shelf.Strconv.ParseInt10
import Derived.Shelf.Strconv.AtoiLong
import Derived.Shelf.Strconv.AtoiInnerAll
import Derived.Shelf.Strconv.RangeError
import Derived.Shelf.Strconv.ToErrorRange
import Derived.Shelf.Strconv.AtoiAll
import Derived.Shelf.Strconv.ErrVarAll
import Derived.Shelf.Strconv.ParseUintEmpty
import Derived.Shelf.Strconv.ParseUint10b64
import Derived.Shelf.Strconv.ParseUint10b32
import Derived.Shelf.Strconv.ParseUint10b16
import Derived.Shelf.Strconv.ParseUint10b8
import Derived.Shelf.Strconv.ParseUint10At
import Derived.Shelf.Strconv.ParseInt10At64
import Derived.Shelf.Strconv.ParseInt10At32
import Derived.Shelf.Strconv.ParseInt10At16
import Derived.Shelf.Strconv.ParseInt10At8
import Derived.Shelf.Strconv.ParseInt10All
import Derived.Shelf.Strings.Search1
import Derived.Shelf.Strings.Search2
import Derived.Shelf.Strings.Search3
import Derived.Shelf.Strings.Cut
import Derived.Shelf.Strings.Count
import Derived.Shelf.Strings.Shaped
import Derived.Shelf.Sort.Plain
import Derived.Shelf.Strings.Prefix
import Derived.Shelf.Strings.Split
import Derived.Shelf.Strings.Replace
import Derived.Shelf.Strings.SplitShaped
import Derived.Shelf.Unicode.Decode
import Derived.Shelf.Strings.RuneCount
import Derived.Shelf.Strings.Explode
import Derived.Shelf.Bits.Mul64
import Derived.Shelf.Strings.Repeat
import Derived.Shelf.Unicode.DecodeSlow
import Derived.Shelf.Unicode.DecodeAny
import Derived.Shelf.Strings.BuilderCap
import Derived.Shelf.Slices.Reverse
import Derived.Ground.Names2Prog
import Derived.Shelf.Slices.SearchI
import Derived.Shelf.Slices.Cells
import Derived.Shelf.Slices.In.SortNone
import Derived.Ground.SlsfProg
import Derived.Shelf.SlSortCmp.Insertion
import Derived.Shelf.SlSortCmp.Insertion1
import Derived.Shelf.SlSortCmp.NoneTotal
import Derived.Test.YtipcodebmemkpaaGreatDoorProg
namespace Go.Proofs
open Go.Shelf
def Tryz.lays189_ren : Go.Shelf.Ren := ⟨fun | 189 => 231 | 125 => 276 | 257 => 275 | 128 => 309 | 129 => 310 | 294 => 300 | 295 => 301 | 296 => 302 | 297 => 303 | 298 => 304 | 299 => 305 | 216 => 306 | 300 => 307 | 301 => 308 | 328 => 325 | 329 => 326 | 330 => 327 | 331 => 328 | 332 => 329 | 215 => 330 | 343 => 339 | n => n, fun | 28 => 54 | 3 => 3 | 46 => 112 | 0 => 0 | 51 => 145 | 53 => 148 | 4 => 4 | 183 => 289 | 182 => 288 | 131 => 78 | 5 => 5 | 9 => 9 | 218 => 306 | 222 => 310 | 228 => 319 | 229 => 224 | n => n, fun | n => n⟩
theorem Tryz.lays189 : Go.Proofs.Lays.n189 Tryz.prog Tryz.lays189_ren := {
  mixed := by kernel_rfl
  f125 := Tryz.func276.trans (congrArg some (by kernel_rfl))
  f128 := Tryz.func309.trans (congrArg some (by kernel_rfl))
  f129 := Tryz.func310.trans (congrArg some (by kernel_rfl))
  f189 := Tryz.func231.trans (congrArg some (by kernel_rfl))
  f215 := Tryz.func330.trans (congrArg some (by kernel_rfl))
  f216 := Tryz.func306.trans (congrArg some (by kernel_rfl))
  f257 := Tryz.func275.trans (congrArg some (by kernel_rfl))
  f294 := Tryz.func300.trans (congrArg some (by kernel_rfl))
  f295 := Tryz.func301.trans (congrArg some (by kernel_rfl))
  f296 := Tryz.func302.trans (congrArg some (by kernel_rfl))
  f297 := Tryz.func303.trans (congrArg some (by kernel_rfl))
  f298 := Tryz.func304.trans (congrArg some (by kernel_rfl))
  f299 := Tryz.func305.trans (congrArg some (by kernel_rfl))
  f300 := Tryz.func307.trans (congrArg some (by kernel_rfl))
  f301 := Tryz.func308.trans (congrArg some (by kernel_rfl))
  f328 := Tryz.func325.trans (congrArg some (by kernel_rfl))
  f329 := Tryz.func326.trans (congrArg some (by kernel_rfl))
  f330 := Tryz.func327.trans (congrArg some (by kernel_rfl))
  f331 := Tryz.func328.trans (congrArg some (by kernel_rfl))
  f332 := Tryz.func329.trans (congrArg some (by kernel_rfl))
  f343 := Tryz.func339.trans (congrArg some (by kernel_rfl))
  t0 := Tryz.underlying0
  a0 := Tryz.isAgg0
  z0 := Tryz.sizeOf0
  v0 := Tryz.zeroValue0
  t3 := Tryz.underlying3
  a3 := Tryz.isAgg3
  z3 := Tryz.sizeOf3
  v3 := Tryz.zeroValue3
  t4 := Tryz.underlying4
  a4 := Tryz.isAgg4
  z4 := Tryz.sizeOf4
  v4 := Tryz.zeroValue4
  t5 := Tryz.underlying5
  a5 := Tryz.isAgg5
  z5 := Tryz.sizeOf5
  v5 := Tryz.zeroValue5
  t9 := Tryz.underlying9
  a9 := Tryz.isAgg9
  z9 := Tryz.sizeOf9
  v9 := Tryz.zeroValue9
  t28 := Tryz.underlying54
  a28 := Tryz.isAgg54
  z28 := Tryz.sizeOf54
  v28 := Tryz.zeroValue54
  t46 := Tryz.underlying112
  a46 := Tryz.isAgg112
  z46 := Tryz.sizeOf112
  v46 := Tryz.zeroValue112
  t51 := Tryz.underlying145
  a51 := Tryz.isAgg145
  z51 := Tryz.sizeOf145
  v51 := Tryz.zeroValue145
  t53 := Tryz.underlying148
  a53 := Tryz.isAgg148
  z53 := Tryz.sizeOf148
  v53 := Tryz.zeroValue148
  t131 := Tryz.underlying78
  a131 := Tryz.isAgg78
  z131 := Tryz.sizeOf78
  v131 := Tryz.zeroValue78
  t182 := Tryz.underlying288
  a182 := Tryz.isAgg288
  z182 := Tryz.sizeOf288
  v182 := Tryz.zeroValue288
  t183 := Tryz.underlying289
  a183 := Tryz.isAgg289
  z183 := Tryz.sizeOf289
  v183 := Tryz.zeroValue289
  t218 := Tryz.underlying306
  a218 := Tryz.isAgg306
  z218 := Tryz.sizeOf306
  v218 := Tryz.zeroValue306
  t222 := Tryz.underlying310
  a222 := Tryz.isAgg310
  z222 := Tryz.sizeOf310
  v222 := Tryz.zeroValue310
  t228 := Tryz.underlying319
  a228 := Tryz.isAgg319
  z228 := Tryz.sizeOf319
  v228 := Tryz.zeroValue319
  t229 := Tryz.underlying224
  a229 := Tryz.isAgg224
  z229 := Tryz.sizeOf224
  v229 := Tryz.zeroValue224 }
open Go.Sort Go.RowKit in
theorem Tryz.slices_Sort_int (blk off cap : Nat) (zs : List Int) (w : World) (hH : Holds (Value.int .i64) w blk off zs.toArray) (hblk : blk < w.heap.size) (hsz : zs.length < 4611686018427387904) :
    Calls Tryz.prog 231 #[.slice (some ⟨blk, off, none⟩) zs.length cap] w fun e w' =>
      e = .returned (.tuple #[]) ∧ ∃ n os, w' = grow (putRow (Value.int .i64) (Sort.ahead w n) blk off (zs.mergeSort fun x y => decide (x ≤ y)).toArray) os := Any.slices_Sort_int Tryz.lays189 blk off cap zs w hH hblk hsz
def Tryz.lays112_ren : Go.Shelf.Ren := ⟨fun | 112 => 232 | n => n, fun | 28 => 54 | 3 => 3 | 4 => 4 | 0 => 0 | n => n, fun | n => n⟩
theorem Tryz.lays112 : Go.Proofs.Lays.n112 Tryz.prog Tryz.lays112_ren := {
  mixed := by kernel_rfl
  f112 := Tryz.func232.trans (congrArg some (by kernel_rfl))
  t0 := Tryz.underlying0
  a0 := Tryz.isAgg0
  z0 := Tryz.sizeOf0
  v0 := Tryz.zeroValue0
  t3 := Tryz.underlying3
  a3 := Tryz.isAgg3
  z3 := Tryz.sizeOf3
  v3 := Tryz.zeroValue3
  t4 := Tryz.underlying4
  a4 := Tryz.isAgg4
  z4 := Tryz.sizeOf4
  v4 := Tryz.zeroValue4
  t28 := Tryz.underlying54
  a28 := Tryz.isAgg54
  z28 := Tryz.sizeOf54
  v28 := Tryz.zeroValue54 }
open Go.RowKit Go.Lib Go.Sort in
theorem Tryz.slices_Reverse_int (blk off cap : Nat) (zs : List Int) (w : World) (hH : Holds (Value.int .i64) w blk off zs.toArray) (hsz : zs.length ≤ 9223372036854775807) :
    Calls Tryz.prog 232 #[.slice (some ⟨blk, off, none⟩) zs.length cap] w fun e w' => e = .returned (.tuple #[]) ∧ ∃ n, w' = putRow (Value.int .i64) (Sort.ahead w n) blk off zs.reverse.toArray := Any.slices_Reverse_int Tryz.lays112 blk off cap zs w hH hsz
end Go.Proofs
