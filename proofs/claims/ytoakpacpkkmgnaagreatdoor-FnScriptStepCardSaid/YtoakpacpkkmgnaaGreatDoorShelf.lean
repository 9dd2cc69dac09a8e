/-
  The library's contracts that this seat uses, laid by the kit's own program over this seat's numbers. No conditions but those that each theorem names.
-/
import Derived.Shelf.Strings.Builder1
import Derived.Shelf.Strings.Builder2
import Derived.Shelf.Strings.OnBuilder
import Derived.Shelf.Small.Bits
import Derived.Shelf.Small.Strs
import Derived.Shelf.Small.Wraps
import Derived.Shelf.Strings.BuilderF
import Derived.Shelf.Strings.BuilderK
import Derived.Shelf.Utf8.RuneCount
import Derived.Shelf.Strings.Builder2Cap
import Derived.Shelf.Strconv.Atoi
import Derived.Shelf.Strconv.Itoa0
import Derived.Shelf.Strconv.Itoa1
import Derived.Shelf.LaysM
import Derived.Shelf.Strconv.Itoa2
import Derived.Shelf.Strconv.Itoa3
import Derived.Shelf.Strconv.AtoiErrFast
import Derived.Shelf.Strconv.ParseIntEmpty
import Derived.Shelf.Strconv.AtoiFail
import Derived.Shelf.Strconv.Clone
import Derived.Shelf.Strconv.SyntaxError
import Derived.Shelf.LaysC
import Derived.Shelf.Strconv.ToError
import Derived.Shelf.Strconv.AtoiErr
import Derived.Shelf.Strconv.ErrVar
import Derived.Shelf.Strconv.Lower
import Derived.Shelf.Strconv.ParseUint10
import Derived.Shelf.Strconv.ParseUint10Empty
import Derived.Shelf.Strconv.ParseUint10Any
import Derived.Shelf.Strconv.ParseInt10
import Derived.Shelf.Strconv.AtoiLong
import Derived.Shelf.Strconv.AtoiInnerAll
import Derived.Shelf.Strconv.RangeError
import Derived.Shelf.Strconv.ToErrorRange
import Derived.Shelf.Strconv.AtoiAll
import Derived.Shelf.Strconv.ErrVarAll
import Derived.Shelf.Strconv.ParseUintEmpty
import Derived.Shelf.Strconv.ParseUint10b64
import Derived.Shelf.Strconv.ParseUint10b32
import Derived.Shelf.Strconv.ParseUint10b16
import Derived.Shelf.Strconv.ParseUint10b8
import Derived.Shelf.Strconv.ParseUint10At
import Derived.Shelf.Strconv.ParseInt10At64
import Derived.Shelf.Strconv.ParseInt10At32
import Derived.Shelf.Strconv.ParseInt10At16
import Derived.Shelf.Strconv.ParseInt10At8
import Derived.Shelf.Strconv.ParseInt10All
import Derived.Shelf.Strings.Search1
import Derived.Shelf.Strings.Search2
import Derived.Shelf.Strings.Search3
import Derived.Shelf.Strings.Cut
import Derived.Shelf.Strings.Count
import Derived.Shelf.Strings.Shaped
import Derived.Shelf.Sort.Plain
import Derived.Shelf.Strings.Prefix
import Derived.Shelf.Strings.Split
import Derived.Shelf.Strings.Replace
import Derived.Shelf.Strings.SplitShaped
import Derived.Shelf.Unicode.Decode
import Derived.Shelf.Strings.RuneCount
import Derived.Shelf.Strings.Explode
import Derived.Shelf.Bits.Mul64
import Derived.Shelf.Strings.Repeat
import Derived.Shelf.Unicode.DecodeSlow
import Derived.Shelf.Unicode.DecodeAny
import Derived.Shelf.Strings.BuilderCap
import Derived.Shelf.Slices.Reverse
import Derived.Ground.Names2Prog
import Derived.Shelf.Slices.SearchI
import Derived.Shelf.Slices.Cells
import Derived.Shelf.Slices.In.SortNone
import Derived.Ground.SlsfProg
import Derived.Shelf.SlSortCmp.Insertion
import Derived.Shelf.SlSortCmp.Insertion1
import Derived.Shelf.SlSortCmp.NoneTotal
import Derived.Test.YtoakpacpkkmgnaaGreatDoorProg
namespace Go.Proofs
open Go.Shelf
def Tryz.lays170_ren : Go.Shelf.Ren := ⟨fun | 170 => 31 | n => n, fun | 70 => 49 | 3 => 3 | 0 => 0 | 72 => 51 | 37 => 22 | 5 => 5 | n => n, fun | n => n⟩
theorem Tryz.lays170 : Go.Proofs.Lays.n170 Tryz.prog Tryz.lays170_ren := {
  mixed := by kernel_rfl
  f170 := Tryz.func31.trans (congrArg some (by kernel_rfl))
  t0 := Tryz.underlying0
  a0 := Tryz.isAgg0
  z0 := Tryz.sizeOf0
  v0 := Tryz.zeroValue0
  t3 := Tryz.underlying3
  a3 := Tryz.isAgg3
  z3 := Tryz.sizeOf3
  v3 := Tryz.zeroValue3
  t37 := Tryz.underlying22
  a37 := Tryz.isAgg22
  z37 := Tryz.sizeOf22
  v37 := Tryz.zeroValue22
  t70 := Tryz.underlying49
  a70 := Tryz.isAgg49
  z70 := Tryz.sizeOf49
  v70 := Tryz.zeroValue49
  t72 := Tryz.underlying51
  a72 := Tryz.isAgg51
  z72 := Tryz.sizeOf51
  v72 := Tryz.zeroValue51 }
def Tryz.lays169_ren : Go.Shelf.Ren := ⟨fun | 169 => 34 | n => n, fun | 70 => 49 | 9 => 9 | 0 => 0 | 72 => 51 | 37 => 22 | 127 => 96 | 3 => 3 | 5 => 5 | n => n, fun | n => n⟩
theorem Tryz.lays169 : Go.Proofs.Lays.n169 Tryz.prog Tryz.lays169_ren := {
  mixed := by kernel_rfl
  f169 := Tryz.func34.trans (congrArg some (by kernel_rfl))
  t0 := Tryz.underlying0
  a0 := Tryz.isAgg0
  z0 := Tryz.sizeOf0
  v0 := Tryz.zeroValue0
  t3 := Tryz.underlying3
  a3 := Tryz.isAgg3
  z3 := Tryz.sizeOf3
  v3 := Tryz.zeroValue3
  t9 := Tryz.underlying9
  a9 := Tryz.isAgg9
  z9 := Tryz.sizeOf9
  v9 := Tryz.zeroValue9
  t37 := Tryz.underlying22
  a37 := Tryz.isAgg22
  z37 := Tryz.sizeOf22
  v37 := Tryz.zeroValue22
  t70 := Tryz.underlying49
  a70 := Tryz.isAgg49
  z70 := Tryz.sizeOf49
  v70 := Tryz.zeroValue49
  t72 := Tryz.underlying51
  a72 := Tryz.isAgg51
  z72 := Tryz.sizeOf51
  v72 := Tryz.zeroValue51
  t127 := Tryz.underlying96
  a127 := Tryz.isAgg96
  z127 := Tryz.sizeOf96
  v127 := Tryz.zeroValue96 }
theorem Tryz.Builder_Extra_169 : Builder.Extra Tryz.prog Tryz.lays169_ren := {
  sizeBuilder := by kernel_rfl
  liesBuilder := by kernel_rfl
  t5 := Tryz.underlying5
  a5 := Tryz.isAgg5
  z5 := Tryz.sizeOf5
  v5 := Tryz.zeroValue5
  infoByte := by kernel_rfl
  cellsByte := by kernel_rfl
  sizeByte := by kernel_rfl
  neB5 := by decide }
open Go.RowKit in
theorem Tryz.Builder_String_any (B b : Nat) (l : List UInt8) (w : World) (h : Lib.IsBuilder 51 5 B b (Lib.byteCells l) w) (hBw : B ≤ w.heap.size) :
    Calls Tryz.prog 34 #[.pointer (some ⟨b, 0, none⟩)] w fun e w' => e = .returned (.string ⟨l.toArray⟩) ∧ Below B w w' := Any.Builder_String_any Tryz.lays169 Tryz.Builder_Extra_169 B b l w h hBw
def Tryz.lays156_ren : Go.Shelf.Ren := ⟨fun | 156 => 67 | 165 => 135 | 166 => 32 | 169 => 34 | 240 => 63 | 241 => 200 | 276 => 102 | 277 => 262 | n => n, fun | 31 => 39 | 9 => 9 | 3 => 3 | 4 => 4 | 0 => 0 | 20 => 20 | 72 => 51 | 76 => 59 | 70 => 49 | 37 => 22 | 75 => 58 | 127 => 96 | 164 => 132 | 5 => 5 | 80 => 63 | n => n, fun | n => n⟩
theorem Tryz.lays156 : Go.Proofs.Lays.n156 Tryz.prog Tryz.lays156_ren := {
  mixed := by kernel_rfl
  f156 := Tryz.func67.trans (congrArg some (by kernel_rfl))
  f165 := Tryz.func135.trans (congrArg some (by kernel_rfl))
  f166 := Tryz.func32.trans (congrArg some (by kernel_rfl))
  f169 := Tryz.func34.trans (congrArg some (by kernel_rfl))
  f240 := Tryz.func63.trans (congrArg some (by kernel_rfl))
  f241 := Tryz.func200.trans (congrArg some (by kernel_rfl))
  f276 := Tryz.func102.trans (congrArg some (by kernel_rfl))
  f277 := Tryz.func262.trans (congrArg some (by kernel_rfl))
  t0 := Tryz.underlying0
  a0 := Tryz.isAgg0
  z0 := Tryz.sizeOf0
  v0 := Tryz.zeroValue0
  t3 := Tryz.underlying3
  a3 := Tryz.isAgg3
  z3 := Tryz.sizeOf3
  v3 := Tryz.zeroValue3
  t4 := Tryz.underlying4
  a4 := Tryz.isAgg4
  z4 := Tryz.sizeOf4
  v4 := Tryz.zeroValue4
  t9 := Tryz.underlying9
  a9 := Tryz.isAgg9
  z9 := Tryz.sizeOf9
  v9 := Tryz.zeroValue9
  t20 := Tryz.underlying20
  a20 := Tryz.isAgg20
  z20 := Tryz.sizeOf20
  v20 := Tryz.zeroValue20
  t31 := Tryz.underlying39
  a31 := Tryz.isAgg39
  z31 := Tryz.sizeOf39
  v31 := Tryz.zeroValue39
  t37 := Tryz.underlying22
  a37 := Tryz.isAgg22
  z37 := Tryz.sizeOf22
  v37 := Tryz.zeroValue22
  t70 := Tryz.underlying49
  a70 := Tryz.isAgg49
  z70 := Tryz.sizeOf49
  v70 := Tryz.zeroValue49
  t72 := Tryz.underlying51
  a72 := Tryz.isAgg51
  z72 := Tryz.sizeOf51
  v72 := Tryz.zeroValue51
  t75 := Tryz.underlying58
  a75 := Tryz.isAgg58
  z75 := Tryz.sizeOf58
  v75 := Tryz.zeroValue58
  t76 := Tryz.underlying59
  a76 := Tryz.isAgg59
  z76 := Tryz.sizeOf59
  v76 := Tryz.zeroValue59
  t127 := Tryz.underlying96
  a127 := Tryz.isAgg96
  z127 := Tryz.sizeOf96
  v127 := Tryz.zeroValue96
  t164 := Tryz.underlying132
  a164 := Tryz.isAgg132
  z164 := Tryz.sizeOf132
  v164 := Tryz.zeroValue132 }
theorem Tryz.Builder_Extra_156 : Builder.Extra Tryz.prog Tryz.lays156_ren := {
  sizeBuilder := by kernel_rfl
  liesBuilder := by kernel_rfl
  t5 := Tryz.underlying5
  a5 := Tryz.isAgg5
  z5 := Tryz.sizeOf5
  v5 := Tryz.zeroValue5
  infoByte := by kernel_rfl
  cellsByte := by kernel_rfl
  sizeByte := by kernel_rfl
  neB5 := by decide }
open Go.RowKit in
theorem Tryz.strings_Join_none (a : Option Addr) (c : Nat) (sep : ByteArray) (w : World) :
    Calls Tryz.prog 67 #[.slice a 0 c, .string sep] w fun e w' => e = .returned (.string ⟨#[]⟩) ∧ w' = w := Any.strings_Join_none Tryz.lays156 Tryz.Builder_Extra_156 a c sep w
open Go.RowKit in
theorem Tryz.strings_Join (bk o c : Nat) (xs : List ByteArray) (sep : ByteArray) (w : World) (hcells : ∀ (j : Nat) x, xs[j]? = some x → w.cell? ⟨bk, o + j, none⟩ = some (.string x)) (hbk : bk < w.heap.size) (hN : xs.length ≤ 140737488355328) (hcap : xs.length ≤ c) (hlen : (Lib.join (xs.map (·.data.toList)) sep.data.toList).length ≤ 140737488355328) :
    Calls Tryz.prog 67 #[.slice (some ⟨bk, o, none⟩) xs.length c, .string sep] w fun e w' => e = .returned (.string ⟨(Lib.join (xs.map (·.data.toList)) sep.data.toList).toArray⟩) ∧ Below w.heap.size w w' := Any.strings_Join Tryz.lays156 Tryz.Builder_Extra_156 bk o c xs sep w hcells hbk hN hcap hlen
def Tryz.lays137_ren : Go.Shelf.Ren := ⟨fun | 137 => 93 | 217 => 153 | 266 => 220 | n => n, fun | 9 => 9 | 5 => 5 | 3 => 3 | n => n, fun | n => n⟩
theorem Tryz.lays137 : Go.Proofs.Lays.n137 Tryz.prog Tryz.lays137_ren := {
  mixed := by kernel_rfl
  f137 := Tryz.func93.trans (congrArg some (by kernel_rfl))
  f217 := Tryz.func153.trans (congrArg some (by kernel_rfl))
  f266 := Tryz.func220.trans (congrArg some (by kernel_rfl))
  t3 := Tryz.underlying3
  a3 := Tryz.isAgg3
  z3 := Tryz.sizeOf3
  v3 := Tryz.zeroValue3
  t5 := Tryz.underlying5
  a5 := Tryz.isAgg5
  z5 := Tryz.sizeOf5
  v5 := Tryz.zeroValue5
  t9 := Tryz.underlying9
  a9 := Tryz.isAgg9
  z9 := Tryz.sizeOf9
  v9 := Tryz.zeroValue9 }
open Go.RowKit in
theorem Tryz.strings_IndexByte (s : ByteArray) (c : Int) (w : World) :
    Calls Tryz.prog 93 #[.string s, .int .u8 c] w fun e w' => e = .returned (.int .i64 (Lib.indexByte s.data.toList c.toNat.toUInt8)) ∧ w' = w := Any.strings_IndexByte Tryz.lays137 s c w
def Tryz.lays172_ren : Go.Shelf.Ren := ⟨fun | 172 => 231 | 244 => 278 | 245 => 279 | 247 => 298 | 279 => 299 | 280 => 300 | 281 => 301 | 282 => 302 | 287 => 311 | 316 => 312 | 171 => 168 | 205 => 313 | 321 => 321 | 322 => 322 | 243 => 234 | 246 => 281 | 283 => 303 | 284 => 304 | 285 => 305 | 286 => 306 | 129 => 214 | 317 => 314 | 318 => 315 | 319 => 316 | 320 => 317 | 337 => 323 | 338 => 324 | n => n, fun | 9 => 9 | 3 => 3 | 75 => 58 | 76 => 59 | 4 => 4 | 5 => 5 | 167 => 285 | 37 => 22 | 0 => 0 | 85 => 286 | 2 => 2 | 168 => 288 | 53 => 198 | 175 => 298 | 46 => 142 | 210 => 301 | 127 => 96 | 145 => 312 | 143 => 310 | 21 => 21 | 171 => 291 | 173 => 293 | 212 => 304 | 51 => 196 | 20 => 20 | 213 => 305 | 232 => 313 | 233 => 314 | 80 => 63 | n => n, fun | 15 => 3 | 16 => 4 | 17 => 5 | 18 => 6 | 19 => 7 | n => n⟩
theorem Tryz.lays172 : Go.Proofs.Lays.n172 Tryz.prog Tryz.lays172_ren := {
  mixed := by kernel_rfl
  f129 := Tryz.func214.trans (congrArg some (by kernel_rfl))
  f171 := Tryz.func168.trans (congrArg some (by kernel_rfl))
  f172 := Tryz.func231.trans (congrArg some (by kernel_rfl))
  f205 := Tryz.func313.trans (congrArg some (by kernel_rfl))
  f243 := Tryz.func234.trans (congrArg some (by kernel_rfl))
  f244 := Tryz.func278.trans (congrArg some (by kernel_rfl))
  f245 := Tryz.func279.trans (congrArg some (by kernel_rfl))
  f246 := Tryz.func281.trans (congrArg some (by kernel_rfl))
  f247 := Tryz.func298.trans (congrArg some (by kernel_rfl))
  f279 := Tryz.func299.trans (congrArg some (by kernel_rfl))
  f280 := Tryz.func300.trans (congrArg some (by kernel_rfl))
  f281 := Tryz.func301.trans (congrArg some (by kernel_rfl))
  f282 := Tryz.func302.trans (congrArg some (by kernel_rfl))
  f283 := Tryz.func303.trans (congrArg some (by kernel_rfl))
  f284 := Tryz.func304.trans (congrArg some (by kernel_rfl))
  f285 := Tryz.func305.trans (congrArg some (by kernel_rfl))
  f286 := Tryz.func306.trans (congrArg some (by kernel_rfl))
  f287 := Tryz.func311.trans (congrArg some (by kernel_rfl))
  f316 := Tryz.func312.trans (congrArg some (by kernel_rfl))
  f317 := Tryz.func314.trans (congrArg some (by kernel_rfl))
  f318 := Tryz.func315.trans (congrArg some (by kernel_rfl))
  f319 := Tryz.func316.trans (congrArg some (by kernel_rfl))
  f320 := Tryz.func317.trans (congrArg some (by kernel_rfl))
  f321 := Tryz.func321.trans (congrArg some (by kernel_rfl))
  f322 := Tryz.func322.trans (congrArg some (by kernel_rfl))
  f337 := Tryz.func323.trans (congrArg some (by kernel_rfl))
  f338 := Tryz.func324.trans (congrArg some (by kernel_rfl))
  t0 := Tryz.underlying0
  a0 := Tryz.isAgg0
  z0 := Tryz.sizeOf0
  v0 := Tryz.zeroValue0
  t2 := Tryz.underlying2
  a2 := Tryz.isAgg2
  z2 := Tryz.sizeOf2
  v2 := Tryz.zeroValue2
  t3 := Tryz.underlying3
  a3 := Tryz.isAgg3
  z3 := Tryz.sizeOf3
  v3 := Tryz.zeroValue3
  t4 := Tryz.underlying4
  a4 := Tryz.isAgg4
  z4 := Tryz.sizeOf4
  v4 := Tryz.zeroValue4
  t5 := Tryz.underlying5
  a5 := Tryz.isAgg5
  z5 := Tryz.sizeOf5
  v5 := Tryz.zeroValue5
  t9 := Tryz.underlying9
  a9 := Tryz.isAgg9
  z9 := Tryz.sizeOf9
  v9 := Tryz.zeroValue9
  t20 := Tryz.underlying20
  a20 := Tryz.isAgg20
  z20 := Tryz.sizeOf20
  v20 := Tryz.zeroValue20
  t21 := Tryz.underlying21
  a21 := Tryz.isAgg21
  z21 := Tryz.sizeOf21
  v21 := Tryz.zeroValue21
  t37 := Tryz.underlying22
  a37 := Tryz.isAgg22
  z37 := Tryz.sizeOf22
  v37 := Tryz.zeroValue22
  t46 := Tryz.underlying142
  a46 := Tryz.isAgg142
  z46 := Tryz.sizeOf142
  v46 := Tryz.zeroValue142
  t51 := Tryz.underlying196
  a51 := Tryz.isAgg196
  z51 := Tryz.sizeOf196
  v51 := Tryz.zeroValue196
  t53 := Tryz.underlying198
  a53 := Tryz.isAgg198
  z53 := Tryz.sizeOf198
  v53 := Tryz.zeroValue198
  t75 := Tryz.underlying58
  a75 := Tryz.isAgg58
  z75 := Tryz.sizeOf58
  v75 := Tryz.zeroValue58
  t76 := Tryz.underlying59
  a76 := Tryz.isAgg59
  z76 := Tryz.sizeOf59
  v76 := Tryz.zeroValue59
  t85 := Tryz.underlying286
  a85 := Tryz.isAgg286
  z85 := Tryz.sizeOf286
  v85 := Tryz.zeroValue286
  t127 := Tryz.underlying96
  a127 := Tryz.isAgg96
  z127 := Tryz.sizeOf96
  v127 := Tryz.zeroValue96
  t143 := Tryz.underlying310
  a143 := Tryz.isAgg310
  z143 := Tryz.sizeOf310
  v143 := Tryz.zeroValue310
  t145 := Tryz.underlying312
  a145 := Tryz.isAgg312
  z145 := Tryz.sizeOf312
  v145 := Tryz.zeroValue312
  t167 := Tryz.underlying285
  a167 := Tryz.isAgg285
  z167 := Tryz.sizeOf285
  v167 := Tryz.zeroValue285
  t168 := Tryz.underlying288
  a168 := Tryz.isAgg288
  z168 := Tryz.sizeOf288
  v168 := Tryz.zeroValue288
  t171 := Tryz.underlying291
  a171 := Tryz.isAgg291
  z171 := Tryz.sizeOf291
  v171 := Tryz.zeroValue291
  t173 := Tryz.underlying293
  a173 := Tryz.isAgg293
  z173 := Tryz.sizeOf293
  v173 := Tryz.zeroValue293
  t175 := Tryz.underlying298
  a175 := Tryz.isAgg298
  z175 := Tryz.sizeOf298
  v175 := Tryz.zeroValue298
  t210 := Tryz.underlying301
  a210 := Tryz.isAgg301
  z210 := Tryz.sizeOf301
  v210 := Tryz.zeroValue301
  t212 := Tryz.underlying304
  a212 := Tryz.isAgg304
  z212 := Tryz.sizeOf304
  v212 := Tryz.zeroValue304
  t213 := Tryz.underlying305
  a213 := Tryz.isAgg305
  z213 := Tryz.sizeOf305
  t232 := Tryz.underlying313
  a232 := Tryz.isAgg313
  z232 := Tryz.sizeOf313
  v232 := Tryz.zeroValue313
  t233 := Tryz.underlying314
  a233 := Tryz.isAgg314
  z233 := Tryz.sizeOf314
  v233 := Tryz.zeroValue314
  g15 := by kernel_rfl
  g16 := by kernel_rfl
  g17 := by kernel_rfl
  g18 := by kernel_rfl
  g19 := by kernel_rfl }
open Go.RowKit in
theorem Tryz.strconv_Atoi (s : ByteArray) (n : Int) (hl : s.size ≤ 18) (h : Lib.atoi s.data.toList = some n) (w : World) :
    Calls Tryz.prog 231 #[.string s] w fun e w' => e = .returned (.tuple #[.int .i64 n, .nilIface]) ∧ ∃ t, w' = Lib.bytesWorld w 5 t := Any.strconv_Atoi Tryz.lays172 s n hl h w
def Tryz.laysM171_ren : Go.Shelf.Ren := ⟨fun | 171 => 168 | 243 => 234 | 246 => 281 | 283 => 303 | 284 => 304 | 285 => 305 | 286 => 306 | 129 => 214 | 317 => 314 | 318 => 315 | 319 => 316 | 320 => 317 | 337 => 323 | 338 => 324 | n => n, fun | 3 => 3 | 9 => 9 | 2 => 2 | 4 => 4 | 171 => 291 | 0 => 0 | 53 => 198 | 37 => 22 | 5 => 5 | 173 => 293 | 212 => 304 | 51 => 196 | 20 => 20 | 213 => 305 | 46 => 142 | 232 => 313 | 233 => 314 | n => n, fun | 17 => 5 | 18 => 6 | 19 => 7 | n => n⟩
theorem Tryz.laysM171 : Go.Proofs.LaysM.n171 Tryz.prog Tryz.laysM171_ren := {
  mixed := by kernel_rfl
  f129 := Tryz.func214.trans (congrArg some (by kernel_rfl))
  f171 := Tryz.func168.trans (congrArg some (by kernel_rfl))
  f243 := Tryz.func234.trans (congrArg some (by kernel_rfl))
  f246 := Tryz.func281.trans (congrArg some (by kernel_rfl))
  f283 := Tryz.func303.trans (congrArg some (by kernel_rfl))
  f284 := Tryz.func304.trans (congrArg some (by kernel_rfl))
  f285 := Tryz.func305.trans (congrArg some (by kernel_rfl))
  f286 := Tryz.func306.trans (congrArg some (by kernel_rfl))
  f317 := Tryz.func314.trans (congrArg some (by kernel_rfl))
  f318 := Tryz.func315.trans (congrArg some (by kernel_rfl))
  f319 := Tryz.func316.trans (congrArg some (by kernel_rfl))
  f320 := Tryz.func317.trans (congrArg some (by kernel_rfl))
  f337 := Tryz.func323.trans (congrArg some (by kernel_rfl))
  f338 := Tryz.func324.trans (congrArg some (by kernel_rfl))
  t0 := Tryz.underlying0
  a0 := Tryz.isAgg0
  z0 := Tryz.sizeOf0
  v0 := Tryz.zeroValue0
  t2 := Tryz.underlying2
  a2 := Tryz.isAgg2
  z2 := Tryz.sizeOf2
  v2 := Tryz.zeroValue2
  t3 := Tryz.underlying3
  a3 := Tryz.isAgg3
  z3 := Tryz.sizeOf3
  v3 := Tryz.zeroValue3
  t4 := Tryz.underlying4
  a4 := Tryz.isAgg4
  z4 := Tryz.sizeOf4
  v4 := Tryz.zeroValue4
  t5 := Tryz.underlying5
  a5 := Tryz.isAgg5
  z5 := Tryz.sizeOf5
  v5 := Tryz.zeroValue5
  t9 := Tryz.underlying9
  a9 := Tryz.isAgg9
  z9 := Tryz.sizeOf9
  v9 := Tryz.zeroValue9
  t20 := Tryz.underlying20
  a20 := Tryz.isAgg20
  z20 := Tryz.sizeOf20
  v20 := Tryz.zeroValue20
  t37 := Tryz.underlying22
  a37 := Tryz.isAgg22
  z37 := Tryz.sizeOf22
  v37 := Tryz.zeroValue22
  t46 := Tryz.underlying142
  a46 := Tryz.isAgg142
  z46 := Tryz.sizeOf142
  v46 := Tryz.zeroValue142
  t51 := Tryz.underlying196
  a51 := Tryz.isAgg196
  z51 := Tryz.sizeOf196
  v51 := Tryz.zeroValue196
  t53 := Tryz.underlying198
  a53 := Tryz.isAgg198
  z53 := Tryz.sizeOf198
  v53 := Tryz.zeroValue198
  t171 := Tryz.underlying291
  a171 := Tryz.isAgg291
  z171 := Tryz.sizeOf291
  v171 := Tryz.zeroValue291
  t173 := Tryz.underlying293
  a173 := Tryz.isAgg293
  z173 := Tryz.sizeOf293
  v173 := Tryz.zeroValue293
  t212 := Tryz.underlying304
  a212 := Tryz.isAgg304
  z212 := Tryz.sizeOf304
  v212 := Tryz.zeroValue304
  t213 := Tryz.underlying305
  a213 := Tryz.isAgg305
  z213 := Tryz.sizeOf305
  t232 := Tryz.underlying313
  a232 := Tryz.isAgg313
  z232 := Tryz.sizeOf313
  v232 := Tryz.zeroValue313
  t233 := Tryz.underlying314
  a233 := Tryz.isAgg314
  z233 := Tryz.sizeOf314
  v233 := Tryz.zeroValue314
  g17 := by kernel_rfl
  g18 := by kernel_rfl
  g19 := by kernel_rfl
  i0 := by kernel_rfl
  i2 := by kernel_rfl
  i3 := by kernel_rfl
  i4 := by kernel_rfl
  i5 := by kernel_rfl
  i9 := by kernel_rfl
  i20 := by kernel_rfl
  i37 := by kernel_rfl
  i46 := by kernel_rfl
  i51 := by kernel_rfl
  i53 := by kernel_rfl
  i171 := by kernel_rfl
  i173 := by kernel_rfl
  i212 := by kernel_rfl
  i232 := by kernel_rfl
  i233 := by kernel_rfl
  m17 := by kernel_rfl
  m18 := by kernel_rfl
  m19 := by kernel_rfl }
open Go.RowKit Go.Sort Go.Lib in
theorem Tryz.strconv_Itoa (n : Int) (h0 : -9223372036854775808 ≤ n) (h1 : n ≤ 9223372036854775807) (w : World) (htab : Lib.TabIs Tryz.prog w "internal/strconv.uint64pow10" .u64 Lib.pow10Tab) :
    Calls Tryz.prog 168 #[.int .i64 n] w fun e w' => e = .returned (.string ⟨(Lib.itoa n).toArray⟩) ∧ ∃ k os, w' = grow (w.drewN k) os := Any.strconv_Itoa Tryz.laysM171 n h0 h1 w htab
def Tryz.lays171_ren : Go.Shelf.Ren := ⟨fun | 171 => 168 | 243 => 234 | 246 => 281 | 283 => 303 | 284 => 304 | 285 => 305 | 286 => 306 | 129 => 214 | 317 => 314 | 318 => 315 | 319 => 316 | 320 => 317 | 337 => 323 | 338 => 324 | n => n, fun | 3 => 3 | 9 => 9 | 2 => 2 | 4 => 4 | 171 => 291 | 0 => 0 | 53 => 198 | 37 => 22 | 5 => 5 | 173 => 293 | 212 => 304 | 51 => 196 | 20 => 20 | 213 => 305 | 46 => 142 | 232 => 313 | 233 => 314 | n => n, fun | 17 => 5 | 18 => 6 | 19 => 7 | n => n⟩
theorem Tryz.lays171 : Go.Proofs.Lays.n171 Tryz.prog Tryz.lays171_ren := {
  mixed := by kernel_rfl
  f129 := Tryz.func214.trans (congrArg some (by kernel_rfl))
  f171 := Tryz.func168.trans (congrArg some (by kernel_rfl))
  f243 := Tryz.func234.trans (congrArg some (by kernel_rfl))
  f246 := Tryz.func281.trans (congrArg some (by kernel_rfl))
  f283 := Tryz.func303.trans (congrArg some (by kernel_rfl))
  f284 := Tryz.func304.trans (congrArg some (by kernel_rfl))
  f285 := Tryz.func305.trans (congrArg some (by kernel_rfl))
  f286 := Tryz.func306.trans (congrArg some (by kernel_rfl))
  f317 := Tryz.func314.trans (congrArg some (by kernel_rfl))
  f318 := Tryz.func315.trans (congrArg some (by kernel_rfl))
  f319 := Tryz.func316.trans (congrArg some (by kernel_rfl))
  f320 := Tryz.func317.trans (congrArg some (by kernel_rfl))
  f337 := Tryz.func323.trans (congrArg some (by kernel_rfl))
  f338 := Tryz.func324.trans (congrArg some (by kernel_rfl))
  t0 := Tryz.underlying0
  a0 := Tryz.isAgg0
  z0 := Tryz.sizeOf0
  v0 := Tryz.zeroValue0
  t2 := Tryz.underlying2
  a2 := Tryz.isAgg2
  z2 := Tryz.sizeOf2
  v2 := Tryz.zeroValue2
  t3 := Tryz.underlying3
  a3 := Tryz.isAgg3
  z3 := Tryz.sizeOf3
  v3 := Tryz.zeroValue3
  t4 := Tryz.underlying4
  a4 := Tryz.isAgg4
  z4 := Tryz.sizeOf4
  v4 := Tryz.zeroValue4
  t5 := Tryz.underlying5
  a5 := Tryz.isAgg5
  z5 := Tryz.sizeOf5
  v5 := Tryz.zeroValue5
  t9 := Tryz.underlying9
  a9 := Tryz.isAgg9
  z9 := Tryz.sizeOf9
  v9 := Tryz.zeroValue9
  t20 := Tryz.underlying20
  a20 := Tryz.isAgg20
  z20 := Tryz.sizeOf20
  v20 := Tryz.zeroValue20
  t37 := Tryz.underlying22
  a37 := Tryz.isAgg22
  z37 := Tryz.sizeOf22
  v37 := Tryz.zeroValue22
  t46 := Tryz.underlying142
  a46 := Tryz.isAgg142
  z46 := Tryz.sizeOf142
  v46 := Tryz.zeroValue142
  t51 := Tryz.underlying196
  a51 := Tryz.isAgg196
  z51 := Tryz.sizeOf196
  v51 := Tryz.zeroValue196
  t53 := Tryz.underlying198
  a53 := Tryz.isAgg198
  z53 := Tryz.sizeOf198
  v53 := Tryz.zeroValue198
  t171 := Tryz.underlying291
  a171 := Tryz.isAgg291
  z171 := Tryz.sizeOf291
  v171 := Tryz.zeroValue291
  t173 := Tryz.underlying293
  a173 := Tryz.isAgg293
  z173 := Tryz.sizeOf293
  v173 := Tryz.zeroValue293
  t212 := Tryz.underlying304
  a212 := Tryz.isAgg304
  z212 := Tryz.sizeOf304
  v212 := Tryz.zeroValue304
  t213 := Tryz.underlying305
  a213 := Tryz.isAgg305
  z213 := Tryz.sizeOf305
  t232 := Tryz.underlying313
  a232 := Tryz.isAgg313
  z232 := Tryz.sizeOf313
  v232 := Tryz.zeroValue313
  t233 := Tryz.underlying314
  a233 := Tryz.isAgg314
  z233 := Tryz.sizeOf314
  v233 := Tryz.zeroValue314
  g17 := by kernel_rfl
  g18 := by kernel_rfl
  g19 := by kernel_rfl }
open Go.RowKit Go.Sort Go.Lib in
theorem Tryz.strconv_Itoa_small (i : Nat) (hi : i < 100) (w : World) :
    Calls Tryz.prog 168 #[.int .i64 i] w fun e w' => e = .returned (.string ⟨(Lib.decDigits i).toArray⟩) ∧ w' = w := Any.strconv_Itoa_small Tryz.lays171 i hi w
def Tryz.laysC172_ren : Go.Shelf.Ren := ⟨fun | 172 => 231 | 244 => 278 | 245 => 279 | 247 => 298 | 279 => 299 | 280 => 300 | 281 => 301 | 282 => 302 | 287 => 311 | 316 => 312 | 171 => 168 | 205 => 313 | 321 => 321 | 322 => 322 | 243 => 234 | 246 => 281 | 283 => 303 | 284 => 304 | 285 => 305 | 286 => 306 | 129 => 214 | 317 => 314 | 318 => 315 | 319 => 316 | 320 => 317 | 337 => 323 | 338 => 324 | n => n, fun | 9 => 9 | 3 => 3 | 75 => 58 | 76 => 59 | 4 => 4 | 5 => 5 | 167 => 285 | 37 => 22 | 0 => 0 | 85 => 286 | 2 => 2 | 168 => 288 | 53 => 198 | 175 => 298 | 46 => 142 | 210 => 301 | 127 => 96 | 145 => 312 | 143 => 310 | 21 => 21 | 171 => 291 | 173 => 293 | 212 => 304 | 51 => 196 | 20 => 20 | 213 => 305 | 232 => 313 | 233 => 314 | 80 => 63 | n => n, fun | 15 => 3 | 16 => 4 | 17 => 5 | 18 => 6 | 19 => 7 | n => n⟩
theorem Tryz.laysC172 : Go.Proofs.LaysC.n172 Tryz.prog Tryz.laysC172_ren := {
  mixed := by kernel_rfl
  f129 := Tryz.func214.trans (congrArg some (by kernel_rfl))
  f171 := Tryz.func168.trans (congrArg some (by kernel_rfl))
  f172 := Tryz.func231.trans (congrArg some (by kernel_rfl))
  f205 := Tryz.func313.trans (congrArg some (by kernel_rfl))
  f243 := Tryz.func234.trans (congrArg some (by kernel_rfl))
  f244 := Tryz.func278.trans (congrArg some (by kernel_rfl))
  f245 := Tryz.func279.trans (congrArg some (by kernel_rfl))
  f246 := Tryz.func281.trans (congrArg some (by kernel_rfl))
  f247 := Tryz.func298.trans (congrArg some (by kernel_rfl))
  f279 := Tryz.func299.trans (congrArg some (by kernel_rfl))
  f280 := Tryz.func300.trans (congrArg some (by kernel_rfl))
  f281 := Tryz.func301.trans (congrArg some (by kernel_rfl))
  f282 := Tryz.func302.trans (congrArg some (by kernel_rfl))
  f283 := Tryz.func303.trans (congrArg some (by kernel_rfl))
  f284 := Tryz.func304.trans (congrArg some (by kernel_rfl))
  f285 := Tryz.func305.trans (congrArg some (by kernel_rfl))
  f286 := Tryz.func306.trans (congrArg some (by kernel_rfl))
  f287 := Tryz.func311.trans (congrArg some (by kernel_rfl))
  f316 := Tryz.func312.trans (congrArg some (by kernel_rfl))
  f317 := Tryz.func314.trans (congrArg some (by kernel_rfl))
  f318 := Tryz.func315.trans (congrArg some (by kernel_rfl))
  f319 := Tryz.func316.trans (congrArg some (by kernel_rfl))
  f320 := Tryz.func317.trans (congrArg some (by kernel_rfl))
  f321 := Tryz.func321.trans (congrArg some (by kernel_rfl))
  f322 := Tryz.func322.trans (congrArg some (by kernel_rfl))
  f337 := Tryz.func323.trans (congrArg some (by kernel_rfl))
  f338 := Tryz.func324.trans (congrArg some (by kernel_rfl))
  t0 := Tryz.underlying0
  a0 := Tryz.isAgg0
  z0 := Tryz.sizeOf0
  v0 := Tryz.zeroValue0
  t2 := Tryz.underlying2
  a2 := Tryz.isAgg2
  z2 := Tryz.sizeOf2
  v2 := Tryz.zeroValue2
  t3 := Tryz.underlying3
  a3 := Tryz.isAgg3
  z3 := Tryz.sizeOf3
  v3 := Tryz.zeroValue3
  t4 := Tryz.underlying4
  a4 := Tryz.isAgg4
  z4 := Tryz.sizeOf4
  v4 := Tryz.zeroValue4
  t5 := Tryz.underlying5
  a5 := Tryz.isAgg5
  z5 := Tryz.sizeOf5
  v5 := Tryz.zeroValue5
  t9 := Tryz.underlying9
  a9 := Tryz.isAgg9
  z9 := Tryz.sizeOf9
  v9 := Tryz.zeroValue9
  t20 := Tryz.underlying20
  a20 := Tryz.isAgg20
  z20 := Tryz.sizeOf20
  v20 := Tryz.zeroValue20
  t21 := Tryz.underlying21
  a21 := Tryz.isAgg21
  z21 := Tryz.sizeOf21
  v21 := Tryz.zeroValue21
  t37 := Tryz.underlying22
  a37 := Tryz.isAgg22
  z37 := Tryz.sizeOf22
  v37 := Tryz.zeroValue22
  t46 := Tryz.underlying142
  a46 := Tryz.isAgg142
  z46 := Tryz.sizeOf142
  v46 := Tryz.zeroValue142
  t51 := Tryz.underlying196
  a51 := Tryz.isAgg196
  z51 := Tryz.sizeOf196
  v51 := Tryz.zeroValue196
  t53 := Tryz.underlying198
  a53 := Tryz.isAgg198
  z53 := Tryz.sizeOf198
  v53 := Tryz.zeroValue198
  t75 := Tryz.underlying58
  a75 := Tryz.isAgg58
  z75 := Tryz.sizeOf58
  v75 := Tryz.zeroValue58
  t76 := Tryz.underlying59
  a76 := Tryz.isAgg59
  z76 := Tryz.sizeOf59
  v76 := Tryz.zeroValue59
  t85 := Tryz.underlying286
  a85 := Tryz.isAgg286
  z85 := Tryz.sizeOf286
  v85 := Tryz.zeroValue286
  t127 := Tryz.underlying96
  a127 := Tryz.isAgg96
  z127 := Tryz.sizeOf96
  v127 := Tryz.zeroValue96
  t143 := Tryz.underlying310
  a143 := Tryz.isAgg310
  z143 := Tryz.sizeOf310
  v143 := Tryz.zeroValue310
  t145 := Tryz.underlying312
  a145 := Tryz.isAgg312
  z145 := Tryz.sizeOf312
  v145 := Tryz.zeroValue312
  t167 := Tryz.underlying285
  a167 := Tryz.isAgg285
  z167 := Tryz.sizeOf285
  v167 := Tryz.zeroValue285
  t168 := Tryz.underlying288
  a168 := Tryz.isAgg288
  z168 := Tryz.sizeOf288
  v168 := Tryz.zeroValue288
  t171 := Tryz.underlying291
  a171 := Tryz.isAgg291
  z171 := Tryz.sizeOf291
  v171 := Tryz.zeroValue291
  t173 := Tryz.underlying293
  a173 := Tryz.isAgg293
  z173 := Tryz.sizeOf293
  v173 := Tryz.zeroValue293
  t175 := Tryz.underlying298
  a175 := Tryz.isAgg298
  z175 := Tryz.sizeOf298
  v175 := Tryz.zeroValue298
  t210 := Tryz.underlying301
  a210 := Tryz.isAgg301
  z210 := Tryz.sizeOf301
  v210 := Tryz.zeroValue301
  t212 := Tryz.underlying304
  a212 := Tryz.isAgg304
  z212 := Tryz.sizeOf304
  v212 := Tryz.zeroValue304
  t213 := Tryz.underlying305
  a213 := Tryz.isAgg305
  z213 := Tryz.sizeOf305
  t232 := Tryz.underlying313
  a232 := Tryz.isAgg313
  z232 := Tryz.sizeOf313
  v232 := Tryz.zeroValue313
  t233 := Tryz.underlying314
  a233 := Tryz.isAgg314
  z233 := Tryz.sizeOf314
  v233 := Tryz.zeroValue314
  g15 := by kernel_rfl
  g16 := by kernel_rfl
  g17 := by kernel_rfl
  g18 := by kernel_rfl
  g19 := by kernel_rfl
  t80 := Tryz.underlying63
  a80 := Tryz.isAgg63
  z80 := Tryz.sizeOf63
  v80 := Tryz.zeroValue63
  i0 := by kernel_rfl
  i2 := by kernel_rfl
  i3 := by kernel_rfl
  i4 := by kernel_rfl
  i5 := by kernel_rfl
  i9 := by kernel_rfl
  i20 := by kernel_rfl
  i21 := by kernel_rfl
  i37 := by kernel_rfl
  i46 := by kernel_rfl
  i51 := by kernel_rfl
  i53 := by kernel_rfl
  i75 := by kernel_rfl
  i76 := by kernel_rfl
  i80 := by kernel_rfl
  i85 := by kernel_rfl
  i127 := by kernel_rfl
  i143 := by kernel_rfl
  i145 := by kernel_rfl
  i167 := by kernel_rfl
  i168 := by kernel_rfl
  i171 := by kernel_rfl
  i173 := by kernel_rfl
  i175 := by kernel_rfl
  i210 := by kernel_rfl
  i212 := by kernel_rfl
  i232 := by kernel_rfl
  i233 := by kernel_rfl
  m15 := by kernel_rfl
  m16 := by kernel_rfl
  m17 := by kernel_rfl
  m18 := by kernel_rfl
  m19 := by kernel_rfl
  c0 := by kernel_rfl
  c2 := by kernel_rfl
  c3 := by kernel_rfl
  c4 := by kernel_rfl
  c5 := by kernel_rfl
  c9 := by kernel_rfl
  c20 := by kernel_rfl
  c21 := by kernel_rfl
  c37 := by kernel_rfl
  c46 := by kernel_rfl
  c51 := by kernel_rfl
  c53 := by kernel_rfl
  c75 := by kernel_rfl
  c76 := by kernel_rfl
  c80 := by kernel_rfl
  c85 := by kernel_rfl
  c127 := by kernel_rfl
  c143 := by kernel_rfl
  c145 := by kernel_rfl
  c167 := by kernel_rfl
  c168 := by kernel_rfl
  c171 := by kernel_rfl
  c173 := by kernel_rfl
  c175 := by kernel_rfl
  c210 := by kernel_rfl
  c212 := by kernel_rfl
  c213 := by kernel_rfl
  c232 := by kernel_rfl
  c233 := by kernel_rfl }
open Go.RowKit in
theorem Tryz.strconv_Atoi_err (s : ByteArray) (hl : s.size ≤ 18) (h : Lib.atoi s.data.toList = none) (ev : Value) (w : World) (hv : w.cell? ⟨3, 0, none⟩ = some ev) (hev : ev = .nilIface ∨ ∃ te pe, ev = .iface te pe) :
    Calls Tryz.prog 231 #[.string s] w fun e w' => ∃ N, e = .returned (.tuple #[.int .i64 0, .iface 288 (.pointer (some ⟨N, 0, none⟩))]) ∧ w.heap.size ≤ N ∧ w'.heap[N]? = some (.cells #[.string ⟨#[65, 116, 111, 105]⟩, .string s, ev] 301 (0, 0)) ∧ Below w.heap.size w w' := Any.strconv_Atoi_err Tryz.laysC172 s hl h ev w hv hev
def Tryz.lays145_ren : Go.Shelf.Ren := ⟨fun | 145 => 64 | 220 => 103 | 219 => 159 | 217 => 153 | 225 => 223 | 224 => 224 | 267 => 225 | 266 => 220 | 314 => 272 | n => n, fun | 9 => 9 | 4 => 4 | 59 => 88 | 3 => 3 | 5 => 5 | 46 => 142 | 146 => 255 | 51 => 196 | n => n, fun | 1 => 0 | n => n⟩
theorem Tryz.lays145 : Go.Proofs.Lays.n145 Tryz.prog Tryz.lays145_ren := {
  mixed := by kernel_rfl
  f145 := Tryz.func64.trans (congrArg some (by kernel_rfl))
  f217 := Tryz.func153.trans (congrArg some (by kernel_rfl))
  f219 := Tryz.func159.trans (congrArg some (by kernel_rfl))
  f220 := Tryz.func103.trans (congrArg some (by kernel_rfl))
  f224 := Tryz.func224.trans (congrArg some (by kernel_rfl))
  f225 := Tryz.func223.trans (congrArg some (by kernel_rfl))
  f266 := Tryz.func220.trans (congrArg some (by kernel_rfl))
  f267 := Tryz.func225.trans (congrArg some (by kernel_rfl))
  f314 := Tryz.func272.trans (congrArg some (by kernel_rfl))
  t3 := Tryz.underlying3
  a3 := Tryz.isAgg3
  z3 := Tryz.sizeOf3
  v3 := Tryz.zeroValue3
  t4 := Tryz.underlying4
  a4 := Tryz.isAgg4
  z4 := Tryz.sizeOf4
  v4 := Tryz.zeroValue4
  t5 := Tryz.underlying5
  a5 := Tryz.isAgg5
  z5 := Tryz.sizeOf5
  v5 := Tryz.zeroValue5
  t9 := Tryz.underlying9
  a9 := Tryz.isAgg9
  z9 := Tryz.sizeOf9
  v9 := Tryz.zeroValue9
  t46 := Tryz.underlying142
  a46 := Tryz.isAgg142
  z46 := Tryz.sizeOf142
  v46 := Tryz.zeroValue142
  t51 := Tryz.underlying196
  a51 := Tryz.isAgg196
  z51 := Tryz.sizeOf196
  v51 := Tryz.zeroValue196
  t59 := Tryz.underlying88
  a59 := Tryz.isAgg88
  z59 := Tryz.sizeOf88
  v59 := Tryz.zeroValue88
  t146 := Tryz.underlying255
  a146 := Tryz.isAgg255
  z146 := Tryz.sizeOf255
  v146 := Tryz.zeroValue255
  g1 := by kernel_rfl }
open Go.RowKit Go.Lib in
theorem Tryz.strings_Cut (s sep : ByteArray) (m : Int) (w : World) (hs : s.size < 4294967281) (hm : w.cell? ⟨0, 0, none⟩ = some (.int .i64 m)) :
    Calls Tryz.prog 64 #[.string s, .string sep] w fun e w' => e = .returned (.tuple #[.string ⟨(Lib.cut s.data.toList sep.data.toList).1.toArray⟩, .string ⟨(Lib.cut s.data.toList sep.data.toList).2.1.toArray⟩, .bool (Lib.cut s.data.toList sep.data.toList).2.2]) ∧ ∃ n, w' = w.drewN n := Any.strings_Cut Tryz.lays145 s sep m w hs hm
def Tryz.lays138_ren : Go.Shelf.Ren := ⟨fun | 138 => 100 | 195 => 156 | 218 => 158 | 143 => 101 | 219 => 159 | 217 => 153 | 225 => 223 | 224 => 224 | 267 => 225 | 266 => 220 | 314 => 272 | n => n, fun | 9 => 9 | 3 => 3 | 4 => 4 | 5 => 5 | 0 => 0 | 46 => 142 | 146 => 255 | 51 => 196 | n => n, fun | 1 => 0 | n => n⟩
theorem Tryz.lays138 : Go.Proofs.Lays.n138 Tryz.prog Tryz.lays138_ren := {
  mixed := by kernel_rfl
  f138 := Tryz.func100.trans (congrArg some (by kernel_rfl))
  f143 := Tryz.func101.trans (congrArg some (by kernel_rfl))
  f195 := Tryz.func156.trans (congrArg some (by kernel_rfl))
  f217 := Tryz.func153.trans (congrArg some (by kernel_rfl))
  f218 := Tryz.func158.trans (congrArg some (by kernel_rfl))
  f219 := Tryz.func159.trans (congrArg some (by kernel_rfl))
  f224 := Tryz.func224.trans (congrArg some (by kernel_rfl))
  f225 := Tryz.func223.trans (congrArg some (by kernel_rfl))
  f266 := Tryz.func220.trans (congrArg some (by kernel_rfl))
  f267 := Tryz.func225.trans (congrArg some (by kernel_rfl))
  f314 := Tryz.func272.trans (congrArg some (by kernel_rfl))
  t0 := Tryz.underlying0
  a0 := Tryz.isAgg0
  z0 := Tryz.sizeOf0
  v0 := Tryz.zeroValue0
  t3 := Tryz.underlying3
  a3 := Tryz.isAgg3
  z3 := Tryz.sizeOf3
  v3 := Tryz.zeroValue3
  t4 := Tryz.underlying4
  a4 := Tryz.isAgg4
  z4 := Tryz.sizeOf4
  v4 := Tryz.zeroValue4
  t5 := Tryz.underlying5
  a5 := Tryz.isAgg5
  z5 := Tryz.sizeOf5
  v5 := Tryz.zeroValue5
  t9 := Tryz.underlying9
  a9 := Tryz.isAgg9
  z9 := Tryz.sizeOf9
  v9 := Tryz.zeroValue9
  t46 := Tryz.underlying142
  a46 := Tryz.isAgg142
  z46 := Tryz.sizeOf142
  v46 := Tryz.zeroValue142
  t51 := Tryz.underlying196
  a51 := Tryz.isAgg196
  z51 := Tryz.sizeOf196
  v51 := Tryz.zeroValue196
  t146 := Tryz.underlying255
  a146 := Tryz.isAgg255
  z146 := Tryz.sizeOf255
  v146 := Tryz.zeroValue255
  g1 := by kernel_rfl }
open Go.RowKit Go.Lib in
theorem Tryz.strings_Count_one (s : ByteArray) (c : UInt8) (w : World) :
    Calls Tryz.prog 100 #[.string s, .string ⟨#[c]⟩] w fun e w' => e = .returned (.int .i64 (Lib.countByte s.data.toList c)) ∧ w' = w := Any.strings_Count_one Tryz.lays138 s c w
def Tryz.laysM145_ren : Go.Shelf.Ren := ⟨fun | 145 => 64 | 220 => 103 | 219 => 159 | 217 => 153 | 225 => 223 | 224 => 224 | 267 => 225 | 266 => 220 | 314 => 272 | n => n, fun | 9 => 9 | 4 => 4 | 59 => 88 | 3 => 3 | 5 => 5 | 46 => 142 | 146 => 255 | 51 => 196 | n => n, fun | 1 => 0 | n => n⟩
theorem Tryz.laysM145 : Go.Proofs.LaysM.n145 Tryz.prog Tryz.laysM145_ren := {
  mixed := by kernel_rfl
  f145 := Tryz.func64.trans (congrArg some (by kernel_rfl))
  f217 := Tryz.func153.trans (congrArg some (by kernel_rfl))
  f219 := Tryz.func159.trans (congrArg some (by kernel_rfl))
  f220 := Tryz.func103.trans (congrArg some (by kernel_rfl))
  f224 := Tryz.func224.trans (congrArg some (by kernel_rfl))
  f225 := Tryz.func223.trans (congrArg some (by kernel_rfl))
  f266 := Tryz.func220.trans (congrArg some (by kernel_rfl))
  f267 := Tryz.func225.trans (congrArg some (by kernel_rfl))
  f314 := Tryz.func272.trans (congrArg some (by kernel_rfl))
  t3 := Tryz.underlying3
  a3 := Tryz.isAgg3
  z3 := Tryz.sizeOf3
  v3 := Tryz.zeroValue3
  t4 := Tryz.underlying4
  a4 := Tryz.isAgg4
  z4 := Tryz.sizeOf4
  v4 := Tryz.zeroValue4
  t5 := Tryz.underlying5
  a5 := Tryz.isAgg5
  z5 := Tryz.sizeOf5
  v5 := Tryz.zeroValue5
  t9 := Tryz.underlying9
  a9 := Tryz.isAgg9
  z9 := Tryz.sizeOf9
  v9 := Tryz.zeroValue9
  t46 := Tryz.underlying142
  a46 := Tryz.isAgg142
  z46 := Tryz.sizeOf142
  v46 := Tryz.zeroValue142
  t51 := Tryz.underlying196
  a51 := Tryz.isAgg196
  z51 := Tryz.sizeOf196
  v51 := Tryz.zeroValue196
  t59 := Tryz.underlying88
  a59 := Tryz.isAgg88
  z59 := Tryz.sizeOf88
  v59 := Tryz.zeroValue88
  t146 := Tryz.underlying255
  a146 := Tryz.isAgg255
  z146 := Tryz.sizeOf255
  v146 := Tryz.zeroValue255
  g1 := by kernel_rfl
  i3 := by kernel_rfl
  i4 := by kernel_rfl
  i5 := by kernel_rfl
  i9 := by kernel_rfl
  i46 := by kernel_rfl
  i51 := by kernel_rfl
  i59 := by kernel_rfl
  i146 := by kernel_rfl
  m1 := by kernel_rfl
  s1_3 := fun w h => Go.Proofs.cell_of_shapedOpen_int (zero := #[.int .i64 0]) (t := 3) h (of_decide_eq_true (by kernel_rfl)) (by kernel_rfl) rfl (by kernel_rfl) (by kernel_rfl) Tryz.underlying3 }
def Tryz.lays101_ren : Go.Shelf.Ren := ⟨fun | 101 => 230 | 208 => 277 | 206 => 276 | n => n, fun | 9 => 9 | 4 => 4 | 3 => 3 | n => n, fun | n => n⟩
theorem Tryz.lays101 : Go.Proofs.Lays.n101 Tryz.prog Tryz.lays101_ren := {
  mixed := by kernel_rfl
  f101 := Tryz.func230.trans (congrArg some (by kernel_rfl))
  f206 := Tryz.func276.trans (congrArg some (by kernel_rfl))
  f208 := Tryz.func277.trans (congrArg some (by kernel_rfl))
  t3 := Tryz.underlying3
  a3 := Tryz.isAgg3
  z3 := Tryz.sizeOf3
  v3 := Tryz.zeroValue3
  t4 := Tryz.underlying4
  a4 := Tryz.isAgg4
  z4 := Tryz.sizeOf4
  v4 := Tryz.zeroValue4
  t9 := Tryz.underlying9
  a9 := Tryz.isAgg9
  z9 := Tryz.sizeOf9
  v9 := Tryz.zeroValue9 }
open Go.RowKit Go.Lib in
theorem Tryz.strings_TrimPrefix (s p : ByteArray) (w : World) :
    Calls Tryz.prog 230 #[.string s, .string p] w fun e w' => e = .returned (.string ⟨(Lib.trimPrefix s.data.toList p.data.toList).toArray⟩) ∧ w' = w := Any.strings_TrimPrefix Tryz.lays101 s p w
def Tryz.lays146_ren : Go.Shelf.Ren := ⟨fun | 146 => 30 | 221 => 62 | 268 => 99 | 138 => 100 | 143 => 101 | 195 => 156 | 197 => 157 | 218 => 158 | 219 => 159 | 260 => 222 | 217 => 153 | 225 => 223 | 224 => 224 | 267 => 225 | 266 => 220 | 314 => 272 | n => n, fun | 9 => 9 | 31 => 39 | 3 => 3 | 4 => 4 | 0 => 0 | 105 => 146 | 21 => 21 | 5 => 5 | 46 => 142 | 119 => 251 | 139 => 254 | 138 => 253 | 146 => 255 | 51 => 196 | n => n, fun | 1 => 0 | 3 => 1 | 4 => 2 | n => n⟩
theorem Tryz.lays146 : Go.Proofs.Lays.n146 Tryz.prog Tryz.lays146_ren := {
  mixed := by kernel_rfl
  f138 := Tryz.func100.trans (congrArg some (by kernel_rfl))
  f143 := Tryz.func101.trans (congrArg some (by kernel_rfl))
  f146 := Tryz.func30.trans (congrArg some (by kernel_rfl))
  f195 := Tryz.func156.trans (congrArg some (by kernel_rfl))
  f197 := Tryz.func157.trans (congrArg some (by kernel_rfl))
  f217 := Tryz.func153.trans (congrArg some (by kernel_rfl))
  f218 := Tryz.func158.trans (congrArg some (by kernel_rfl))
  f219 := Tryz.func159.trans (congrArg some (by kernel_rfl))
  f221 := Tryz.func62.trans (congrArg some (by kernel_rfl))
  f224 := Tryz.func224.trans (congrArg some (by kernel_rfl))
  f225 := Tryz.func223.trans (congrArg some (by kernel_rfl))
  f260 := Tryz.func222.trans (congrArg some (by kernel_rfl))
  f266 := Tryz.func220.trans (congrArg some (by kernel_rfl))
  f267 := Tryz.func225.trans (congrArg some (by kernel_rfl))
  f268 := Tryz.func99.trans (congrArg some (by kernel_rfl))
  f314 := Tryz.func272.trans (congrArg some (by kernel_rfl))
  t0 := Tryz.underlying0
  a0 := Tryz.isAgg0
  z0 := Tryz.sizeOf0
  v0 := Tryz.zeroValue0
  t3 := Tryz.underlying3
  a3 := Tryz.isAgg3
  z3 := Tryz.sizeOf3
  v3 := Tryz.zeroValue3
  t4 := Tryz.underlying4
  a4 := Tryz.isAgg4
  z4 := Tryz.sizeOf4
  v4 := Tryz.zeroValue4
  t5 := Tryz.underlying5
  a5 := Tryz.isAgg5
  z5 := Tryz.sizeOf5
  v5 := Tryz.zeroValue5
  t9 := Tryz.underlying9
  a9 := Tryz.isAgg9
  z9 := Tryz.sizeOf9
  v9 := Tryz.zeroValue9
  t21 := Tryz.underlying21
  a21 := Tryz.isAgg21
  z21 := Tryz.sizeOf21
  v21 := Tryz.zeroValue21
  t31 := Tryz.underlying39
  a31 := Tryz.isAgg39
  z31 := Tryz.sizeOf39
  v31 := Tryz.zeroValue39
  t46 := Tryz.underlying142
  a46 := Tryz.isAgg142
  z46 := Tryz.sizeOf142
  v46 := Tryz.zeroValue142
  t51 := Tryz.underlying196
  a51 := Tryz.isAgg196
  z51 := Tryz.sizeOf196
  v51 := Tryz.zeroValue196
  t105 := Tryz.underlying146
  a105 := Tryz.isAgg146
  z105 := Tryz.sizeOf146
  v105 := Tryz.zeroValue146
  t119 := Tryz.underlying251
  a119 := Tryz.isAgg251
  z119 := Tryz.sizeOf251
  t138 := Tryz.underlying253
  a138 := Tryz.isAgg253
  z138 := Tryz.sizeOf253
  v138 := Tryz.zeroValue253
  t139 := Tryz.underlying254
  a139 := Tryz.isAgg254
  z139 := Tryz.sizeOf254
  v139 := Tryz.zeroValue254
  t146 := Tryz.underlying255
  a146 := Tryz.isAgg255
  z146 := Tryz.sizeOf255
  v146 := Tryz.zeroValue255
  g1 := by kernel_rfl
  g3 := by kernel_rfl
  g4 := by kernel_rfl }
open Go.RowKit Go.Lib in
theorem Tryz.strings_Split (s sep : ByteArray) (m : Int) (w : World) (hs : s.size < 4294967281) (hm : w.cell? ⟨0, 0, none⟩ = some (.int .i64 m)) (h1 : 1 ≤ sep.size) :
    Calls Tryz.prog 30 #[.string s, .string sep] w fun e w' =>
      e = .returned (.slice (some ⟨w.heap.size, 0, none⟩) (Lib.countB s sep + 1) (Lib.countB s sep + 1)) ∧ w' = w.alloc (.cells ((Lib.splitB sep 0 (Lib.countB s sep) s).map Value.string).toArray 9) := Any.strings_Split Tryz.lays146 (by kernel_rfl) s sep m w hs hm h1
def Tryz.lays105_ren : Go.Shelf.Ren := ⟨fun | 105 => 161 | 212 => 227 | 99 => 228 | 165 => 135 | 166 => 32 | 170 => 31 | 169 => 34 | 263 => 274 | 264 => 275 | 206 => 276 | 240 => 63 | 241 => 200 | 276 => 102 | 277 => 262 | n => n, fun | 9 => 9 | 3 => 3 | 4 => 4 | 20 => 20 | 0 => 0 | 46 => 142 | 109 => 204 | 5 => 5 | 72 => 51 | 76 => 59 | 51 => 196 | 146 => 255 | 53 => 198 | 148 => 260 | 70 => 49 | 37 => 22 | 75 => 58 | 127 => 96 | 164 => 132 | 80 => 63 | n => n, fun | n => n⟩
theorem Tryz.lays105 : Go.Proofs.Lays.n105 Tryz.prog Tryz.lays105_ren := {
  mixed := by kernel_rfl
  f99 := Tryz.func228.trans (congrArg some (by kernel_rfl))
  f105 := Tryz.func161.trans (congrArg some (by kernel_rfl))
  f165 := Tryz.func135.trans (congrArg some (by kernel_rfl))
  f166 := Tryz.func32.trans (congrArg some (by kernel_rfl))
  f169 := Tryz.func34.trans (congrArg some (by kernel_rfl))
  f170 := Tryz.func31.trans (congrArg some (by kernel_rfl))
  f206 := Tryz.func276.trans (congrArg some (by kernel_rfl))
  f212 := Tryz.func227.trans (congrArg some (by kernel_rfl))
  f240 := Tryz.func63.trans (congrArg some (by kernel_rfl))
  f241 := Tryz.func200.trans (congrArg some (by kernel_rfl))
  f263 := Tryz.func274.trans (congrArg some (by kernel_rfl))
  f264 := Tryz.func275.trans (congrArg some (by kernel_rfl))
  f276 := Tryz.func102.trans (congrArg some (by kernel_rfl))
  f277 := Tryz.func262.trans (congrArg some (by kernel_rfl))
  t0 := Tryz.underlying0
  a0 := Tryz.isAgg0
  z0 := Tryz.sizeOf0
  v0 := Tryz.zeroValue0
  t3 := Tryz.underlying3
  a3 := Tryz.isAgg3
  z3 := Tryz.sizeOf3
  v3 := Tryz.zeroValue3
  t4 := Tryz.underlying4
  a4 := Tryz.isAgg4
  z4 := Tryz.sizeOf4
  v4 := Tryz.zeroValue4
  t5 := Tryz.underlying5
  a5 := Tryz.isAgg5
  z5 := Tryz.sizeOf5
  v5 := Tryz.zeroValue5
  t9 := Tryz.underlying9
  a9 := Tryz.isAgg9
  z9 := Tryz.sizeOf9
  v9 := Tryz.zeroValue9
  t20 := Tryz.underlying20
  a20 := Tryz.isAgg20
  z20 := Tryz.sizeOf20
  v20 := Tryz.zeroValue20
  t37 := Tryz.underlying22
  a37 := Tryz.isAgg22
  z37 := Tryz.sizeOf22
  v37 := Tryz.zeroValue22
  t46 := Tryz.underlying142
  a46 := Tryz.isAgg142
  z46 := Tryz.sizeOf142
  v46 := Tryz.zeroValue142
  t51 := Tryz.underlying196
  a51 := Tryz.isAgg196
  z51 := Tryz.sizeOf196
  v51 := Tryz.zeroValue196
  t53 := Tryz.underlying198
  a53 := Tryz.isAgg198
  z53 := Tryz.sizeOf198
  v53 := Tryz.zeroValue198
  t70 := Tryz.underlying49
  a70 := Tryz.isAgg49
  z70 := Tryz.sizeOf49
  v70 := Tryz.zeroValue49
  t72 := Tryz.underlying51
  a72 := Tryz.isAgg51
  z72 := Tryz.sizeOf51
  v72 := Tryz.zeroValue51
  t75 := Tryz.underlying58
  a75 := Tryz.isAgg58
  z75 := Tryz.sizeOf58
  v75 := Tryz.zeroValue58
  t76 := Tryz.underlying59
  a76 := Tryz.isAgg59
  z76 := Tryz.sizeOf59
  v76 := Tryz.zeroValue59
  t109 := Tryz.underlying204
  a109 := Tryz.isAgg204
  z109 := Tryz.sizeOf204
  v109 := Tryz.zeroValue204
  t127 := Tryz.underlying96
  a127 := Tryz.isAgg96
  z127 := Tryz.sizeOf96
  v127 := Tryz.zeroValue96
  t146 := Tryz.underlying255
  a146 := Tryz.isAgg255
  z146 := Tryz.sizeOf255
  v146 := Tryz.zeroValue255
  t148 := Tryz.underlying260
  a148 := Tryz.isAgg260
  z148 := Tryz.sizeOf260
  v148 := Tryz.zeroValue260
  t164 := Tryz.underlying132
  a164 := Tryz.isAgg132
  z164 := Tryz.sizeOf132
  v164 := Tryz.zeroValue132 }
theorem Tryz.Builder_Extra_105 : Builder.Extra Tryz.prog Tryz.lays105_ren := {
  sizeBuilder := by kernel_rfl
  liesBuilder := by kernel_rfl
  t5 := Tryz.underlying5
  a5 := Tryz.isAgg5
  z5 := Tryz.sizeOf5
  v5 := Tryz.zeroValue5
  infoByte := by kernel_rfl
  cellsByte := by kernel_rfl
  sizeByte := by kernel_rfl
  neB5 := by decide }
open Go.RowKit Go.Lib in
theorem Tryz.strings_Repeat (s : ByteArray) (c : Nat) (w : World) (hc : c ≤ 9223372036854775807) (hlen : s.size * c ≤ 140737488355328) :
    Calls Tryz.prog 161 #[.string s, .int .i64 c] w fun e w' => e = .returned (.string ⟨(Lib.repeatL s.data.toList c).toArray⟩) ∧ Below w.heap.size w w' := Any.strings_Repeat Tryz.lays105 Tryz.Builder_Extra_105 s c w hc hlen
end Go.Proofs
