/-
  Contracts of functions and plain laws that the law's proof uses (parts: Shelf). Conditions: what each theorem names.
-/
import Derived.Shelf.Strings.Builder1
import Derived.Shelf.Strings.Builder2
import Derived.Shelf.Strings.OnBuilder
import Derived.Shelf.Small.Bits
import Derived.Shelf.Small.Strs
import Derived.Shelf.Small.Wraps
import Derived.Shelf.Strings.BuilderF
import Derived.Shelf.Strings.BuilderK
import Derived.Shelf.Utf8.RuneCount
import Derived.Shelf.Strings.Builder2Cap
import Derived.Shelf.Strconv.Atoi
import Derived.Shelf.Strconv.Itoa0
import Derived.Shelf.Strconv.Itoa1
import Derived.Shelf.LaysM
import Derived.Shelf.Strconv.Itoa2
import Derived.Shelf.Strconv.Itoa3
import Derived.Shelf.Strconv.AtoiErrFast
import Derived.Shelf.Strconv.ParseIntEmpty
import Derived.Shelf.Strconv.AtoiFail
import Derived.Shelf.Strconv.Clone
import Derived.Shelf.Strconv.SyntaxError
import Derived.Shelf.LaysC
import Derived.Shelf.Strconv.ToError
import Derived.Shelf.Strconv.AtoiErr
import Derived.Shelf.Strconv.ErrVar
import Derived.Shelf.Strconv.Lower
import Derived.Shelf.Strconv.ParseUint10
import Derived.Shelf.Strconv.ParseUint10Empty
import Derived.Shelf.Strconv.ParseUint10Any
import Derived.Shelf.Strconv.ParseInt10
import Derived.Shelf.Strconv.AtoiLong
import Derived.Shelf.Strconv.AtoiInnerAll
import Derived.Shelf.Strconv.RangeError
import Derived.Shelf.Strconv.ToErrorRange
import Derived.Shelf.Strconv.AtoiAll
import Derived.Shelf.Strconv.ErrVarAll
import Derived.Shelf.Strconv.ParseUintEmpty
import Derived.Shelf.Strconv.ParseUint10b64
import Derived.Shelf.Strconv.ParseUint10b32
import Derived.Shelf.Strconv.ParseUint10b16
import Derived.Shelf.Strconv.ParseUint10b8
import Derived.Shelf.Strconv.ParseUint10At
import Derived.Shelf.Strconv.ParseInt10At64
import Derived.Shelf.Strconv.ParseInt10At32
import Derived.Shelf.Strconv.ParseInt10At16
import Derived.Shelf.Strconv.ParseInt10At8
import Derived.Shelf.Strconv.ParseInt10All
import Derived.Shelf.Strings.Search1
import Derived.Shelf.Strings.Search2
import Derived.Shelf.Strings.Search3
import Derived.Shelf.Strings.Cut
import Derived.Shelf.Strings.Count
import Derived.Shelf.Strings.Shaped
import Derived.Shelf.Sort.Plain
import Derived.Shelf.Strings.Prefix
import Derived.Shelf.Strings.Split
import Derived.Shelf.Strings.Replace
import Derived.Shelf.Strings.SplitShaped
import Derived.Shelf.Unicode.Decode
import Derived.Shelf.Strings.RuneCount
import Derived.Shelf.Strings.Explode
import Derived.Shelf.Bits.Mul64
import Derived.Shelf.Strings.Repeat
import Derived.Shelf.Unicode.DecodeSlow
import Derived.Shelf.Unicode.DecodeAny
import Derived.Shelf.Strings.BuilderCap
import Derived.Shelf.Slices.Reverse
import Derived.Ground.Names2Prog
import Derived.Shelf.Slices.SearchI
import Derived.Shelf.Slices.Cells
import Derived.Shelf.Slices.In.SortNone
import Derived.Ground.SlsfProg
import Derived.Shelf.SlSortCmp.Insertion
import Derived.Shelf.SlSortCmp.Insertion1
import Derived.Test.YtnbdimbhklbadaaGreatDoorProg
namespace Go.Proofs
open Go.Shelf
def Tryz.lays170_ren : Go.Shelf.Ren := ⟨fun | 170 => 36 | n => n, fun | 70 => 66 | 3 => 3 | 0 => 0 | 72 => 68 | 37 => 22 | 5 => 5 | n => n, fun | n => n⟩
theorem Tryz.lays170 : Go.Proofs.Lays.n170 Tryz.prog Tryz.lays170_ren := {
  mixed := by kernel_rfl
  f170 := Tryz.func36.trans (congrArg some (by kernel_rfl))
  t0 := Tryz.underlying0
  a0 := Tryz.isAgg0
  z0 := Tryz.sizeOf0
  v0 := Tryz.zeroValue0
  t3 := Tryz.underlying3
  a3 := Tryz.isAgg3
  z3 := Tryz.sizeOf3
  v3 := Tryz.zeroValue3
  t37 := Tryz.underlying22
  a37 := Tryz.isAgg22
  z37 := Tryz.sizeOf22
  v37 := Tryz.zeroValue22
  t70 := Tryz.underlying66
  a70 := Tryz.isAgg66
  z70 := Tryz.sizeOf66
  v70 := Tryz.zeroValue66
  t72 := Tryz.underlying68
  a72 := Tryz.isAgg68
  z72 := Tryz.sizeOf68
  v72 := Tryz.zeroValue68 }
def Tryz.lays169_ren : Go.Shelf.Ren := ⟨fun | 169 => 39 | n => n, fun | 70 => 66 | 9 => 9 | 0 => 0 | 72 => 68 | 37 => 22 | 127 => 125 | 3 => 3 | 5 => 5 | n => n, fun | n => n⟩
theorem Tryz.lays169 : Go.Proofs.Lays.n169 Tryz.prog Tryz.lays169_ren := {
  mixed := by kernel_rfl
  f169 := Tryz.func39.trans (congrArg some (by kernel_rfl))
  t0 := Tryz.underlying0
  a0 := Tryz.isAgg0
  z0 := Tryz.sizeOf0
  v0 := Tryz.zeroValue0
  t3 := Tryz.underlying3
  a3 := Tryz.isAgg3
  z3 := Tryz.sizeOf3
  v3 := Tryz.zeroValue3
  t9 := Tryz.underlying9
  a9 := Tryz.isAgg9
  z9 := Tryz.sizeOf9
  v9 := Tryz.zeroValue9
  t37 := Tryz.underlying22
  a37 := Tryz.isAgg22
  z37 := Tryz.sizeOf22
  v37 := Tryz.zeroValue22
  t70 := Tryz.underlying66
  a70 := Tryz.isAgg66
  z70 := Tryz.sizeOf66
  v70 := Tryz.zeroValue66
  t72 := Tryz.underlying68
  a72 := Tryz.isAgg68
  z72 := Tryz.sizeOf68
  v72 := Tryz.zeroValue68
  t127 := Tryz.underlying125
  a127 := Tryz.isAgg125
  z127 := Tryz.sizeOf125
  v127 := Tryz.zeroValue125 }
theorem Tryz.Builder_Extra_169 : Builder.Extra Tryz.prog Tryz.lays169_ren := {
  sizeBuilder := by kernel_rfl
  liesBuilder := by kernel_rfl
  t5 := Tryz.underlying5
  a5 := Tryz.isAgg5
  z5 := Tryz.sizeOf5
  v5 := Tryz.zeroValue5
  infoByte := by kernel_rfl
  cellsByte := by kernel_rfl
  sizeByte := by kernel_rfl
  neB5 := by decide }
def Tryz.lays156_ren : Go.Shelf.Ren := ⟨fun | 156 => 27 | 165 => 55 | 166 => 37 | 169 => 39 | 240 => 66 | 241 => 94 | 276 => 102 | 277 => 152 | n => n, fun | 31 => 33 | 9 => 9 | 3 => 3 | 4 => 4 | 0 => 0 | 20 => 20 | 72 => 68 | 76 => 76 | 70 => 66 | 37 => 22 | 75 => 75 | 127 => 125 | 164 => 154 | 5 => 5 | 80 => 80 | n => n, fun | n => n⟩
theorem Tryz.lays156 : Go.Proofs.Lays.n156 Tryz.prog Tryz.lays156_ren := {
  mixed := by kernel_rfl
  f156 := Tryz.func27.trans (congrArg some (by kernel_rfl))
  f165 := Tryz.func55.trans (congrArg some (by kernel_rfl))
  f166 := Tryz.func37.trans (congrArg some (by kernel_rfl))
  f169 := Tryz.func39.trans (congrArg some (by kernel_rfl))
  f240 := Tryz.func66.trans (congrArg some (by kernel_rfl))
  f241 := Tryz.func94.trans (congrArg some (by kernel_rfl))
  f276 := Tryz.func102.trans (congrArg some (by kernel_rfl))
  f277 := Tryz.func152.trans (congrArg some (by kernel_rfl))
  t0 := Tryz.underlying0
  a0 := Tryz.isAgg0
  z0 := Tryz.sizeOf0
  v0 := Tryz.zeroValue0
  t3 := Tryz.underlying3
  a3 := Tryz.isAgg3
  z3 := Tryz.sizeOf3
  v3 := Tryz.zeroValue3
  t4 := Tryz.underlying4
  a4 := Tryz.isAgg4
  z4 := Tryz.sizeOf4
  v4 := Tryz.zeroValue4
  t9 := Tryz.underlying9
  a9 := Tryz.isAgg9
  z9 := Tryz.sizeOf9
  v9 := Tryz.zeroValue9
  t20 := Tryz.underlying20
  a20 := Tryz.isAgg20
  z20 := Tryz.sizeOf20
  v20 := Tryz.zeroValue20
  t31 := Tryz.underlying33
  a31 := Tryz.isAgg33
  z31 := Tryz.sizeOf33
  v31 := Tryz.zeroValue33
  t37 := Tryz.underlying22
  a37 := Tryz.isAgg22
  z37 := Tryz.sizeOf22
  v37 := Tryz.zeroValue22
  t70 := Tryz.underlying66
  a70 := Tryz.isAgg66
  z70 := Tryz.sizeOf66
  v70 := Tryz.zeroValue66
  t72 := Tryz.underlying68
  a72 := Tryz.isAgg68
  z72 := Tryz.sizeOf68
  v72 := Tryz.zeroValue68
  t75 := Tryz.underlying75
  a75 := Tryz.isAgg75
  z75 := Tryz.sizeOf75
  v75 := Tryz.zeroValue75
  t76 := Tryz.underlying76
  a76 := Tryz.isAgg76
  z76 := Tryz.sizeOf76
  v76 := Tryz.zeroValue76
  t127 := Tryz.underlying125
  a127 := Tryz.isAgg125
  z127 := Tryz.sizeOf125
  v127 := Tryz.zeroValue125
  t164 := Tryz.underlying154
  a164 := Tryz.isAgg154
  z164 := Tryz.sizeOf154
  v164 := Tryz.zeroValue154 }
theorem Tryz.Builder_Extra_156 : Builder.Extra Tryz.prog Tryz.lays156_ren := {
  sizeBuilder := by kernel_rfl
  liesBuilder := by kernel_rfl
  t5 := Tryz.underlying5
  a5 := Tryz.isAgg5
  z5 := Tryz.sizeOf5
  v5 := Tryz.zeroValue5
  infoByte := by kernel_rfl
  cellsByte := by kernel_rfl
  sizeByte := by kernel_rfl
  neB5 := by decide }
open Go.RowKit in
theorem Tryz.strings_Join (bk o c : Nat) (xs : List ByteArray) (sep : ByteArray) (w : World) (hcells : ∀ (j : Nat) x, xs[j]? = some x → w.cell? ⟨bk, o + j, none⟩ = some (.string x)) (hbk : bk < w.heap.size) (hN : xs.length ≤ 140737488355328) (hcap : xs.length ≤ c) (hlen : (Lib.join (xs.map (·.data.toList)) sep.data.toList).length ≤ 140737488355328) :
    Calls Tryz.prog 27 #[.slice (some ⟨bk, o, none⟩) xs.length c, .string sep] w fun e w' => e = .returned (.string ⟨(Lib.join (xs.map (·.data.toList)) sep.data.toList).toArray⟩) ∧ Below w.heap.size w w' := Any.strings_Join Tryz.lays156 Tryz.Builder_Extra_156 bk o c xs sep w hcells hbk hN hcap hlen
def Tryz.lays137_ren : Go.Shelf.Ren := ⟨fun | 137 => 204 | 217 => 218 | 266 => 262 | n => n, fun | 9 => 9 | 5 => 5 | 3 => 3 | n => n, fun | n => n⟩
theorem Tryz.lays137 : Go.Proofs.Lays.n137 Tryz.prog Tryz.lays137_ren := {
  mixed := by kernel_rfl
  f137 := Tryz.func204.trans (congrArg some (by kernel_rfl))
  f217 := Tryz.func218.trans (congrArg some (by kernel_rfl))
  f266 := Tryz.func262.trans (congrArg some (by kernel_rfl))
  t3 := Tryz.underlying3
  a3 := Tryz.isAgg3
  z3 := Tryz.sizeOf3
  v3 := Tryz.zeroValue3
  t5 := Tryz.underlying5
  a5 := Tryz.isAgg5
  z5 := Tryz.sizeOf5
  v5 := Tryz.zeroValue5
  t9 := Tryz.underlying9
  a9 := Tryz.isAgg9
  z9 := Tryz.sizeOf9
  v9 := Tryz.zeroValue9 }
open Go.RowKit in
theorem Tryz.strings_IndexByte (s : ByteArray) (c : Int) (w : World) :
    Calls Tryz.prog 204 #[.string s, .int .u8 c] w fun e w' => e = .returned (.int .i64 (Lib.indexByte s.data.toList c.toNat.toUInt8)) ∧ w' = w := Any.strings_IndexByte Tryz.lays137 s c w
def Tryz.lays172_ren : Go.Shelf.Ren := ⟨fun | 172 => 227 | 244 => 269 | 245 => 270 | 247 => 286 | 279 => 287 | 280 => 288 | 281 => 289 | 282 => 290 | 287 => 299 | 316 => 300 | 171 => 26 | 205 => 301 | 321 => 315 | 322 => 316 | 243 => 54 | 246 => 93 | 283 => 148 | 284 => 149 | 285 => 150 | 286 => 151 | 129 => 212 | 317 => 211 | 318 => 213 | 319 => 214 | 320 => 215 | 337 => 260 | 338 => 261 | n => n, fun | 9 => 9 | 3 => 3 | 75 => 75 | 76 => 76 | 4 => 4 | 5 => 5 | 167 => 283 | 37 => 22 | 0 => 0 | 85 => 284 | 2 => 2 | 168 => 286 | 53 => 172 | 175 => 292 | 46 => 106 | 210 => 295 | 127 => 125 | 145 => 310 | 143 => 308 | 21 => 21 | 171 => 171 | 173 => 175 | 212 => 223 | 51 => 224 | 20 => 20 | 213 => 225 | 232 => 281 | 233 => 282 | 80 => 80 | n => n, fun | 15 => 6 | 16 => 7 | 17 => 0 | 18 => 4 | 19 => 5 | n => n⟩
theorem Tryz.lays172 : Go.Proofs.Lays.n172 Tryz.prog Tryz.lays172_ren := {
  mixed := by kernel_rfl
  f129 := Tryz.func212.trans (congrArg some (by kernel_rfl))
  f171 := Tryz.func26.trans (congrArg some (by kernel_rfl))
  f172 := Tryz.func227.trans (congrArg some (by kernel_rfl))
  f205 := Tryz.func301.trans (congrArg some (by kernel_rfl))
  f243 := Tryz.func54.trans (congrArg some (by kernel_rfl))
  f244 := Tryz.func269.trans (congrArg some (by kernel_rfl))
  f245 := Tryz.func270.trans (congrArg some (by kernel_rfl))
  f246 := Tryz.func93.trans (congrArg some (by kernel_rfl))
  f247 := Tryz.func286.trans (congrArg some (by kernel_rfl))
  f279 := Tryz.func287.trans (congrArg some (by kernel_rfl))
  f280 := Tryz.func288.trans (congrArg some (by kernel_rfl))
  f281 := Tryz.func289.trans (congrArg some (by kernel_rfl))
  f282 := Tryz.func290.trans (congrArg some (by kernel_rfl))
  f283 := Tryz.func148.trans (congrArg some (by kernel_rfl))
  f284 := Tryz.func149.trans (congrArg some (by kernel_rfl))
  f285 := Tryz.func150.trans (congrArg some (by kernel_rfl))
  f286 := Tryz.func151.trans (congrArg some (by kernel_rfl))
  f287 := Tryz.func299.trans (congrArg some (by kernel_rfl))
  f316 := Tryz.func300.trans (congrArg some (by kernel_rfl))
  f317 := Tryz.func211.trans (congrArg some (by kernel_rfl))
  f318 := Tryz.func213.trans (congrArg some (by kernel_rfl))
  f319 := Tryz.func214.trans (congrArg some (by kernel_rfl))
  f320 := Tryz.func215.trans (congrArg some (by kernel_rfl))
  f321 := Tryz.func315.trans (congrArg some (by kernel_rfl))
  f322 := Tryz.func316.trans (congrArg some (by kernel_rfl))
  f337 := Tryz.func260.trans (congrArg some (by kernel_rfl))
  f338 := Tryz.func261.trans (congrArg some (by kernel_rfl))
  t0 := Tryz.underlying0
  a0 := Tryz.isAgg0
  z0 := Tryz.sizeOf0
  v0 := Tryz.zeroValue0
  t2 := Tryz.underlying2
  a2 := Tryz.isAgg2
  z2 := Tryz.sizeOf2
  v2 := Tryz.zeroValue2
  t3 := Tryz.underlying3
  a3 := Tryz.isAgg3
  z3 := Tryz.sizeOf3
  v3 := Tryz.zeroValue3
  t4 := Tryz.underlying4
  a4 := Tryz.isAgg4
  z4 := Tryz.sizeOf4
  v4 := Tryz.zeroValue4
  t5 := Tryz.underlying5
  a5 := Tryz.isAgg5
  z5 := Tryz.sizeOf5
  v5 := Tryz.zeroValue5
  t9 := Tryz.underlying9
  a9 := Tryz.isAgg9
  z9 := Tryz.sizeOf9
  v9 := Tryz.zeroValue9
  t20 := Tryz.underlying20
  a20 := Tryz.isAgg20
  z20 := Tryz.sizeOf20
  v20 := Tryz.zeroValue20
  t21 := Tryz.underlying21
  a21 := Tryz.isAgg21
  z21 := Tryz.sizeOf21
  v21 := Tryz.zeroValue21
  t37 := Tryz.underlying22
  a37 := Tryz.isAgg22
  z37 := Tryz.sizeOf22
  v37 := Tryz.zeroValue22
  t46 := Tryz.underlying106
  a46 := Tryz.isAgg106
  z46 := Tryz.sizeOf106
  v46 := Tryz.zeroValue106
  t51 := Tryz.underlying224
  a51 := Tryz.isAgg224
  z51 := Tryz.sizeOf224
  v51 := Tryz.zeroValue224
  t53 := Tryz.underlying172
  a53 := Tryz.isAgg172
  z53 := Tryz.sizeOf172
  v53 := Tryz.zeroValue172
  t75 := Tryz.underlying75
  a75 := Tryz.isAgg75
  z75 := Tryz.sizeOf75
  v75 := Tryz.zeroValue75
  t76 := Tryz.underlying76
  a76 := Tryz.isAgg76
  z76 := Tryz.sizeOf76
  v76 := Tryz.zeroValue76
  t85 := Tryz.underlying284
  a85 := Tryz.isAgg284
  z85 := Tryz.sizeOf284
  v85 := Tryz.zeroValue284
  t127 := Tryz.underlying125
  a127 := Tryz.isAgg125
  z127 := Tryz.sizeOf125
  v127 := Tryz.zeroValue125
  t143 := Tryz.underlying308
  a143 := Tryz.isAgg308
  z143 := Tryz.sizeOf308
  v143 := Tryz.zeroValue308
  t145 := Tryz.underlying310
  a145 := Tryz.isAgg310
  z145 := Tryz.sizeOf310
  v145 := Tryz.zeroValue310
  t167 := Tryz.underlying283
  a167 := Tryz.isAgg283
  z167 := Tryz.sizeOf283
  v167 := Tryz.zeroValue283
  t168 := Tryz.underlying286
  a168 := Tryz.isAgg286
  z168 := Tryz.sizeOf286
  v168 := Tryz.zeroValue286
  t171 := Tryz.underlying171
  a171 := Tryz.isAgg171
  z171 := Tryz.sizeOf171
  v171 := Tryz.zeroValue171
  t173 := Tryz.underlying175
  a173 := Tryz.isAgg175
  z173 := Tryz.sizeOf175
  v173 := Tryz.zeroValue175
  t175 := Tryz.underlying292
  a175 := Tryz.isAgg292
  z175 := Tryz.sizeOf292
  v175 := Tryz.zeroValue292
  t210 := Tryz.underlying295
  a210 := Tryz.isAgg295
  z210 := Tryz.sizeOf295
  v210 := Tryz.zeroValue295
  t212 := Tryz.underlying223
  a212 := Tryz.isAgg223
  z212 := Tryz.sizeOf223
  v212 := Tryz.zeroValue223
  t213 := Tryz.underlying225
  a213 := Tryz.isAgg225
  z213 := Tryz.sizeOf225
  t232 := Tryz.underlying281
  a232 := Tryz.isAgg281
  z232 := Tryz.sizeOf281
  v232 := Tryz.zeroValue281
  t233 := Tryz.underlying282
  a233 := Tryz.isAgg282
  z233 := Tryz.sizeOf282
  v233 := Tryz.zeroValue282
  g15 := by kernel_rfl
  g16 := by kernel_rfl
  g17 := by kernel_rfl
  g18 := by kernel_rfl
  g19 := by kernel_rfl }
open Go.RowKit in
theorem Tryz.strconv_Atoi (s : ByteArray) (n : Int) (hl : s.size ≤ 18) (h : Lib.atoi s.data.toList = some n) (w : World) :
    Calls Tryz.prog 227 #[.string s] w fun e w' => e = .returned (.tuple #[.int .i64 n, .nilIface]) ∧ ∃ t, w' = Lib.bytesWorld w 5 t := Any.strconv_Atoi Tryz.lays172 s n hl h w
def Tryz.laysM171_ren : Go.Shelf.Ren := ⟨fun | 171 => 26 | 243 => 54 | 246 => 93 | 283 => 148 | 284 => 149 | 285 => 150 | 286 => 151 | 129 => 212 | 317 => 211 | 318 => 213 | 319 => 214 | 320 => 215 | 337 => 260 | 338 => 261 | n => n, fun | 3 => 3 | 9 => 9 | 2 => 2 | 4 => 4 | 171 => 171 | 0 => 0 | 53 => 172 | 37 => 22 | 5 => 5 | 173 => 175 | 212 => 223 | 51 => 224 | 20 => 20 | 213 => 225 | 46 => 106 | 232 => 281 | 233 => 282 | n => n, fun | 17 => 0 | 18 => 4 | 19 => 5 | n => n⟩
theorem Tryz.laysM171 : Go.Proofs.LaysM.n171 Tryz.prog Tryz.laysM171_ren := {
  mixed := by kernel_rfl
  f129 := Tryz.func212.trans (congrArg some (by kernel_rfl))
  f171 := Tryz.func26.trans (congrArg some (by kernel_rfl))
  f243 := Tryz.func54.trans (congrArg some (by kernel_rfl))
  f246 := Tryz.func93.trans (congrArg some (by kernel_rfl))
  f283 := Tryz.func148.trans (congrArg some (by kernel_rfl))
  f284 := Tryz.func149.trans (congrArg some (by kernel_rfl))
  f285 := Tryz.func150.trans (congrArg some (by kernel_rfl))
  f286 := Tryz.func151.trans (congrArg some (by kernel_rfl))
  f317 := Tryz.func211.trans (congrArg some (by kernel_rfl))
  f318 := Tryz.func213.trans (congrArg some (by kernel_rfl))
  f319 := Tryz.func214.trans (congrArg some (by kernel_rfl))
  f320 := Tryz.func215.trans (congrArg some (by kernel_rfl))
  f337 := Tryz.func260.trans (congrArg some (by kernel_rfl))
  f338 := Tryz.func261.trans (congrArg some (by kernel_rfl))
  t0 := Tryz.underlying0
  a0 := Tryz.isAgg0
  z0 := Tryz.sizeOf0
  v0 := Tryz.zeroValue0
  t2 := Tryz.underlying2
  a2 := Tryz.isAgg2
  z2 := Tryz.sizeOf2
  v2 := Tryz.zeroValue2
  t3 := Tryz.underlying3
  a3 := Tryz.isAgg3
  z3 := Tryz.sizeOf3
  v3 := Tryz.zeroValue3
  t4 := Tryz.underlying4
  a4 := Tryz.isAgg4
  z4 := Tryz.sizeOf4
  v4 := Tryz.zeroValue4
  t5 := Tryz.underlying5
  a5 := Tryz.isAgg5
  z5 := Tryz.sizeOf5
  v5 := Tryz.zeroValue5
  t9 := Tryz.underlying9
  a9 := Tryz.isAgg9
  z9 := Tryz.sizeOf9
  v9 := Tryz.zeroValue9
  t20 := Tryz.underlying20
  a20 := Tryz.isAgg20
  z20 := Tryz.sizeOf20
  v20 := Tryz.zeroValue20
  t37 := Tryz.underlying22
  a37 := Tryz.isAgg22
  z37 := Tryz.sizeOf22
  v37 := Tryz.zeroValue22
  t46 := Tryz.underlying106
  a46 := Tryz.isAgg106
  z46 := Tryz.sizeOf106
  v46 := Tryz.zeroValue106
  t51 := Tryz.underlying224
  a51 := Tryz.isAgg224
  z51 := Tryz.sizeOf224
  v51 := Tryz.zeroValue224
  t53 := Tryz.underlying172
  a53 := Tryz.isAgg172
  z53 := Tryz.sizeOf172
  v53 := Tryz.zeroValue172
  t171 := Tryz.underlying171
  a171 := Tryz.isAgg171
  z171 := Tryz.sizeOf171
  v171 := Tryz.zeroValue171
  t173 := Tryz.underlying175
  a173 := Tryz.isAgg175
  z173 := Tryz.sizeOf175
  v173 := Tryz.zeroValue175
  t212 := Tryz.underlying223
  a212 := Tryz.isAgg223
  z212 := Tryz.sizeOf223
  v212 := Tryz.zeroValue223
  t213 := Tryz.underlying225
  a213 := Tryz.isAgg225
  z213 := Tryz.sizeOf225
  t232 := Tryz.underlying281
  a232 := Tryz.isAgg281
  z232 := Tryz.sizeOf281
  v232 := Tryz.zeroValue281
  t233 := Tryz.underlying282
  a233 := Tryz.isAgg282
  z233 := Tryz.sizeOf282
  v233 := Tryz.zeroValue282
  g17 := by kernel_rfl
  g18 := by kernel_rfl
  g19 := by kernel_rfl
  i0 := by kernel_rfl
  i2 := by kernel_rfl
  i3 := by kernel_rfl
  i4 := by kernel_rfl
  i5 := by kernel_rfl
  i9 := by kernel_rfl
  i20 := by kernel_rfl
  i37 := by kernel_rfl
  i46 := by kernel_rfl
  i51 := by kernel_rfl
  i53 := by kernel_rfl
  i171 := by kernel_rfl
  i173 := by kernel_rfl
  i212 := by kernel_rfl
  i232 := by kernel_rfl
  i233 := by kernel_rfl
  m17 := by kernel_rfl
  m18 := by kernel_rfl
  m19 := by kernel_rfl }
open Go.RowKit Go.Sort Go.Lib in
theorem Tryz.strconv_Itoa (n : Int) (h0 : -9223372036854775808 ≤ n) (h1 : n ≤ 9223372036854775807) (w : World) (htab : Lib.TabIs Tryz.prog w "internal/strconv.uint64pow10" .u64 Lib.pow10Tab) :
    Calls Tryz.prog 26 #[.int .i64 n] w fun e w' => e = .returned (.string ⟨(Lib.itoa n).toArray⟩) ∧ ∃ k os, w' = grow (w.drewN k) os := Any.strconv_Itoa Tryz.laysM171 n h0 h1 w htab
def Tryz.lays145_ren : Go.Shelf.Ren := ⟨fun | 145 => 67 | 220 => 103 | 219 => 159 | 217 => 218 | 225 => 219 | 224 => 220 | 267 => 221 | 266 => 262 | 314 => 263 | n => n, fun | 9 => 9 | 4 => 4 | 59 => 117 | 3 => 3 | 5 => 5 | 46 => 106 | 146 => 266 | 51 => 224 | n => n, fun | 1 => 1 | n => n⟩
theorem Tryz.lays145 : Go.Proofs.Lays.n145 Tryz.prog Tryz.lays145_ren := {
  mixed := by kernel_rfl
  f145 := Tryz.func67.trans (congrArg some (by kernel_rfl))
  f217 := Tryz.func218.trans (congrArg some (by kernel_rfl))
  f219 := Tryz.func159.trans (congrArg some (by kernel_rfl))
  f220 := Tryz.func103.trans (congrArg some (by kernel_rfl))
  f224 := Tryz.func220.trans (congrArg some (by kernel_rfl))
  f225 := Tryz.func219.trans (congrArg some (by kernel_rfl))
  f266 := Tryz.func262.trans (congrArg some (by kernel_rfl))
  f267 := Tryz.func221.trans (congrArg some (by kernel_rfl))
  f314 := Tryz.func263.trans (congrArg some (by kernel_rfl))
  t3 := Tryz.underlying3
  a3 := Tryz.isAgg3
  z3 := Tryz.sizeOf3
  v3 := Tryz.zeroValue3
  t4 := Tryz.underlying4
  a4 := Tryz.isAgg4
  z4 := Tryz.sizeOf4
  v4 := Tryz.zeroValue4
  t5 := Tryz.underlying5
  a5 := Tryz.isAgg5
  z5 := Tryz.sizeOf5
  v5 := Tryz.zeroValue5
  t9 := Tryz.underlying9
  a9 := Tryz.isAgg9
  z9 := Tryz.sizeOf9
  v9 := Tryz.zeroValue9
  t46 := Tryz.underlying106
  a46 := Tryz.isAgg106
  z46 := Tryz.sizeOf106
  v46 := Tryz.zeroValue106
  t51 := Tryz.underlying224
  a51 := Tryz.isAgg224
  z51 := Tryz.sizeOf224
  v51 := Tryz.zeroValue224
  t59 := Tryz.underlying117
  a59 := Tryz.isAgg117
  z59 := Tryz.sizeOf117
  v59 := Tryz.zeroValue117
  t146 := Tryz.underlying266
  a146 := Tryz.isAgg266
  z146 := Tryz.sizeOf266
  v146 := Tryz.zeroValue266
  g1 := by kernel_rfl }
open Go.RowKit Go.Lib in
theorem Tryz.strings_Cut (s sep : ByteArray) (m : Int) (w : World) (hs : s.size < 4294967281) (hm : w.cell? ⟨1, 0, none⟩ = some (.int .i64 m)) :
    Calls Tryz.prog 67 #[.string s, .string sep] w fun e w' => e = .returned (.tuple #[.string ⟨(Lib.cut s.data.toList sep.data.toList).1.toArray⟩, .string ⟨(Lib.cut s.data.toList sep.data.toList).2.1.toArray⟩, .bool (Lib.cut s.data.toList sep.data.toList).2.2]) ∧ ∃ n, w' = w.drewN n := Any.strings_Cut Tryz.lays145 s sep m w hs hm
def Tryz.lays138_ren : Go.Shelf.Ren := ⟨fun | 138 => 100 | 195 => 156 | 218 => 158 | 143 => 101 | 219 => 159 | 217 => 218 | 225 => 219 | 224 => 220 | 267 => 221 | 266 => 262 | 314 => 263 | n => n, fun | 9 => 9 | 3 => 3 | 4 => 4 | 5 => 5 | 0 => 0 | 46 => 106 | 146 => 266 | 51 => 224 | n => n, fun | 1 => 1 | n => n⟩
theorem Tryz.lays138 : Go.Proofs.Lays.n138 Tryz.prog Tryz.lays138_ren := {
  mixed := by kernel_rfl
  f138 := Tryz.func100.trans (congrArg some (by kernel_rfl))
  f143 := Tryz.func101.trans (congrArg some (by kernel_rfl))
  f195 := Tryz.func156.trans (congrArg some (by kernel_rfl))
  f217 := Tryz.func218.trans (congrArg some (by kernel_rfl))
  f218 := Tryz.func158.trans (congrArg some (by kernel_rfl))
  f219 := Tryz.func159.trans (congrArg some (by kernel_rfl))
  f224 := Tryz.func220.trans (congrArg some (by kernel_rfl))
  f225 := Tryz.func219.trans (congrArg some (by kernel_rfl))
  f266 := Tryz.func262.trans (congrArg some (by kernel_rfl))
  f267 := Tryz.func221.trans (congrArg some (by kernel_rfl))
  f314 := Tryz.func263.trans (congrArg some (by kernel_rfl))
  t0 := Tryz.underlying0
  a0 := Tryz.isAgg0
  z0 := Tryz.sizeOf0
  v0 := Tryz.zeroValue0
  t3 := Tryz.underlying3
  a3 := Tryz.isAgg3
  z3 := Tryz.sizeOf3
  v3 := Tryz.zeroValue3
  t4 := Tryz.underlying4
  a4 := Tryz.isAgg4
  z4 := Tryz.sizeOf4
  v4 := Tryz.zeroValue4
  t5 := Tryz.underlying5
  a5 := Tryz.isAgg5
  z5 := Tryz.sizeOf5
  v5 := Tryz.zeroValue5
  t9 := Tryz.underlying9
  a9 := Tryz.isAgg9
  z9 := Tryz.sizeOf9
  v9 := Tryz.zeroValue9
  t46 := Tryz.underlying106
  a46 := Tryz.isAgg106
  z46 := Tryz.sizeOf106
  v46 := Tryz.zeroValue106
  t51 := Tryz.underlying224
  a51 := Tryz.isAgg224
  z51 := Tryz.sizeOf224
  v51 := Tryz.zeroValue224
  t146 := Tryz.underlying266
  a146 := Tryz.isAgg266
  z146 := Tryz.sizeOf266
  v146 := Tryz.zeroValue266
  g1 := by kernel_rfl }
open Go.RowKit Go.Lib in
theorem Tryz.strings_Count_one (s : ByteArray) (c : UInt8) (w : World) :
    Calls Tryz.prog 100 #[.string s, .string ⟨#[c]⟩] w fun e w' => e = .returned (.int .i64 (Lib.countByte s.data.toList c)) ∧ w' = w := Any.strings_Count_one Tryz.lays138 s c w
def Tryz.laysM145_ren : Go.Shelf.Ren := ⟨fun | 145 => 67 | 220 => 103 | 219 => 159 | 217 => 218 | 225 => 219 | 224 => 220 | 267 => 221 | 266 => 262 | 314 => 263 | n => n, fun | 9 => 9 | 4 => 4 | 59 => 117 | 3 => 3 | 5 => 5 | 46 => 106 | 146 => 266 | 51 => 224 | n => n, fun | 1 => 1 | n => n⟩
theorem Tryz.laysM145 : Go.Proofs.LaysM.n145 Tryz.prog Tryz.laysM145_ren := {
  mixed := by kernel_rfl
  f145 := Tryz.func67.trans (congrArg some (by kernel_rfl))
  f217 := Tryz.func218.trans (congrArg some (by kernel_rfl))
  f219 := Tryz.func159.trans (congrArg some (by kernel_rfl))
  f220 := Tryz.func103.trans (congrArg some (by kernel_rfl))
  f224 := Tryz.func220.trans (congrArg some (by kernel_rfl))
  f225 := Tryz.func219.trans (congrArg some (by kernel_rfl))
  f266 := Tryz.func262.trans (congrArg some (by kernel_rfl))
  f267 := Tryz.func221.trans (congrArg some (by kernel_rfl))
  f314 := Tryz.func263.trans (congrArg some (by kernel_rfl))
  t3 := Tryz.underlying3
  a3 := Tryz.isAgg3
  z3 := Tryz.sizeOf3
  v3 := Tryz.zeroValue3
  t4 := Tryz.underlying4
  a4 := Tryz.isAgg4
  z4 := Tryz.sizeOf4
  v4 := Tryz.zeroValue4
  t5 := Tryz.underlying5
  a5 := Tryz.isAgg5
  z5 := Tryz.sizeOf5
  v5 := Tryz.zeroValue5
  t9 := Tryz.underlying9
  a9 := Tryz.isAgg9
  z9 := Tryz.sizeOf9
  v9 := Tryz.zeroValue9
  t46 := Tryz.underlying106
  a46 := Tryz.isAgg106
  z46 := Tryz.sizeOf106
  v46 := Tryz.zeroValue106
  t51 := Tryz.underlying224
  a51 := Tryz.isAgg224
  z51 := Tryz.sizeOf224
  v51 := Tryz.zeroValue224
  t59 := Tryz.underlying117
  a59 := Tryz.isAgg117
  z59 := Tryz.sizeOf117
  v59 := Tryz.zeroValue117
  t146 := Tryz.underlying266
  a146 := Tryz.isAgg266
  z146 := Tryz.sizeOf266
  v146 := Tryz.zeroValue266
  g1 := by kernel_rfl
  i3 := by kernel_rfl
  i4 := by kernel_rfl
  i5 := by kernel_rfl
  i9 := by kernel_rfl
  i46 := by kernel_rfl
  i51 := by kernel_rfl
  i59 := by kernel_rfl
  i146 := by kernel_rfl
  m1 := by kernel_rfl
  s1_3 := fun w h => Go.Proofs.cell_of_shapedOpen_int (zero := #[.int .i64 0]) (t := 3) h (of_decide_eq_true (by kernel_rfl)) (by kernel_rfl) rfl (by kernel_rfl) (by kernel_rfl) Tryz.underlying3 }
def Tryz.lays146_ren : Go.Shelf.Ren := ⟨fun | 146 => 35 | 221 => 65 | 268 => 99 | 138 => 100 | 143 => 101 | 195 => 156 | 197 => 157 | 218 => 158 | 219 => 159 | 260 => 217 | 217 => 218 | 225 => 219 | 224 => 220 | 267 => 221 | 266 => 262 | 314 => 263 | n => n, fun | 9 => 9 | 31 => 33 | 3 => 3 | 4 => 4 | 0 => 0 | 105 => 181 | 21 => 21 | 5 => 5 | 46 => 106 | 119 => 262 | 139 => 265 | 138 => 264 | 146 => 266 | 51 => 224 | n => n, fun | 1 => 1 | 3 => 2 | 4 => 3 | n => n⟩
theorem Tryz.lays146 : Go.Proofs.Lays.n146 Tryz.prog Tryz.lays146_ren := {
  mixed := by kernel_rfl
  f138 := Tryz.func100.trans (congrArg some (by kernel_rfl))
  f143 := Tryz.func101.trans (congrArg some (by kernel_rfl))
  f146 := Tryz.func35.trans (congrArg some (by kernel_rfl))
  f195 := Tryz.func156.trans (congrArg some (by kernel_rfl))
  f197 := Tryz.func157.trans (congrArg some (by kernel_rfl))
  f217 := Tryz.func218.trans (congrArg some (by kernel_rfl))
  f218 := Tryz.func158.trans (congrArg some (by kernel_rfl))
  f219 := Tryz.func159.trans (congrArg some (by kernel_rfl))
  f221 := Tryz.func65.trans (congrArg some (by kernel_rfl))
  f224 := Tryz.func220.trans (congrArg some (by kernel_rfl))
  f225 := Tryz.func219.trans (congrArg some (by kernel_rfl))
  f260 := Tryz.func217.trans (congrArg some (by kernel_rfl))
  f266 := Tryz.func262.trans (congrArg some (by kernel_rfl))
  f267 := Tryz.func221.trans (congrArg some (by kernel_rfl))
  f268 := Tryz.func99.trans (congrArg some (by kernel_rfl))
  f314 := Tryz.func263.trans (congrArg some (by kernel_rfl))
  t0 := Tryz.underlying0
  a0 := Tryz.isAgg0
  z0 := Tryz.sizeOf0
  v0 := Tryz.zeroValue0
  t3 := Tryz.underlying3
  a3 := Tryz.isAgg3
  z3 := Tryz.sizeOf3
  v3 := Tryz.zeroValue3
  t4 := Tryz.underlying4
  a4 := Tryz.isAgg4
  z4 := Tryz.sizeOf4
  v4 := Tryz.zeroValue4
  t5 := Tryz.underlying5
  a5 := Tryz.isAgg5
  z5 := Tryz.sizeOf5
  v5 := Tryz.zeroValue5
  t9 := Tryz.underlying9
  a9 := Tryz.isAgg9
  z9 := Tryz.sizeOf9
  v9 := Tryz.zeroValue9
  t21 := Tryz.underlying21
  a21 := Tryz.isAgg21
  z21 := Tryz.sizeOf21
  v21 := Tryz.zeroValue21
  t31 := Tryz.underlying33
  a31 := Tryz.isAgg33
  z31 := Tryz.sizeOf33
  v31 := Tryz.zeroValue33
  t46 := Tryz.underlying106
  a46 := Tryz.isAgg106
  z46 := Tryz.sizeOf106
  v46 := Tryz.zeroValue106
  t51 := Tryz.underlying224
  a51 := Tryz.isAgg224
  z51 := Tryz.sizeOf224
  v51 := Tryz.zeroValue224
  t105 := Tryz.underlying181
  a105 := Tryz.isAgg181
  z105 := Tryz.sizeOf181
  v105 := Tryz.zeroValue181
  t119 := Tryz.underlying262
  a119 := Tryz.isAgg262
  z119 := Tryz.sizeOf262
  t138 := Tryz.underlying264
  a138 := Tryz.isAgg264
  z138 := Tryz.sizeOf264
  v138 := Tryz.zeroValue264
  t139 := Tryz.underlying265
  a139 := Tryz.isAgg265
  z139 := Tryz.sizeOf265
  v139 := Tryz.zeroValue265
  t146 := Tryz.underlying266
  a146 := Tryz.isAgg266
  z146 := Tryz.sizeOf266
  v146 := Tryz.zeroValue266
  g1 := by kernel_rfl
  g3 := by kernel_rfl
  g4 := by kernel_rfl }
open Go.RowKit Go.Lib in
theorem Tryz.strings_Split (s sep : ByteArray) (m : Int) (w : World) (hs : s.size < 4294967281) (hm : w.cell? ⟨1, 0, none⟩ = some (.int .i64 m)) (h1 : 1 ≤ sep.size) :
    Calls Tryz.prog 35 #[.string s, .string sep] w fun e w' =>
      e = .returned (.slice (some ⟨w.heap.size, 0, none⟩) (Lib.countB s sep + 1) (Lib.countB s sep + 1)) ∧ w' = w.alloc (.cells ((Lib.splitB sep 0 (Lib.countB s sep) s).map Value.string).toArray 9) := Any.strings_Split Tryz.lays146 (by kernel_rfl) s sep m w hs hm h1
def Tryz.lays105_ren : Go.Shelf.Ren := ⟨fun | 105 => 161 | 212 => 223 | 99 => 224 | 165 => 55 | 166 => 37 | 170 => 36 | 169 => 39 | 263 => 265 | 264 => 266 | 206 => 267 | 240 => 66 | 241 => 94 | 276 => 102 | 277 => 152 | n => n, fun | 9 => 9 | 3 => 3 | 4 => 4 | 20 => 20 | 0 => 0 | 46 => 106 | 109 => 230 | 5 => 5 | 72 => 68 | 76 => 76 | 51 => 224 | 146 => 266 | 53 => 172 | 148 => 271 | 70 => 66 | 37 => 22 | 75 => 75 | 127 => 125 | 164 => 154 | 80 => 80 | n => n, fun | n => n⟩
theorem Tryz.lays105 : Go.Proofs.Lays.n105 Tryz.prog Tryz.lays105_ren := {
  mixed := by kernel_rfl
  f99 := Tryz.func224.trans (congrArg some (by kernel_rfl))
  f105 := Tryz.func161.trans (congrArg some (by kernel_rfl))
  f165 := Tryz.func55.trans (congrArg some (by kernel_rfl))
  f166 := Tryz.func37.trans (congrArg some (by kernel_rfl))
  f169 := Tryz.func39.trans (congrArg some (by kernel_rfl))
  f170 := Tryz.func36.trans (congrArg some (by kernel_rfl))
  f206 := Tryz.func267.trans (congrArg some (by kernel_rfl))
  f212 := Tryz.func223.trans (congrArg some (by kernel_rfl))
  f240 := Tryz.func66.trans (congrArg some (by kernel_rfl))
  f241 := Tryz.func94.trans (congrArg some (by kernel_rfl))
  f263 := Tryz.func265.trans (congrArg some (by kernel_rfl))
  f264 := Tryz.func266.trans (congrArg some (by kernel_rfl))
  f276 := Tryz.func102.trans (congrArg some (by kernel_rfl))
  f277 := Tryz.func152.trans (congrArg some (by kernel_rfl))
  t0 := Tryz.underlying0
  a0 := Tryz.isAgg0
  z0 := Tryz.sizeOf0
  v0 := Tryz.zeroValue0
  t3 := Tryz.underlying3
  a3 := Tryz.isAgg3
  z3 := Tryz.sizeOf3
  v3 := Tryz.zeroValue3
  t4 := Tryz.underlying4
  a4 := Tryz.isAgg4
  z4 := Tryz.sizeOf4
  v4 := Tryz.zeroValue4
  t5 := Tryz.underlying5
  a5 := Tryz.isAgg5
  z5 := Tryz.sizeOf5
  v5 := Tryz.zeroValue5
  t9 := Tryz.underlying9
  a9 := Tryz.isAgg9
  z9 := Tryz.sizeOf9
  v9 := Tryz.zeroValue9
  t20 := Tryz.underlying20
  a20 := Tryz.isAgg20
  z20 := Tryz.sizeOf20
  v20 := Tryz.zeroValue20
  t37 := Tryz.underlying22
  a37 := Tryz.isAgg22
  z37 := Tryz.sizeOf22
  v37 := Tryz.zeroValue22
  t46 := Tryz.underlying106
  a46 := Tryz.isAgg106
  z46 := Tryz.sizeOf106
  v46 := Tryz.zeroValue106
  t51 := Tryz.underlying224
  a51 := Tryz.isAgg224
  z51 := Tryz.sizeOf224
  v51 := Tryz.zeroValue224
  t53 := Tryz.underlying172
  a53 := Tryz.isAgg172
  z53 := Tryz.sizeOf172
  v53 := Tryz.zeroValue172
  t70 := Tryz.underlying66
  a70 := Tryz.isAgg66
  z70 := Tryz.sizeOf66
  v70 := Tryz.zeroValue66
  t72 := Tryz.underlying68
  a72 := Tryz.isAgg68
  z72 := Tryz.sizeOf68
  v72 := Tryz.zeroValue68
  t75 := Tryz.underlying75
  a75 := Tryz.isAgg75
  z75 := Tryz.sizeOf75
  v75 := Tryz.zeroValue75
  t76 := Tryz.underlying76
  a76 := Tryz.isAgg76
  z76 := Tryz.sizeOf76
  v76 := Tryz.zeroValue76
  t109 := Tryz.underlying230
  a109 := Tryz.isAgg230
  z109 := Tryz.sizeOf230
  v109 := Tryz.zeroValue230
  t127 := Tryz.underlying125
  a127 := Tryz.isAgg125
  z127 := Tryz.sizeOf125
  v127 := Tryz.zeroValue125
  t146 := Tryz.underlying266
  a146 := Tryz.isAgg266
  z146 := Tryz.sizeOf266
  v146 := Tryz.zeroValue266
  t148 := Tryz.underlying271
  a148 := Tryz.isAgg271
  z148 := Tryz.sizeOf271
  v148 := Tryz.zeroValue271
  t164 := Tryz.underlying154
  a164 := Tryz.isAgg154
  z164 := Tryz.sizeOf154
  v164 := Tryz.zeroValue154 }
theorem Tryz.Builder_Extra_105 : Builder.Extra Tryz.prog Tryz.lays105_ren := {
  sizeBuilder := by kernel_rfl
  liesBuilder := by kernel_rfl
  t5 := Tryz.underlying5
  a5 := Tryz.isAgg5
  z5 := Tryz.sizeOf5
  v5 := Tryz.zeroValue5
  infoByte := by kernel_rfl
  cellsByte := by kernel_rfl
  sizeByte := by kernel_rfl
  neB5 := by decide }
open Go.RowKit Go.Lib in
theorem Tryz.strings_Repeat (s : ByteArray) (c : Nat) (w : World) (hc : c ≤ 9223372036854775807) (hlen : s.size * c ≤ 140737488355328) :
    Calls Tryz.prog 161 #[.string s, .int .i64 c] w fun e w' => e = .returned (.string ⟨(Lib.repeatL s.data.toList c).toArray⟩) ∧ Below w.heap.size w w' := Any.strings_Repeat Tryz.lays105 Tryz.Builder_Extra_105 s c w hc hlen
end Go.Proofs
