/-
  Contracts of Go's library at this program; a cell's line; ranges over a function; the lines of a text.
-/
import Derived.Shelf.Strings.Builder1
import Derived.Shelf.Small.Strs
import Derived.Shelf.Strings.BuilderF
import Derived.Shelf.Strings.BuilderK
import Derived.Shelf.Strconv.Atoi
import Derived.Shelf.Strconv.Itoa0
import Derived.Shelf.Strconv.Itoa1
import Derived.Shelf.LaysM
import Derived.Shelf.Strconv.Itoa2
import Derived.Shelf.Strconv.Itoa3
import Derived.Shelf.Strconv.AtoiErrFast
import Derived.Shelf.Strconv.ParseIntEmpty
import Derived.Shelf.Strconv.AtoiFail
import Derived.Shelf.Strconv.Clone
import Derived.Shelf.Strconv.SyntaxError
import Derived.Shelf.LaysC
import Derived.Shelf.Strconv.ToError
import Derived.Shelf.Strconv.Lower
import Derived.Shelf.Strconv.ParseUint10
import Derived.Shelf.Strconv.ParseUint10Empty
import Derived.Shelf.Strconv.ParseUint10Any
import Derived.Shelf.Strconv.ParseInt10
import Derived.Shelf.Strconv.AtoiLong
import Derived.Shelf.Strconv.AtoiInnerAll
import Derived.Shelf.Strconv.RangeError
import Derived.Shelf.Strconv.ToErrorRange
import Derived.Shelf.Strconv.AtoiAll
import Derived.Shelf.Strconv.ErrVarAll
import Derived.Shelf.Strings.Search1
import Derived.Shelf.Strings.Search2
import Derived.Shelf.Strings.Search3
import Derived.Shelf.Strings.Cut
import Derived.Shelf.Strings.Count
import Derived.Shelf.Strings.Shaped
import Derived.Shelf.Strings.Prefix
import Derived.Shelf.Strings.Split
import Derived.Shelf.Strings.SplitShaped
import Derived.Shelf.Unicode.DecodeSlow
import Derived.Ground.Names2Prog
import Derived.Shelf.Slices.Clone
import Derived.Test.YthmfgbjimdondaaDoorProg
import Derived.Test.YthmfgbjimdondaaDoorT2
import Derived.Lib.OthersKept
import Derived.Deep.RegionHeld3
import Derived.Lib.QuietBelow
import Derived.Lib.AppendIntMem
import Derived.Test.YthmfgbjimdondaaDoorT1
import Derived.RangeFuncNested
import Derived.RangeFuncBound
import Derived.RangeFuncCalls
import Derived.RangeFuncLeaves
import Derived.RangeFuncBox
import Derived.Maps.AppendAt
import Derived.OwnWalkIn
import Derived.TacticsInMore
import Derived.LoopNIn
import Derived.LoopIn
import Derived.Shelf.Abstract
import Derived.OrdersIn
/- Contracts of Go's library, laid by the kit's tool at this program. -/
namespace Go.Proofs
open Go.Shelf
def Tryd.lays169_ren : Go.Shelf.Ren := ⟨fun | 169 => 26 | n => n, fun | 70 => 58 | 9 => 9 | 0 => 0 | 72 => 61 | 37 => 59 | 127 => 77 | 3 => 3 | 5 => 5 | n => n, fun | n => n⟩
theorem Tryd.lays169 : Go.Proofs.Lays.n169 Tryd.prog Tryd.lays169_ren := {
  mixed := by kernel_rfl
  f169 := Tryd.func26.trans (congrArg some (by kernel_rfl))
  t0 := Tryd.underlying0
  a0 := Tryd.isAgg0
  z0 := Tryd.sizeOf0
  v0 := Tryd.zeroValue0
  t3 := Tryd.underlying3
  a3 := Tryd.isAgg3
  z3 := Tryd.sizeOf3
  v3 := Tryd.zeroValue3
  t9 := Tryd.underlying9
  a9 := Tryd.isAgg9
  z9 := Tryd.sizeOf9
  v9 := Tryd.zeroValue9
  t37 := Tryd.underlying59
  a37 := Tryd.isAgg59
  z37 := Tryd.sizeOf59
  v37 := Tryd.zeroValue59
  t70 := Tryd.underlying58
  a70 := Tryd.isAgg58
  z70 := Tryd.sizeOf58
  v70 := Tryd.zeroValue58
  t72 := Tryd.underlying61
  a72 := Tryd.isAgg61
  z72 := Tryd.sizeOf61
  v72 := Tryd.zeroValue61
  t127 := Tryd.underlying77
  a127 := Tryd.isAgg77
  z127 := Tryd.sizeOf77
  v127 := Tryd.zeroValue77 }
theorem Tryd.Builder_Extra_169 : Builder.Extra Tryd.prog Tryd.lays169_ren := {
  sizeBuilder := by kernel_rfl
  liesBuilder := by kernel_rfl
  t5 := Tryd.underlying5
  a5 := Tryd.isAgg5
  z5 := Tryd.sizeOf5
  v5 := Tryd.zeroValue5
  infoByte := by kernel_rfl
  cellsByte := by kernel_rfl
  sizeByte := by kernel_rfl
  neB5 := by decide }
def Tryd.lays137_ren : Go.Shelf.Ren := ⟨fun | 137 => 34 | 217 => 52 | 266 => 70 | n => n, fun | 9 => 9 | 5 => 5 | 3 => 3 | n => n, fun | n => n⟩
theorem Tryd.lays137 : Go.Proofs.Lays.n137 Tryd.prog Tryd.lays137_ren := {
  mixed := by kernel_rfl
  f137 := Tryd.func34.trans (congrArg some (by kernel_rfl))
  f217 := Tryd.func52.trans (congrArg some (by kernel_rfl))
  f266 := Tryd.func70.trans (congrArg some (by kernel_rfl))
  t3 := Tryd.underlying3
  a3 := Tryd.isAgg3
  z3 := Tryd.sizeOf3
  v3 := Tryd.zeroValue3
  t5 := Tryd.underlying5
  a5 := Tryd.isAgg5
  z5 := Tryd.sizeOf5
  v5 := Tryd.zeroValue5
  t9 := Tryd.underlying9
  a9 := Tryd.isAgg9
  z9 := Tryd.sizeOf9
  v9 := Tryd.zeroValue9 }
open Go.RowKit in
theorem Tryd.strings_IndexByte (s : ByteArray) (c : Int) (w : World) :
    Calls Tryd.prog 34 #[.string s, .int .u8 c] w fun e w' => e = .returned (.int .i64 (Lib.indexByte s.data.toList c.toNat.toUInt8)) ∧ w' = w := Any.strings_IndexByte Tryd.lays137 s c w
open Go.RowKit in
theorem Tryd.Builder_String_any_k (B b : Nat) (l : List UInt8) (w : World) (h : Lib.IsBuilderF 61 5 B b (Lib.byteCells l) w) (hBw : B ≤ w.heap.size) :
    Calls Tryd.prog 26 #[.pointer (some ⟨b, 0, none⟩)] w fun e w' => e = .returned (.string ⟨l.toArray⟩) ∧ (Lib.IsBuilderF 61 5 B b (Lib.byteCells l) w' ∧ Below B w w' ∧ Lib.OthersKept 5 (some b) w w') := Any.Builder_String_any_k Tryd.lays169 Tryd.Builder_Extra_169 B b l w h hBw
def Tryd.laysM171_ren : Go.Shelf.Ren := ⟨fun | 171 => 41 | 243 => 62 | 246 => 77 | 283 => 85 | 284 => 86 | 285 => 87 | 286 => 88 | 129 => 91 | 317 => 90 | 318 => 92 | 319 => 93 | 320 => 94 | 337 => 95 | 338 => 96 | n => n, fun | 3 => 3 | 9 => 9 | 2 => 2 | 4 => 4 | 171 => 119 | 0 => 0 | 53 => 104 | 37 => 59 | 5 => 5 | 173 => 122 | 212 => 132 | 51 => 124 | 20 => 20 | 213 => 133 | 46 => 107 | 232 => 136 | 233 => 137 | n => n, fun | 17 => 5 | 18 => 6 | 19 => 7 | n => n⟩
theorem Tryd.laysM171 : Go.Proofs.LaysM.n171 Tryd.prog Tryd.laysM171_ren := {
  mixed := by kernel_rfl
  f129 := Tryd.func91.trans (congrArg some (by kernel_rfl))
  f171 := Tryd.func41.trans (congrArg some (by kernel_rfl))
  f243 := Tryd.func62.trans (congrArg some (by kernel_rfl))
  f246 := Tryd.func77.trans (congrArg some (by kernel_rfl))
  f283 := Tryd.func85.trans (congrArg some (by kernel_rfl))
  f284 := Tryd.func86.trans (congrArg some (by kernel_rfl))
  f285 := Tryd.func87.trans (congrArg some (by kernel_rfl))
  f286 := Tryd.func88.trans (congrArg some (by kernel_rfl))
  f317 := Tryd.func90.trans (congrArg some (by kernel_rfl))
  f318 := Tryd.func92.trans (congrArg some (by kernel_rfl))
  f319 := Tryd.func93.trans (congrArg some (by kernel_rfl))
  f320 := Tryd.func94.trans (congrArg some (by kernel_rfl))
  f337 := Tryd.func95.trans (congrArg some (by kernel_rfl))
  f338 := Tryd.func96.trans (congrArg some (by kernel_rfl))
  t0 := Tryd.underlying0
  a0 := Tryd.isAgg0
  z0 := Tryd.sizeOf0
  v0 := Tryd.zeroValue0
  t2 := Tryd.underlying2
  a2 := Tryd.isAgg2
  z2 := Tryd.sizeOf2
  v2 := Tryd.zeroValue2
  t3 := Tryd.underlying3
  a3 := Tryd.isAgg3
  z3 := Tryd.sizeOf3
  v3 := Tryd.zeroValue3
  t4 := Tryd.underlying4
  a4 := Tryd.isAgg4
  z4 := Tryd.sizeOf4
  v4 := Tryd.zeroValue4
  t5 := Tryd.underlying5
  a5 := Tryd.isAgg5
  z5 := Tryd.sizeOf5
  v5 := Tryd.zeroValue5
  t9 := Tryd.underlying9
  a9 := Tryd.isAgg9
  z9 := Tryd.sizeOf9
  v9 := Tryd.zeroValue9
  t20 := Tryd.underlying20
  a20 := Tryd.isAgg20
  z20 := Tryd.sizeOf20
  v20 := Tryd.zeroValue20
  t37 := Tryd.underlying59
  a37 := Tryd.isAgg59
  z37 := Tryd.sizeOf59
  v37 := Tryd.zeroValue59
  t46 := Tryd.underlying107
  a46 := Tryd.isAgg107
  z46 := Tryd.sizeOf107
  v46 := Tryd.zeroValue107
  t51 := Tryd.underlying124
  a51 := Tryd.isAgg124
  z51 := Tryd.sizeOf124
  v51 := Tryd.zeroValue124
  t53 := Tryd.underlying104
  a53 := Tryd.isAgg104
  z53 := Tryd.sizeOf104
  v53 := Tryd.zeroValue104
  t171 := Tryd.underlying119
  a171 := Tryd.isAgg119
  z171 := Tryd.sizeOf119
  v171 := Tryd.zeroValue119
  t173 := Tryd.underlying122
  a173 := Tryd.isAgg122
  z173 := Tryd.sizeOf122
  v173 := Tryd.zeroValue122
  t212 := Tryd.underlying132
  a212 := Tryd.isAgg132
  z212 := Tryd.sizeOf132
  v212 := Tryd.zeroValue132
  t213 := Tryd.underlying133
  a213 := Tryd.isAgg133
  z213 := Tryd.sizeOf133
  t232 := Tryd.underlying136
  a232 := Tryd.isAgg136
  z232 := Tryd.sizeOf136
  v232 := Tryd.zeroValue136
  t233 := Tryd.underlying137
  a233 := Tryd.isAgg137
  z233 := Tryd.sizeOf137
  v233 := Tryd.zeroValue137
  g17 := by kernel_rfl
  g18 := by kernel_rfl
  g19 := by kernel_rfl
  i0 := by kernel_rfl
  i2 := by kernel_rfl
  i3 := by kernel_rfl
  i4 := by kernel_rfl
  i5 := by kernel_rfl
  i9 := by kernel_rfl
  i20 := by kernel_rfl
  i37 := by kernel_rfl
  i46 := by kernel_rfl
  i51 := by kernel_rfl
  i53 := by kernel_rfl
  i171 := by kernel_rfl
  i173 := by kernel_rfl
  i212 := by kernel_rfl
  i232 := by kernel_rfl
  i233 := by kernel_rfl
  m17 := by kernel_rfl
  m18 := by kernel_rfl
  m19 := by kernel_rfl }
open Go.RowKit Go.Sort Go.Lib in
theorem Tryd.strconv_Itoa (n : Int) (h0 : -9223372036854775808 ≤ n) (h1 : n ≤ 9223372036854775807) (w : World) (htab : Lib.TabIs Tryd.prog w "internal/strconv.uint64pow10" .u64 Lib.pow10Tab) :
    Calls Tryd.prog 41 #[.int .i64 n] w fun e w' => e = .returned (.string ⟨(Lib.itoa n).toArray⟩) ∧ ∃ k os, w' = grow (w.drewN k) os := Any.strconv_Itoa Tryd.laysM171 n h0 h1 w htab
def Tryd.laysC172_ren : Go.Shelf.Ren := ⟨fun | 172 => 17 | 244 => 37 | 245 => 38 | 247 => 57 | 279 => 58 | 280 => 59 | 281 => 60 | 282 => 61 | 287 => 74 | 316 => 75 | 171 => 41 | 205 => 76 | 321 => 83 | 322 => 84 | 243 => 62 | 246 => 77 | 283 => 85 | 284 => 86 | 285 => 87 | 286 => 88 | 129 => 91 | 317 => 90 | 318 => 92 | 319 => 93 | 320 => 94 | 337 => 95 | 338 => 96 | n => n, fun | 9 => 9 | 3 => 3 | 75 => 50 | 76 => 51 | 4 => 4 | 5 => 5 | 167 => 89 | 37 => 59 | 0 => 0 | 85 => 90 | 2 => 2 | 168 => 92 | 53 => 104 | 175 => 105 | 46 => 107 | 210 => 110 | 127 => 77 | 145 => 118 | 143 => 116 | 21 => 21 | 171 => 119 | 173 => 122 | 212 => 132 | 51 => 124 | 20 => 20 | 213 => 133 | 232 => 136 | 233 => 137 | 80 => 62 | n => n, fun | 15 => 0 | 16 => 1 | 17 => 5 | 18 => 6 | 19 => 7 | n => n⟩
theorem Tryd.laysC172 : Go.Proofs.LaysC.n172 Tryd.prog Tryd.laysC172_ren := {
  mixed := by kernel_rfl
  f129 := Tryd.func91.trans (congrArg some (by kernel_rfl))
  f171 := Tryd.func41.trans (congrArg some (by kernel_rfl))
  f172 := Tryd.func17.trans (congrArg some (by kernel_rfl))
  f205 := Tryd.func76.trans (congrArg some (by kernel_rfl))
  f243 := Tryd.func62.trans (congrArg some (by kernel_rfl))
  f244 := Tryd.func37.trans (congrArg some (by kernel_rfl))
  f245 := Tryd.func38.trans (congrArg some (by kernel_rfl))
  f246 := Tryd.func77.trans (congrArg some (by kernel_rfl))
  f247 := Tryd.func57.trans (congrArg some (by kernel_rfl))
  f279 := Tryd.func58.trans (congrArg some (by kernel_rfl))
  f280 := Tryd.func59.trans (congrArg some (by kernel_rfl))
  f281 := Tryd.func60.trans (congrArg some (by kernel_rfl))
  f282 := Tryd.func61.trans (congrArg some (by kernel_rfl))
  f283 := Tryd.func85.trans (congrArg some (by kernel_rfl))
  f284 := Tryd.func86.trans (congrArg some (by kernel_rfl))
  f285 := Tryd.func87.trans (congrArg some (by kernel_rfl))
  f286 := Tryd.func88.trans (congrArg some (by kernel_rfl))
  f287 := Tryd.func74.trans (congrArg some (by kernel_rfl))
  f316 := Tryd.func75.trans (congrArg some (by kernel_rfl))
  f317 := Tryd.func90.trans (congrArg some (by kernel_rfl))
  f318 := Tryd.func92.trans (congrArg some (by kernel_rfl))
  f319 := Tryd.func93.trans (congrArg some (by kernel_rfl))
  f320 := Tryd.func94.trans (congrArg some (by kernel_rfl))
  f321 := Tryd.func83.trans (congrArg some (by kernel_rfl))
  f322 := Tryd.func84.trans (congrArg some (by kernel_rfl))
  f337 := Tryd.func95.trans (congrArg some (by kernel_rfl))
  f338 := Tryd.func96.trans (congrArg some (by kernel_rfl))
  t0 := Tryd.underlying0
  a0 := Tryd.isAgg0
  z0 := Tryd.sizeOf0
  v0 := Tryd.zeroValue0
  t2 := Tryd.underlying2
  a2 := Tryd.isAgg2
  z2 := Tryd.sizeOf2
  v2 := Tryd.zeroValue2
  t3 := Tryd.underlying3
  a3 := Tryd.isAgg3
  z3 := Tryd.sizeOf3
  v3 := Tryd.zeroValue3
  t4 := Tryd.underlying4
  a4 := Tryd.isAgg4
  z4 := Tryd.sizeOf4
  v4 := Tryd.zeroValue4
  t5 := Tryd.underlying5
  a5 := Tryd.isAgg5
  z5 := Tryd.sizeOf5
  v5 := Tryd.zeroValue5
  t9 := Tryd.underlying9
  a9 := Tryd.isAgg9
  z9 := Tryd.sizeOf9
  v9 := Tryd.zeroValue9
  t20 := Tryd.underlying20
  a20 := Tryd.isAgg20
  z20 := Tryd.sizeOf20
  v20 := Tryd.zeroValue20
  t21 := Tryd.underlying21
  a21 := Tryd.isAgg21
  z21 := Tryd.sizeOf21
  v21 := Tryd.zeroValue21
  t37 := Tryd.underlying59
  a37 := Tryd.isAgg59
  z37 := Tryd.sizeOf59
  v37 := Tryd.zeroValue59
  t46 := Tryd.underlying107
  a46 := Tryd.isAgg107
  z46 := Tryd.sizeOf107
  v46 := Tryd.zeroValue107
  t51 := Tryd.underlying124
  a51 := Tryd.isAgg124
  z51 := Tryd.sizeOf124
  v51 := Tryd.zeroValue124
  t53 := Tryd.underlying104
  a53 := Tryd.isAgg104
  z53 := Tryd.sizeOf104
  v53 := Tryd.zeroValue104
  t75 := Tryd.underlying50
  a75 := Tryd.isAgg50
  z75 := Tryd.sizeOf50
  v75 := Tryd.zeroValue50
  t76 := Tryd.underlying51
  a76 := Tryd.isAgg51
  z76 := Tryd.sizeOf51
  v76 := Tryd.zeroValue51
  t85 := Tryd.underlying90
  a85 := Tryd.isAgg90
  z85 := Tryd.sizeOf90
  v85 := Tryd.zeroValue90
  t127 := Tryd.underlying77
  a127 := Tryd.isAgg77
  z127 := Tryd.sizeOf77
  v127 := Tryd.zeroValue77
  t143 := Tryd.underlying116
  a143 := Tryd.isAgg116
  z143 := Tryd.sizeOf116
  v143 := Tryd.zeroValue116
  t145 := Tryd.underlying118
  a145 := Tryd.isAgg118
  z145 := Tryd.sizeOf118
  v145 := Tryd.zeroValue118
  t167 := Tryd.underlying89
  a167 := Tryd.isAgg89
  z167 := Tryd.sizeOf89
  v167 := Tryd.zeroValue89
  t168 := Tryd.underlying92
  a168 := Tryd.isAgg92
  z168 := Tryd.sizeOf92
  v168 := Tryd.zeroValue92
  t171 := Tryd.underlying119
  a171 := Tryd.isAgg119
  z171 := Tryd.sizeOf119
  v171 := Tryd.zeroValue119
  t173 := Tryd.underlying122
  a173 := Tryd.isAgg122
  z173 := Tryd.sizeOf122
  v173 := Tryd.zeroValue122
  t175 := Tryd.underlying105
  a175 := Tryd.isAgg105
  z175 := Tryd.sizeOf105
  v175 := Tryd.zeroValue105
  t210 := Tryd.underlying110
  a210 := Tryd.isAgg110
  z210 := Tryd.sizeOf110
  v210 := Tryd.zeroValue110
  t212 := Tryd.underlying132
  a212 := Tryd.isAgg132
  z212 := Tryd.sizeOf132
  v212 := Tryd.zeroValue132
  t213 := Tryd.underlying133
  a213 := Tryd.isAgg133
  z213 := Tryd.sizeOf133
  t232 := Tryd.underlying136
  a232 := Tryd.isAgg136
  z232 := Tryd.sizeOf136
  v232 := Tryd.zeroValue136
  t233 := Tryd.underlying137
  a233 := Tryd.isAgg137
  z233 := Tryd.sizeOf137
  v233 := Tryd.zeroValue137
  g15 := by kernel_rfl
  g16 := by kernel_rfl
  g17 := by kernel_rfl
  g18 := by kernel_rfl
  g19 := by kernel_rfl
  t80 := Tryd.underlying62
  a80 := Tryd.isAgg62
  z80 := Tryd.sizeOf62
  v80 := Tryd.zeroValue62
  i0 := by kernel_rfl
  i2 := by kernel_rfl
  i3 := by kernel_rfl
  i4 := by kernel_rfl
  i5 := by kernel_rfl
  i9 := by kernel_rfl
  i20 := by kernel_rfl
  i21 := by kernel_rfl
  i37 := by kernel_rfl
  i46 := by kernel_rfl
  i51 := by kernel_rfl
  i53 := by kernel_rfl
  i75 := by kernel_rfl
  i76 := by kernel_rfl
  i80 := by kernel_rfl
  i85 := by kernel_rfl
  i127 := by kernel_rfl
  i143 := by kernel_rfl
  i145 := by kernel_rfl
  i167 := by kernel_rfl
  i168 := by kernel_rfl
  i171 := by kernel_rfl
  i173 := by kernel_rfl
  i175 := by kernel_rfl
  i210 := by kernel_rfl
  i212 := by kernel_rfl
  i232 := by kernel_rfl
  i233 := by kernel_rfl
  m15 := by kernel_rfl
  m16 := by kernel_rfl
  m17 := by kernel_rfl
  m18 := by kernel_rfl
  m19 := by kernel_rfl
  c0 := by kernel_rfl
  c2 := by kernel_rfl
  c3 := by kernel_rfl
  c4 := by kernel_rfl
  c5 := by kernel_rfl
  c9 := by kernel_rfl
  c20 := by kernel_rfl
  c21 := by kernel_rfl
  c37 := by kernel_rfl
  c46 := by kernel_rfl
  c51 := by kernel_rfl
  c53 := by kernel_rfl
  c75 := by kernel_rfl
  c76 := by kernel_rfl
  c80 := by kernel_rfl
  c85 := by kernel_rfl
  c127 := by kernel_rfl
  c143 := by kernel_rfl
  c145 := by kernel_rfl
  c167 := by kernel_rfl
  c168 := by kernel_rfl
  c171 := by kernel_rfl
  c173 := by kernel_rfl
  c175 := by kernel_rfl
  c210 := by kernel_rfl
  c212 := by kernel_rfl
  c213 := by kernel_rfl
  c232 := by kernel_rfl
  c233 := by kernel_rfl }
open Go.RowKit in
theorem Tryd.strconv_Atoi_ok (s : ByteArray) (hmax : s.size ≤ 9223372036854775806) (v : Int) (h : Lib.atoiAll s.data.toList = .ok v) (w : World) :
    Calls Tryd.prog 17 #[.string s] w fun e w' => e = .returned (.tuple #[.int .i64 v, .nilIface]) ∧ (w' = w ∨ ∃ t, w' = Lib.bytesWorld w 5 t) := Any.strconv_Atoi_ok Tryd.laysC172 s hmax v h w
open Go.RowKit in
theorem Tryd.strconv_Atoi_syntax (s : ByteArray) (hlim : s.size ≤ 281474976710656) (hno : ∀ v, Lib.atoiAll s.data.toList ≠ .ok v) (hnr : Lib.atoiAll s.data.toList ≠ .range) (ev : Value) (w : World) (hv : w.cell? ⟨0, 0, none⟩ = some ev) (hev : ev = .nilIface ∨ ∃ te pe, ev = .iface te pe) :
    Calls Tryd.prog 17 #[.string s] w fun e w' => ∃ N, e = .returned (.tuple #[.int .i64 (0), .iface 92 (.pointer (some ⟨N, 0, none⟩))]) ∧ w.heap.size ≤ N ∧ w'.heap[N]? = some (.cells #[.string ⟨#[65, 116, 111, 105]⟩, .string s, ev] 110 (0, 0)) ∧ Below w.heap.size w w' := by
  cases h : Lib.atoiAll s.data.toList with
  | ok v => exact absurd h (hno v)
  | range => exact absurd h hnr
  | _ => exact Any.strconv_Atoi_syntax Tryd.laysC172 s hlim h ev w hv hev
open Go.RowKit in
theorem Tryd.strconv_Atoi_range (s : ByteArray) (hlim : s.size ≤ 281474976710656) (h : Lib.atoiAll s.data.toList = .range) (ev : Value) (w : World) (hv : w.cell? ⟨1, 0, none⟩ = some ev) (hev : ev = .nilIface ∨ ∃ te pe, ev = .iface te pe) :
    Calls Tryd.prog 17 #[.string s] w fun e w' => ∃ N, e = .returned (.tuple #[.int .i64 (Lib.atoiSat s.data.toList), .iface 92 (.pointer (some ⟨N, 0, none⟩))]) ∧ w.heap.size ≤ N ∧ w'.heap[N]? = some (.cells #[.string ⟨#[65, 116, 111, 105]⟩, .string s, ev] 110 (0, 0)) ∧ Below w.heap.size w w' := Any.strconv_Atoi_range Tryd.laysC172 s hlim h ev w hv hev
def Tryd.lays145_ren : Go.Shelf.Ren := ⟨fun | 145 => 21 | 220 => 42 | 219 => 63 | 217 => 52 | 225 => 78 | 224 => 79 | 267 => 80 | 266 => 70 | 314 => 89 | n => n, fun | 9 => 9 | 4 => 4 | 59 => 55 | 3 => 3 | 5 => 5 | 46 => 107 | 146 => 125 | 51 => 124 | n => n, fun | 1 => 2 | n => n⟩
theorem Tryd.lays145 : Go.Proofs.Lays.n145 Tryd.prog Tryd.lays145_ren := {
  mixed := by kernel_rfl
  f145 := Tryd.func21.trans (congrArg some (by kernel_rfl))
  f217 := Tryd.func52.trans (congrArg some (by kernel_rfl))
  f219 := Tryd.func63.trans (congrArg some (by kernel_rfl))
  f220 := Tryd.func42.trans (congrArg some (by kernel_rfl))
  f224 := Tryd.func79.trans (congrArg some (by kernel_rfl))
  f225 := Tryd.func78.trans (congrArg some (by kernel_rfl))
  f266 := Tryd.func70.trans (congrArg some (by kernel_rfl))
  f267 := Tryd.func80.trans (congrArg some (by kernel_rfl))
  f314 := Tryd.func89.trans (congrArg some (by kernel_rfl))
  t3 := Tryd.underlying3
  a3 := Tryd.isAgg3
  z3 := Tryd.sizeOf3
  v3 := Tryd.zeroValue3
  t4 := Tryd.underlying4
  a4 := Tryd.isAgg4
  z4 := Tryd.sizeOf4
  v4 := Tryd.zeroValue4
  t5 := Tryd.underlying5
  a5 := Tryd.isAgg5
  z5 := Tryd.sizeOf5
  v5 := Tryd.zeroValue5
  t9 := Tryd.underlying9
  a9 := Tryd.isAgg9
  z9 := Tryd.sizeOf9
  v9 := Tryd.zeroValue9
  t46 := Tryd.underlying107
  a46 := Tryd.isAgg107
  z46 := Tryd.sizeOf107
  v46 := Tryd.zeroValue107
  t51 := Tryd.underlying124
  a51 := Tryd.isAgg124
  z51 := Tryd.sizeOf124
  v51 := Tryd.zeroValue124
  t59 := Tryd.underlying55
  a59 := Tryd.isAgg55
  z59 := Tryd.sizeOf55
  v59 := Tryd.zeroValue55
  t146 := Tryd.underlying125
  a146 := Tryd.isAgg125
  z146 := Tryd.sizeOf125
  v146 := Tryd.zeroValue125
  g1 := by kernel_rfl }
open Go.RowKit Go.Lib in
theorem Tryd.strings_Cut (s sep : ByteArray) (m : Int) (w : World) (hs : s.size < 4294967281) (hm : w.cell? ⟨2, 0, none⟩ = some (.int .i64 m)) :
    Calls Tryd.prog 21 #[.string s, .string sep] w fun e w' => e = .returned (.tuple #[.string ⟨(Lib.cut s.data.toList sep.data.toList).1.toArray⟩, .string ⟨(Lib.cut s.data.toList sep.data.toList).2.1.toArray⟩, .bool (Lib.cut s.data.toList sep.data.toList).2.2]) ∧ ∃ n, w' = w.drewN n := Any.strings_Cut Tryd.lays145 s sep m w hs hm
def Tryd.lays102_ren : Go.Shelf.Ren := ⟨fun | 102 => 16 | 209 => 36 | 207 => 56 | n => n, fun | 9 => 9 | 4 => 4 | 3 => 3 | n => n, fun | n => n⟩
theorem Tryd.lays102 : Go.Proofs.Lays.n102 Tryd.prog Tryd.lays102_ren := {
  mixed := by kernel_rfl
  f102 := Tryd.func16.trans (congrArg some (by kernel_rfl))
  f207 := Tryd.func56.trans (congrArg some (by kernel_rfl))
  f209 := Tryd.func36.trans (congrArg some (by kernel_rfl))
  t3 := Tryd.underlying3
  a3 := Tryd.isAgg3
  z3 := Tryd.sizeOf3
  v3 := Tryd.zeroValue3
  t4 := Tryd.underlying4
  a4 := Tryd.isAgg4
  z4 := Tryd.sizeOf4
  v4 := Tryd.zeroValue4
  t9 := Tryd.underlying9
  a9 := Tryd.isAgg9
  z9 := Tryd.sizeOf9
  v9 := Tryd.zeroValue9 }
open Go.RowKit Go.Lib in
theorem Tryd.strings_TrimSuffix (s p : ByteArray) (w : World) (hs : s.size ≤ 9223372036854775807) :
    Calls Tryd.prog 16 #[.string s, .string p] w fun e w' => e = .returned (.string ⟨(Lib.trimSuffix s.data.toList p.data.toList).toArray⟩) ∧ w' = w := Any.strings_TrimSuffix Tryd.lays102 s p w hs
def Tryd.lays146_ren : Go.Shelf.Ren := ⟨fun | 146 => 15 | 221 => 35 | 268 => 53 | 138 => 54 | 143 => 55 | 195 => 71 | 197 => 72 | 218 => 73 | 219 => 63 | 260 => 82 | 217 => 52 | 225 => 78 | 224 => 79 | 267 => 80 | 266 => 70 | 314 => 89 | n => n, fun | 9 => 9 | 31 => 46 | 3 => 3 | 4 => 4 | 0 => 0 | 105 => 102 | 21 => 21 | 5 => 5 | 46 => 107 | 119 => 127 | 139 => 130 | 138 => 129 | 146 => 125 | 51 => 124 | n => n, fun | 1 => 2 | 3 => 3 | 4 => 4 | n => n⟩
theorem Tryd.lays146 : Go.Proofs.Lays.n146 Tryd.prog Tryd.lays146_ren := {
  mixed := by kernel_rfl
  f138 := Tryd.func54.trans (congrArg some (by kernel_rfl))
  f143 := Tryd.func55.trans (congrArg some (by kernel_rfl))
  f146 := Tryd.func15.trans (congrArg some (by kernel_rfl))
  f195 := Tryd.func71.trans (congrArg some (by kernel_rfl))
  f197 := Tryd.func72.trans (congrArg some (by kernel_rfl))
  f217 := Tryd.func52.trans (congrArg some (by kernel_rfl))
  f218 := Tryd.func73.trans (congrArg some (by kernel_rfl))
  f219 := Tryd.func63.trans (congrArg some (by kernel_rfl))
  f221 := Tryd.func35.trans (congrArg some (by kernel_rfl))
  f224 := Tryd.func79.trans (congrArg some (by kernel_rfl))
  f225 := Tryd.func78.trans (congrArg some (by kernel_rfl))
  f260 := Tryd.func82.trans (congrArg some (by kernel_rfl))
  f266 := Tryd.func70.trans (congrArg some (by kernel_rfl))
  f267 := Tryd.func80.trans (congrArg some (by kernel_rfl))
  f268 := Tryd.func53.trans (congrArg some (by kernel_rfl))
  f314 := Tryd.func89.trans (congrArg some (by kernel_rfl))
  t0 := Tryd.underlying0
  a0 := Tryd.isAgg0
  z0 := Tryd.sizeOf0
  v0 := Tryd.zeroValue0
  t3 := Tryd.underlying3
  a3 := Tryd.isAgg3
  z3 := Tryd.sizeOf3
  v3 := Tryd.zeroValue3
  t4 := Tryd.underlying4
  a4 := Tryd.isAgg4
  z4 := Tryd.sizeOf4
  v4 := Tryd.zeroValue4
  t5 := Tryd.underlying5
  a5 := Tryd.isAgg5
  z5 := Tryd.sizeOf5
  v5 := Tryd.zeroValue5
  t9 := Tryd.underlying9
  a9 := Tryd.isAgg9
  z9 := Tryd.sizeOf9
  v9 := Tryd.zeroValue9
  t21 := Tryd.underlying21
  a21 := Tryd.isAgg21
  z21 := Tryd.sizeOf21
  v21 := Tryd.zeroValue21
  t31 := Tryd.underlying46
  a31 := Tryd.isAgg46
  z31 := Tryd.sizeOf46
  v31 := Tryd.zeroValue46
  t46 := Tryd.underlying107
  a46 := Tryd.isAgg107
  z46 := Tryd.sizeOf107
  v46 := Tryd.zeroValue107
  t51 := Tryd.underlying124
  a51 := Tryd.isAgg124
  z51 := Tryd.sizeOf124
  v51 := Tryd.zeroValue124
  t105 := Tryd.underlying102
  a105 := Tryd.isAgg102
  z105 := Tryd.sizeOf102
  v105 := Tryd.zeroValue102
  t119 := Tryd.underlying127
  a119 := Tryd.isAgg127
  z119 := Tryd.sizeOf127
  t138 := Tryd.underlying129
  a138 := Tryd.isAgg129
  z138 := Tryd.sizeOf129
  v138 := Tryd.zeroValue129
  t139 := Tryd.underlying130
  a139 := Tryd.isAgg130
  z139 := Tryd.sizeOf130
  v139 := Tryd.zeroValue130
  t146 := Tryd.underlying125
  a146 := Tryd.isAgg125
  z146 := Tryd.sizeOf125
  v146 := Tryd.zeroValue125
  g1 := by kernel_rfl
  g3 := by kernel_rfl
  g4 := by kernel_rfl }
open Go.RowKit Go.Lib in
theorem Tryd.strings_Split (s sep : ByteArray) (m : Int) (w : World) (hs : s.size < 4294967281) (hm : w.cell? ⟨2, 0, none⟩ = some (.int .i64 m)) (h1 : 1 ≤ sep.size) :
    Calls Tryd.prog 15 #[.string s, .string sep] w fun e w' =>
      e = .returned (.slice (some ⟨w.heap.size, 0, none⟩) (Lib.countB s sep + 1) (Lib.countB s sep + 1)) ∧ w' = w.alloc (.cells ((Lib.splitB sep 0 (Lib.countB s sep) s).map Value.string).toArray 9) := Any.strings_Split Tryd.lays146 (by kernel_rfl) s sep m w hs hm h1
def Tryd.laysNm215_ren : Go.Shelf.Ren := ⟨fun | 15 => 49 | n => n, fun | 22 => 34 | 3 => 3 | 4 => 4 | n => n, fun | n => n⟩
theorem Tryd.laysNm215 : Go.Proofs.Lays2.n15 Tryd.prog Tryd.laysNm215_ren := {
  mixed := by kernel_rfl
  f15 := Tryd.func49.trans (congrArg some (by kernel_rfl))
  t3 := Tryd.underlying3
  a3 := Tryd.isAgg3
  z3 := Tryd.sizeOf3
  v3 := Tryd.zeroValue3
  t4 := Tryd.underlying4
  a4 := Tryd.isAgg4
  z4 := Tryd.sizeOf4
  v4 := Tryd.zeroValue4
  t22 := Tryd.underlying34
  a22 := Tryd.isAgg34
  z22 := Tryd.sizeOf34
  v22 := Tryd.zeroValue34
  i3 := by kernel_rfl }
open Go.RowKit Go.Lib in
theorem Tryd.slices_Clone_int (b off n c : Nat) (zs : List Int) (w : World) (hz : n ≤ zs.length) (hbig : n * 8 ≤ 140737488355328) (hc : ∀ j, j < zs.length → w.cell? ⟨b, off + j, none⟩ = some (.int .i64 (zs.getD j 0))) :
    Calls Tryd.prog 49 #[.slice (some ⟨b, off, none⟩) n c] w fun e w' => ∃ v', e = .returned v' ∧ w'.ownsRow w.heap.size 3 1 v' n ((zs.take n).map (Value.int .i64)) ∧ v' ≠ .slice none 0 0 ∧ Below w.heap.size w w' := Any.slices_Clone_int Tryd.laysNm215 b off n c zs w hz hbig hc
end Go.Proofs
/- bit.row: the numbers of a text's signs. -/
namespace Go.Proofs.YthmfgbjimdondaaDoor.P
open Go.RowKit Go.Proofs.YthmfgbjimdondaaDoorW.PrintWords Go.Proofs.YthmfgbjimdondaaDoorW.PrintLast Go.Proofs.YthmfgbjimdondaaDoorW.PrintMore
set_option linter.unusedVariables false
set_option linter.unusedSimpArgs false

/-- What bit.row makes of a text: nothing is said of texts that are not plain. -/
def RowOf (s : ByteArray) (xs : List Int) : Prop := (∀ b ∈ s.data.toList, b.toNat < 128) → xs = s.data.toList.map sgnB
def RowPart (s : ByteArray) (pos : Nat) (xs : List Int) : Prop := (∀ b ∈ s.data.toList, b.toNat < 128) → xs = (s.data.toList.take pos).map sgnB
theorem width_pos (s : ByteArray) (pos : Nat) (h : pos < s.size) : 1 ≤ (Utf8.decode s pos).2 := by
  by_cases ha : (s[pos]'h).toNat < 128
  · rw [decode_ascii s pos h ha]
    exact Nat.le_refl _
  · exact (decode_high s pos h (by omega)).2

theorem idx3_le (b : UInt8) : Lib.indexByte [45, 46, 43] b ≤ 2 := by
  simp only [Lib.indexByte]
  repeat' split
  all_goals simp

attribute [local go_sem] max2_int min2_int
set_option maxHeartbeats 4000000 in
set_option maxRecDepth 100000 in
theorem row_any (s : ByteArray) (w : World) (hs : s.size ≤ 100000) :
    Calls Tryd.prog 18 #[.string s] w fun e w' => ∃ v xs, e = .returned v ∧ Kd.R (Kd.int .i64) 3 w' w.heap.size (fun _ => True) v xs ∧ xs.length ≤ s.size ∧ RowOf s xs ∧ Below w.heap.size w w' := by
  go_enter Tryd.func18, Tryd.ntmps18
  go_wp2_with fail
  go_loopg [3, 5] s.size (fun gg s3 _ wr => ∃ (pos : Nat) (xs : List Int), s.size - pos ≤ gg ∧ Aside0 (Kd.R (Kd.int .i64) 3 wr w.heap.size (fun k => k ≠ w.heap.size) s3 xs) ∧ wr.heap[w.heap.size]? = some (.stringIter s pos) ∧ Aside0 (Below w.heap.size w wr) ∧ Aside0 (RowPart s pos xs) ∧ xs.length + (s.size - pos) ≤ s.size)
  case atStart =>
    have hit : (w.alloc (.stringIter s 0)).heap[w.heap.size]? = some (.stringIter s 0) := heap_alloc_new w _
    exact ⟨0, [], by omega, ⟨Kd.R_nil _ _ _ _ _⟩, hit, ⟨below_box w _⟩, ⟨fun _ => rfl⟩, by simp⟩
  case round =>
    obtain ⟨pos, xs, hg, HR, hit, HB, HP, hxl⟩ := hrel
    have hlk : w.heap.size < wr.heap.size := (Array.getElem?_eq_some_iff.1 hit).1
    obtain ⟨A, c, ev⟩ := Kd.R_slice HR.out
    subst ev
    by_cases hp : pos < s.size
    · have hnx : ∀ ty, (Instr.next (.pointer (some ⟨w.heap.size, 0, none⟩)) true ty).run Tryd.prog wr = _ := fun ty => Lib.run_next_any_at wr w.heap.size s pos ty hit hp
      have hix := fun c W => Tryd.strings_IndexByte (ByteArray.mk #[45, 46, 43]) c W
      have hwd := width_pos s pos hp
      have hd1 := decode_le s pos
      have HI : Aside0 ((wr.iterAt w.heap.size s (pos + (Utf8.decode s pos).2)).heap[w.heap.size]? = some (.stringIter s (pos + (Utf8.decode s pos).2))) := ⟨Lib.iterAt_heap wr w.heap.size s pos _ hit⟩
      have HR2 : Aside0 (Kd.R (Kd.int .i64) 3 (wr.iterAt w.heap.size s (pos + (Utf8.decode s pos).2)) w.heap.size (fun k => k ≠ w.heap.size) (.slice A xs.length c) xs) := ⟨Kd.R_step HR.out (fun b hok hlt => Lib.iterAt_other wr w.heap.size b s _ hok)⟩
      have HB2 : Aside0 (Below w.heap.size w (wr.iterAt w.heap.size s (pos + (Utf8.decode s pos).2))) := ⟨Lib.below_iterAt HB.out (Nat.le_refl _) s _⟩
      have hlk2 : w.heap.size < (wr.iterAt w.heap.size s (pos + (Utf8.decode s pos).2)).heap.size := by rw [Lib.iterAt_size]; exact hlk
      have HP2 : Aside0 (RowPart s (pos + (Utf8.decode s pos).2) (xs ++ [wrap64 (Lib.indexByte [45, 46, 43] (UInt8.ofNat (min ((Utf8.decode s pos).1 : Int) 127).toNat) - 1)])) := ⟨fun ha => by
        have hb : (s[pos]'hp).toNat < 128 := ha _ (by exact Array.getElem_mem_toList (xs := s.data) hp)
        have hlt : pos < s.data.toList.length := hp
        have hge := Lib.indexByte_ge [45, 46, 43] (s[pos]'hp)
        have hle : Lib.indexByte [45, 46, 43] (s[pos]'hp) ≤ 2 := idx3_le _
        rw [HP.out ha, decode_ascii s pos hp hb, List.take_succ_eq_append_getElem hlt, List.map_append]
        congr 1
        rw [List.map_singleton]
        congr 1
        have e : s.data.toList[pos] = s[pos]'hp := rfl
        rw [e, show (min (((s[pos]'hp).toNat : Nat) : Int) 127).toNat = (s[pos]'hp).toNat by omega, UInt8.ofNat_toNat]
        unfold sgnB
        unfold wrap64
        omega⟩
      clear HR HB HP hit
      generalize wr.iterAt w.heap.size s (pos + (Utf8.decode s pos).2) = w1 at *
      generalize (Utf8.decode s pos).2 = wd at *
      go_wp2_with (first
        | (go_at_call 34; refine (hix _ _).mono ?_; rintro e w2 ⟨rfl, rfl⟩)
        | ((with_reducible refine gate_builtin (b := .append) (xs := #[.tmp 11, .tmp 17]) rfl ?_); at_builtin; go_loud (refine Kd.R_append (Kd.int .i64) (w0 := w) w.heap.size rfl (.tmp 11) (.tmp 17) 34 3 (.int .i64 0) 8 rfl Tryd.underlying34 info3 rfl (by decide) (by omega) (.slice A xs.length c) xs _ [.int .i64 _] (fun k => k ≠ w.heap.size) (fun _ => False) rfl rfl rfl (fun _ hk => hk.elim) (fun k hk => by omega) HR2.out HB2.out (by omega) (by omega) ?_); intro v1 w3 ho hb hg1 hat; have hon := ho; obtain ⟨A1, c1, ev1⟩ := Kd.R_slice hon; subst ev1; have HO := Aside0.mk ho; have HBB := Aside0.mk hb; have HG1 := Aside0.mk hg1; clear ho hb hg1 hat hon))
      go_roundg (s.size - (pos + wd))
      case measure => omega
      case rel =>
        refine ⟨pos + wd, _, Nat.le_refl _, ⟨?_⟩, ?_, HBB, HP2, by simp; omega⟩
        · have := HO.out
          rwa [List.length_append, List.length_singleton] at this
        · exact (HG1.out.block w.heap.size hlk2 (fun e => HR2.out.1 _ e.symm rfl)).trans HI.out
    · have hnx : ∀ ty, (Instr.next (.pointer (some ⟨w.heap.size, 0, none⟩)) true ty).run Tryd.prog wr = _ := fun ty => Lib.run_next_end_at wr w.heap.size s pos ty hit hp
      go_wp2_with fail
      go_ret
      exact ⟨_, xs, rfl, Kd.R_mono HR.out (fun _ _ => trivial), by omega, fun ha => by rw [HP.out ha, List.take_of_length_le (by have : s.size = s.data.toList.length := rfl; omega)], HB.out⟩
end Go.Proofs.YthmfgbjimdondaaDoor.P
/- bit.written and the reference's line: a cell's line. -/
namespace Go.Proofs.YthmfgbjimdondaaDoor.P
open Go.RowKit Go.Proofs.YthmfgbjimdondaaDoorW.PrintWords Go.Proofs.YthmfgbjimdondaaDoorW.PrintLast Go.Proofs.YthmfgbjimdondaaDoorW.PrintMore
open Go.Sort (grow)
set_option linter.unusedVariables false
set_option linter.unusedSimpArgs false

/-- The library's table of powers lies in the world. -/
def Tab (w : World) : Prop := Lib.TabIs Tryd.prog w "internal/strconv.uint64pow10" .u64 Lib.pow10Tab
theorem Tab.below {w w' : World} {B : Nat} (h : Tab w) (hb : Below B w w') (hB : w.heap.size ≤ B) : Tab w' := by
  unfold Tab Lib.TabIs World.var? at *
  cases hg : Program.globalNamed Tryd.prog "internal/strconv.uint64pow10" with
  | none => rw [hg] at h; cases h
  | some g =>
    rw [hg] at h
    simp only [Option.bind_some] at h ⊢
    cases hh : w.heap[g]? with
    | none => rw [hh] at h; cases h
    | some o => rw [hb.block g (Nat.lt_of_lt_of_le (Array.getElem?_eq_some_iff.1 hh).1 hB)]; exact h
theorem itoa_any (n : Int) (h0 : -100 ≤ n) (h1 : n ≤ 100) (w : World) (hT : Tab w) :
    Calls Tryd.prog 41 #[.int .i64 n] w fun e w' => e = .returned (.string ⟨(Lib.itoa n).toArray⟩) ∧ Below w.heap.size w w' :=
  (Tryd.strconv_Itoa n (by omega) (by omega) w hT).mono fun e w' ⟨he, k, os, hw⟩ => ⟨he, by rw [hw]; exact Lib.below_grow _ w (Nat.le_refl _) k os⟩
theorem below_to {B : Nat} {w w' : World} (h : Below w.heap.size w w') (hB : B ≤ w.heap.size) : Below B w w' := h.mono hB
/-- A byte array's bytes. -/
theorem bytes_eq {a b : ByteArray} (h : a.data.toList = b.data.toList) : a = b := by
  cases a; cases b; simp only [ByteArray.mk.injEq]; exact Array.toList_inj.1 h

theorem idxs0 (W : World) : (Instr.index 9 (.string ⟨#[45, 46, 43]⟩) (.int .i64 0)).run Tryd.prog W = .ok (.int .u8 45) W := by
  rw [run_index_string _ _ _ _ _ Tryd.underlying9, dif_pos (by decide)]
  rfl
theorem idxs1 (W : World) : (Instr.index 9 (.string ⟨#[45, 46, 43]⟩) (.int .i64 1)).run Tryd.prog W = .ok (.int .u8 46) W := by
  rw [run_index_string _ _ _ _ _ Tryd.underlying9, dif_pos (by decide)]
  rfl
theorem idxs2 (W : World) : (Instr.index 9 (.string ⟨#[45, 46, 43]⟩) (.int .i64 2)).run Tryd.prog W = .ok (.int .u8 43) W := by
  rw [run_index_string _ _ _ _ _ Tryd.underlying9, dif_pos (by decide)]
  rfl
set_option maxHeartbeats 4000000 in
set_option maxRecDepth 100000 in
theorem written_any (A0 : Option Addr) (c0 : Nat) (row : List Int) (lo hi : Int) (w : World) (hr : Kd.C (Kd.int .i64) w A0 row.length row) (hc : row.length ≤ c0) (hl : row.length ≤ 1000) (ho : okCell row lo hi) (hT : Tab w) :
    Calls Tryd.prog 20 #[.agg #[.slice A0 row.length c0, .int .i64 lo, .int .i64 hi]] w fun e w' => e = .returned (.string ⟨(lineB row lo hi ++ [10]).toArray⟩) ∧ Below w.heap.size w w' := by
  obtain ⟨h0, h1, h2, hs⟩ := ho
  have hu := Tryd.underlying36
  have HLa := Aside0.mk (itoa_round h0 (by omega)).2.2
  have HLb := Aside0.mk (itoa_round (n := hi) (by omega) h2).2.2
  have hI1 : ∀ W : World, Below w.heap.size w W → Calls Tryd.prog 41 #[.int .i64 lo] W fun e w' => e = .returned (.string ⟨(Lib.itoa lo).toArray⟩) ∧ Below W.heap.size W w' := fun W hW => itoa_any lo h0 (by omega) W (hT.below hW (Nat.le_refl _))
  have hI2 : ∀ W : World, Below w.heap.size w W → Calls Tryd.prog 41 #[.int .i64 hi] W fun e w' => e = .returned (.string ⟨(Lib.itoa hi).toArray⟩) ∧ Below W.heap.size W w' := fun W hW => itoa_any hi (by omega) h2 W (hT.below hW (Nat.le_refl _))
  have HR := Aside0.mk hr
  have HS := Aside0.mk hs
  have HTT := Aside0.mk hT
  have HLN : Aside0 (lineB row lo hi ++ [10] = Lib.itoa lo ++ 32 :: (Lib.itoa hi ++ 32 :: row.map signB) ++ [10]) := ⟨rfl⟩
  generalize lineB row lo hi ++ [10] = out at *
  have hq0 : (w.alloc (.cells #[.slice A0 row.length c0, .int .i64 lo, .int .i64 hi] 36)).cell? ⟨w.heap.size, 0, none⟩ = some (.slice A0 row.length c0) := by rw [World.cell?_alloc_at _ _ _ _ rfl]; rfl
  have hq1 : (w.alloc (.cells #[.slice A0 row.length c0, .int .i64 lo, .int .i64 hi] 36)).cell? ⟨w.heap.size, 1, none⟩ = some (.int .i64 lo) := by rw [World.cell?_alloc_at _ _ _ _ rfl]; rfl
  have hq2 : (w.alloc (.cells #[.slice A0 row.length c0, .int .i64 lo, .int .i64 hi] 36)).cell? ⟨w.heap.size, 2, none⟩ = some (.int .i64 hi) := by rw [World.cell?_alloc_at _ _ _ _ rfl]; rfl
  have hbx := below_box w (.cells #[.slice A0 row.length c0, .int .i64 lo, .int .i64 hi] 36)
  clear hr hs hT h0 h1 h2
  obtain ⟨ba, hba⟩ : ∃ b : ByteArray, b = ⟨(Lib.itoa lo).toArray⟩ := ⟨_, rfl⟩
  obtain ⟨bb, hbb⟩ : ∃ b : ByteArray, b = ⟨(Lib.itoa hi).toArray⟩ := ⟨_, rfl⟩
  rw [← hba] at hI1
  rw [← hbb] at hI2
  have hsa : ba.size ≤ 4 := by rw [hba]; exact HLa.out
  have hsb : bb.size ≤ 4 := by rw [hbb]; exact HLb.out
  have HBA := Aside0.mk hba
  have HBB := Aside0.mk hbb
  clear hba hbb
  go_enter Tryd.func20, Tryd.ntmps20
  go_upto_region 1 with (fail)
  generalize hW : w.alloc (.cells #[.slice A0 row.length c0, .int .i64 lo, .int .i64 hi] 36) = W1 at *
  clear hW
  have k0 := cell_regrown hq0
  have k1 := cell_regrown hq1
  have k2 := cell_regrown hq2
  have HBX := Aside0.mk hbx
  have c1 : ∀ d os, Calls Tryd.prog 41 #[.int .i64 lo] (grow (redrawn W1 d) os) fun e w'' => e = .returned (.string ba) ∧ ∃ p : Regrown, w'' = grow (redrawn W1 p.d) p.os := fun d os => Calls.regrown_of (hI1 _ (below_step hbx (below_regrown W1 d os)))
  have c2 : ∀ d os, Calls Tryd.prog 41 #[.int .i64 hi] (grow (redrawn W1 d) os) fun e w'' => e = .returned (.string bb) ∧ ∃ p : Regrown, w'' = grow (redrawn W1 p.d) p.os := fun d os => Calls.regrown_of (hI2 _ (below_step hbx (below_regrown W1 d os)))
  have n1 : ¬ 9223372036854775807 < ba.size + 1 := by omega
  have n2 : ¬ 9223372036854775807 < ba.size + 1 + bb.size := by omega
  have n3 : ¬ 9223372036854775807 < ba.size + 1 + bb.size + 1 := by omega
  clear hI1 hI2 hbx
  refine wp_region_quiet_below (by kernel_rfl) (by kernel_rfl) ?_
  repeat (quiet_step (first | exact c1 _ _ | exact c2 _ _))
  refine wpQuiet_nil ?_
  intro _ hw'
  obtain ⟨⟨dq, osq⟩, hw''⟩ := hw'
  subst hw''
  have hk0 := k0 dq osq
  have hb2 := below_step HBX.out (below_regrown W1 dq osq)
  clear k0 k1 k2 c1 c2 hq0 hq1 hq2 n1 n2 n3
  generalize grow (redrawn W1 (Regrown.mk dq osq).d) (Regrown.mk dq osq).os = W2 at *
  have HB2 := Aside0.mk hb2
  obtain ⟨st, hst⟩ : ∃ st : ByteArray, st = ba ++ ⟨#[32]⟩ ++ bb ++ ⟨#[32]⟩ := ⟨_, rfl⟩
  rw [← hst]
  have hstl : st.size ≤ 10 := by
    have e : (ByteArray.mk #[32]).size = 1 := rfl
    rw [hst]; simp only [ByteArray.size_append, e]; omega
  have HST := Aside0.mk hst
  clear hb2 hst
  go_wp2_with fail
  go_loopg [3, 18] row.length (fun gg s3 s18 wr => ∃ (k : Nat) (sb : ByteArray), k ≤ row.length ∧ row.length - k ≤ gg ∧ s18 = .int .i64 k ∧ s3 = .string sb ∧ sb.size ≤ 10 + k ∧ Aside0 (sb.data.toList = st.data.toList ++ (row.take k).map signB) ∧ Aside0 (wr = W2))
  case atStart => exact ⟨0, st, by omega, by omega, by go_num, rfl, by omega, ⟨by simp⟩, ⟨rfl⟩⟩
  case round =>
    obtain ⟨k, sb, hk, hg, rfl, rfl, hsz, HSB, HWR⟩ := hrel
    have hw := HWR.out
    subst hw
    by_cases hlt : k < row.length
    · have hltz : (k : Int) < (row.length : Int) := by omega
      obtain ⟨ad, cs, e, hcl, hK, hx0⟩ := Kd.C_get HR.out 0 (k : Int) (by omega) (by omega)
      cases e
      rw [Int.toNat_natCast] at hK hx0
      obtain ⟨y, hy⟩ : ∃ y, row.getD k 0 = y := ⟨_, rfl⟩
      rw [hy] at hK
      obtain rfl : cs = [.int .i64 y] := hK
      have hx := hx0 0 _ rfl
      replace hx := (HB2.out.cell (World.block_lt_of_cell? w _ hx)).trans hx
      rw [show k * (Kd.int .i64).sz + 0 = k from by show k * 1 + 0 = k; omega] at hx
      have hyr : inB y (-1) 1 = true := HS.out y (by rw [← hy]; exact mem_getD row 0 k hlt)
      have HTK : Aside0 ((row.take (k + 1)).map signB = (row.take k).map signB ++ [signB y]) := ⟨by rw [List.take_succ_eq_append_getElem hlt, List.map_append, ← hy]; simp [List.getD_eq_getElem?_getD, List.getElem?_eq_getElem hlt]⟩
      clear hx0 hcl hy
      have n1 : ¬ 9223372036854775807 < sb.size + 1 := by omega
      have e0 : IntKind.i64.wrap 0 = 0 := rfl
      have e1 : IntKind.i64.wrap 1 = 1 := rfl
      have e2 : IntKind.i64.wrap 2 = 2 := rfl
      have x0 := idxs0
      have x1 := idxs1
      have x2 := idxs2
      have e43 : Utf8.encode 43 = ⟨#[43]⟩ := rfl
      have e45 : Utf8.encode 45 = ⟨#[45]⟩ := rfl
      have e46 : Utf8.encode 46 = ⟨#[46]⟩ := rfl
      rcases signB_cases hyr with ⟨rfl, es⟩ | ⟨rfl, es⟩ | ⟨rfl, es⟩
      all_goals
        rw [es] at HTK
        clear es hyr
        go_wp2_with fail
        go_roundg (row.length - (k + 1))
        case measure => omega
        case rel =>
          refine ⟨k + 1, _, by omega, by omega, by go_num, rfl, ?_, ⟨?_⟩, ⟨rfl⟩⟩
          · rw [ByteArray.size_append]
            show sb.size + 1 ≤ _
            omega
          · rw [HTK.out, ← List.append_assoc, ← HSB.out]
            simp [ByteArray.data_append]
    · have hltz : ¬ (k : Int) < (row.length : Int) := by omega
      have hke : k = row.length := by omega
      subst hke
      have n1 : ¬ 9223372036854775807 < sb.size + 1 := by omega
      go_wp2_with fail
      go_ret
      refine ⟨show Ending.returned (Value.string (sb ++ ⟨#[10]⟩)) = Ending.returned (Value.string ⟨out.toArray⟩) from ?_, HB2.out⟩
      congr 2
      apply bytes_eq
      rw [HLN.out]
      simp only [ByteArray.data_append, Array.toList_append, HSB.out, HST.out, HBA.out, HBB.out, List.take_length]
      simp
set_option maxHeartbeats 4000000 in
set_option maxRecDepth 100000 in
theorem line_any (A0 : Option Addr) (c0 : Nat) (row : List Int) (lo hi : Int) (w : World) (hr : Kd.C (Kd.int .i64) w A0 row.length row) (hc : row.length ≤ c0) (hl : row.length ≤ 1000) (ho : okCell row lo hi) (hT : Tab w) :
    Calls Tryd.prog 23 #[.agg #[.slice A0 row.length c0, .int .i64 lo, .int .i64 hi]] w fun e w' => e = .returned (.string ⟨(lineB row lo hi).toArray⟩) ∧ Below w.heap.size w w' := by
  obtain ⟨h0, h1, h2, hs⟩ := ho
  have hu := Tryd.underlying36
  have HLa := Aside0.mk (itoa_round h0 (by omega)).2.2
  have HLb := Aside0.mk (itoa_round (n := hi) (by omega) h2).2.2
  have hI1 : ∀ W : World, Below w.heap.size w W → Calls Tryd.prog 41 #[.int .i64 lo] W fun e w' => e = .returned (.string ⟨(Lib.itoa lo).toArray⟩) ∧ Below W.heap.size W w' := fun W hW => itoa_any lo h0 (by omega) W (hT.below hW (Nat.le_refl _))
  have hI2 : ∀ W : World, Below w.heap.size w W → Calls Tryd.prog 41 #[.int .i64 hi] W fun e w' => e = .returned (.string ⟨(Lib.itoa hi).toArray⟩) ∧ Below W.heap.size W w' := fun W hW => itoa_any hi (by omega) h2 W (hT.below hW (Nat.le_refl _))
  have HR := Aside0.mk hr
  have HS := Aside0.mk hs
  have HTT := Aside0.mk hT
  have HLN : Aside0 (lineB row lo hi = Lib.itoa lo ++ 32 :: (Lib.itoa hi ++ 32 :: row.map signB)) := ⟨rfl⟩
  generalize lineB row lo hi = out at *
  have hq0 : (w.alloc (.cells #[.slice A0 row.length c0, .int .i64 lo, .int .i64 hi] 36)).cell? ⟨w.heap.size, 0, none⟩ = some (.slice A0 row.length c0) := by rw [World.cell?_alloc_at _ _ _ _ rfl]; rfl
  have hq1 : (w.alloc (.cells #[.slice A0 row.length c0, .int .i64 lo, .int .i64 hi] 36)).cell? ⟨w.heap.size, 1, none⟩ = some (.int .i64 lo) := by rw [World.cell?_alloc_at _ _ _ _ rfl]; rfl
  have hq2 : (w.alloc (.cells #[.slice A0 row.length c0, .int .i64 lo, .int .i64 hi] 36)).cell? ⟨w.heap.size, 2, none⟩ = some (.int .i64 hi) := by rw [World.cell?_alloc_at _ _ _ _ rfl]; rfl
  have hbx := below_box w (.cells #[.slice A0 row.length c0, .int .i64 lo, .int .i64 hi] 36)
  clear hr hs hT h0 h1 h2
  obtain ⟨ba, hba⟩ : ∃ b : ByteArray, b = ⟨(Lib.itoa lo).toArray⟩ := ⟨_, rfl⟩
  obtain ⟨bb, hbb⟩ : ∃ b : ByteArray, b = ⟨(Lib.itoa hi).toArray⟩ := ⟨_, rfl⟩
  rw [← hba] at hI1
  rw [← hbb] at hI2
  have hsa : ba.size ≤ 4 := by rw [hba]; exact HLa.out
  have hsb : bb.size ≤ 4 := by rw [hbb]; exact HLb.out
  have HBA := Aside0.mk hba
  have HBB := Aside0.mk hbb
  clear hba hbb
  go_enter Tryd.func23, Tryd.ntmps23
  go_upto_region 1 with (fail)
  generalize hW : w.alloc (.cells #[.slice A0 row.length c0, .int .i64 lo, .int .i64 hi] 36) = W1 at *
  clear hW
  have k0 := cell_regrown hq0
  have k1 := cell_regrown hq1
  have k2 := cell_regrown hq2
  have HBX := Aside0.mk hbx
  have c1 : ∀ d os, Calls Tryd.prog 41 #[.int .i64 lo] (grow (redrawn W1 d) os) fun e w'' => e = .returned (.string ba) ∧ ∃ p : Regrown, w'' = grow (redrawn W1 p.d) p.os := fun d os => Calls.regrown_of (hI1 _ (below_step hbx (below_regrown W1 d os)))
  have c2 : ∀ d os, Calls Tryd.prog 41 #[.int .i64 hi] (grow (redrawn W1 d) os) fun e w'' => e = .returned (.string bb) ∧ ∃ p : Regrown, w'' = grow (redrawn W1 p.d) p.os := fun d os => Calls.regrown_of (hI2 _ (below_step hbx (below_regrown W1 d os)))
  have n1 : ¬ 9223372036854775807 < ba.size + 1 := by omega
  have n2 : ¬ 9223372036854775807 < ba.size + 1 + bb.size := by omega
  have n3 : ¬ 9223372036854775807 < ba.size + 1 + bb.size + 1 := by omega
  clear hI1 hI2 hbx
  refine wp_region_quiet_below (by kernel_rfl) (by kernel_rfl) ?_
  repeat (quiet_step (first | exact c1 _ _ | exact c2 _ _))
  refine wpQuiet_nil ?_
  intro _ hw'
  obtain ⟨⟨dq, osq⟩, hw''⟩ := hw'
  subst hw''
  have hk0 := k0 dq osq
  have hb2 := below_step HBX.out (below_regrown W1 dq osq)
  clear k0 k1 k2 c1 c2 hq0 hq1 hq2 n1 n2 n3
  generalize grow (redrawn W1 (Regrown.mk dq osq).d) (Regrown.mk dq osq).os = W2 at *
  have HB2 := Aside0.mk hb2
  obtain ⟨st, hst⟩ : ∃ st : ByteArray, st = ba ++ ⟨#[32]⟩ ++ bb ++ ⟨#[32]⟩ := ⟨_, rfl⟩
  rw [← hst]
  have hstl : st.size ≤ 10 := by
    have e : (ByteArray.mk #[32]).size = 1 := rfl
    rw [hst]; simp only [ByteArray.size_append, e]; omega
  have HST := Aside0.mk hst
  clear hb2 hst
  go_wp2_with fail
  go_loopg [3, 18] row.length (fun gg s3 s18 wr => ∃ (k : Nat) (sb : ByteArray), k ≤ row.length ∧ row.length - k ≤ gg ∧ s18 = .int .i64 k ∧ s3 = .string sb ∧ sb.size ≤ 10 + k ∧ Aside0 (sb.data.toList = st.data.toList ++ (row.take k).map signB) ∧ Aside0 (wr = W2))
  case atStart => exact ⟨0, st, by omega, by omega, by go_num, rfl, by omega, ⟨by simp⟩, ⟨rfl⟩⟩
  case round =>
    obtain ⟨k, sb, hk, hg, rfl, rfl, hsz, HSB, HWR⟩ := hrel
    have hw := HWR.out
    subst hw
    by_cases hlt : k < row.length
    · have hltz : (k : Int) < (row.length : Int) := by omega
      obtain ⟨ad, cs, e, hcl, hK, hx0⟩ := Kd.C_get HR.out 0 (k : Int) (by omega) (by omega)
      cases e
      rw [Int.toNat_natCast] at hK hx0
      obtain ⟨y, hy⟩ : ∃ y, row.getD k 0 = y := ⟨_, rfl⟩
      rw [hy] at hK
      obtain rfl : cs = [.int .i64 y] := hK
      have hx := hx0 0 _ rfl
      replace hx := (HB2.out.cell (World.block_lt_of_cell? w _ hx)).trans hx
      rw [show k * (Kd.int .i64).sz + 0 = k from by show k * 1 + 0 = k; omega] at hx
      have hyr : inB y (-1) 1 = true := HS.out y (by rw [← hy]; exact mem_getD row 0 k hlt)
      have HTK : Aside0 ((row.take (k + 1)).map signB = (row.take k).map signB ++ [signB y]) := ⟨by rw [List.take_succ_eq_append_getElem hlt, List.map_append, ← hy]; simp [List.getD_eq_getElem?_getD, List.getElem?_eq_getElem hlt]⟩
      clear hx0 hcl hy
      have n1 : ¬ 9223372036854775807 < sb.size + 1 := by omega
      have e0 : IntKind.i64.wrap 0 = 0 := rfl
      have e1 : IntKind.i64.wrap 1 = 1 := rfl
      have e2 : IntKind.i64.wrap 2 = 2 := rfl
      have x0 := idxs0
      have x1 := idxs1
      have x2 := idxs2
      have e43 : Utf8.encode 43 = ⟨#[43]⟩ := rfl
      have e45 : Utf8.encode 45 = ⟨#[45]⟩ := rfl
      have e46 : Utf8.encode 46 = ⟨#[46]⟩ := rfl
      rcases signB_cases hyr with ⟨rfl, es⟩ | ⟨rfl, es⟩ | ⟨rfl, es⟩
      all_goals
        rw [es] at HTK
        clear es hyr
        go_wp2_with fail
        go_roundg (row.length - (k + 1))
        case measure => omega
        case rel =>
          refine ⟨k + 1, _, by omega, by omega, by go_num, rfl, ?_, ⟨?_⟩, ⟨rfl⟩⟩
          · rw [ByteArray.size_append]
            show sb.size + 1 ≤ _
            omega
          · rw [HTK.out, ← List.append_assoc, ← HSB.out]
            simp [ByteArray.data_append]
    · have hltz : ¬ (k : Int) < (row.length : Int) := by omega
      have hke : k = row.length := by omega
      subst hke
      have n1 : ¬ 9223372036854775807 < sb.size + 1 := by omega
      go_wp2_with fail
      go_ret
      refine ⟨show Ending.returned (Value.string sb) = Ending.returned (Value.string ⟨out.toArray⟩) from ?_, HB2.out⟩
      congr 2
      apply bytes_eq
      rw [HLN.out]
      simp only [ByteArray.data_append, Array.toList_append, HSB.out, HST.out, HBA.out, HBB.out, List.take_length]
      simp
end Go.Proofs.YthmfgbjimdondaaDoor.P
/- A law of my own for ranges over a function: the iterator may write cells of its own between two rounds, and hand them to the body. -/
namespace Go.Proofs.YthmfgbjimdondaaDoor.P
open Go.RowKit Go.Proofs.YthmfgbjimdondaaDoorW.PrintWords Go.Proofs.YthmfgbjimdondaaDoorW.PrintLast Go.Proofs.YthmfgbjimdondaaDoorW.PrintMore
set_option linter.unusedVariables false
set_option linter.unusedSimpArgs false

/-- What lay in G's blocks lies there still. -/
def Moves (G : Nat → Prop) (A B : World) : Prop := A.heap.size ≤ B.heap.size ∧ ∀ k, k < A.heap.size → G k → B.heap[k]? = A.heap[k]?
theorem Moves.refl (G : Nat → Prop) (A : World) : Moves G A A := ⟨Nat.le_refl _, fun _ _ _ => rfl⟩
theorem Moves.mono {G G' : Nat → Prop} {A B : World} (h : Moves G A B) (hg : ∀ k, G' k → G k) : Moves G' A B := ⟨h.1, fun k hk hG => h.2 k hk (hg k hG)⟩
theorem Moves.put {G : Nat → Prop} {A : World} {l : Nat} (o : Obj) (hl : ¬ G l) : Moves G A (A.putObj l o) := ⟨by simp, fun k _ hG => World.putObj_heap_other (fun e => hl (e ▸ hG))⟩
/-- All blocks of w's but those of S lie as they lay. -/
structure KeptO (w W : World) (S : Nat → Prop) : Prop where
  os : W.os = w.os
  tape : W.tape = w.tape
  output : W.output = w.output
  size : w.heap.size ≤ W.heap.size
  blk : ∀ i, i < w.heap.size → ¬ S i → W.heap[i]? = w.heap[i]?
theorem KeptO.of_below {w W : World} (h : Below w.heap.size w W) (S : Nat → Prop) : KeptO w W S := ⟨h.os, h.tape, h.output, h.size, fun i hi _ => h.block i hi⟩
theorem KeptO.mono {w W : World} {S S' : Nat → Prop} (h : KeptO w W S) (hs : ∀ k, S k → S' k) : KeptO w W S' := ⟨h.os, h.tape, h.output, h.size, fun i hi hn => h.blk i hi (fun hk => hn (hs i hk))⟩
theorem KeptO.below {w W : World} {S : Nat → Prop} {B : Nat} (h : KeptO w W S) (hB : B ≤ w.heap.size) (hS : ∀ k, S k → B ≤ k) : Below B w W := ⟨h.os, h.tape, h.output, h.size, fun k hk => h.blk k (by omega) (fun hs => by have := hS k hs; omega)⟩
theorem kept_put (A : World) (l : Nat) (o : Obj) {G : Nat → Prop} (hl : G l) : KeptO A (A.putObj l o) G := ⟨rfl, rfl, rfl, by simp, fun k _ hG => World.putObj_heap_other (fun e => hG (e ▸ hl))⟩
theorem kept_more {A B C : World} {G G' : Nat → Prop} (h : KeptO A B G) (k : KeptO B C G') (hg : ∀ i, G' i → i < A.heap.size → G i) : KeptO A C G :=
  ⟨k.os.trans h.os, k.tape.trans h.tape, k.output.trans h.output, Nat.le_trans h.size k.size, fun i hi hG => (k.blk i (Nat.lt_of_lt_of_le hi h.size) (fun h' => hG (hg i h' hi))).trans (h.blk i hi hG)⟩
theorem KeptO.drewN {w W : World} {S : Nat → Prop} (h : KeptO w W S) (m : Nat) : KeptO w (W.drewN m) S := ⟨h.os, h.tape, h.output, h.size, h.blk⟩

/-- What a round may add to the blocks that its invariant speaks of: new ones, and what it was given. -/
def Adds (give : Prop) (T G G' : Nat → Prop) (W : World) : Prop := ∀ k, G' k → G k ∨ W.heap.size ≤ k ∨ (give ∧ T k)
/-- AN ITERATOR's CONTRACT. Enc x vs T W: the values vs stand for x in W; T: the blocks that this hangs on; R0: its own old blocks; Wt: those of them that it writes. -/
def SeqF {α : Type} (P : Program) (g : Nat) (lb : Array Value) (Enc : α → Array Value → (Nat → Prop) → World → Prop) (give : Prop) (R0 Wt : Nat → Prop) (S Sp : List α → Prop) (N : Nat) (w : World) : Prop :=
  ∀ (l : Nat) (J Jx : List α → (Nat → Prop) → World → Prop) (G0 : Nat → Prop) (W : World), Below w.heap.size w W →
    (∀ s G A B, J s G A → Moves G A B → J s G B) → (∀ s G A B, Jx s G A → Moves G A B → Jx s G B) →
    (∀ pre x vs T G W1, J pre G W1 → Enc x vs T W1 → (∀ k, T k → ¬ G k ∧ k < W1.heap.size) → pre.length < N → YieldAt Fence.wide 0 P l vs W1 fun e W' =>
      (e = .returned (.bool true) ∧ ∃ G', J (pre ++ [x]) G' W' ∧ KeptO W1 W' G ∧ Adds give T G G' W1) ∨ (e = .returned (.bool false) ∧ ∃ G', Jx (pre ++ [x]) G' W' ∧ KeptO W1 W' G ∧ Adds give T G G' W1)) →
    (∀ k, G0 k → k < W.heap.size ∧ ¬ R0 k) → J [] G0 W →
    Calls P g (#[.func (.yield l) #[] #[]] ++ lb) W fun e W' => (∃ v, e = .returned v) ∧ KeptO W W' (fun k => G0 k ∨ Wt k) ∧ ∃ s G, (S s ∧ J s G W') ∨ (Sp s ∧ Jx s G W')
/-- How the body of a round may be left. -/
def ownPostF {α : Type} (give : Prop) (T G : Nat → Prop) (I : List α → (Nat → Prop) → World → Prop) (Ix : Code → List α → (Nat → Prop) → World → Prop) (xs : List α) (W : World) : Exit → Act → World → Prop
  | .normal, _, W' => ∃ G', I xs G' W' ∧ KeptO W W' G ∧ Adds give T G G' W
  | .ret, _, W' => ∃ G', Ix .ret xs G' W' ∧ KeptO W W' G ∧ Adds give T G G' W
  | .exit id, _, W' => ∃ G', Ix (.exit id) xs G' W' ∧ KeptO W W' G ∧ Adds give T G G' W
  | .goto t, _, W' => ∃ G', Ix (.goto t) xs G' W' ∧ KeptO W W' G ∧ Adds give T G G' W
  | .panic _, _, _ => False
  | .outgrown, _, _ => False

section
variable {α : Type} {P : Program} {g : Operand} {ps : Array Tmp} {assign body : Code} {Q : Exit → Act → World → Prop} {a : Act} {w : World} {n : Nat}
theorem round_one {rec : LoopState → Option Code → Loop} {fn : FuncId} {dfs : Nat} (hrec : rec = fun st pe => { state := st, pending := pe, fn, tmps := a.tmps, params := ps, assign, body, defers := dfs })
    {Enc : α → Array Value → (Nat → Prop) → World → Prop} {give : Prop} (hEnc : ∀ x vs T A B, Enc x vs T A → Moves T A B → Enc x vs T B) (hps : ∀ x vs T W, Enc x vs T W → vs.size = ps.size)
    (I : List α → (Nat → Prop) → World → Prop) (Ix : Code → List α → (Nat → Prop) → World → Prop) (hI : ∀ s G A B, I s G A → Moves G A B → I s G B) (hIx : ∀ c s G A B, Ix c s G A → Moves G A B → Ix c s G B)
    (Ax : Array Value → World → Act → World → Prop) (B : Nat) (l : Nat) (K : Nat → Prop) (hK : ∀ k, K k → k ≠ l)
    (hassign : ∀ (x : α) (vs : Array Value) (T : Nat → Prop) (W : World) (K : Act → World → Prop), Enc x vs T W → (∀ a' Wa, Below W.heap.size W Wa → Ax vs W a' Wa → K a' Wa) → assign.wpIn (Fence.wide.inRound l) 0 P (Exit.then K (fun _ _ _ => False)) { tmps := (ps.zip vs).foldl (fun t (p, v) => t.setIfInBounds p v) a.tmps, defers := [] } W)
    (pre : List α) (x : α) (vs : Array Value) (T G : Nat → Prop) (W : World) (hi : I pre G W) (hl : W.heap[l]? = some (.loop (rec .ready none))) (he : Enc x vs T W) (hT : ∀ k, T k → ¬ (G k ∨ k = l ∨ K k) ∧ k < W.heap.size) (hGl : ¬ G l ∧ ∀ k, K k → ¬ G k) (hKW : ∀ k, K k → k < W.heap.size)
    (hbody : ∀ (a' : Act) (Wa Wb : World), Below W.heap.size W Wa → Ax vs W a' Wa → Moves (fun k => k ≠ l) Wa Wb → Wb.heap.size = Wa.heap.size → l < Wb.heap.size → (∃ r, Wb.heap[l]? = some (.loop r)) → I pre G Wb → Enc x vs T Wb → (∀ k, T k → ¬ G k ∧ k ≠ l ∧ k < Wb.heap.size) → ¬ G l → body.wpIn (Fence.wide.inRound l) 0 P (ownPostF give T G I Ix (pre ++ [x]) Wb) a' Wb) :
    YieldAt Fence.wide 0 P l vs W fun e W' =>
      (e = .returned (.bool true) ∧ ∃ G', I (pre ++ [x]) G' W' ∧ W'.heap[l]? = some (.loop (rec .ready none)) ∧ KeptO W W' (fun k => G k ∨ k = l) ∧ Adds give T G G' W) ∨
      (e = .returned (.bool false) ∧ ∃ c G', Ix c (pre ++ [x]) G' W' ∧ W'.heap[l]? = some (.loop (rec .done (some c))) ∧ KeptO W W' (fun k => G k ∨ k = l) ∧ Adds give T G G' W) := by
  have hlt : l < W.heap.size := (Array.getElem?_eq_some_iff.1 hl).1
  have hy := run_yield (P := P) (args := vs) hl (by rw [hrec]; exact hps x vs T W he)
  rw [hrec] at hy
  refine ⟨fn, _, assign, body, hy, roundIn_of_wpIn (by trivial) (hassign x vs T W _ he ?_)⟩
  clear hy
  intro a' Wa hba hax
  have hla : Wa.heap[l]? = some (.loop (rec .ready none)) := (hba.block l hlt).trans hl
  have hlta : l < Wa.heap.size := Nat.lt_of_lt_of_le hlt hba.size
  refine ⟨_, run_beginRound hla (by rw [hrec]), ?_⟩
  have hl2 : (Wa.putObj l (.loop { rec .ready none with state := .busy })).heap[l]? = some (.loop { rec .ready none with state := .busy }) := World.putObj_heap_same hlta
  have hsz : (Wa.putObj l (.loop { rec .ready none with state := .busy })).heap.size = Wa.heap.size := by simp
  have hk2 : KeptO W (Wa.putObj l (.loop { rec .ready none with state := .busy })) (fun k => G k ∨ k = l) := kept_more (KeptO.of_below hba _) (kept_put (G := fun k => k = l) _ _ _ rfl) (fun i h _ => .inr h)
  have hmv : ∀ G : Nat → Prop, Moves G W Wa := fun G => ⟨hba.size, fun k hk _ => hba.block k hk⟩
  refine wpIn_mono (hbody a' Wa _ hba hax (Moves.put _ (fun h => h rfl)) hsz (by rw [hsz]; exact hlta) ⟨_, hl2⟩ (hI _ _ _ _ (hI _ _ _ _ hi (hmv _)) (Moves.put _ hGl.1)) (hEnc _ _ _ _ _ (hEnc _ _ _ _ _ he (hmv _)) (Moves.put _ (fun h => (hT _ h).1 (.inr (.inl rfl)))))
    (fun k hk => ⟨fun h => (hT k hk).1 (.inl h), fun h => (hT k hk).1 (.inr (.inl h)), by rw [hsz]; exact Nat.lt_of_lt_of_le (hT k hk).2 hba.size⟩) hGl.1) ?_
  have fin : ∀ (jump : Option Code) (G' : Nat → Prop) (W3 : World), KeptO (Wa.putObj l (.loop { rec .ready none with state := .busy })) W3 G → Adds give T G G' (Wa.putObj l (.loop { rec .ready none with state := .busy })) →
      (Instr.endRound l jump).run P W3 = .ok (.bool jump.isNone) (W3.putObj l (.loop (rec (if jump.isNone then .ready else .done) jump))) ∧
      (W3.putObj l (.loop (rec (if jump.isNone then .ready else .done) jump))).heap[l]? = some (.loop (rec (if jump.isNone then .ready else .done) jump)) ∧
      KeptO W (W3.putObj l (.loop (rec (if jump.isNone then .ready else .done) jump))) (fun k => G k ∨ k = l) ∧ Adds give T G G' W ∧ ¬ G' l := fun jump G' W3 hk3 ha => by
    have hl3 := (hk3.blk l (by rw [hsz]; exact hlta) hGl.1).trans hl2
    have := run_endRound (P := P) jump hl3
    rw [hrec] at this ⊢
    refine ⟨this, World.putObj_heap_same (Array.getElem?_eq_some_iff.1 hl3).1, ?_, ?_, ?_⟩
    · rw [hrec] at hk2 hk3
      refine kept_more (kept_more hk2 hk3 (fun i h _ => .inl h)) (kept_put (G := fun k => k = l) _ _ _ rfl) (fun i h _ => .inr h)
    · intro k hk
      rcases ha k hk with h | h | h
      · exact .inl h
      · exact .inr (.inl (by rw [hsz] at h; exact Nat.le_trans hba.size h))
      · exact .inr (.inr h)
    · intro h
      rcases ha l h with h | h | h
      · exact hGl.1 h
      · rw [hsz] at h; omega
      · exact (hT l h.2).1 (.inr (.inl rfl))
  rintro e a3 W3 hp
  cases e with
  | normal =>
    obtain ⟨G', hi3, hk3, ha⟩ := hp
    obtain ⟨hr, hl4, hk4, ha4, hn⟩ := fin none G' W3 hk3 ha
    exact ⟨_, _, hr, .inl ⟨rfl, G', hI _ _ _ _ hi3 (Moves.put _ hn), hl4, hk4, ha4⟩⟩
  | ret =>
    obtain ⟨G', hi3, hk3, ha⟩ := hp
    obtain ⟨hr, hl4, hk4, ha4, hn⟩ := fin (some .ret) G' W3 hk3 ha
    exact ⟨_, _, hr, .inr ⟨rfl, .ret, G', hIx _ _ _ _ _ hi3 (Moves.put _ hn), hl4, hk4, ha4⟩⟩
  | exit id =>
    obtain ⟨G', hi3, hk3, ha⟩ := hp
    obtain ⟨hr, hl4, hk4, ha4, hn⟩ := fin (some (.exit id)) G' W3 hk3 ha
    exact ⟨_, _, hr, .inr ⟨rfl, .exit id, G', hIx _ _ _ _ _ hi3 (Moves.put _ hn), hl4, hk4, ha4⟩⟩
  | goto t =>
    obtain ⟨G', hi3, hk3, ha⟩ := hp
    obtain ⟨hr, hl4, hk4, ha4, hn⟩ := fin (some (.goto t)) G' W3 hk3 ha
    exact ⟨_, _, hr, .inr ⟨rfl, .goto t, G', hIx _ _ _ _ _ hi3 (Moves.put _ hn), hl4, hk4, ha4⟩⟩
  | panic ch => exact hp.elim
  | outgrown => exact hp.elim

theorem adds_not {give : Prop} {T G G' : Nat → Prop} {W : World} {l : Nat} (h : Adds give T G G' W) (h1 : ¬ G l) (h2 : l < W.heap.size) (h3 : ¬ T l) : ¬ G' l := fun hk => by
  rcases h l hk with h | h | h
  · exact h1 h
  · omega
  · exact h3 h.2
/-- THE LAW, at a loop that stands in no round. -/
theorem wpIn_range_outer {gf : Nat} {lb : Array Value} (hg : a.eval g = .func (.func gf) #[] lb) (eg : ∀ args w, (callFunc gf args).run P w = .ok (.enter gf args) w)
    {Enc : α → Array Value → (Nat → Prop) → World → Prop} {give : Prop} {R0 Wt : Nat → Prop} {S Sp : List α → Prop} {N : Nat} {w0 : World} (hseq : SeqF P gf lb Enc give R0 Wt S Sp N w0) (hR0 : ∀ k, R0 k → k < w0.heap.size) (hb0 : Below w0.heap.size w0 w)
    (hEnc : ∀ x vs T A B, Enc x vs T A → Moves T A B → Enc x vs T B) (hps : ∀ x vs T W, Enc x vs T W → vs.size = ps.size)
    (I : List α → (Nat → Prop) → World → Prop) (Ix : Code → List α → (Nat → Prop) → World → Prop) (hI : ∀ s G A B, I s G A → Moves G A B → I s G B) (hIx : ∀ c s G A B, Ix c s G A → Moves G A B → Ix c s G B)
    (G0 : Nat → Prop) (hG0 : ∀ k, G0 k → k < w.heap.size) (hGR : ∀ k, G0 k → ¬ R0 k) (h0 : I [] G0 w) (Ax : Array Value → World → Act → World → Prop)
    (hassign : ∀ (l : Nat) (x : α) (vs : Array Value) (T : Nat → Prop) (W : World) (K : Act → World → Prop), Enc x vs T W → (∀ a' Wa, Below W.heap.size W Wa → Ax vs W a' Wa → K a' Wa) → assign.wpIn (Fence.wide.inRound l) 0 P (Exit.then K (fun _ _ _ => False)) { tmps := (ps.zip vs).foldl (fun t (p, v) => t.setIfInBounds p v) a.tmps, defers := [] } W)
    (hbody : ∀ (l : Nat) (pre : List α) (x : α) (vs : Array Value) (T G : Nat → Prop) (W Wa Wb : World) (a' : Act), w.heap.size ≤ l → l < W.heap.size → Below W.heap.size W Wa → Ax vs W a' Wa → Moves (fun k => k ≠ l) Wa Wb → Wb.heap.size = Wa.heap.size → (∃ r, Wb.heap[l]? = some (.loop r)) → I pre G Wb → Enc x vs T Wb →
      (∀ k, T k → ¬ G k ∧ k ≠ l ∧ k < Wb.heap.size) → ¬ G l → pre.length < N → body.wpIn (Fence.wide.inRound l) 0 P (ownPostF give T G I Ix (pre ++ [x]) Wb) a' Wb)
    (hdone : ∀ (D : Nat) (xs : List α) (G : Nat → Prop) (W : World), w.heap.size ≤ D → W.heap[D]? = some (.deferred (some [])) → ¬ G D → S xs → I xs G W → KeptO w W (fun k => G0 k ∨ Wt k) → Q .normal { a with defers := { target := .collected D, args := #[] } :: a.defers } W)
    (hstop : ∀ (D : Nat) (c : Code) (pre : List α) (G : Nat → Prop) (W : World), w.heap.size ≤ D → W.heap[D]? = some (.deferred (some [])) → ¬ G D → Sp pre → Ix c pre G W → KeptO w W (fun k => G0 k ∨ Wt k) → c.wpIn Fence.wide n P Q { a with defers := { target := .collected D, args := #[] } :: a.defers } W) :
    (Code.rangeFunc g ps assign body).wpIn Fence.wide n P Q a w := by
  refine wpIn_rangeFunc ?_
  intro fn hfn
  obtain ⟨rec, hrec⟩ : ∃ rec : LoopState → Option Code → Loop, rec = fun st pe => { state := st, pending := pe, fn, tmps := a.tmps, params := ps, assign, body, defers := w.heap.size } := ⟨_, rfl⟩
  obtain ⟨W1, hW1⟩ : ∃ W1, (w.alloc (.deferred (some []))).alloc (.loop (rec .ready none)) = W1 := ⟨_, rfl⟩
  have hL1 : W1.heap[w.heap.size + 1]? = some (.loop (rec .ready none)) := by
    rw [← hW1]; have := World.alloc_heap_new (w.alloc (.deferred (some []))) (.loop (rec .ready none)); rwa [World.size_alloc] at this
  have hK1 : W1.heap[w.heap.size]? = some (.deferred (some [])) := by
    rw [← hW1]; exact (Below.heap_alloc _ _ _ (by simp)).trans (World.alloc_heap_new w _)
  have hbw : Below w.heap.size w W1 := by
    rw [← hW1]; exact ((Below.refl _ w).alloc (Nat.le_refl _) _).alloc (by simp) _
  have hs1 : W1.heap.size = w.heap.size + 2 := by rw [← hW1]; simp
  have hb1 : Below w0.heap.size w0 W1 := hb0.trans (hbw.mono hb0.size)
  have hI1 : I [] G0 W1 := hI _ _ _ _ h0 ⟨hbw.size, fun k hk _ => hbw.block k hk⟩
  refine ⟨w.heap.size + 1, [{ target := .collected w.heap.size, args := #[] }], W1, { target := .fn (.func gf) lb, args := #[.func (.yield (w.heap.size + 1)) #[] #[]] }, W1, gf,
    #[.func (.yield (w.heap.size + 1)) #[] #[]] ++ lb, W1, ?_, ?_, ?_, ?_, fun h => by simp [Fence.wide] at h, ?_⟩
  · rw [← hW1, hrec]; exact run_enterLoop_outer _ _ _ _ _
  · simp only [resolve, hg]
    simp [go_sem]
  · intro f' hf'; trivial
  · simp [invoke, go_sem, eg]
  · have hcall := hseq (w.heap.size + 1)
      (fun pre G W => ∃ GI : Nat → Prop, (∀ k, G k ↔ GI k ∨ k = w.heap.size + 1 ∨ k = w.heap.size) ∧ ¬ GI (w.heap.size + 1) ∧ ¬ GI w.heap.size ∧ I pre GI W ∧ W.heap[w.heap.size + 1]? = some (.loop (rec .ready none)) ∧ W.heap[w.heap.size]? = some (.deferred (some [])))
      (fun pre G W => ∃ (GI : Nat → Prop) (c : Code), (∀ k, G k ↔ GI k ∨ k = w.heap.size + 1 ∨ k = w.heap.size) ∧ ¬ GI (w.heap.size + 1) ∧ ¬ GI w.heap.size ∧ Ix c pre GI W ∧ W.heap[w.heap.size + 1]? = some (.loop (rec .done (some c))) ∧ W.heap[w.heap.size]? = some (.deferred (some [])))
      (fun k => G0 k ∨ k = w.heap.size + 1 ∨ k = w.heap.size) W1 hb1
      (fun s G A B ⟨GI, hG, n1, n2, hi, hl, hk⟩ hm => ⟨GI, hG, n1, n2, hI _ _ _ _ hi (hm.mono (fun k h => (hG k).2 (.inl h))), (hm.2 _ (Array.getElem?_eq_some_iff.1 hl).1 ((hG _).2 (.inr (.inl rfl)))).trans hl, (hm.2 _ (Array.getElem?_eq_some_iff.1 hk).1 ((hG _).2 (.inr (.inr rfl)))).trans hk⟩)
      (fun s G A B ⟨GI, c, hG, n1, n2, hi, hl, hk⟩ hm => ⟨GI, c, hG, n1, n2, hIx _ _ _ _ _ hi (hm.mono (fun k h => (hG k).2 (.inl h))), (hm.2 _ (Array.getElem?_eq_some_iff.1 hl).1 ((hG _).2 (.inr (.inl rfl)))).trans hl, (hm.2 _ (Array.getElem?_eq_some_iff.1 hk).1 ((hG _).2 (.inr (.inr rfl)))).trans hk⟩)
      ?round (fun k hk => by
        have hle := hb0.size
        rcases hk with h | h | h
        · exact ⟨by have := hG0 k h; omega, hGR k h⟩
        · exact ⟨by omega, fun hr => by have := hR0 k hr; omega⟩
        · exact ⟨by omega, fun hr => by have := hR0 k hr; omega⟩)
      ⟨G0, fun k => Iff.rfl, fun h => by have := hG0 _ h; omega, fun h => by have := hG0 _ h; omega, hI1, hL1, hK1⟩
    case round =>
      rintro pre x vs T G W ⟨GI, hG, n1, n2, hi, hl, hk⟩ he hT hlen
      have hDl : w.heap.size < W.heap.size := (Array.getElem?_eq_some_iff.1 hk).1
      have hll : w.heap.size + 1 < W.heap.size := (Array.getElem?_eq_some_iff.1 hl).1
      refine (round_one (P := P) (a := a) (give := give) hrec hEnc hps I Ix hI hIx Ax 0 (w.heap.size + 1) (fun k => k = w.heap.size) (fun k h => by omega) (fun x vs T W K he h => hassign _ x vs T W K he h) pre x vs T GI W hi hl he
        (fun k h => ⟨fun h' => (hT k h).1 ((hG k).2 h'), (hT k h).2⟩) ⟨n1, fun k h => h ▸ n2⟩ (fun k h => h ▸ hDl) (fun a' Wa Wb hba hax hmv hsz hlw hr hi' he' hT' hn => hbody _ pre x vs T GI W Wa Wb a' (by omega) hll hba hax hmv hsz hr hi' he' hT' hn hlen)).mono ?_
      have hTl : ¬ T (w.heap.size + 1) := fun h => (hT _ h).1 ((hG _).2 (.inr (.inl rfl)))
      have hTD : ¬ T w.heap.size := fun h => (hT _ h).1 ((hG _).2 (.inr (.inr rfl)))
      have hKK : ∀ W', KeptO W W' (fun k => GI k ∨ k = w.heap.size + 1) → KeptO W W' G := fun W' h => KeptO.mono h (fun k hk => (hG k).2 (by rcases hk with h | h; exact .inl h; exact .inr (.inl h)))
      have hAA : ∀ G', Adds give T GI G' W → Adds give T G (fun k => G' k ∨ k = w.heap.size + 1 ∨ k = w.heap.size) W := fun G' h k hk => by
        rcases hk with hk | hk
        · rcases h k hk with h | h
          · exact .inl ((hG k).2 (.inl h))
          · exact .inr h
        · exact .inl ((hG k).2 (.inr hk))
      rintro e W' (⟨rfl, G', hi3, hl3, hk3, ha3⟩ | ⟨rfl, c, G', hi3, hl3, hk3, ha3⟩)
      · exact .inl ⟨rfl, _, ⟨G', fun k => Iff.rfl, adds_not ha3 n1 hll hTl, adds_not ha3 n2 hDl hTD, hi3, hl3, (hk3.blk _ hDl (fun h => by rcases h with h | h; exact n2 h; omega)).trans hk⟩, hKK _ hk3, hAA _ ha3⟩
      · exact .inr ⟨rfl, _, ⟨G', c, fun k => Iff.rfl, adds_not ha3 n1 hll hTl, adds_not ha3 n2 hDl hTD, hi3, hl3, (hk3.blk _ hDl (fun h => by rcases h with h | h; exact n2 h; omega)).trans hk⟩, hKK _ hk3, hAA _ ha3⟩
    refine CallsIn.mono (callsIn_wide.2 hcall) ?_
    have hfin : ∀ (W' : World) (o : Obj), KeptO W1 W' (fun k => (G0 k ∨ k = w.heap.size + 1 ∨ k = w.heap.size) ∨ Wt k) → KeptO w (W'.putObj (w.heap.size + 1) o) (fun k => G0 k ∨ Wt k) := fun W' o h =>
      ⟨h.os.trans hbw.os, h.tape.trans hbw.tape, h.output.trans hbw.output, by have := h.size; simp; omega, fun k hk hn => (World.putObj_heap_other (by omega)).trans ((h.blk k (by omega) (fun h' => by rcases h' with (h' | h' | h') | h'; exact hn (.inl h'); omega; omega; exact hn (.inr h'))).trans (hbw.block k hk))⟩
    rintro e W2 ⟨⟨v, rfl⟩, hkept, s, G, (⟨hS, GI, hG, n1, n2, hi, hl, hk⟩ | ⟨hSp, GI, c, hG, n1, n2, hi, hl, hk⟩)⟩
    · exact ⟨none, _, by have := run_endLoop (P := P) hl (by rw [hrec]; simp); rw [hrec] at this; exact this, hdone _ s GI _ (Nat.le_refl _) ((World.putObj_heap_other (by omega)).trans hk) n2 hS (hI _ _ _ _ hi (Moves.put _ n1)) (hfin _ _ hkept)⟩
    · exact ⟨some c, _, by have := run_endLoop (P := P) hl (by rw [hrec]; simp); rw [hrec] at this; exact this, hstop _ c s GI _ (Nat.le_refl _) ((World.putObj_heap_other (by omega)).trans hk) n2 hSp (hIx _ _ _ _ _ hi (Moves.put _ n1)) (hfin _ _ hkept)⟩
/-- THE LAW, at a loop in the body of another. -/
theorem wpIn_range_inner {l₀ : Nat} {r₀ : Loop} (hl₀ : w.heap[l₀]? = some (.loop r₀)) {gf : Nat} {lb : Array Value} (hg : a.eval g = .func (.func gf) #[] lb) (eg : ∀ args w, (callFunc gf args).run P w = .ok (.enter gf args) w)
    {Enc : α → Array Value → (Nat → Prop) → World → Prop} {give : Prop} {R0 Wt : Nat → Prop} {S Sp : List α → Prop} {N : Nat} {w0 : World} (hseq : SeqF P gf lb Enc give R0 Wt S Sp N w0) (hR0 : ∀ k, R0 k → k < w0.heap.size) (hb0 : Below w0.heap.size w0 w)
    (hEnc : ∀ x vs T A B, Enc x vs T A → Moves T A B → Enc x vs T B) (hps : ∀ x vs T W, Enc x vs T W → vs.size = ps.size)
    (I : List α → (Nat → Prop) → World → Prop) (Ix : Code → List α → (Nat → Prop) → World → Prop) (hI : ∀ s G A B, I s G A → Moves G A B → I s G B) (hIx : ∀ c s G A B, Ix c s G A → Moves G A B → Ix c s G B)
    (G0 : Nat → Prop) (hG0 : ∀ k, G0 k → k < w.heap.size) (hGR : ∀ k, G0 k → ¬ R0 k) (h0 : I [] G0 w) (Ax : Array Value → World → Act → World → Prop)
    (hassign : ∀ (l : Nat) (x : α) (vs : Array Value) (T : Nat → Prop) (W : World) (K : Act → World → Prop), Enc x vs T W → (∀ a' Wa, Below W.heap.size W Wa → Ax vs W a' Wa → K a' Wa) → assign.wpIn (Fence.wide.inRound l) 0 P (Exit.then K (fun _ _ _ => False)) { tmps := (ps.zip vs).foldl (fun t (p, v) => t.setIfInBounds p v) a.tmps, defers := [] } W)
    (hbody : ∀ (l : Nat) (pre : List α) (x : α) (vs : Array Value) (T G : Nat → Prop) (W Wa Wb : World) (a' : Act), w.heap.size ≤ l → l < W.heap.size → Below W.heap.size W Wa → Ax vs W a' Wa → Moves (fun k => k ≠ l) Wa Wb → Wb.heap.size = Wa.heap.size → (∃ r, Wb.heap[l]? = some (.loop r)) → I pre G Wb → Enc x vs T Wb →
      (∀ k, T k → ¬ G k ∧ k ≠ l ∧ k < Wb.heap.size) → ¬ G l → pre.length < N → body.wpIn (Fence.wide.inRound l) 0 P (ownPostF give T G I Ix (pre ++ [x]) Wb) a' Wb)
    (hdone : ∀ (xs : List α) (G : Nat → Prop) (W : World), S xs → I xs G W → KeptO w W (fun k => G0 k ∨ Wt k) → Q .normal a W)
    (hstop : ∀ (c : Code) (pre : List α) (G : Nat → Prop) (W : World), Sp pre → Ix c pre G W → KeptO w W (fun k => G0 k ∨ Wt k) → c.wpIn (Fence.wide.inRound l₀) n P Q a W) :
    (Code.rangeFunc g ps assign body).wpIn (Fence.wide.inRound l₀) n P Q a w := by
  refine wpIn_rangeFunc ?_
  intro fn hfn
  obtain ⟨rec, hrec⟩ : ∃ rec : LoopState → Option Code → Loop, rec = fun st pe => { state := st, pending := pe, fn, tmps := a.tmps, params := ps, assign, body, defers := r₀.defers } := ⟨_, rfl⟩
  obtain ⟨W1, hW1⟩ : ∃ W1, w.alloc (.loop (rec .ready none)) = W1 := ⟨_, rfl⟩
  have hL1 : W1.heap[w.heap.size]? = some (.loop (rec .ready none)) := by rw [← hW1]; exact World.alloc_heap_new w _
  have hbw : Below w.heap.size w W1 := by
    rw [← hW1]; exact (Below.refl _ w).alloc (Nat.le_refl _) _
  have hs1 : W1.heap.size = w.heap.size + 1 := by rw [← hW1]; simp
  have hb1 : Below w0.heap.size w0 W1 := hb0.trans (hbw.mono hb0.size)
  have hI1 : I [] G0 W1 := hI _ _ _ _ h0 ⟨hbw.size, fun k hk _ => hbw.block k hk⟩
  refine ⟨w.heap.size, [], W1, { target := .fn (.func gf) lb, args := #[.func (.yield w.heap.size) #[] #[]] }, W1, gf,
    #[.func (.yield w.heap.size) #[] #[]] ++ lb, W1, ?_, ?_, ?_, ?_, fun h => by simp [Fence.wide, Fence.inRound] at h, ?_⟩
  · rw [← hW1, hrec]; exact run_enterLoop_inner hl₀ _ _ _ _ _
  · simp only [resolve, hg]
    simp [go_sem]
  · intro f' hf'; trivial
  · simp [invoke, go_sem, eg]
  · have hcall := hseq w.heap.size
      (fun pre G W => ∃ GI : Nat → Prop, (∀ k, G k ↔ GI k ∨ k = w.heap.size) ∧ ¬ GI w.heap.size ∧ I pre GI W ∧ W.heap[w.heap.size]? = some (.loop (rec .ready none)))
      (fun pre G W => ∃ (GI : Nat → Prop) (c : Code), (∀ k, G k ↔ GI k ∨ k = w.heap.size) ∧ ¬ GI w.heap.size ∧ Ix c pre GI W ∧ W.heap[w.heap.size]? = some (.loop (rec .done (some c))))
      (fun k => G0 k ∨ k = w.heap.size) W1 hb1
      (fun s G A B ⟨GI, hG, n1, hi, hl⟩ hm => ⟨GI, hG, n1, hI _ _ _ _ hi (hm.mono (fun k h => (hG k).2 (.inl h))), (hm.2 _ (Array.getElem?_eq_some_iff.1 hl).1 ((hG _).2 (.inr rfl))).trans hl⟩)
      (fun s G A B ⟨GI, c, hG, n1, hi, hl⟩ hm => ⟨GI, c, hG, n1, hIx _ _ _ _ _ hi (hm.mono (fun k h => (hG k).2 (.inl h))), (hm.2 _ (Array.getElem?_eq_some_iff.1 hl).1 ((hG _).2 (.inr rfl))).trans hl⟩)
      ?round (fun k hk => by
        have hle := hb0.size
        rcases hk with h | h
        · exact ⟨by have := hG0 k h; omega, hGR k h⟩
        · exact ⟨by omega, fun hr => by have := hR0 k hr; omega⟩)
      ⟨G0, fun k => Iff.rfl, fun h => by have := hG0 _ h; omega, hI1, hL1⟩
    case round =>
      rintro pre x vs T G W ⟨GI, hG, n1, hi, hl⟩ he hT hlen
      have hll : w.heap.size < W.heap.size := (Array.getElem?_eq_some_iff.1 hl).1
      refine (round_one (P := P) (a := a) (give := give) hrec hEnc hps I Ix hI hIx Ax 0 w.heap.size (fun _ => False) (fun k h => h.elim) (fun x vs T W K he h => hassign _ x vs T W K he h) pre x vs T GI W hi hl he
        (fun k h => ⟨fun h' => (hT k h).1 ((hG k).2 (by rcases h' with h' | h' | h'; exact .inl h'; exact .inr h'; exact h'.elim)), (hT k h).2⟩) ⟨n1, fun k h => h.elim⟩ (fun k h => h.elim) (fun a' Wa Wb hba hax hmv hsz hlw hr hi' he' hT' hn => hbody _ pre x vs T GI W Wa Wb a' (Nat.le_refl _) hll hba hax hmv hsz hr hi' he' hT' hn hlen)).mono ?_
      have hTl : ¬ T w.heap.size := fun h => (hT _ h).1 ((hG _).2 (.inr rfl))
      have hKK : ∀ W', KeptO W W' (fun k => GI k ∨ k = w.heap.size) → KeptO W W' G := fun W' h => KeptO.mono h (fun k hk => (hG k).2 hk)
      have hAA : ∀ G', Adds give T GI G' W → Adds give T G (fun k => G' k ∨ k = w.heap.size) W := fun G' h k hk => by
        rcases hk with hk | hk
        · rcases h k hk with h | h
          · exact .inl ((hG k).2 (.inl h))
          · exact .inr h
        · exact .inl ((hG k).2 (.inr hk))
      rintro e W' (⟨rfl, G', hi3, hl3, hk3, ha3⟩ | ⟨rfl, c, G', hi3, hl3, hk3, ha3⟩)
      · exact .inl ⟨rfl, _, ⟨G', fun k => Iff.rfl, adds_not ha3 n1 hll hTl, hi3, hl3⟩, hKK _ hk3, hAA _ ha3⟩
      · exact .inr ⟨rfl, _, ⟨G', c, fun k => Iff.rfl, adds_not ha3 n1 hll hTl, hi3, hl3⟩, hKK _ hk3, hAA _ ha3⟩
    refine CallsIn.mono (CallsIn.inRound l₀ (callsIn_wide.2 hcall)) ?_
    have hfin : ∀ (W' : World) (o : Obj), KeptO W1 W' (fun k => (G0 k ∨ k = w.heap.size) ∨ Wt k) → KeptO w (W'.putObj w.heap.size o) (fun k => G0 k ∨ Wt k) := fun W' o h =>
      ⟨h.os.trans hbw.os, h.tape.trans hbw.tape, h.output.trans hbw.output, by have := h.size; simp; omega, fun k hk hn => (World.putObj_heap_other (by omega)).trans ((h.blk k (by omega) (fun h' => by rcases h' with (h' | h') | h'; exact hn (.inl h'); omega; exact hn (.inr h'))).trans (hbw.block k hk))⟩
    rintro e W2 ⟨⟨v, rfl⟩, hkept, s, G, (⟨hS, GI, hG, n1, hi, hl⟩ | ⟨hSp, GI, c, hG, n1, hi, hl⟩)⟩
    · exact ⟨none, _, by have := run_endLoop (P := P) hl (by rw [hrec]; simp); rw [hrec] at this; exact this, hdone s GI _ hS (hI _ _ _ _ hi (Moves.put _ n1)) (hfin _ _ hkept)⟩
    · exact ⟨some c, _, by have := run_endLoop (P := P) hl (by rw [hrec]; simp); rw [hrec] at this; exact this, hstop c s GI _ hSp (hIx _ _ _ _ _ hi (Moves.put _ n1)) (hfin _ _ hkept)⟩
end
end Go.Proofs.YthmfgbjimdondaaDoor.P
/- The iterator of strings.Lines. -/
namespace Go.Proofs.YthmfgbjimdondaaDoor.P
open Go.RowKit Go.Proofs.YthmfgbjimdondaaDoorW.PrintWords Go.Proofs.YthmfgbjimdondaaDoorW.PrintLast Go.Proofs.YthmfgbjimdondaaDoorW.PrintMore
set_option linter.unusedVariables false
set_option linter.unusedSimpArgs false

def EncStr (x : ByteArray) (vs : Array Value) (T : Nat → Prop) (W : World) : Prop := vs = #[.string x] ∧ x.size ≤ 100000 ∧ ∀ k, ¬ T k
theorem EncStr.moves (x : ByteArray) (vs : Array Value) (T : Nat → Prop) (A B : World) (h : EncStr x vs T A) (hm : Moves T A B) : EncStr x vs T B := h
def LinesOf (s : ByteArray) (xs : List ByteArray) : Prop := xs.map (·.data.toList) = linesB s.data.toList
def LinesPart (s : ByteArray) (xs : List ByteArray) : Prop := xs.map (·.data.toList) <+: linesB s.data.toList
/-- What an iterator leaves. -/
def SeqPost {α : Type} (J Jx : List α → (Nat → Prop) → World → Prop) (S Sp : List α → Prop) (W : World) (G0 : Nat → Prop) (e : Ending) (W' : World) : Prop :=
  (∃ v, e = .returned v) ∧ KeptO W W' G0 ∧ ∃ s G, (S s ∧ J s G W') ∨ (Sp s ∧ Jx s G W')
structure LineSt (s : ByteArray) (b : Nat) (J : List ByteArray → (Nat → Prop) → World → Prop) (G0 G : Nat → Prop) (W wr : World) (pre : List ByteArray) (r : ByteArray) : Prop where
  inv : J pre G wr
  kept : KeptO W wr (fun k => G0 k ∨ k = b)
  sub : ∀ k, G k → k < W.heap.size → G0 k
  nb : ¬ G b
  lb : b < W.heap.size
  box : Boxed wr b 9 (.string r)
  here : pre.map (·.data.toList) ++ linesB r.data.toList = linesB s.data.toList
section
variable {s : ByteArray} {b : Nat} {J : List ByteArray → (Nat → Prop) → World → Prop} {G0 G : Nat → Prop} {W wr : World} {pre : List ByteArray} {r : ByteArray}
theorem LineSt.drewN (h : LineSt s b J G0 G W wr pre r) (hJ : ∀ s G A B, J s G A → Moves G A B → J s G B) (m : Nat) : LineSt s b J G0 G W (wr.drewN m) pre r :=
  ⟨hJ _ _ _ _ h.inv ⟨Nat.le_refl _, fun _ _ _ => rfl⟩, h.kept.drewN m, h.sub, h.nb, h.lb, h.box, h.here⟩
theorem LineSt.store (h : LineSt s b J G0 G W wr pre r) (hJ : ∀ s G A B, J s G A → Moves G A B → J s G B) (r2 : ByteArray) :
    J pre G (wr.setCell ⟨b, 0, none⟩ (.string r2)) ∧ KeptO W (wr.setCell ⟨b, 0, none⟩ (.string r2)) (fun k => G0 k ∨ k = b) ∧ Boxed (wr.setCell ⟨b, 0, none⟩ (.string r2)) b 9 (.string r2) := by
  have hbl : ∀ k, k ≠ b → (wr.setCell ⟨b, 0, none⟩ (.string r2)).heap[k]? = wr.heap[k]? := fun k hk => Below.heap_setCell wr ⟨b, 0, none⟩ _ k hk
  have hB := (Below.refl b wr).setCell (p := ⟨b, 0, none⟩) (Nat.le_refl _) (.string r2)
  refine ⟨hJ _ _ _ _ h.inv ⟨hB.size, fun k _ hG => hbl k (fun e => h.nb (e ▸ hG))⟩, ⟨hB.os.trans h.kept.os, hB.tape.trans h.kept.tape, hB.output.trans h.kept.output, Nat.le_trans h.kept.size hB.size, fun k hk hn => ?_⟩, Boxed.set _ h.box⟩
  exact (hbl k (fun e => hn (.inr e))).trans (h.kept.blk k hk hn)
theorem LineSt.after {W1 W' : World} {G' T : Nat → Prop} {x : ByteArray} {r2 : ByteArray} (h : LineSt s b J G0 G W wr pre r) (hj : J (pre ++ [x]) G' W') (hk : KeptO W1 W' G) (ha : Adds False T G G' W1)
    (hk1 : KeptO W W1 (fun k => G0 k ∨ k = b)) (hb1 : Boxed W1 b 9 (.string r2)) (hx : linesB r.data.toList = x.data.toList :: linesB r2.data.toList) : LineSt s b J G0 G' W W' (pre ++ [x]) r2 := by
  have hb : b < W1.heap.size := Nat.lt_of_lt_of_le h.lb hk1.size
  refine ⟨hj, ⟨hk.os.trans hk1.os, hk.tape.trans hk1.tape, hk.output.trans hk1.output, Nat.le_trans hk1.size hk.size, fun k hl hn => ?_⟩, fun k hG hl => ?_, fun hG => ?_, h.lb, (hk.blk b hb h.nb).trans hb1, ?_⟩
  · exact (hk.blk k (Nat.lt_of_lt_of_le hl hk1.size) (fun hG => hn (.inl (h.sub k hG hl)))).trans (hk1.blk k hl hn)
  · rcases ha k hG with h' | h' | h'
    · exact h.sub k h' hl
    · have := hk1.size; omega
    · exact h'.1.elim
  · rcases ha b hG with h' | h' | h'
    · exact h.nb h'
    · omega
    · exact h'.1.elim
  · rw [← h.here, hx]; simp
theorem LineSt.keptAfter {W1 W' : World} (h : LineSt s b J G0 G W wr pre r) (hk1 : KeptO W W1 (fun k => G0 k ∨ k = b)) (hk : KeptO W1 W' G) : KeptO W W' (fun k => G0 k ∨ k = b) := by
  refine ⟨hk.os.trans hk1.os, hk.tape.trans hk1.tape, hk.output.trans hk1.output, Nat.le_trans hk1.size hk.size, fun k hl hn => ?_⟩
  exact (hk.blk k (Nat.lt_of_lt_of_le hl hk1.size) (fun hG => hn (.inl (h.sub k hG hl)))).trans (hk1.blk k hl hn)
end
theorem lines_pos {l : List UInt8} (h : l ≠ []) : linesB l ≠ [] := by
  cases l with
  | nil => exact absurd rfl h
  | cons b r =>
    unfold linesB
    split
    · simp
    · split <;> simp
set_option maxHeartbeats 4000000 in
set_option maxRecDepth 100000 in
theorem lines_seq (s : ByteArray) (b : Nat) (w : World) (hb : Boxed w b 9 (.string s)) (hs : s.size ≤ 100000) :
    SeqF Tryd.prog 33 #[.pointer (some ⟨b, 0, none⟩)] EncStr False (fun k => k = b) (fun k => k = b) (LinesOf s) (LinesPart s) (linesB s.data.toList).length w := by
  intro l J Jx G0 W hW hJ hJx hY hG0 h0
  refine (show Calls _ _ _ _ (SeqPost J Jx (LinesOf s) (LinesPart s) W (fun k => G0 k ∨ k = b)) from ?_)
  have hlb : b < w.heap.size := hb.lt
  have hst0 : LineSt s b J G0 G0 W W [] s := ⟨h0, ⟨rfl, rfl, rfl, Nat.le_refl _, fun _ _ _ => rfl⟩, fun _ h _ => h, fun h => (hG0 b h).2 rfl, Nat.lt_of_lt_of_le hlb hW.size, (hW.block b hlb).trans hb, rfl⟩
  have HST0 := Aside0.mk hst0
  have HY := Aside0.mk hY
  have HJ := Aside0.mk hJ
  have hix := fun r W => Tryd.strings_IndexByte r 10 W
  clear hW hJ hJx hY hG0 h0 hb hst0 hlb
  simp only [List.append_toArray, List.cons_append, List.nil_append]
  go_enter Tryd.func33, Tryd.ntmps33
  go_wp2_with fail
  go_loopg [3, 4] (linesB s.data.toList).length (fun gg s3 s4 wr => ∃ (r : ByteArray) (pre : List ByteArray) (G : Nat → Prop), (linesB r.data.toList).length ≤ gg ∧ r.size ≤ 100000 ∧ Aside0 (LineSt s b J G0 G W wr pre r))
  case atStart => exact ⟨s, [], G0, Nat.le_refl _, hs, HST0⟩
  case round =>
    obtain ⟨r, pre, G, hg, hrs, HST⟩ := hrel
    have hcb := HST.out.box.cell
    have hfb := HST.out.box.frozen
    have hlb := HST.out.box.lt
    by_cases hr0 : r.size = 0
    · have hfin : ∀ W', W' = wr → SeqPost J Jx (LinesOf s) (LinesPart s) W (fun k => G0 k ∨ k = b) (.returned (.tuple #[])) W' := by
        rintro _ rfl
        have hre : r.data.toList = [] := List.eq_nil_of_length_eq_zero hr0
        refine ⟨⟨_, rfl⟩, HST.out.kept, pre, G, .inl ⟨?_, HST.out.inv⟩⟩
        have := HST.out.here
        rw [hre] at this
        simpa [linesB, LinesOf] using this
      have HF := Aside0.mk hfin
      have hr1 : ¬ 0 < r.size := by omega
      clear hfin
      go_wp2_with fail
      go_end0
      exact HF.out _ rfl
    · have hr1 : 0 < r.size := by omega
      have hre : r.data.toList ≠ [] := fun e => hr0 (by rw [show r.size = r.data.toList.length from rfl, e]; rfl)
      have hlen : pre.length < (linesB s.data.toList).length := by
        have := congrArg List.length HST.out.here
        have := List.length_pos_iff.2 (lines_pos hre)
        simp at *
        omega
      have HLEN := Aside0.mk hlen
      rcases cut_cases r.data.toList with ⟨hi, hno⟩ | ⟨a, c, hac, hno, hi⟩
      · have hx : linesB r.data.toList = r.data.toList :: linesB (ByteArray.empty).data.toList := by
          rw [linesB_none _ hno hre]; rfl
        have HX := Aside0.mk hx
        have hrx := hix r
        simp only [show (10 : Int).toNat.toUInt8 = 10 from rfl, hi] at hrx
        clear hix hx hno hlen hre
        have hstq := HST.out.store HJ.out (ByteArray.mk #[])
        have HSTQ := Aside0.mk hstq
        have HPRE : Aside0 (LinesPart s (pre ++ [r])) := ⟨by
          refine ⟨linesB (ByteArray.mk #[]).data.toList, ?_⟩
          rw [← HST.out.here, HX.out]
          simp⟩
        have hyy := HY.out pre r #[.string r] (fun _ => False) G (wr.setCell ⟨b, 0, none⟩ (.string ⟨#[]⟩)) hstq.1 ⟨rfl, hrs, fun _ h => h⟩ (fun k h => h.elim) HLEN.out
        obtain ⟨fn, tmps, asg, bd, hy, hR⟩ := hyy
        have HRO := Aside0.mk hR
        clear hR hstq
        go_upto_region 6 with (first | (go_at_call 34; refine (hrx _).mono ?_; rintro e w2 ⟨rfl, rfl⟩))
        refine (wpIn_wide (n := 1)).1 ?_
        gi_wp2
        refine RoundIn.mono HRO.out ?_
        rintro e W' (⟨rfl, G', hj, hkp, had⟩ | ⟨rfl, G', hj, hkp, had⟩)
        · have HST2 := Aside0.mk (HST.out.after hj hkp had HSTQ.out.2.1 HSTQ.out.2.2 HX.out)
          have hgl : (linesB (ByteArray.mk #[]).data.toList).length < (linesB r.data.toList).length := by rw [HX.out]; simp
          have HGL := Aside0.mk hgl
          clear hj hkp had HST hcb hfb HRO hy hgl
          gi_wp2
          go_wp2
          go_roundg ((linesB (ByteArray.mk #[]).data.toList).length)
          case measure => exact Nat.lt_of_lt_of_le HGL.out hg
          case rel => exact ⟨(ByteArray.mk #[]), _, G', Nat.le_refl _, (by show (0:Nat) ≤ _; omega), HST2⟩
        · have hfin : SeqPost J Jx (LinesOf s) (LinesPart s) W (fun k => G0 k ∨ k = b) (.returned (.tuple #[])) W' :=
            ⟨⟨_, rfl⟩, (HST.out.keptAfter HSTQ.out.2.1 hkp), _, _, .inr ⟨HPRE.out, hj⟩⟩
          have HFIN := Aside0.mk hfin
          clear hfin hj hkp had hcb hfb HRO hy
          gi_wp2
          go_wp2
          refine bodyPost_ret (results_none rfl _ _ _) rfl ?_
          exact HFIN.out
      · have hal : a.length + 1 ≤ r.size := by
          have e : r.size = r.data.toList.length := rfl
          rw [e, hac]; simp
        have e1 : (r.extract 0 (a.length + 1)).data.toList = a ++ [10] := by rw [Lib.extract_data, hac, List.drop_zero, Nat.sub_zero, show a ++ 10 :: c = (a ++ [10]) ++ c by simp, List.take_left' (by simp)]
        have e2 : (r.extract (a.length + 1) r.size).data.toList = c := by
          have e : r.size = r.data.toList.length := rfl
          rw [Lib.extract_data, e, hac, show a ++ 10 :: c = (a ++ [10]) ++ c by simp, List.drop_left' (by simp), List.take_of_length_le (by simp; omega)]
        have hx : linesB r.data.toList = (r.extract 0 (a.length + 1)).data.toList :: linesB (r.extract (a.length + 1) r.size).data.toList := by rw [e1, e2, hac, linesB_hit _ _ hno]
        have HX := Aside0.mk hx
        have hrs2 : (r.extract (a.length + 1) r.size).size ≤ 100000 := by rw [ByteArray.size_extract]; omega
        have hrx := hix r
        simp only [show (10 : Int).toNat.toUInt8 = 10 from rfl, hi] at hrx
        have halz : (0 : Int) ≤ (a.length : Int) := by omega
        have halz2 : (a.length : Int) + 1 ≤ (r.size : Int) := by omega
        clear hix hx hno hlen hre hi e1 e2 hac
        generalize a.length = al at *
        have hstq := HST.out.store HJ.out (r.extract (al + 1) r.size)
        have HSTQ := Aside0.mk (show KeptO W (wr.setCell ⟨b, 0, none⟩ (.string (r.extract (al + 1) r.size))).drew _ ∧ Boxed (wr.setCell ⟨b, 0, none⟩ (.string (r.extract (al + 1) r.size))).drew b 9 (.string (r.extract (al + 1) r.size)) from ⟨hstq.2.1.drewN 1, hstq.2.2⟩)
        have HPRE : Aside0 (LinesPart s (pre ++ [(r.extract 0 (al + 1))])) := ⟨by
          refine ⟨linesB (r.extract (al + 1) r.size).data.toList, ?_⟩
          rw [← HST.out.here, HX.out]
          simp⟩
        have hyy := HY.out pre (r.extract 0 (al + 1)) #[.string (r.extract 0 (al + 1))] (fun _ => False) G (wr.setCell ⟨b, 0, none⟩ (.string (r.extract (al + 1) r.size))).drew (HJ.out _ _ _ _ hstq.1 ⟨Nat.le_refl _, fun _ _ _ => rfl⟩) ⟨rfl, by rw [ByteArray.size_extract]; omega, fun _ h => h⟩ (fun k h => h.elim) HLEN.out
        obtain ⟨fn, tmps, asg, bd, hy, hR⟩ := hyy
        have HRO := Aside0.mk hR
        clear hR hstq
        go_upto_region 4 with (first | (go_at_call 34; refine (hrx _).mono ?_; rintro e w2 ⟨rfl, rfl⟩))
        go_region
        go_upto_region 6 with (first | (go_at_call 34; refine (hrx _).mono ?_; rintro e w2 ⟨rfl, rfl⟩))
        refine (wpIn_wide (n := 1)).1 ?_
        gi_wp2
        refine RoundIn.mono HRO.out ?_
        rintro e W' (⟨rfl, G', hj, hkp, had⟩ | ⟨rfl, G', hj, hkp, had⟩)
        · have HST2 := Aside0.mk (HST.out.after hj hkp had HSTQ.out.1 HSTQ.out.2 HX.out)
          have hgl : (linesB (r.extract (al + 1) r.size).data.toList).length < (linesB r.data.toList).length := by rw [HX.out]; simp
          have HGL := Aside0.mk hgl
          clear hj hkp had HST hcb hfb HRO hy hgl
          gi_wp2
          go_wp2
          go_roundg ((linesB (r.extract (al + 1) r.size).data.toList).length)
          case measure => exact Nat.lt_of_lt_of_le HGL.out hg
          case rel => exact ⟨(r.extract (al + 1) r.size), _, G', Nat.le_refl _, hrs2, HST2⟩
        · have hfin : SeqPost J Jx (LinesOf s) (LinesPart s) W (fun k => G0 k ∨ k = b) (.returned (.tuple #[])) W' :=
            ⟨⟨_, rfl⟩, (HST.out.keptAfter HSTQ.out.1 hkp), _, _, .inr ⟨HPRE.out, hj⟩⟩
          have HFIN := Aside0.mk hfin
          clear hfin hj hkp had hcb hfb HRO hy
          gi_wp2
          go_wp2
          refine bodyPost_ret (results_none rfl _ _ _) rfl ?_
          exact HFIN.out
end Go.Proofs.YthmfgbjimdondaaDoor.P
/- A region that draws its order, in a round of a range over a function: from the plain laws. -/
namespace Go.Proofs.YthmfgbjimdondaaDoor.P
open Go.RowKit Go.Proofs.YthmfgbjimdondaaDoorW.PrintWords Go.Proofs.YthmfgbjimdondaaDoorW.PrintLast Go.Proofs.YthmfgbjimdondaaDoorW.PrintMore
set_option linter.unusedVariables false
set_option linter.unusedSimpArgs false

theorem rowsIn_round {l n : Nat} {P : Program} {row : String} {args : Array Value} {w : World} {R : Value → World → Prop} (h : Rows P row args w R) : RowsIn (Fence.wide.inRound l) n P row args w R :=
  fun c cs _ => let ⟨v, w', r, s⟩ := h c cs; ⟨v, w', r, stepsIn_wide.2 s⟩
theorem oper_round {l n : Nat} {P : Program} {o : Oper} {a : Act} {w : World} {K : Act → World → Prop} {Q : Exit → Act → World → Prop} (hd : ∀ c, o.op ≠ .defer c) (h : o.wp P a w K Q) : o.wpIn (Fence.wide.inRound l) n P a w K Q := by
  refine ⟨fun _ _ => trivial, ?_⟩
  rw [Fence.inRound_round, Oper.semAt_some l _ _ hd]
  unfold Oper.wp at h
  cases hr : (execOp a.eval o).run P w with
  | ok x w' =>
    rw [hr] at h
    cases x with
    | value v => exact h
    | skip => exact h
    | defer d => exact h
    | enter f args => exact ⟨fun hn => by simp [Fence.wide, Fence.inRound] at hn, CallsIn.inRound l (callsIn_wide.2 h)⟩
    | row row args => exact ⟨fun hn => by simp [Fence.wide, Fence.inRound] at hn, rowsIn_round h⟩
    | round => exact absurd h (by simp [Oper.upon])
    | _ => exact absurd h (by simp [Oper.upon])
  | halt x w' =>
    rw [hr] at h
    cases x <;> first | exact h | exact absurd h (by simp [Oper.upon])
def noDefer (ops : Array Oper) : Bool := ops.all fun o => match o.op with | .defer _ => false | _ => true
theorem noDefer_spec {ops : Array Oper} (h : noDefer ops = true) {i : Nat} {o : Oper} (hi : ops[i]? = some o) : ∀ c, o.op ≠ .defer c := fun c hc => by
  have := Array.all_eq_true_iff_forall_mem.1 h o (Array.mem_of_getElem? hi)
  rw [hc] at this
  cases this
theorem wpOpIn_mono {F : Fence} {n : Nat} {P : Program} {ops : Array Oper} {Q : Exit → Act → World → Prop} {i : Nat} {K K' : Act → World → Prop} {a : Act} {w : World} (hK : ∀ a w, K a w → K' a w) (h : wpOp P ops Q i K a w) : wpOp P ops Q i K' a w := wpOp_mono hK h
theorem wpAnyIn_round {l : Nat} {P : Program} {md : Region.Mode} {ops : Array Oper} {Q : Exit → Act → World → Prop} (hQ : ¬ LetsOut Q) (hd : noDefer ops = true) :
    ∀ (fuel : Nat) (listed : Array Bool) (a : Act) (w : World), wpAny P md ops Q fuel listed a w → wpAnyIn (Fence.wide.inRound l) 0 P md ops Q fuel listed a w
  | 0, _, _, _, h => h
  | fuel + 1, listed, a, w, h => ⟨h.1, fun i hi => by
      have h2 := wpOp_mono (fun a' w' h' => wpAnyIn_round (l := l) hQ hd fuel _ a' w' h') (h.2 i hi)
      unfold wpOp at h2
      unfold wpOpIn
      cases ho : ops[i]? with
      | none => rw [ho] at h2; exact h2
      | some o =>
        rw [ho] at h2
        simp only at h2 ⊢
        by_cases hw : Region.wanted o (yielded ops a.tmps) = true
        · rw [if_pos hw] at h2 ⊢
          rcases h2 with h2 | h2
          · exact oper_round (noDefer_spec hd ho) h2
          · exact absurd h2.2 hQ
        · rw [if_neg hw] at h2 ⊢
          exact ⟨fun _ _ => trivial, h2⟩⟩
/-- AS 'start_', IN A ROUND. -/
theorem startR_ {l₀ : Nat} {P : Program} {ops : Array Oper} {Q : Exit → Act → World → Prop} {S : World → Prop} {ds : List Nat} {id n : Nat} {a : Act} {w : World} (l : Array Bool) (hm : P.follows .mixedOrders = true) (hQ : ¬ LetsOut Q) (hd : noDefer ops = true) (hn : ops.size = n) (hl : Array.replicate n false = l) (hS : S w.drew)
    (h : S w.drew → wpAnyLast P .any ops Q S ds n l a w.drew) : (Code.region id ops true).wpIn (Fence.wide.inRound l₀) 0 P Q a w := by
  subst hn
  subst hl
  exact wpIn_region_any hm (wpAnyIn_round hQ hd _ _ _ _ (wpAny_of_last _ _ _ _ (h hS)))
end Go.Proofs.YthmfgbjimdondaaDoor.P
