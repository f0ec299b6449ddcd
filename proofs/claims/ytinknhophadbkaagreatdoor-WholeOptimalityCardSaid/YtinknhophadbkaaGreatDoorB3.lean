/- Texts of the proof, part 3 of 7. -/
import Derived.Shelf.SlSortCmp.WholeK
import Derived.Shelf.SlSortCmp.Whole1
import Derived.Ground.SlsfProg
import Derived.Shelf.Strings.Builder1
import Derived.Shelf.Small.Bits
import Derived.Shelf.Small.Wraps
import Derived.Shelf.Utf8.RuneCount
import Derived.Shelf.Strconv.Itoa0
import Derived.Shelf.Strconv.Itoa1
import Derived.Shelf.LaysM
import Derived.Shelf.Strconv.Itoa2
import Derived.Shelf.Strconv.Itoa3
import Derived.Shelf.Strings.Search1
import Derived.Shelf.Strings.Search2
import Derived.Shelf.Strings.Search3
import Derived.Shelf.Strings.Cut
import Derived.Shelf.Strings.Count
import Derived.Shelf.Strings.Shaped
import Derived.Shelf.Strings.Prefix
import Derived.Shelf.Strings.Split
import Derived.Shelf.Strings.SplitShaped
import Derived.Shelf.Unicode.Decode
import Derived.Shelf.Strings.RuneCount
import Derived.Shelf.Strings.Explode
import Derived.Shelf.Unicode.DecodeSlow
import Derived.Shelf.Unicode.DecodeAny
import Derived.Ground.Names2Prog
import Derived.Shelf.Slices.Clone
import Derived.Shelf.Slices.SearchI
import Derived.Ground.SlgnProg
import Derived.Shelf.SlicesE.Clone
import Derived.Test.YtinknhophadbkaaGreatDoorProg
import Derived.Test.YtinknhophadbkaaGreatDoorB1
import Derived.Deep.RegionHeld3
import Derived.Shelf.SlSortCmp.NoneTotal
import Derived.Test.YtinknhophadbkaaGreatDoorB2
import Derived.Lib.AppendZerosOnto
import Derived.Lib.Overlaps
import Derived.Laws.Externs
import Derived.Lib.SmallJoins
import Derived.Lib.ItoaNum
import Derived.Laws.StructEq
import Derived.Lib.SliceRun
import Derived.Laws.ByValue
import Derived.WalkKit
set_option linter.unusedVariables false
set_option linter.unusedSectionVars false
set_option linter.unusedSimpArgs false
open List renaming getElem?_eq_getElem→gE_, length_map→lM_, length_append→lA_, getElem?_eq_some_iff→gS_, take_of_length_le→tL_
open Option.some renaming inj→sI_
namespace Go.Proofs
open Go.Shelf
def Tryz.lays170_ren : Go.Shelf.Ren:=⟨fun|170=>34|n=>n,fun|70=>86|3=>3|0=>0|72=>89|37=>87|5=>5|n=>n,fun|n=>n⟩
theorem Tryz.lays170 : Go.Proofs.Lays.n170 Tryz.prog Tryz.lays170_ren:={
 mixed:=by kernel_rfl
 f170:=Tryz.func34.trans (congrArg some (by kernel_rfl))
 t0:=Tryz.underlying0
 a0:=Tryz.isAgg0
 z0:=Tryz.sizeOf0
 v0:=Tryz.zeroValue0
 t3:=Tryz.underlying3
 a3:=Tryz.isAgg3
 z3:=Tryz.sizeOf3
 v3:=Tryz.zeroValue3
 t37:=Tryz.underlying87
 a37:=Tryz.isAgg87
 z37:=Tryz.sizeOf87
 v37:=Tryz.zeroValue87
 t70:=Tryz.underlying86
 a70:=Tryz.isAgg86
 z70:=Tryz.sizeOf86
 v70:=Tryz.zeroValue86
 t72:=Tryz.underlying89
 a72:=Tryz.isAgg89
 z72:=Tryz.sizeOf89
 v72:=Tryz.zeroValue89 }
open Go.RowKit in
theorem Tryz.Builder_Len (B b:Nat)(bs:List Value)(w:World)(h:Lib.IsBuilder 89 5 B b bs w) :
  Calls Tryz.prog 34 #[.pointer (some ⟨b,0,none⟩)] w fun e w'=>e=.returned (.int .i64 bs.length)∧w'=w:=Any.Builder_Len Tryz.lays170 B b bs w h
def Tryz.lays169_ren : Go.Shelf.Ren:=⟨fun|169=>35|n=>n,fun|70=>86|9=>9|0=>0|72=>89|37=>87|127=>133|3=>3|5=>5|n=>n,fun|n=>n⟩
theorem Tryz.lays169 : Go.Proofs.Lays.n169 Tryz.prog Tryz.lays169_ren:={
 mixed:=by kernel_rfl
 f169:=Tryz.func35.trans (congrArg some (by kernel_rfl))
 t0:=Tryz.underlying0
 a0:=Tryz.isAgg0
 z0:=Tryz.sizeOf0
 v0:=Tryz.zeroValue0
 t3:=Tryz.underlying3
 a3:=Tryz.isAgg3
 z3:=Tryz.sizeOf3
 v3:=Tryz.zeroValue3
 t9:=Tryz.underlying9
 a9:=Tryz.isAgg9
 z9:=Tryz.sizeOf9
 v9:=Tryz.zeroValue9
 t37:=Tryz.underlying87
 a37:=Tryz.isAgg87
 z37:=Tryz.sizeOf87
 v37:=Tryz.zeroValue87
 t70:=Tryz.underlying86
 a70:=Tryz.isAgg86
 z70:=Tryz.sizeOf86
 v70:=Tryz.zeroValue86
 t72:=Tryz.underlying89
 a72:=Tryz.isAgg89
 z72:=Tryz.sizeOf89
 v72:=Tryz.zeroValue89
 t127:=Tryz.underlying133
 a127:=Tryz.isAgg133
 z127:=Tryz.sizeOf133
 v127:=Tryz.zeroValue133 }
theorem Tryz.Builder_Extra_169 : Builder.Extra Tryz.prog Tryz.lays169_ren:={
 sizeBuilder:=by kernel_rfl
 liesBuilder:=by kernel_rfl
 t5:=Tryz.underlying5
 a5:=Tryz.isAgg5
 z5:=Tryz.sizeOf5
 v5:=Tryz.zeroValue5
 infoByte:=by kernel_rfl
 cellsByte:=by kernel_rfl
 sizeByte:=by kernel_rfl
 neB5:=by decide }
open Go.RowKit in
theorem Tryz.Builder_String (B b:Nat)(l:List UInt8)(w:World)(h:Lib.IsBuilder 89 5 B b (Lib.byteCells l) w)(h0:l≠[]) :
  Calls Tryz.prog 35 #[.pointer (some ⟨b,0,none⟩)] w fun e w'=>e=.returned (.string ⟨l.toArray⟩)∧Below B w w':=Any.Builder_String Tryz.lays169 Tryz.Builder_Extra_169 B b l w h h0
open Go.RowKit in
theorem Tryz.Builder_String_empty (B b:Nat)(w:World)(h:Lib.IsBuilder 89 5 B b [] w)(hBw:B≤w.heap.size) :
  Calls Tryz.prog 35 #[.pointer (some ⟨b,0,none⟩)] w fun e w'=>e=.returned (.string ⟨#[]⟩)∧Below B w w':=Any.Builder_String_empty Tryz.lays169 Tryz.Builder_Extra_169 B b w h hBw
open Go.RowKit in
theorem Tryz.Builder_String_any (B b:Nat)(l:List UInt8)(w:World)(h:Lib.IsBuilder 89 5 B b (Lib.byteCells l) w)(hBw:B≤w.heap.size) :
  Calls Tryz.prog 35 #[.pointer (some ⟨b,0,none⟩)] w fun e w'=>e=.returned (.string ⟨l.toArray⟩)∧Below B w w':=Any.Builder_String_any Tryz.lays169 Tryz.Builder_Extra_169 B b l w h hBw
def Tryz.lays128_ren : Go.Shelf.Ren:=⟨fun|128=>113|n=>n,fun|51=>181|3=>3|4=>4|46=>149|5=>5|9=>9|n=>n,fun|n=>n⟩
theorem Tryz.lays128 : Go.Proofs.Lays.n128 Tryz.prog Tryz.lays128_ren:={
 mixed:=by kernel_rfl
 f128:=Tryz.func113.trans (congrArg some (by kernel_rfl))
 t3:=Tryz.underlying3
 a3:=Tryz.isAgg3
 z3:=Tryz.sizeOf3
 v3:=Tryz.zeroValue3
 t4:=Tryz.underlying4
 a4:=Tryz.isAgg4
 z4:=Tryz.sizeOf4
 v4:=Tryz.zeroValue4
 t5:=Tryz.underlying5
 a5:=Tryz.isAgg5
 z5:=Tryz.sizeOf5
 v5:=Tryz.zeroValue5
 t9:=Tryz.underlying9
 a9:=Tryz.isAgg9
 z9:=Tryz.sizeOf9
 v9:=Tryz.zeroValue9
 t46:=Tryz.underlying149
 a46:=Tryz.isAgg149
 z46:=Tryz.sizeOf149
 v46:=Tryz.zeroValue149
 t51:=Tryz.underlying181
 a51:=Tryz.isAgg181
 z51:=Tryz.sizeOf181
 v51:=Tryz.zeroValue181 }
theorem Tryz.bits_Len32 (x:Int)(w:World)(h0:0≤x)(h1:x≤4294967295) :
  Calls Tryz.prog 113 #[.int .u32 x] w fun e w'=>e=.returned (.int .i64 (Lib.bitLen x.toNat))∧w'=w:=Any.bits_Len32 Tryz.lays128 x w h0 h1
def Tryz.lays125_ren : Go.Shelf.Ren:=⟨fun|125=>84|128=>113|129=>114|n=>n,fun|46=>149|3=>3|51=>181|53=>183|4=>4|5=>5|9=>9|n=>n,fun|n=>n⟩
theorem Tryz.lays125 : Go.Proofs.Lays.n125 Tryz.prog Tryz.lays125_ren:={
 mixed:=by kernel_rfl
 f125:=Tryz.func84.trans (congrArg some (by kernel_rfl))
 f128:=Tryz.func113.trans (congrArg some (by kernel_rfl))
 f129:=Tryz.func114.trans (congrArg some (by kernel_rfl))
 t3:=Tryz.underlying3
 a3:=Tryz.isAgg3
 z3:=Tryz.sizeOf3
 v3:=Tryz.zeroValue3
 t4:=Tryz.underlying4
 a4:=Tryz.isAgg4
 z4:=Tryz.sizeOf4
 v4:=Tryz.zeroValue4
 t5:=Tryz.underlying5
 a5:=Tryz.isAgg5
 z5:=Tryz.sizeOf5
 v5:=Tryz.zeroValue5
 t9:=Tryz.underlying9
 a9:=Tryz.isAgg9
 z9:=Tryz.sizeOf9
 v9:=Tryz.zeroValue9
 t46:=Tryz.underlying149
 a46:=Tryz.isAgg149
 z46:=Tryz.sizeOf149
 v46:=Tryz.zeroValue149
 t51:=Tryz.underlying181
 a51:=Tryz.isAgg181
 z51:=Tryz.sizeOf181
 v51:=Tryz.zeroValue181
 t53:=Tryz.underlying183
 a53:=Tryz.isAgg183
 z53:=Tryz.sizeOf183
 v53:=Tryz.zeroValue183 }
theorem Tryz.bits_Len (x:Int)(w:World)(h0:0≤x)(h1:x≤18446744073709551615) :
  Calls Tryz.prog 84 #[.int .u64 x] w fun e w'=>e=.returned (.int .i64 (Lib.bitLen x.toNat))∧w'=w:=Any.bits_Len Tryz.lays125 x w h0 h1
def Tryz.lays210_ren : Go.Shelf.Ren:=⟨fun|210=>71|206=>95|n=>n,fun|9=>9|4=>4|3=>3|n=>n,fun|n=>n⟩
theorem Tryz.lays210 : Go.Proofs.Lays.n210 Tryz.prog Tryz.lays210_ren:={
 mixed:=by kernel_rfl
 f206:=Tryz.func95.trans (congrArg some (by kernel_rfl))
 f210:=Tryz.func71.trans (congrArg some (by kernel_rfl))
 t3:=Tryz.underlying3
 a3:=Tryz.isAgg3
 z3:=Tryz.sizeOf3
 v3:=Tryz.zeroValue3
 t4:=Tryz.underlying4
 a4:=Tryz.isAgg4
 z4:=Tryz.sizeOf4
 v4:=Tryz.zeroValue4
 t9:=Tryz.underlying9
 a9:=Tryz.isAgg9
 z9:=Tryz.sizeOf9
 v9:=Tryz.zeroValue9 }
open Go.RowKit in
theorem Tryz.stringslite_CutPrefix (s p:ByteArray)(w:World) :
  Calls Tryz.prog 71 #[.string s,.string p] w fun e w'=>e=.returned (.tuple #[.string ⟨(Lib.trimPrefix s.data.toList p.data.toList).toArray⟩,.bool (Lib.hasPrefix s.data.toList p.data.toList)])∧w'=w:=Any.stringslite_CutPrefix Tryz.lays210 s p w
def Tryz.lays103_ren : Go.Shelf.Ren:=⟨fun|103=>40|210=>71|206=>95|n=>n,fun|9=>9|4=>4|24=>98|3=>3|n=>n,fun|n=>n⟩
theorem Tryz.lays103 : Go.Proofs.Lays.n103 Tryz.prog Tryz.lays103_ren:={
 mixed:=by kernel_rfl
 f103:=Tryz.func40.trans (congrArg some (by kernel_rfl))
 f206:=Tryz.func95.trans (congrArg some (by kernel_rfl))
 f210:=Tryz.func71.trans (congrArg some (by kernel_rfl))
 t3:=Tryz.underlying3
 a3:=Tryz.isAgg3
 z3:=Tryz.sizeOf3
 v3:=Tryz.zeroValue3
 t4:=Tryz.underlying4
 a4:=Tryz.isAgg4
 z4:=Tryz.sizeOf4
 v4:=Tryz.zeroValue4
 t9:=Tryz.underlying9
 a9:=Tryz.isAgg9
 z9:=Tryz.sizeOf9
 v9:=Tryz.zeroValue9
 t24:=Tryz.underlying98
 a24:=Tryz.isAgg98
 z24:=Tryz.sizeOf98
 v24:=Tryz.zeroValue98 }
open Go.RowKit in
theorem Tryz.strings_CutPrefix (s p:ByteArray)(w:World) :
  Calls Tryz.prog 40 #[.string s,.string p] w fun e w'=>e=.returned (.tuple #[.string ⟨(Lib.trimPrefix s.data.toList p.data.toList).toArray⟩,.bool (Lib.hasPrefix s.data.toList p.data.toList)])∧w'=w:=Any.strings_CutPrefix Tryz.lays103 s p w
def Tryz.lays215_ren : Go.Shelf.Ren:=⟨fun|215=>115|n=>n,fun|3=>3|4=>4|n=>n,fun|n=>n⟩
theorem Tryz.lays215 : Go.Proofs.Lays.n215 Tryz.prog Tryz.lays215_ren:={
 mixed:=by kernel_rfl
 f215:=Tryz.func115.trans (congrArg some (by kernel_rfl))
 t3:=Tryz.underlying3
 a3:=Tryz.isAgg3
 z3:=Tryz.sizeOf3
 v3:=Tryz.zeroValue3
 t4:=Tryz.underlying4
 a4:=Tryz.isAgg4
 z4:=Tryz.sizeOf4
 v4:=Tryz.zeroValue4 }
open Go.RowKit in
theorem Tryz.cmp_isNaN_int (x:Int)(w:World) :
  Calls Tryz.prog 115 #[.int .i64 x] w fun e w'=>e=.returned (.bool false)∧w'=w:=Any.cmp_isNaN_int Tryz.lays215 x w
def Tryz.lays122_ren : Go.Shelf.Ren:=⟨fun|122=>88|215=>115|n=>n,fun|3=>3|4=>4|n=>n,fun|n=>n⟩
theorem Tryz.lays122 : Go.Proofs.Lays.n122 Tryz.prog Tryz.lays122_ren:={
 mixed:=by kernel_rfl
 f122:=Tryz.func88.trans (congrArg some (by kernel_rfl))
 f215:=Tryz.func115.trans (congrArg some (by kernel_rfl))
 t3:=Tryz.underlying3
 a3:=Tryz.isAgg3
 z3:=Tryz.sizeOf3
 v3:=Tryz.zeroValue3
 t4:=Tryz.underlying4
 a4:=Tryz.isAgg4
 z4:=Tryz.sizeOf4
 v4:=Tryz.zeroValue4 }
open Go.RowKit in
theorem Tryz.cmp_Compare_int (x y:Int)(w:World) :
  Calls Tryz.prog 88 #[.int .i64 x,.int .i64 y] w fun e w'=>e=.returned (.int .i64 (Lib.compareInt x y))∧w'=w:=Any.cmp_Compare_int Tryz.lays122 x y w
def Tryz.lays195_ren : Go.Shelf.Ren:=⟨fun|195=>91|n=>n,fun|9=>9|3=>3|0=>0|4=>4|n=>n,fun|n=>n⟩
theorem Tryz.lays195 : Go.Proofs.Lays.n195 Tryz.prog Tryz.lays195_ren:={
 mixed:=by kernel_rfl
 f195:=Tryz.func91.trans (congrArg some (by kernel_rfl))
 t0:=Tryz.underlying0
 a0:=Tryz.isAgg0
 z0:=Tryz.sizeOf0
 v0:=Tryz.zeroValue0
 t3:=Tryz.underlying3
 a3:=Tryz.isAgg3
 z3:=Tryz.sizeOf3
 v3:=Tryz.zeroValue3
 t4:=Tryz.underlying4
 a4:=Tryz.isAgg4
 z4:=Tryz.sizeOf4
 v4:=Tryz.zeroValue4
 t9:=Tryz.underlying9
 a9:=Tryz.isAgg9
 z9:=Tryz.sizeOf9
 v9:=Tryz.zeroValue9 }
open Go.RowKit in
theorem Tryz.utf8_RuneCountInString (s:ByteArray)(w:World)(hs:s.size<9223372036854775807) :
  Calls Tryz.prog 91 #[.string s] w fun e w'=>e=.returned (.int .i64 (Lib.runeCount s))∧∃ pos,w'=w.iter s pos:=Any.utf8_RuneCountInString Tryz.lays195 s w hs
def Tryz.lays129_ren : Go.Shelf.Ren:=⟨fun|129=>114|n=>n,fun|53=>183|3=>3|4=>4|46=>149|5=>5|9=>9|n=>n,fun|n=>n⟩
theorem Tryz.lays129 : Go.Proofs.Lays.n129 Tryz.prog Tryz.lays129_ren:={
 mixed:=by kernel_rfl
 f129:=Tryz.func114.trans (congrArg some (by kernel_rfl))
 t3:=Tryz.underlying3
 a3:=Tryz.isAgg3
 z3:=Tryz.sizeOf3
 v3:=Tryz.zeroValue3
 t4:=Tryz.underlying4
 a4:=Tryz.isAgg4
 z4:=Tryz.sizeOf4
 v4:=Tryz.zeroValue4
 t5:=Tryz.underlying5
 a5:=Tryz.isAgg5
 z5:=Tryz.sizeOf5
 v5:=Tryz.zeroValue5
 t9:=Tryz.underlying9
 a9:=Tryz.isAgg9
 z9:=Tryz.sizeOf9
 v9:=Tryz.zeroValue9
 t46:=Tryz.underlying149
 a46:=Tryz.isAgg149
 z46:=Tryz.sizeOf149
 v46:=Tryz.zeroValue149
 t53:=Tryz.underlying183
 a53:=Tryz.isAgg183
 z53:=Tryz.sizeOf183
 v53:=Tryz.zeroValue183 }
theorem Tryz.bits_Len64 (x:Int)(w:World)(h0:0≤x)(h1:x≤18446744073709551615) :
  Calls Tryz.prog 114 #[.int .u64 x] w fun e w'=>e=.returned (.int .i64 (Lib.bitLen x.toNat))∧w'=w:=Any.bits_Len64 Tryz.lays129 x w h0 h1
def Tryz.lays317_ren : Go.Shelf.Ren:=⟨fun|317=>135|n=>n,fun|3=>3|46=>149|n=>n,fun|n=>n⟩
theorem Tryz.lays317 : Go.Proofs.Lays.n317 Tryz.prog Tryz.lays317_ren:={
 mixed:=by kernel_rfl
 f317:=Tryz.func135.trans (congrArg some (by kernel_rfl))
 t3:=Tryz.underlying3
 a3:=Tryz.isAgg3
 z3:=Tryz.sizeOf3
 v3:=Tryz.zeroValue3
 t46:=Tryz.underlying149
 a46:=Tryz.isAgg149
 z46:=Tryz.sizeOf149
 v46:=Tryz.zeroValue149 }
open Go.Lib in
theorem Tryz.internal_strconv_log10Pow2 (x:Nat)(h:x≤64)(w:World) :
  Calls Tryz.prog 135 #[.int .i64 x] w fun e w'=>e=.returned (.int .i64 (Lib.l10 x))∧w'=w:=Any.internal_strconv_log10Pow2 Tryz.lays317 x h w
def Tryz.lays318_ren : Go.Shelf.Ren:=⟨fun|318=>136|n=>n,fun|3=>3|4=>4|n=>n,fun|n=>n⟩
theorem Tryz.lays318 : Go.Proofs.Lays.n318 Tryz.prog Tryz.lays318_ren:={
 mixed:=by kernel_rfl
 f318:=Tryz.func136.trans (congrArg some (by kernel_rfl))
 t3:=Tryz.underlying3
 a3:=Tryz.isAgg3
 z3:=Tryz.sizeOf3
 v3:=Tryz.zeroValue3
 t4:=Tryz.underlying4
 a4:=Tryz.isAgg4
 z4:=Tryz.sizeOf4
 v4:=Tryz.zeroValue4 }
open Go.Lib in
theorem Tryz.internal_strconv_bool2_int (b:Bool)(w:World) :
  Calls Tryz.prog 136 #[.bool b] w fun e w'=>e=.returned (.int .i64 (if b then 1 else 0))∧w'=w:=Any.internal_strconv_bool2_int Tryz.lays318 b w
def Tryz.lays283_ren : Go.Shelf.Ren:=⟨fun|283=>116|n=>n,fun|3=>3|9=>9|4=>4|n=>n,fun|n=>n⟩
theorem Tryz.lays283 : Go.Proofs.Lays.n283 Tryz.prog Tryz.lays283_ren:={
 mixed:=by kernel_rfl
 f283:=Tryz.func116.trans (congrArg some (by kernel_rfl))
 t3:=Tryz.underlying3
 a3:=Tryz.isAgg3
 z3:=Tryz.sizeOf3
 v3:=Tryz.zeroValue3
 t4:=Tryz.underlying4
 a4:=Tryz.isAgg4
 z4:=Tryz.sizeOf4
 v4:=Tryz.zeroValue4
 t9:=Tryz.underlying9
 a9:=Tryz.isAgg9
 z9:=Tryz.sizeOf9
 v9:=Tryz.zeroValue9 }
open Go.Lib in
theorem Tryz.internal_strconv_small (i:Nat)(h:i<100)(w:World) :
  Calls Tryz.prog 116 #[.int .i64 i] w fun e w'=>e=.returned (.string ⟨(Lib.decDigits i).toArray⟩)∧w'=w:=Any.internal_strconv_small Tryz.lays283 i h w
def Tryz.laysM284_ren : Go.Shelf.Ren:=⟨fun|284=>117|129=>114|317=>135|318=>136|n=>n,fun|53=>183|3=>3|212=>201|0=>0|4=>4|46=>149|5=>5|9=>9|n=>n,fun|17=>1|n=>n⟩
theorem Tryz.laysM284 : Go.Proofs.LaysM.n284 Tryz.prog Tryz.laysM284_ren:={
 mixed:=by kernel_rfl
 f129:=Tryz.func114.trans (congrArg some (by kernel_rfl))
 f284:=Tryz.func117.trans (congrArg some (by kernel_rfl))
 f317:=Tryz.func135.trans (congrArg some (by kernel_rfl))
 f318:=Tryz.func136.trans (congrArg some (by kernel_rfl))
 t0:=Tryz.underlying0
 a0:=Tryz.isAgg0
 z0:=Tryz.sizeOf0
 v0:=Tryz.zeroValue0
 t3:=Tryz.underlying3
 a3:=Tryz.isAgg3
 z3:=Tryz.sizeOf3
 v3:=Tryz.zeroValue3
 t4:=Tryz.underlying4
 a4:=Tryz.isAgg4
 z4:=Tryz.sizeOf4
 v4:=Tryz.zeroValue4
 t5:=Tryz.underlying5
 a5:=Tryz.isAgg5
 z5:=Tryz.sizeOf5
 v5:=Tryz.zeroValue5
 t9:=Tryz.underlying9
 a9:=Tryz.isAgg9
 z9:=Tryz.sizeOf9
 v9:=Tryz.zeroValue9
 t46:=Tryz.underlying149
 a46:=Tryz.isAgg149
 z46:=Tryz.sizeOf149
 v46:=Tryz.zeroValue149
 t53:=Tryz.underlying183
 a53:=Tryz.isAgg183
 z53:=Tryz.sizeOf183
 v53:=Tryz.zeroValue183
 t212:=Tryz.underlying201
 a212:=Tryz.isAgg201
 z212:=Tryz.sizeOf201
 v212:=Tryz.zeroValue201
 g17:=by kernel_rfl
 i0:=by kernel_rfl
 i3:=by kernel_rfl
 i4:=by kernel_rfl
 i5:=by kernel_rfl
 i9:=by kernel_rfl
 i46:=by kernel_rfl
 i53:=by kernel_rfl
 i212:=by kernel_rfl
 m17:=by kernel_rfl }
open Go.Lib in
theorem Tryz.internal_strconv_numDigits (u:Nat)(h1:1≤u)(h2:u<18446744073709551616)(w:World)(htab:Lib.TabIs Tryz.prog w "internal/strconv.uint64pow10" .u64 Lib.pow10Tab) :
  Calls Tryz.prog 117 #[.int .u64 u] w fun e w'=>e=.returned (.int .i64 (Lib.nDigits u))∧w'=w:=Any.internal_strconv_numDigits Tryz.laysM284 u h1 h2 w htab
def Tryz.lays285_ren : Go.Shelf.Ren:=⟨fun|285=>118|n=>n,fun|37=>87|53=>183|3=>3|4=>4|51=>181|9=>9|5=>5|0=>0|n=>n,fun|n=>n⟩
theorem Tryz.lays285 : Go.Proofs.Lays.n285 Tryz.prog Tryz.lays285_ren:={
 mixed:=by kernel_rfl
 f285:=Tryz.func118.trans (congrArg some (by kernel_rfl))
 t0:=Tryz.underlying0
 a0:=Tryz.isAgg0
 z0:=Tryz.sizeOf0
 v0:=Tryz.zeroValue0
 t3:=Tryz.underlying3
 a3:=Tryz.isAgg3
 z3:=Tryz.sizeOf3
 v3:=Tryz.zeroValue3
 t4:=Tryz.underlying4
 a4:=Tryz.isAgg4
 z4:=Tryz.sizeOf4
 v4:=Tryz.zeroValue4
 t5:=Tryz.underlying5
 a5:=Tryz.isAgg5
 z5:=Tryz.sizeOf5
 v5:=Tryz.zeroValue5
 t9:=Tryz.underlying9
 a9:=Tryz.isAgg9
 z9:=Tryz.sizeOf9
 v9:=Tryz.zeroValue9
 t37:=Tryz.underlying87
 a37:=Tryz.isAgg87
 z37:=Tryz.sizeOf87
 v37:=Tryz.zeroValue87
 t51:=Tryz.underlying181
 a51:=Tryz.isAgg181
 z51:=Tryz.sizeOf181
 v51:=Tryz.zeroValue181
 t53:=Tryz.underlying183
 a53:=Tryz.isAgg183
 z53:=Tryz.sizeOf183
 v53:=Tryz.zeroValue183 }
open Go.RowKit Go.Sort Go.Lib in
theorem Tryz.internal_strconv_formatBase10 (blk off cap:Nat)(u:Nat)(d:Array UInt8)(w:World)(hH:Holds (fun(b:UInt8)=>Value.int .u8 (b.toNat:Int)) w blk off d)(hu:u<10 ^ d.size)(hu64:u<18446744073709551616)(hsz:d.size<4611686018427387904) :
  Calls Tryz.prog 118 #[.slice (some ⟨blk,off,none⟩) d.size cap,.int .u64 u] w fun e w' =>
   e=.returned (.tuple #[])∧∃ (n v':Nat) (dk:Array UInt8),w'=(putRow (fun(b:UInt8)=>Value.int .u8 (b.toNat:Int)) w blk off dk).drewN n∧FmtInv d.size u 0 v' dk:=Any.internal_strconv_formatBase10 Tryz.lays285 blk off cap u d w hH hu hu64 hsz
def Tryz.laysM246_ren : Go.Shelf.Ren:=⟨fun|246=>90|283=>116|284=>117|285=>118|286=>119|129=>114|317=>135|318=>136|319=>137|320=>138|337=>147|338=>148|n=>n,fun|2=>2|3=>3|9=>9|4=>4|171=>184|0=>0|53=>183|37=>87|5=>5|173=>186|212=>201|51=>181|20=>20|213=>202|46=>149|232=>217|233=>218|n=>n,fun|17=>1|18=>4|19=>5|n=>n⟩
theorem Tryz.laysM246 : Go.Proofs.LaysM.n246 Tryz.prog Tryz.laysM246_ren:={
 mixed:=by kernel_rfl
 f129:=Tryz.func114.trans (congrArg some (by kernel_rfl))
 f246:=Tryz.func90.trans (congrArg some (by kernel_rfl))
 f283:=Tryz.func116.trans (congrArg some (by kernel_rfl))
 f284:=Tryz.func117.trans (congrArg some (by kernel_rfl))
 f285:=Tryz.func118.trans (congrArg some (by kernel_rfl))
 f286:=Tryz.func119.trans (congrArg some (by kernel_rfl))
 f317:=Tryz.func135.trans (congrArg some (by kernel_rfl))
 f318:=Tryz.func136.trans (congrArg some (by kernel_rfl))
 f319:=Tryz.func137.trans (congrArg some (by kernel_rfl))
 f320:=Tryz.func138.trans (congrArg some (by kernel_rfl))
 f337:=Tryz.func147.trans (congrArg some (by kernel_rfl))
 f338:=Tryz.func148.trans (congrArg some (by kernel_rfl))
 t0:=Tryz.underlying0
 a0:=Tryz.isAgg0
 z0:=Tryz.sizeOf0
 v0:=Tryz.zeroValue0
 t2:=Tryz.underlying2
 a2:=Tryz.isAgg2
 z2:=Tryz.sizeOf2
 v2:=Tryz.zeroValue2
 t3:=Tryz.underlying3
 a3:=Tryz.isAgg3
 z3:=Tryz.sizeOf3
 v3:=Tryz.zeroValue3
 t4:=Tryz.underlying4
 a4:=Tryz.isAgg4
 z4:=Tryz.sizeOf4
 v4:=Tryz.zeroValue4
 t5:=Tryz.underlying5
 a5:=Tryz.isAgg5
 z5:=Tryz.sizeOf5
 v5:=Tryz.zeroValue5
 t9:=Tryz.underlying9
 a9:=Tryz.isAgg9
 z9:=Tryz.sizeOf9
 v9:=Tryz.zeroValue9
 t20:=Tryz.underlying20
 a20:=Tryz.isAgg20
 z20:=Tryz.sizeOf20
 v20:=Tryz.zeroValue20
 t37:=Tryz.underlying87
 a37:=Tryz.isAgg87
 z37:=Tryz.sizeOf87
 v37:=Tryz.zeroValue87
 t46:=Tryz.underlying149
 a46:=Tryz.isAgg149
 z46:=Tryz.sizeOf149
 v46:=Tryz.zeroValue149
 t51:=Tryz.underlying181
 a51:=Tryz.isAgg181
 z51:=Tryz.sizeOf181
 v51:=Tryz.zeroValue181
 t53:=Tryz.underlying183
 a53:=Tryz.isAgg183
 z53:=Tryz.sizeOf183
 v53:=Tryz.zeroValue183
 t171:=Tryz.underlying184
 a171:=Tryz.isAgg184
 z171:=Tryz.sizeOf184
 v171:=Tryz.zeroValue184
 t173:=Tryz.underlying186
 a173:=Tryz.isAgg186
 z173:=Tryz.sizeOf186
 v173:=Tryz.zeroValue186
 t212:=Tryz.underlying201
 a212:=Tryz.isAgg201
 z212:=Tryz.sizeOf201
 v212:=Tryz.zeroValue201
 t213:=Tryz.underlying202
 a213:=Tryz.isAgg202
 z213:=Tryz.sizeOf202
 t232:=Tryz.underlying217
 a232:=Tryz.isAgg217
 z232:=Tryz.sizeOf217
 v232:=Tryz.zeroValue217
 t233:=Tryz.underlying218
 a233:=Tryz.isAgg218
 z233:=Tryz.sizeOf218
 v233:=Tryz.zeroValue218
 g17:=by kernel_rfl
 g18:=by kernel_rfl
 g19:=by kernel_rfl
 i0:=by kernel_rfl
 i2:=by kernel_rfl
 i3:=by kernel_rfl
 i4:=by kernel_rfl
 i5:=by kernel_rfl
 i9:=by kernel_rfl
 i20:=by kernel_rfl
 i37:=by kernel_rfl
 i46:=by kernel_rfl
 i51:=by kernel_rfl
 i53:=by kernel_rfl
 i171:=by kernel_rfl
 i173:=by kernel_rfl
 i212:=by kernel_rfl
 i232:=by kernel_rfl
 i233:=by kernel_rfl
 m17:=by kernel_rfl
 m18:=by kernel_rfl
 m19:=by kernel_rfl }
open Go.RowKit Go.Sort Go.Lib in
theorem Tryz.internal_strconv_FormatInt_10 (n:Int)(h0:-9223372036854775808≤n)(h1:n≤9223372036854775807)(w:World)(htab:Lib.TabIs Tryz.prog w "internal/strconv.uint64pow10" .u64 Lib.pow10Tab) :
  Calls Tryz.prog 90 #[.int .i64 n,.int .i64 10] w fun e w'=>e=.returned (.string ⟨(Lib.itoa n).toArray⟩)∧∃ k os,w'=grow (w.drewN k) os:=Any.internal_strconv_FormatInt_10 Tryz.laysM246 n h0 h1 w htab
def Tryz.lays246_ren : Go.Shelf.Ren:=⟨fun|246=>90|283=>116|284=>117|285=>118|286=>119|129=>114|317=>135|318=>136|319=>137|320=>138|337=>147|338=>148|n=>n,fun|2=>2|3=>3|9=>9|4=>4|171=>184|0=>0|53=>183|37=>87|5=>5|173=>186|212=>201|51=>181|20=>20|213=>202|46=>149|232=>217|233=>218|n=>n,fun|17=>1|18=>4|19=>5|n=>n⟩
theorem Tryz.lays246 : Go.Proofs.Lays.n246 Tryz.prog Tryz.lays246_ren:={
 mixed:=by kernel_rfl
 f129:=Tryz.func114.trans (congrArg some (by kernel_rfl))
 f246:=Tryz.func90.trans (congrArg some (by kernel_rfl))
 f283:=Tryz.func116.trans (congrArg some (by kernel_rfl))
 f284:=Tryz.func117.trans (congrArg some (by kernel_rfl))
 f285:=Tryz.func118.trans (congrArg some (by kernel_rfl))
 f286:=Tryz.func119.trans (congrArg some (by kernel_rfl))
 f317:=Tryz.func135.trans (congrArg some (by kernel_rfl))
 f318:=Tryz.func136.trans (congrArg some (by kernel_rfl))
 f319:=Tryz.func137.trans (congrArg some (by kernel_rfl))
 f320:=Tryz.func138.trans (congrArg some (by kernel_rfl))
 f337:=Tryz.func147.trans (congrArg some (by kernel_rfl))
 f338:=Tryz.func148.trans (congrArg some (by kernel_rfl))
 t0:=Tryz.underlying0
 a0:=Tryz.isAgg0
 z0:=Tryz.sizeOf0
 v0:=Tryz.zeroValue0
 t2:=Tryz.underlying2
 a2:=Tryz.isAgg2
 z2:=Tryz.sizeOf2
 v2:=Tryz.zeroValue2
 t3:=Tryz.underlying3
 a3:=Tryz.isAgg3
 z3:=Tryz.sizeOf3
 v3:=Tryz.zeroValue3
 t4:=Tryz.underlying4
 a4:=Tryz.isAgg4
 z4:=Tryz.sizeOf4
 v4:=Tryz.zeroValue4
 t5:=Tryz.underlying5
 a5:=Tryz.isAgg5
 z5:=Tryz.sizeOf5
 v5:=Tryz.zeroValue5
 t9:=Tryz.underlying9
 a9:=Tryz.isAgg9
 z9:=Tryz.sizeOf9
 v9:=Tryz.zeroValue9
 t20:=Tryz.underlying20
 a20:=Tryz.isAgg20
 z20:=Tryz.sizeOf20
 v20:=Tryz.zeroValue20
 t37:=Tryz.underlying87
 a37:=Tryz.isAgg87
 z37:=Tryz.sizeOf87
 v37:=Tryz.zeroValue87
 t46:=Tryz.underlying149
 a46:=Tryz.isAgg149
 z46:=Tryz.sizeOf149
 v46:=Tryz.zeroValue149
 t51:=Tryz.underlying181
 a51:=Tryz.isAgg181
 z51:=Tryz.sizeOf181
 v51:=Tryz.zeroValue181
 t53:=Tryz.underlying183
 a53:=Tryz.isAgg183
 z53:=Tryz.sizeOf183
 v53:=Tryz.zeroValue183
 t171:=Tryz.underlying184
 a171:=Tryz.isAgg184
 z171:=Tryz.sizeOf184
 v171:=Tryz.zeroValue184
 t173:=Tryz.underlying186
 a173:=Tryz.isAgg186
 z173:=Tryz.sizeOf186
 v173:=Tryz.zeroValue186
 t212:=Tryz.underlying201
 a212:=Tryz.isAgg201
 z212:=Tryz.sizeOf201
 v212:=Tryz.zeroValue201
 t213:=Tryz.underlying202
 a213:=Tryz.isAgg202
 z213:=Tryz.sizeOf202
 t232:=Tryz.underlying217
 a232:=Tryz.isAgg217
 z232:=Tryz.sizeOf217
 v232:=Tryz.zeroValue217
 t233:=Tryz.underlying218
 a233:=Tryz.isAgg218
 z233:=Tryz.sizeOf218
 v233:=Tryz.zeroValue218
 g17:=by kernel_rfl
 g18:=by kernel_rfl
 g19:=by kernel_rfl }
open Go.RowKit Go.Sort Go.Lib in
theorem Tryz.internal_strconv_FormatInt_10_small (i:Nat)(hi:i<100)(w:World) :
  Calls Tryz.prog 90 #[.int .i64 i,.int .i64 10] w fun e w'=>e=.returned (.string ⟨(Lib.decDigits i).toArray⟩)∧w'=w:=Any.internal_strconv_FormatInt_10_small Tryz.lays246 i hi w
def Tryz.laysM243_ren : Go.Shelf.Ren:=⟨fun|243=>67|246=>90|283=>116|284=>117|285=>118|286=>119|129=>114|317=>135|318=>136|319=>137|320=>138|337=>147|338=>148|n=>n,fun|3=>3|9=>9|2=>2|4=>4|171=>184|0=>0|53=>183|37=>87|5=>5|173=>186|212=>201|51=>181|20=>20|213=>202|46=>149|232=>217|233=>218|n=>n,fun|17=>1|18=>4|19=>5|n=>n⟩
theorem Tryz.laysM243 : Go.Proofs.LaysM.n243 Tryz.prog Tryz.laysM243_ren:={
 mixed:=by kernel_rfl
 f129:=Tryz.func114.trans (congrArg some (by kernel_rfl))
 f243:=Tryz.func67.trans (congrArg some (by kernel_rfl))
 f246:=Tryz.func90.trans (congrArg some (by kernel_rfl))
 f283:=Tryz.func116.trans (congrArg some (by kernel_rfl))
 f284:=Tryz.func117.trans (congrArg some (by kernel_rfl))
 f285:=Tryz.func118.trans (congrArg some (by kernel_rfl))
 f286:=Tryz.func119.trans (congrArg some (by kernel_rfl))
 f317:=Tryz.func135.trans (congrArg some (by kernel_rfl))
 f318:=Tryz.func136.trans (congrArg some (by kernel_rfl))
 f319:=Tryz.func137.trans (congrArg some (by kernel_rfl))
 f320:=Tryz.func138.trans (congrArg some (by kernel_rfl))
 f337:=Tryz.func147.trans (congrArg some (by kernel_rfl))
 f338:=Tryz.func148.trans (congrArg some (by kernel_rfl))
 t0:=Tryz.underlying0
 a0:=Tryz.isAgg0
 z0:=Tryz.sizeOf0
 v0:=Tryz.zeroValue0
 t2:=Tryz.underlying2
 a2:=Tryz.isAgg2
 z2:=Tryz.sizeOf2
 v2:=Tryz.zeroValue2
 t3:=Tryz.underlying3
 a3:=Tryz.isAgg3
 z3:=Tryz.sizeOf3
 v3:=Tryz.zeroValue3
 t4:=Tryz.underlying4
 a4:=Tryz.isAgg4
 z4:=Tryz.sizeOf4
 v4:=Tryz.zeroValue4
 t5:=Tryz.underlying5
 a5:=Tryz.isAgg5
 z5:=Tryz.sizeOf5
 v5:=Tryz.zeroValue5
 t9:=Tryz.underlying9
 a9:=Tryz.isAgg9
 z9:=Tryz.sizeOf9
 v9:=Tryz.zeroValue9
 t20:=Tryz.underlying20
 a20:=Tryz.isAgg20
 z20:=Tryz.sizeOf20
 v20:=Tryz.zeroValue20
 t37:=Tryz.underlying87
 a37:=Tryz.isAgg87
 z37:=Tryz.sizeOf87
 v37:=Tryz.zeroValue87
 t46:=Tryz.underlying149
 a46:=Tryz.isAgg149
 z46:=Tryz.sizeOf149
 v46:=Tryz.zeroValue149
 t51:=Tryz.underlying181
 a51:=Tryz.isAgg181
 z51:=Tryz.sizeOf181
 v51:=Tryz.zeroValue181
 t53:=Tryz.underlying183
 a53:=Tryz.isAgg183
 z53:=Tryz.sizeOf183
 v53:=Tryz.zeroValue183
 t171:=Tryz.underlying184
 a171:=Tryz.isAgg184
 z171:=Tryz.sizeOf184
 v171:=Tryz.zeroValue184
 t173:=Tryz.underlying186
 a173:=Tryz.isAgg186
 z173:=Tryz.sizeOf186
 v173:=Tryz.zeroValue186
 t212:=Tryz.underlying201
 a212:=Tryz.isAgg201
 z212:=Tryz.sizeOf201
 v212:=Tryz.zeroValue201
 t213:=Tryz.underlying202
 a213:=Tryz.isAgg202
 z213:=Tryz.sizeOf202
 t232:=Tryz.underlying217
 a232:=Tryz.isAgg217
 z232:=Tryz.sizeOf217
 v232:=Tryz.zeroValue217
 t233:=Tryz.underlying218
 a233:=Tryz.isAgg218
 z233:=Tryz.sizeOf218
 v233:=Tryz.zeroValue218
 g17:=by kernel_rfl
 g18:=by kernel_rfl
 g19:=by kernel_rfl
 i0:=by kernel_rfl
 i2:=by kernel_rfl
 i3:=by kernel_rfl
 i4:=by kernel_rfl
 i5:=by kernel_rfl
 i9:=by kernel_rfl
 i20:=by kernel_rfl
 i37:=by kernel_rfl
 i46:=by kernel_rfl
 i51:=by kernel_rfl
 i53:=by kernel_rfl
 i171:=by kernel_rfl
 i173:=by kernel_rfl
 i212:=by kernel_rfl
 i232:=by kernel_rfl
 i233:=by kernel_rfl
 m17:=by kernel_rfl
 m18:=by kernel_rfl
 m19:=by kernel_rfl }
open Go.RowKit Go.Sort Go.Lib in
theorem Tryz.internal_strconv_Itoa (n:Int)(h0:-9223372036854775808≤n)(h1:n≤9223372036854775807)(w:World)(htab:Lib.TabIs Tryz.prog w "internal/strconv.uint64pow10" .u64 Lib.pow10Tab) :
  Calls Tryz.prog 67 #[.int .i64 n] w fun e w'=>e=.returned (.string ⟨(Lib.itoa n).toArray⟩)∧∃ k os,w'=grow (w.drewN k) os:=Any.internal_strconv_Itoa Tryz.laysM243 n h0 h1 w htab
def Tryz.lays243_ren : Go.Shelf.Ren:=⟨fun|243=>67|246=>90|283=>116|284=>117|285=>118|286=>119|129=>114|317=>135|318=>136|319=>137|320=>138|337=>147|338=>148|n=>n,fun|3=>3|9=>9|2=>2|4=>4|171=>184|0=>0|53=>183|37=>87|5=>5|173=>186|212=>201|51=>181|20=>20|213=>202|46=>149|232=>217|233=>218|n=>n,fun|17=>1|18=>4|19=>5|n=>n⟩
theorem Tryz.lays243 : Go.Proofs.Lays.n243 Tryz.prog Tryz.lays243_ren:={
 mixed:=by kernel_rfl
 f129:=Tryz.func114.trans (congrArg some (by kernel_rfl))
 f243:=Tryz.func67.trans (congrArg some (by kernel_rfl))
 f246:=Tryz.func90.trans (congrArg some (by kernel_rfl))
 f283:=Tryz.func116.trans (congrArg some (by kernel_rfl))
 f284:=Tryz.func117.trans (congrArg some (by kernel_rfl))
 f285:=Tryz.func118.trans (congrArg some (by kernel_rfl))
 f286:=Tryz.func119.trans (congrArg some (by kernel_rfl))
 f317:=Tryz.func135.trans (congrArg some (by kernel_rfl))
 f318:=Tryz.func136.trans (congrArg some (by kernel_rfl))
 f319:=Tryz.func137.trans (congrArg some (by kernel_rfl))
 f320:=Tryz.func138.trans (congrArg some (by kernel_rfl))
 f337:=Tryz.func147.trans (congrArg some (by kernel_rfl))
 f338:=Tryz.func148.trans (congrArg some (by kernel_rfl))
 t0:=Tryz.underlying0
 a0:=Tryz.isAgg0
 z0:=Tryz.sizeOf0
 v0:=Tryz.zeroValue0
 t2:=Tryz.underlying2
 a2:=Tryz.isAgg2
 z2:=Tryz.sizeOf2
 v2:=Tryz.zeroValue2
 t3:=Tryz.underlying3
 a3:=Tryz.isAgg3
 z3:=Tryz.sizeOf3
 v3:=Tryz.zeroValue3
 t4:=Tryz.underlying4
 a4:=Tryz.isAgg4
 z4:=Tryz.sizeOf4
 v4:=Tryz.zeroValue4
 t5:=Tryz.underlying5
 a5:=Tryz.isAgg5
 z5:=Tryz.sizeOf5
 v5:=Tryz.zeroValue5
 t9:=Tryz.underlying9
 a9:=Tryz.isAgg9
 z9:=Tryz.sizeOf9
 v9:=Tryz.zeroValue9
 t20:=Tryz.underlying20
 a20:=Tryz.isAgg20
 z20:=Tryz.sizeOf20
 v20:=Tryz.zeroValue20
 t37:=Tryz.underlying87
 a37:=Tryz.isAgg87
 z37:=Tryz.sizeOf87
 v37:=Tryz.zeroValue87
 t46:=Tryz.underlying149
 a46:=Tryz.isAgg149
 z46:=Tryz.sizeOf149
 v46:=Tryz.zeroValue149
 t51:=Tryz.underlying181
 a51:=Tryz.isAgg181
 z51:=Tryz.sizeOf181
 v51:=Tryz.zeroValue181
 t53:=Tryz.underlying183
 a53:=Tryz.isAgg183
 z53:=Tryz.sizeOf183
 v53:=Tryz.zeroValue183
 t171:=Tryz.underlying184
 a171:=Tryz.isAgg184
 z171:=Tryz.sizeOf184
 v171:=Tryz.zeroValue184
 t173:=Tryz.underlying186
 a173:=Tryz.isAgg186
 z173:=Tryz.sizeOf186
 v173:=Tryz.zeroValue186
 t212:=Tryz.underlying201
 a212:=Tryz.isAgg201
 z212:=Tryz.sizeOf201
 v212:=Tryz.zeroValue201
 t213:=Tryz.underlying202
 a213:=Tryz.isAgg202
 z213:=Tryz.sizeOf202
 t232:=Tryz.underlying217
 a232:=Tryz.isAgg217
 z232:=Tryz.sizeOf217
 v232:=Tryz.zeroValue217
 t233:=Tryz.underlying218
 a233:=Tryz.isAgg218
 z233:=Tryz.sizeOf218
 v233:=Tryz.zeroValue218
 g17:=by kernel_rfl
 g18:=by kernel_rfl
 g19:=by kernel_rfl }
open Go.RowKit Go.Sort Go.Lib in
theorem Tryz.internal_strconv_Itoa_small (i:Nat)(hi:i<100)(w:World) :
  Calls Tryz.prog 67 #[.int .i64 i] w fun e w'=>e=.returned (.string ⟨(Lib.decDigits i).toArray⟩)∧w'=w:=Any.internal_strconv_Itoa_small Tryz.lays243 i hi w
def Tryz.laysM171_ren : Go.Shelf.Ren:=⟨fun|171=>33|243=>67|246=>90|283=>116|284=>117|285=>118|286=>119|129=>114|317=>135|318=>136|319=>137|320=>138|337=>147|338=>148|n=>n,fun|3=>3|9=>9|2=>2|4=>4|171=>184|0=>0|53=>183|37=>87|5=>5|173=>186|212=>201|51=>181|20=>20|213=>202|46=>149|232=>217|233=>218|n=>n,fun|17=>1|18=>4|19=>5|n=>n⟩
theorem Tryz.laysM171 : Go.Proofs.LaysM.n171 Tryz.prog Tryz.laysM171_ren:={
 mixed:=by kernel_rfl
 f129:=Tryz.func114.trans (congrArg some (by kernel_rfl))
 f171:=Tryz.func33.trans (congrArg some (by kernel_rfl))
 f243:=Tryz.func67.trans (congrArg some (by kernel_rfl))
 f246:=Tryz.func90.trans (congrArg some (by kernel_rfl))
 f283:=Tryz.func116.trans (congrArg some (by kernel_rfl))
 f284:=Tryz.func117.trans (congrArg some (by kernel_rfl))
 f285:=Tryz.func118.trans (congrArg some (by kernel_rfl))
 f286:=Tryz.func119.trans (congrArg some (by kernel_rfl))
 f317:=Tryz.func135.trans (congrArg some (by kernel_rfl))
 f318:=Tryz.func136.trans (congrArg some (by kernel_rfl))
 f319:=Tryz.func137.trans (congrArg some (by kernel_rfl))
 f320:=Tryz.func138.trans (congrArg some (by kernel_rfl))
 f337:=Tryz.func147.trans (congrArg some (by kernel_rfl))
 f338:=Tryz.func148.trans (congrArg some (by kernel_rfl))
 t0:=Tryz.underlying0
 a0:=Tryz.isAgg0
 z0:=Tryz.sizeOf0
 v0:=Tryz.zeroValue0
 t2:=Tryz.underlying2
 a2:=Tryz.isAgg2
 z2:=Tryz.sizeOf2
 v2:=Tryz.zeroValue2
 t3:=Tryz.underlying3
 a3:=Tryz.isAgg3
 z3:=Tryz.sizeOf3
 v3:=Tryz.zeroValue3
 t4:=Tryz.underlying4
 a4:=Tryz.isAgg4
 z4:=Tryz.sizeOf4
 v4:=Tryz.zeroValue4
 t5:=Tryz.underlying5
 a5:=Tryz.isAgg5
 z5:=Tryz.sizeOf5
 v5:=Tryz.zeroValue5
 t9:=Tryz.underlying9
 a9:=Tryz.isAgg9
 z9:=Tryz.sizeOf9
 v9:=Tryz.zeroValue9
 t20:=Tryz.underlying20
 a20:=Tryz.isAgg20
 z20:=Tryz.sizeOf20
 v20:=Tryz.zeroValue20
 t37:=Tryz.underlying87
 a37:=Tryz.isAgg87
 z37:=Tryz.sizeOf87
 v37:=Tryz.zeroValue87
 t46:=Tryz.underlying149
 a46:=Tryz.isAgg149
 z46:=Tryz.sizeOf149
 v46:=Tryz.zeroValue149
 t51:=Tryz.underlying181
 a51:=Tryz.isAgg181
 z51:=Tryz.sizeOf181
 v51:=Tryz.zeroValue181
 t53:=Tryz.underlying183
 a53:=Tryz.isAgg183
 z53:=Tryz.sizeOf183
 v53:=Tryz.zeroValue183
 t171:=Tryz.underlying184
 a171:=Tryz.isAgg184
 z171:=Tryz.sizeOf184
 v171:=Tryz.zeroValue184
 t173:=Tryz.underlying186
 a173:=Tryz.isAgg186
 z173:=Tryz.sizeOf186
 v173:=Tryz.zeroValue186
 t212:=Tryz.underlying201
 a212:=Tryz.isAgg201
 z212:=Tryz.sizeOf201
 v212:=Tryz.zeroValue201
 t213:=Tryz.underlying202
 a213:=Tryz.isAgg202
 z213:=Tryz.sizeOf202
 t232:=Tryz.underlying217
 a232:=Tryz.isAgg217
 z232:=Tryz.sizeOf217
 v232:=Tryz.zeroValue217
 t233:=Tryz.underlying218
 a233:=Tryz.isAgg218
 z233:=Tryz.sizeOf218
 v233:=Tryz.zeroValue218
 g17:=by kernel_rfl
 g18:=by kernel_rfl
 g19:=by kernel_rfl
 i0:=by kernel_rfl
 i2:=by kernel_rfl
 i3:=by kernel_rfl
 i4:=by kernel_rfl
 i5:=by kernel_rfl
 i9:=by kernel_rfl
 i20:=by kernel_rfl
 i37:=by kernel_rfl
 i46:=by kernel_rfl
 i51:=by kernel_rfl
 i53:=by kernel_rfl
 i171:=by kernel_rfl
 i173:=by kernel_rfl
 i212:=by kernel_rfl
 i232:=by kernel_rfl
 i233:=by kernel_rfl
 m17:=by kernel_rfl
 m18:=by kernel_rfl
 m19:=by kernel_rfl }
open Go.RowKit Go.Sort Go.Lib in
theorem Tryz.strconv_Itoa (n:Int)(h0:-9223372036854775808≤n)(h1:n≤9223372036854775807)(w:World)(htab:Lib.TabIs Tryz.prog w "internal/strconv.uint64pow10" .u64 Lib.pow10Tab) :
  Calls Tryz.prog 33 #[.int .i64 n] w fun e w'=>e=.returned (.string ⟨(Lib.itoa n).toArray⟩)∧∃ k os,w'=grow (w.drewN k) os:=Any.strconv_Itoa Tryz.laysM171 n h0 h1 w htab
def Tryz.lays171_ren : Go.Shelf.Ren:=⟨fun|171=>33|243=>67|246=>90|283=>116|284=>117|285=>118|286=>119|129=>114|317=>135|318=>136|319=>137|320=>138|337=>147|338=>148|n=>n,fun|3=>3|9=>9|2=>2|4=>4|171=>184|0=>0|53=>183|37=>87|5=>5|173=>186|212=>201|51=>181|20=>20|213=>202|46=>149|232=>217|233=>218|n=>n,fun|17=>1|18=>4|19=>5|n=>n⟩
theorem Tryz.lays171 : Go.Proofs.Lays.n171 Tryz.prog Tryz.lays171_ren:={
 mixed:=by kernel_rfl
 f129:=Tryz.func114.trans (congrArg some (by kernel_rfl))
 f171:=Tryz.func33.trans (congrArg some (by kernel_rfl))
 f243:=Tryz.func67.trans (congrArg some (by kernel_rfl))
 f246:=Tryz.func90.trans (congrArg some (by kernel_rfl))
 f283:=Tryz.func116.trans (congrArg some (by kernel_rfl))
 f284:=Tryz.func117.trans (congrArg some (by kernel_rfl))
 f285:=Tryz.func118.trans (congrArg some (by kernel_rfl))
 f286:=Tryz.func119.trans (congrArg some (by kernel_rfl))
 f317:=Tryz.func135.trans (congrArg some (by kernel_rfl))
 f318:=Tryz.func136.trans (congrArg some (by kernel_rfl))
 f319:=Tryz.func137.trans (congrArg some (by kernel_rfl))
 f320:=Tryz.func138.trans (congrArg some (by kernel_rfl))
 f337:=Tryz.func147.trans (congrArg some (by kernel_rfl))
 f338:=Tryz.func148.trans (congrArg some (by kernel_rfl))
 t0:=Tryz.underlying0
 a0:=Tryz.isAgg0
 z0:=Tryz.sizeOf0
 v0:=Tryz.zeroValue0
 t2:=Tryz.underlying2
 a2:=Tryz.isAgg2
 z2:=Tryz.sizeOf2
 v2:=Tryz.zeroValue2
 t3:=Tryz.underlying3
 a3:=Tryz.isAgg3
 z3:=Tryz.sizeOf3
 v3:=Tryz.zeroValue3
 t4:=Tryz.underlying4
 a4:=Tryz.isAgg4
 z4:=Tryz.sizeOf4
 v4:=Tryz.zeroValue4
 t5:=Tryz.underlying5
 a5:=Tryz.isAgg5
 z5:=Tryz.sizeOf5
 v5:=Tryz.zeroValue5
 t9:=Tryz.underlying9
 a9:=Tryz.isAgg9
 z9:=Tryz.sizeOf9
 v9:=Tryz.zeroValue9
 t20:=Tryz.underlying20
 a20:=Tryz.isAgg20
 z20:=Tryz.sizeOf20
 v20:=Tryz.zeroValue20
 t37:=Tryz.underlying87
 a37:=Tryz.isAgg87
 z37:=Tryz.sizeOf87
 v37:=Tryz.zeroValue87
 t46:=Tryz.underlying149
 a46:=Tryz.isAgg149
 z46:=Tryz.sizeOf149
 v46:=Tryz.zeroValue149
 t51:=Tryz.underlying181
 a51:=Tryz.isAgg181
 z51:=Tryz.sizeOf181
 v51:=Tryz.zeroValue181
 t53:=Tryz.underlying183
 a53:=Tryz.isAgg183
 z53:=Tryz.sizeOf183
 v53:=Tryz.zeroValue183
 t171:=Tryz.underlying184
 a171:=Tryz.isAgg184
 z171:=Tryz.sizeOf184
 v171:=Tryz.zeroValue184
 t173:=Tryz.underlying186
 a173:=Tryz.isAgg186
 z173:=Tryz.sizeOf186
 v173:=Tryz.zeroValue186
 t212:=Tryz.underlying201
 a212:=Tryz.isAgg201
 z212:=Tryz.sizeOf201
 v212:=Tryz.zeroValue201
 t213:=Tryz.underlying202
 a213:=Tryz.isAgg202
 z213:=Tryz.sizeOf202
 t232:=Tryz.underlying217
 a232:=Tryz.isAgg217
 z232:=Tryz.sizeOf217
 v232:=Tryz.zeroValue217
 t233:=Tryz.underlying218
 a233:=Tryz.isAgg218
 z233:=Tryz.sizeOf218
 v233:=Tryz.zeroValue218
 g17:=by kernel_rfl
 g18:=by kernel_rfl
 g19:=by kernel_rfl }
open Go.RowKit Go.Sort Go.Lib in
theorem Tryz.strconv_Itoa_small (i:Nat)(hi:i<100)(w:World) :
  Calls Tryz.prog 33 #[.int .i64 i] w fun e w'=>e=.returned (.string ⟨(Lib.decDigits i).toArray⟩)∧w'=w:=Any.strconv_Itoa_small Tryz.lays171 i hi w
def Tryz.lays217_ren : Go.Shelf.Ren:=⟨fun|217=>121|266=>139|n=>n,fun|9=>9|5=>5|3=>3|n=>n,fun|n=>n⟩
theorem Tryz.lays217 : Go.Proofs.Lays.n217 Tryz.prog Tryz.lays217_ren:={
 mixed:=by kernel_rfl
 f217:=Tryz.func121.trans (congrArg some (by kernel_rfl))
 f266:=Tryz.func139.trans (congrArg some (by kernel_rfl))
 t3:=Tryz.underlying3
 a3:=Tryz.isAgg3
 z3:=Tryz.sizeOf3
 v3:=Tryz.zeroValue3
 t5:=Tryz.underlying5
 a5:=Tryz.isAgg5
 z5:=Tryz.sizeOf5
 v5:=Tryz.zeroValue5
 t9:=Tryz.underlying9
 a9:=Tryz.isAgg9
 z9:=Tryz.sizeOf9
 v9:=Tryz.zeroValue9 }
open Go.RowKit Go.Lib in
theorem Tryz.stringslite_IndexByte (s:ByteArray)(c:Int)(w:World) :
  Calls Tryz.prog 121 #[.string s,.int .u8 c] w fun e w'=>e=.returned (.int .i64 (Lib.indexByte s.data.toList c.toNat.toUInt8))∧w'=w:=Any.stringslite_IndexByte Tryz.lays217 s c w
def Tryz.lays224_ren : Go.Shelf.Ren:=⟨fun|224=>123|n=>n,fun|3=>3|n=>n,fun|n=>n⟩
theorem Tryz.lays224 : Go.Proofs.Lays.n224 Tryz.prog Tryz.lays224_ren:={
 mixed:=by kernel_rfl
 f224:=Tryz.func123.trans (congrArg some (by kernel_rfl))
 t3:=Tryz.underlying3
 a3:=Tryz.isAgg3
 z3:=Tryz.sizeOf3
 v3:=Tryz.zeroValue3 }
open Go.RowKit Go.Lib in
theorem Tryz.bytealg_Cutover (n:Int)(h0:0≤n)(h1:n<4611686018427387904)(w:World) :
  Calls Tryz.prog 123 #[.int .i64 n] w fun e w'=>e=.returned (.int .i64 ((n+16) / 8))∧w'=w:=Any.bytealg_Cutover Tryz.lays224 n h0 h1 w
def Tryz.lays314_ren : Go.Shelf.Ren:=⟨fun|314=>140|n=>n,fun|9=>9|51=>181|3=>3|4=>4|5=>5|46=>149|n=>n,fun|n=>n⟩
theorem Tryz.lays314 : Go.Proofs.Lays.n314 Tryz.prog Tryz.lays314_ren:={
 mixed:=by kernel_rfl
 f314:=Tryz.func140.trans (congrArg some (by kernel_rfl))
 t3:=Tryz.underlying3
 a3:=Tryz.isAgg3
 z3:=Tryz.sizeOf3
 v3:=Tryz.zeroValue3
 t4:=Tryz.underlying4
 a4:=Tryz.isAgg4
 z4:=Tryz.sizeOf4
 v4:=Tryz.zeroValue4
 t5:=Tryz.underlying5
 a5:=Tryz.isAgg5
 z5:=Tryz.sizeOf5
 v5:=Tryz.zeroValue5
 t9:=Tryz.underlying9
 a9:=Tryz.isAgg9
 z9:=Tryz.sizeOf9
 v9:=Tryz.zeroValue9
 t46:=Tryz.underlying149
 a46:=Tryz.isAgg149
 z46:=Tryz.sizeOf149
 v46:=Tryz.zeroValue149
 t51:=Tryz.underlying181
 a51:=Tryz.isAgg181
 z51:=Tryz.sizeOf181
 v51:=Tryz.zeroValue181 }
open Go.RowKit Go.Lib in
theorem Tryz.bytealg_hashStr (sep:ByteArray)(hs:sep.size<4294967281)(w:World) :
  Calls Tryz.prog 140 #[.string sep] w fun e w'=>e=.returned (.tuple #[.int .u32 (RK.H sep.data.toList % 4294967296),.int .u32 (16777619 ^ sep.size % 4294967296)])∧w'=w:=Any.bytealg_hashStr Tryz.lays314 sep hs w
def Tryz.lays267_ren : Go.Shelf.Ren:=⟨fun|267=>124|314=>140|n=>n,fun|9=>9|3=>3|146=>207|51=>181|4=>4|5=>5|46=>149|n=>n,fun|n=>n⟩
theorem Tryz.lays267 : Go.Proofs.Lays.n267 Tryz.prog Tryz.lays267_ren:={
 mixed:=by kernel_rfl
 f267:=Tryz.func124.trans (congrArg some (by kernel_rfl))
 f314:=Tryz.func140.trans (congrArg some (by kernel_rfl))
 t3:=Tryz.underlying3
 a3:=Tryz.isAgg3
 z3:=Tryz.sizeOf3
 v3:=Tryz.zeroValue3
 t4:=Tryz.underlying4
 a4:=Tryz.isAgg4
 z4:=Tryz.sizeOf4
 v4:=Tryz.zeroValue4
 t5:=Tryz.underlying5
 a5:=Tryz.isAgg5
 z5:=Tryz.sizeOf5
 v5:=Tryz.zeroValue5
 t9:=Tryz.underlying9
 a9:=Tryz.isAgg9
 z9:=Tryz.sizeOf9
 v9:=Tryz.zeroValue9
 t46:=Tryz.underlying149
 a46:=Tryz.isAgg149
 z46:=Tryz.sizeOf149
 v46:=Tryz.zeroValue149
 t51:=Tryz.underlying181
 a51:=Tryz.isAgg181
 z51:=Tryz.sizeOf181
 v51:=Tryz.zeroValue181
 t146:=Tryz.underlying207
 a146:=Tryz.isAgg207
 z146:=Tryz.sizeOf207
 v146:=Tryz.zeroValue207 }
open Go.RowKit Go.Lib in
theorem Tryz.bytealg_IndexRabinKarp (s sep:ByteArray)(h1:1≤sep.size)(h2:sep.size≤s.size)(hs:s.size<4294967281)(w:World) :
  Calls Tryz.prog 124 #[.string s,.string sep] w fun e w'=>e=.returned (.int .i64 (Lib.index s.data.toList sep.data.toList))∧w'=w:=Any.bytealg_IndexRabinKarp Tryz.lays267 s sep h1 h2 hs w
def Tryz.lays219_ren : Go.Shelf.Ren:=⟨fun|219=>94|217=>121|225=>122|224=>123|267=>124|266=>139|314=>140|n=>n,fun|9=>9|3=>3|4=>4|5=>5|46=>149|146=>207|51=>181|n=>n,fun|1=>0|n=>n⟩
theorem Tryz.lays219 : Go.Proofs.Lays.n219 Tryz.prog Tryz.lays219_ren:={
 mixed:=by kernel_rfl
 f217:=Tryz.func121.trans (congrArg some (by kernel_rfl))
 f219:=Tryz.func94.trans (congrArg some (by kernel_rfl))
 f224:=Tryz.func123.trans (congrArg some (by kernel_rfl))
 f225:=Tryz.func122.trans (congrArg some (by kernel_rfl))
 f266:=Tryz.func139.trans (congrArg some (by kernel_rfl))
 f267:=Tryz.func124.trans (congrArg some (by kernel_rfl))
 f314:=Tryz.func140.trans (congrArg some (by kernel_rfl))
 t3:=Tryz.underlying3
 a3:=Tryz.isAgg3
 z3:=Tryz.sizeOf3
 v3:=Tryz.zeroValue3
 t4:=Tryz.underlying4
 a4:=Tryz.isAgg4
 z4:=Tryz.sizeOf4
 v4:=Tryz.zeroValue4
 t5:=Tryz.underlying5
 a5:=Tryz.isAgg5
 z5:=Tryz.sizeOf5
 v5:=Tryz.zeroValue5
 t9:=Tryz.underlying9
 a9:=Tryz.isAgg9
 z9:=Tryz.sizeOf9
 v9:=Tryz.zeroValue9
 t46:=Tryz.underlying149
 a46:=Tryz.isAgg149
 z46:=Tryz.sizeOf149
 v46:=Tryz.zeroValue149
 t51:=Tryz.underlying181
 a51:=Tryz.isAgg181
 z51:=Tryz.sizeOf181
 v51:=Tryz.zeroValue181
 t146:=Tryz.underlying207
 a146:=Tryz.isAgg207
 z146:=Tryz.sizeOf207
 v146:=Tryz.zeroValue207
 g1:=by kernel_rfl }
open Go.RowKit Go.Lib in
theorem Tryz.stringslite_Index_one (s:ByteArray)(c:UInt8)(w:World) :
  Calls Tryz.prog 94 #[.string s,.string ⟨#[c]⟩] w fun e w'=>e=.returned (.int .i64 (Lib.indexByte s.data.toList c))∧w'=w:=Any.stringslite_Index_one Tryz.lays219 s c w
open Go.RowKit Go.Lib in
theorem Tryz.stringslite_Index (s sub:ByteArray)(m:Int)(w:World)(hs:s.size<4294967281)(hm:w.cell? ⟨0,0,none⟩=some (.int .i64 m)) :
  Calls Tryz.prog 94 #[.string s,.string sub] w fun e w'=>e=.returned (.int .i64 (Lib.index s.data.toList sub.data.toList))∧w'=w:=Any.stringslite_Index Tryz.lays219 s sub m w hs hm
def Tryz.lays143_ren : Go.Shelf.Ren:=⟨fun|143=>70|219=>94|217=>121|225=>122|224=>123|267=>124|266=>139|314=>140|n=>n,fun|9=>9|3=>3|4=>4|5=>5|46=>149|146=>207|51=>181|n=>n,fun|1=>0|n=>n⟩
theorem Tryz.lays143 : Go.Proofs.Lays.n143 Tryz.prog Tryz.lays143_ren:={
 mixed:=by kernel_rfl
 f143:=Tryz.func70.trans (congrArg some (by kernel_rfl))
 f217:=Tryz.func121.trans (congrArg some (by kernel_rfl))
 f219:=Tryz.func94.trans (congrArg some (by kernel_rfl))
 f224:=Tryz.func123.trans (congrArg some (by kernel_rfl))
 f225:=Tryz.func122.trans (congrArg some (by kernel_rfl))
 f266:=Tryz.func139.trans (congrArg some (by kernel_rfl))
 f267:=Tryz.func124.trans (congrArg some (by kernel_rfl))
 f314:=Tryz.func140.trans (congrArg some (by kernel_rfl))
 t3:=Tryz.underlying3
 a3:=Tryz.isAgg3
 z3:=Tryz.sizeOf3
 v3:=Tryz.zeroValue3
 t4:=Tryz.underlying4
 a4:=Tryz.isAgg4
 z4:=Tryz.sizeOf4
 v4:=Tryz.zeroValue4
 t5:=Tryz.underlying5
 a5:=Tryz.isAgg5
 z5:=Tryz.sizeOf5
 v5:=Tryz.zeroValue5
 t9:=Tryz.underlying9
 a9:=Tryz.isAgg9
 z9:=Tryz.sizeOf9
 v9:=Tryz.zeroValue9
 t46:=Tryz.underlying149
 a46:=Tryz.isAgg149
 z46:=Tryz.sizeOf149
 v46:=Tryz.zeroValue149
 t51:=Tryz.underlying181
 a51:=Tryz.isAgg181
 z51:=Tryz.sizeOf181
 v51:=Tryz.zeroValue181
 t146:=Tryz.underlying207
 a146:=Tryz.isAgg207
 z146:=Tryz.sizeOf207
 v146:=Tryz.zeroValue207
 g1:=by kernel_rfl }
open Go.RowKit Go.Lib in
theorem Tryz.strings_Index_one (s:ByteArray)(c:UInt8)(w:World) :
  Calls Tryz.prog 70 #[.string s,.string ⟨#[c]⟩] w fun e w'=>e=.returned (.int .i64 (Lib.indexByte s.data.toList c))∧w'=w:=Any.strings_Index_one Tryz.lays143 s c w
open Go.RowKit Go.Lib in
theorem Tryz.strings_Index (s sub:ByteArray)(m:Int)(w:World)(hs:s.size<4294967281)(hm:w.cell? ⟨0,0,none⟩=some (.int .i64 m)) :
  Calls Tryz.prog 70 #[.string s,.string sub] w fun e w'=>e=.returned (.int .i64 (Lib.index s.data.toList sub.data.toList))∧w'=w:=Any.strings_Index Tryz.lays143 s sub m w hs hm
def Tryz.lays220_ren : Go.Shelf.Ren:=⟨fun|220=>72|219=>94|217=>121|225=>122|224=>123|267=>124|266=>139|314=>140|n=>n,fun|9=>9|4=>4|3=>3|5=>5|46=>149|146=>207|51=>181|n=>n,fun|1=>0|n=>n⟩
theorem Tryz.lays220 : Go.Proofs.Lays.n220 Tryz.prog Tryz.lays220_ren:={
 mixed:=by kernel_rfl
 f217:=Tryz.func121.trans (congrArg some (by kernel_rfl))
 f219:=Tryz.func94.trans (congrArg some (by kernel_rfl))
 f220:=Tryz.func72.trans (congrArg some (by kernel_rfl))
 f224:=Tryz.func123.trans (congrArg some (by kernel_rfl))
 f225:=Tryz.func122.trans (congrArg some (by kernel_rfl))
 f266:=Tryz.func139.trans (congrArg some (by kernel_rfl))
 f267:=Tryz.func124.trans (congrArg some (by kernel_rfl))
 f314:=Tryz.func140.trans (congrArg some (by kernel_rfl))
 t3:=Tryz.underlying3
 a3:=Tryz.isAgg3
 z3:=Tryz.sizeOf3
 v3:=Tryz.zeroValue3
 t4:=Tryz.underlying4
 a4:=Tryz.isAgg4
 z4:=Tryz.sizeOf4
 v4:=Tryz.zeroValue4
 t5:=Tryz.underlying5
 a5:=Tryz.isAgg5
 z5:=Tryz.sizeOf5
 v5:=Tryz.zeroValue5
 t9:=Tryz.underlying9
 a9:=Tryz.isAgg9
 z9:=Tryz.sizeOf9
 v9:=Tryz.zeroValue9
 t46:=Tryz.underlying149
 a46:=Tryz.isAgg149
 z46:=Tryz.sizeOf149
 v46:=Tryz.zeroValue149
 t51:=Tryz.underlying181
 a51:=Tryz.isAgg181
 z51:=Tryz.sizeOf181
 v51:=Tryz.zeroValue181
 t146:=Tryz.underlying207
 a146:=Tryz.isAgg207
 z146:=Tryz.sizeOf207
 v146:=Tryz.zeroValue207
 g1:=by kernel_rfl }
open Go.RowKit Go.Lib in
theorem Tryz.stringslite_Cut (s sep:ByteArray)(m:Int)(w:World)(hs:s.size<4294967281)(hm:w.cell? ⟨0,0,none⟩=some (.int .i64 m)) :
  Calls Tryz.prog 72 #[.string s,.string sep] w fun e w'=>e=.returned (.tuple #[.string ⟨(Lib.cut s.data.toList sep.data.toList).1.toArray⟩,.string ⟨(Lib.cut s.data.toList sep.data.toList).2.1.toArray⟩,.bool (Lib.cut s.data.toList sep.data.toList).2.2])∧∃ n,w'=w.drewN n:=Any.stringslite_Cut Tryz.lays220 s sep m w hs hm
def Tryz.lays145_ren : Go.Shelf.Ren:=⟨fun|145=>42|220=>72|219=>94|217=>121|225=>122|224=>123|267=>124|266=>139|314=>140|n=>n,fun|9=>9|4=>4|59=>100|3=>3|5=>5|46=>149|146=>207|51=>181|n=>n,fun|1=>0|n=>n⟩
theorem Tryz.lays145 : Go.Proofs.Lays.n145 Tryz.prog Tryz.lays145_ren:={
 mixed:=by kernel_rfl
 f145:=Tryz.func42.trans (congrArg some (by kernel_rfl))
 f217:=Tryz.func121.trans (congrArg some (by kernel_rfl))
 f219:=Tryz.func94.trans (congrArg some (by kernel_rfl))
 f220:=Tryz.func72.trans (congrArg some (by kernel_rfl))
 f224:=Tryz.func123.trans (congrArg some (by kernel_rfl))
 f225:=Tryz.func122.trans (congrArg some (by kernel_rfl))
 f266:=Tryz.func139.trans (congrArg some (by kernel_rfl))
 f267:=Tryz.func124.trans (congrArg some (by kernel_rfl))
 f314:=Tryz.func140.trans (congrArg some (by kernel_rfl))
 t3:=Tryz.underlying3
 a3:=Tryz.isAgg3
 z3:=Tryz.sizeOf3
 v3:=Tryz.zeroValue3
 t4:=Tryz.underlying4
 a4:=Tryz.isAgg4
 z4:=Tryz.sizeOf4
 v4:=Tryz.zeroValue4
 t5:=Tryz.underlying5
 a5:=Tryz.isAgg5
 z5:=Tryz.sizeOf5
 v5:=Tryz.zeroValue5
 t9:=Tryz.underlying9
 a9:=Tryz.isAgg9
 z9:=Tryz.sizeOf9
 v9:=Tryz.zeroValue9
 t46:=Tryz.underlying149
 a46:=Tryz.isAgg149
 z46:=Tryz.sizeOf149
 v46:=Tryz.zeroValue149
 t51:=Tryz.underlying181
 a51:=Tryz.isAgg181
 z51:=Tryz.sizeOf181
 v51:=Tryz.zeroValue181
 t59:=Tryz.underlying100
 a59:=Tryz.isAgg100
 z59:=Tryz.sizeOf100
 v59:=Tryz.zeroValue100
 t146:=Tryz.underlying207
 a146:=Tryz.isAgg207
 z146:=Tryz.sizeOf207
 v146:=Tryz.zeroValue207
 g1:=by kernel_rfl }
open Go.RowKit Go.Lib in
theorem Tryz.strings_Cut (s sep:ByteArray)(m:Int)(w:World)(hs:s.size<4294967281)(hm:w.cell? ⟨0,0,none⟩=some (.int .i64 m)) :
  Calls Tryz.prog 42 #[.string s,.string sep] w fun e w'=>e=.returned (.tuple #[.string ⟨(Lib.cut s.data.toList sep.data.toList).1.toArray⟩,.string ⟨(Lib.cut s.data.toList sep.data.toList).2.1.toArray⟩,.bool (Lib.cut s.data.toList sep.data.toList).2.2])∧∃ n,w'=w.drewN n:=Any.strings_Cut Tryz.lays145 s sep m w hs hm
def Tryz.lays138_ren : Go.Shelf.Ren:=⟨fun|138=>69|195=>91|218=>93|143=>70|219=>94|217=>121|225=>122|224=>123|267=>124|266=>139|314=>140|n=>n,fun|9=>9|3=>3|4=>4|5=>5|0=>0|46=>149|146=>207|51=>181|n=>n,fun|1=>0|n=>n⟩
theorem Tryz.lays138 : Go.Proofs.Lays.n138 Tryz.prog Tryz.lays138_ren:={
 mixed:=by kernel_rfl
 f138:=Tryz.func69.trans (congrArg some (by kernel_rfl))
 f143:=Tryz.func70.trans (congrArg some (by kernel_rfl))
 f195:=Tryz.func91.trans (congrArg some (by kernel_rfl))
 f217:=Tryz.func121.trans (congrArg some (by kernel_rfl))
 f218:=Tryz.func93.trans (congrArg some (by kernel_rfl))
 f219:=Tryz.func94.trans (congrArg some (by kernel_rfl))
 f224:=Tryz.func123.trans (congrArg some (by kernel_rfl))
 f225:=Tryz.func122.trans (congrArg some (by kernel_rfl))
 f266:=Tryz.func139.trans (congrArg some (by kernel_rfl))
 f267:=Tryz.func124.trans (congrArg some (by kernel_rfl))
 f314:=Tryz.func140.trans (congrArg some (by kernel_rfl))
 t0:=Tryz.underlying0
 a0:=Tryz.isAgg0
 z0:=Tryz.sizeOf0
 v0:=Tryz.zeroValue0
 t3:=Tryz.underlying3
 a3:=Tryz.isAgg3
 z3:=Tryz.sizeOf3
 v3:=Tryz.zeroValue3
 t4:=Tryz.underlying4
 a4:=Tryz.isAgg4
 z4:=Tryz.sizeOf4
 v4:=Tryz.zeroValue4
 t5:=Tryz.underlying5
 a5:=Tryz.isAgg5
 z5:=Tryz.sizeOf5
 v5:=Tryz.zeroValue5
 t9:=Tryz.underlying9
 a9:=Tryz.isAgg9
 z9:=Tryz.sizeOf9
 v9:=Tryz.zeroValue9
 t46:=Tryz.underlying149
 a46:=Tryz.isAgg149
 z46:=Tryz.sizeOf149
 v46:=Tryz.zeroValue149
 t51:=Tryz.underlying181
 a51:=Tryz.isAgg181
 z51:=Tryz.sizeOf181
 v51:=Tryz.zeroValue181
 t146:=Tryz.underlying207
 a146:=Tryz.isAgg207
 z146:=Tryz.sizeOf207
 v146:=Tryz.zeroValue207
 g1:=by kernel_rfl }
open Go.RowKit Go.Lib in
theorem Tryz.strings_Count_one (s:ByteArray)(c:UInt8)(w:World) :
  Calls Tryz.prog 69 #[.string s,.string ⟨#[c]⟩] w fun e w'=>e=.returned (.int .i64 (Lib.countByte s.data.toList c))∧w'=w:=Any.strings_Count_one Tryz.lays138 s c w
open Go.RowKit Go.Lib in
theorem Tryz.strings_Count (s sub:ByteArray)(m:Int)(w:World)(hs:s.size<4294967281)(hm:w.cell? ⟨0,0,none⟩=some (.int .i64 m))(h2:2≤sub.size) :
  Calls Tryz.prog 69 #[.string s,.string sub] w fun e w'=>e=.returned (.int .i64 (Lib.countB s sub))∧w'=w:=Any.strings_Count Tryz.lays138 s sub m w hs hm h2
def Tryz.laysM219_ren : Go.Shelf.Ren:=⟨fun|219=>94|217=>121|225=>122|224=>123|267=>124|266=>139|314=>140|n=>n,fun|9=>9|3=>3|4=>4|5=>5|46=>149|146=>207|51=>181|n=>n,fun|1=>0|n=>n⟩
theorem Tryz.laysM219 : Go.Proofs.LaysM.n219 Tryz.prog Tryz.laysM219_ren:={
 mixed:=by kernel_rfl
 f217:=Tryz.func121.trans (congrArg some (by kernel_rfl))
 f219:=Tryz.func94.trans (congrArg some (by kernel_rfl))
 f224:=Tryz.func123.trans (congrArg some (by kernel_rfl))
 f225:=Tryz.func122.trans (congrArg some (by kernel_rfl))
 f266:=Tryz.func139.trans (congrArg some (by kernel_rfl))
 f267:=Tryz.func124.trans (congrArg some (by kernel_rfl))
 f314:=Tryz.func140.trans (congrArg some (by kernel_rfl))
 t3:=Tryz.underlying3
 a3:=Tryz.isAgg3
 z3:=Tryz.sizeOf3
 v3:=Tryz.zeroValue3
 t4:=Tryz.underlying4
 a4:=Tryz.isAgg4
 z4:=Tryz.sizeOf4
 v4:=Tryz.zeroValue4
 t5:=Tryz.underlying5
 a5:=Tryz.isAgg5
 z5:=Tryz.sizeOf5
 v5:=Tryz.zeroValue5
 t9:=Tryz.underlying9
 a9:=Tryz.isAgg9
 z9:=Tryz.sizeOf9
 v9:=Tryz.zeroValue9
 t46:=Tryz.underlying149
 a46:=Tryz.isAgg149
 z46:=Tryz.sizeOf149
 v46:=Tryz.zeroValue149
 t51:=Tryz.underlying181
 a51:=Tryz.isAgg181
 z51:=Tryz.sizeOf181
 v51:=Tryz.zeroValue181
 t146:=Tryz.underlying207
 a146:=Tryz.isAgg207
 z146:=Tryz.sizeOf207
 v146:=Tryz.zeroValue207
 g1:=by kernel_rfl
 i3:=by kernel_rfl
 i4:=by kernel_rfl
 i5:=by kernel_rfl
 i9:=by kernel_rfl
 i46:=by kernel_rfl
 i51:=by kernel_rfl
 i146:=by kernel_rfl
 m1:=by kernel_rfl
 s1_3:=fun w h=>Go.Proofs.cell_of_shapedOpen_int (zero:=#[.int .i64 0]) (t:=3) h (of_decide_eq_true (by kernel_rfl)) (by kernel_rfl) rfl (by kernel_rfl) (by kernel_rfl) Tryz.underlying3 }
open Go.RowKit Go.Lib in
theorem Tryz.stringslite_Index_shaped (s sub:ByteArray)(w:World)(h:w.ShapedOpen Tryz.prog)(hs:s.size<4294967281) :
  Calls Tryz.prog 94 #[.string s,.string sub] w fun e w'=>e=.returned (.int .i64 (Lib.index s.data.toList sub.data.toList))∧w'=w:=Any.stringslite_Index_shaped Tryz.laysM219 s sub w h hs
def Tryz.laysM143_ren : Go.Shelf.Ren:=⟨fun|143=>70|219=>94|217=>121|225=>122|224=>123|267=>124|266=>139|314=>140|n=>n,fun|9=>9|3=>3|4=>4|5=>5|46=>149|146=>207|51=>181|n=>n,fun|1=>0|n=>n⟩
theorem Tryz.laysM143 : Go.Proofs.LaysM.n143 Tryz.prog Tryz.laysM143_ren:={
 mixed:=by kernel_rfl
 f143:=Tryz.func70.trans (congrArg some (by kernel_rfl))
 f217:=Tryz.func121.trans (congrArg some (by kernel_rfl))
 f219:=Tryz.func94.trans (congrArg some (by kernel_rfl))
 f224:=Tryz.func123.trans (congrArg some (by kernel_rfl))
 f225:=Tryz.func122.trans (congrArg some (by kernel_rfl))
 f266:=Tryz.func139.trans (congrArg some (by kernel_rfl))
 f267:=Tryz.func124.trans (congrArg some (by kernel_rfl))
 f314:=Tryz.func140.trans (congrArg some (by kernel_rfl))
 t3:=Tryz.underlying3
 a3:=Tryz.isAgg3
 z3:=Tryz.sizeOf3
 v3:=Tryz.zeroValue3
 t4:=Tryz.underlying4
 a4:=Tryz.isAgg4
 z4:=Tryz.sizeOf4
 v4:=Tryz.zeroValue4
 t5:=Tryz.underlying5
 a5:=Tryz.isAgg5
 z5:=Tryz.sizeOf5
 v5:=Tryz.zeroValue5
 t9:=Tryz.underlying9
 a9:=Tryz.isAgg9
 z9:=Tryz.sizeOf9
 v9:=Tryz.zeroValue9
 t46:=Tryz.underlying149
 a46:=Tryz.isAgg149
 z46:=Tryz.sizeOf149
 v46:=Tryz.zeroValue149
 t51:=Tryz.underlying181
 a51:=Tryz.isAgg181
 z51:=Tryz.sizeOf181
 v51:=Tryz.zeroValue181
 t146:=Tryz.underlying207
 a146:=Tryz.isAgg207
 z146:=Tryz.sizeOf207
 v146:=Tryz.zeroValue207
 g1:=by kernel_rfl
 i3:=by kernel_rfl
 i4:=by kernel_rfl
 i5:=by kernel_rfl
 i9:=by kernel_rfl
 i46:=by kernel_rfl
 i51:=by kernel_rfl
 i146:=by kernel_rfl
 m1:=by kernel_rfl
 s1_3:=fun w h=>Go.Proofs.cell_of_shapedOpen_int (zero:=#[.int .i64 0]) (t:=3) h (of_decide_eq_true (by kernel_rfl)) (by kernel_rfl) rfl (by kernel_rfl) (by kernel_rfl) Tryz.underlying3 }
open Go.RowKit Go.Lib in
theorem Tryz.strings_Index_shaped (s sub:ByteArray)(w:World)(h:w.ShapedOpen Tryz.prog)(hs:s.size<4294967281) :
  Calls Tryz.prog 70 #[.string s,.string sub] w fun e w'=>e=.returned (.int .i64 (Lib.index s.data.toList sub.data.toList))∧w'=w:=Any.strings_Index_shaped Tryz.laysM143 s sub w h hs
def Tryz.laysM220_ren : Go.Shelf.Ren:=⟨fun|220=>72|219=>94|217=>121|225=>122|224=>123|267=>124|266=>139|314=>140|n=>n,fun|9=>9|4=>4|3=>3|5=>5|46=>149|146=>207|51=>181|n=>n,fun|1=>0|n=>n⟩
theorem Tryz.laysM220 : Go.Proofs.LaysM.n220 Tryz.prog Tryz.laysM220_ren:={
 mixed:=by kernel_rfl
 f217:=Tryz.func121.trans (congrArg some (by kernel_rfl))
 f219:=Tryz.func94.trans (congrArg some (by kernel_rfl))
 f220:=Tryz.func72.trans (congrArg some (by kernel_rfl))
 f224:=Tryz.func123.trans (congrArg some (by kernel_rfl))
 f225:=Tryz.func122.trans (congrArg some (by kernel_rfl))
 f266:=Tryz.func139.trans (congrArg some (by kernel_rfl))
 f267:=Tryz.func124.trans (congrArg some (by kernel_rfl))
 f314:=Tryz.func140.trans (congrArg some (by kernel_rfl))
 t3:=Tryz.underlying3
 a3:=Tryz.isAgg3
 z3:=Tryz.sizeOf3
 v3:=Tryz.zeroValue3
 t4:=Tryz.underlying4
 a4:=Tryz.isAgg4
 z4:=Tryz.sizeOf4
 v4:=Tryz.zeroValue4
 t5:=Tryz.underlying5
 a5:=Tryz.isAgg5
 z5:=Tryz.sizeOf5
 v5:=Tryz.zeroValue5
 t9:=Tryz.underlying9
 a9:=Tryz.isAgg9
 z9:=Tryz.sizeOf9
 v9:=Tryz.zeroValue9
 t46:=Tryz.underlying149
 a46:=Tryz.isAgg149
 z46:=Tryz.sizeOf149
 v46:=Tryz.zeroValue149
 t51:=Tryz.underlying181
 a51:=Tryz.isAgg181
 z51:=Tryz.sizeOf181
 v51:=Tryz.zeroValue181
 t146:=Tryz.underlying207
 a146:=Tryz.isAgg207
 z146:=Tryz.sizeOf207
 v146:=Tryz.zeroValue207
 g1:=by kernel_rfl
 i3:=by kernel_rfl
 i4:=by kernel_rfl
 i5:=by kernel_rfl
 i9:=by kernel_rfl
 i46:=by kernel_rfl
 i51:=by kernel_rfl
 i146:=by kernel_rfl
 m1:=by kernel_rfl
 s1_3:=fun w h=>Go.Proofs.cell_of_shapedOpen_int (zero:=#[.int .i64 0]) (t:=3) h (of_decide_eq_true (by kernel_rfl)) (by kernel_rfl) rfl (by kernel_rfl) (by kernel_rfl) Tryz.underlying3 }
open Go.RowKit Go.Lib in
theorem Tryz.stringslite_Cut_shaped (s sep:ByteArray)(w:World)(h:w.ShapedOpen Tryz.prog)(hs:s.size<4294967281) :
  Calls Tryz.prog 72 #[.string s,.string sep] w fun e w'=>e=.returned (.tuple #[.string ⟨(Lib.cut s.data.toList sep.data.toList).1.toArray⟩,.string ⟨(Lib.cut s.data.toList sep.data.toList).2.1.toArray⟩,.bool (Lib.cut s.data.toList sep.data.toList).2.2])∧∃ n,w'=w.drewN n:=Any.stringslite_Cut_shaped Tryz.laysM220 s sep w h hs
def Tryz.laysM145_ren : Go.Shelf.Ren:=⟨fun|145=>42|220=>72|219=>94|217=>121|225=>122|224=>123|267=>124|266=>139|314=>140|n=>n,fun|9=>9|4=>4|59=>100|3=>3|5=>5|46=>149|146=>207|51=>181|n=>n,fun|1=>0|n=>n⟩
theorem Tryz.laysM145 : Go.Proofs.LaysM.n145 Tryz.prog Tryz.laysM145_ren:={
 mixed:=by kernel_rfl
 f145:=Tryz.func42.trans (congrArg some (by kernel_rfl))
 f217:=Tryz.func121.trans (congrArg some (by kernel_rfl))
 f219:=Tryz.func94.trans (congrArg some (by kernel_rfl))
 f220:=Tryz.func72.trans (congrArg some (by kernel_rfl))
 f224:=Tryz.func123.trans (congrArg some (by kernel_rfl))
 f225:=Tryz.func122.trans (congrArg some (by kernel_rfl))
 f266:=Tryz.func139.trans (congrArg some (by kernel_rfl))
 f267:=Tryz.func124.trans (congrArg some (by kernel_rfl))
 f314:=Tryz.func140.trans (congrArg some (by kernel_rfl))
 t3:=Tryz.underlying3
 a3:=Tryz.isAgg3
 z3:=Tryz.sizeOf3
 v3:=Tryz.zeroValue3
 t4:=Tryz.underlying4
 a4:=Tryz.isAgg4
 z4:=Tryz.sizeOf4
 v4:=Tryz.zeroValue4
 t5:=Tryz.underlying5
 a5:=Tryz.isAgg5
 z5:=Tryz.sizeOf5
 v5:=Tryz.zeroValue5
 t9:=Tryz.underlying9
 a9:=Tryz.isAgg9
 z9:=Tryz.sizeOf9
 v9:=Tryz.zeroValue9
 t46:=Tryz.underlying149
 a46:=Tryz.isAgg149
 z46:=Tryz.sizeOf149
 v46:=Tryz.zeroValue149
 t51:=Tryz.underlying181
 a51:=Tryz.isAgg181
 z51:=Tryz.sizeOf181
 v51:=Tryz.zeroValue181
 t59:=Tryz.underlying100
 a59:=Tryz.isAgg100
 z59:=Tryz.sizeOf100
 v59:=Tryz.zeroValue100
 t146:=Tryz.underlying207
 a146:=Tryz.isAgg207
 z146:=Tryz.sizeOf207
 v146:=Tryz.zeroValue207
 g1:=by kernel_rfl
 i3:=by kernel_rfl
 i4:=by kernel_rfl
 i5:=by kernel_rfl
 i9:=by kernel_rfl
 i46:=by kernel_rfl
 i51:=by kernel_rfl
 i59:=by kernel_rfl
 i146:=by kernel_rfl
 m1:=by kernel_rfl
 s1_3:=fun w h=>Go.Proofs.cell_of_shapedOpen_int (zero:=#[.int .i64 0]) (t:=3) h (of_decide_eq_true (by kernel_rfl)) (by kernel_rfl) rfl (by kernel_rfl) (by kernel_rfl) Tryz.underlying3 }
open Go.RowKit Go.Lib in
theorem Tryz.strings_Cut_shaped (s sep:ByteArray)(w:World)(h:w.ShapedOpen Tryz.prog)(hs:s.size<4294967281) :
  Calls Tryz.prog 42 #[.string s,.string sep] w fun e w'=>e=.returned (.tuple #[.string ⟨(Lib.cut s.data.toList sep.data.toList).1.toArray⟩,.string ⟨(Lib.cut s.data.toList sep.data.toList).2.1.toArray⟩,.bool (Lib.cut s.data.toList sep.data.toList).2.2])∧∃ n,w'=w.drewN n:=Any.strings_Cut_shaped Tryz.laysM145 s sep w h hs
def Tryz.laysM138_ren : Go.Shelf.Ren:=⟨fun|138=>69|195=>91|218=>93|143=>70|219=>94|217=>121|225=>122|224=>123|267=>124|266=>139|314=>140|n=>n,fun|9=>9|3=>3|4=>4|5=>5|0=>0|46=>149|146=>207|51=>181|n=>n,fun|1=>0|n=>n⟩
theorem Tryz.laysM138 : Go.Proofs.LaysM.n138 Tryz.prog Tryz.laysM138_ren:={
 mixed:=by kernel_rfl
 f138:=Tryz.func69.trans (congrArg some (by kernel_rfl))
 f143:=Tryz.func70.trans (congrArg some (by kernel_rfl))
 f195:=Tryz.func91.trans (congrArg some (by kernel_rfl))
 f217:=Tryz.func121.trans (congrArg some (by kernel_rfl))
 f218:=Tryz.func93.trans (congrArg some (by kernel_rfl))
 f219:=Tryz.func94.trans (congrArg some (by kernel_rfl))
 f224:=Tryz.func123.trans (congrArg some (by kernel_rfl))
 f225:=Tryz.func122.trans (congrArg some (by kernel_rfl))
 f266:=Tryz.func139.trans (congrArg some (by kernel_rfl))
 f267:=Tryz.func124.trans (congrArg some (by kernel_rfl))
 f314:=Tryz.func140.trans (congrArg some (by kernel_rfl))
 t0:=Tryz.underlying0
 a0:=Tryz.isAgg0
 z0:=Tryz.sizeOf0
 v0:=Tryz.zeroValue0
 t3:=Tryz.underlying3
 a3:=Tryz.isAgg3
 z3:=Tryz.sizeOf3
 v3:=Tryz.zeroValue3
 t4:=Tryz.underlying4
 a4:=Tryz.isAgg4
 z4:=Tryz.sizeOf4
 v4:=Tryz.zeroValue4
 t5:=Tryz.underlying5
 a5:=Tryz.isAgg5
 z5:=Tryz.sizeOf5
 v5:=Tryz.zeroValue5
 t9:=Tryz.underlying9
 a9:=Tryz.isAgg9
 z9:=Tryz.sizeOf9
 v9:=Tryz.zeroValue9
 t46:=Tryz.underlying149
 a46:=Tryz.isAgg149
 z46:=Tryz.sizeOf149
 v46:=Tryz.zeroValue149
 t51:=Tryz.underlying181
 a51:=Tryz.isAgg181
 z51:=Tryz.sizeOf181
 v51:=Tryz.zeroValue181
 t146:=Tryz.underlying207
 a146:=Tryz.isAgg207
 z146:=Tryz.sizeOf207
 v146:=Tryz.zeroValue207
 g1:=by kernel_rfl
 i0:=by kernel_rfl
 i3:=by kernel_rfl
 i4:=by kernel_rfl
 i5:=by kernel_rfl
 i9:=by kernel_rfl
 i46:=by kernel_rfl
 i51:=by kernel_rfl
 i146:=by kernel_rfl
 m1:=by kernel_rfl
 s1_3:=fun w h=>Go.Proofs.cell_of_shapedOpen_int (zero:=#[.int .i64 0]) (t:=3) h (of_decide_eq_true (by kernel_rfl)) (by kernel_rfl) rfl (by kernel_rfl) (by kernel_rfl) Tryz.underlying3 }
open Go.RowKit Go.Lib in
theorem Tryz.strings_Count_shaped (s sub:ByteArray)(w:World)(h:w.ShapedOpen Tryz.prog)(hs:s.size<4294967281)(h2:2≤sub.size) :
  Calls Tryz.prog 69 #[.string s,.string sub] w fun e w'=>e=.returned (.int .i64 (Lib.countB s sub))∧w'=w:=Any.strings_Count_shaped Tryz.laysM138 s sub w h hs h2
def Tryz.lays206_ren : Go.Shelf.Ren:=⟨fun|206=>95|n=>n,fun|9=>9|4=>4|3=>3|n=>n,fun|n=>n⟩
theorem Tryz.lays206 : Go.Proofs.Lays.n206 Tryz.prog Tryz.lays206_ren:={
 mixed:=by kernel_rfl
 f206:=Tryz.func95.trans (congrArg some (by kernel_rfl))
 t3:=Tryz.underlying3
 a3:=Tryz.isAgg3
 z3:=Tryz.sizeOf3
 v3:=Tryz.zeroValue3
 t4:=Tryz.underlying4
 a4:=Tryz.isAgg4
 z4:=Tryz.sizeOf4
 v4:=Tryz.zeroValue4
 t9:=Tryz.underlying9
 a9:=Tryz.isAgg9
 z9:=Tryz.sizeOf9
 v9:=Tryz.zeroValue9 }
open Go.RowKit Go.Lib in
theorem Tryz.stringslite_HasPrefix (s p:ByteArray)(w:World) :
  Calls Tryz.prog 95 #[.string s,.string p] w fun e w'=>e=.returned (.bool (Lib.hasPrefix s.data.toList p.data.toList))∧w'=w:=Any.stringslite_HasPrefix Tryz.lays206 s p w
open Go.RowKit Go.Lib in
theorem Tryz.strings_Count_any (s sep:ByteArray)(m:Int)(w:World)(hs:s.size<4294967281)(hm:w.cell? ⟨0,0,none⟩=some (.int .i64 m))(h1:1≤sep.size) :
  Calls Tryz.prog 69 #[.string s,.string sep] w fun e w'=>e=.returned (.int .i64 (Lib.countB s sep))∧w'=w:=Any.strings_Count_any Tryz.lays138 s sep m w hs hm h1
def Tryz.lays221_ren : Go.Shelf.Ren:=⟨fun|221=>39|268=>68|138=>69|143=>70|195=>91|197=>92|218=>93|219=>94|260=>120|217=>121|225=>122|224=>123|267=>124|266=>139|314=>140|n=>n,fun|9=>9|3=>3|31=>56|4=>4|0=>0|105=>158|21=>21|5=>5|46=>149|119=>203|139=>206|138=>205|146=>207|51=>181|n=>n,fun|1=>0|3=>2|4=>3|n=>n⟩
theorem Tryz.lays221 : Go.Proofs.Lays.n221 Tryz.prog Tryz.lays221_ren:={
 mixed:=by kernel_rfl
 f138:=Tryz.func69.trans (congrArg some (by kernel_rfl))
 f143:=Tryz.func70.trans (congrArg some (by kernel_rfl))
 f195:=Tryz.func91.trans (congrArg some (by kernel_rfl))
 f197:=Tryz.func92.trans (congrArg some (by kernel_rfl))
 f217:=Tryz.func121.trans (congrArg some (by kernel_rfl))
 f218:=Tryz.func93.trans (congrArg some (by kernel_rfl))
 f219:=Tryz.func94.trans (congrArg some (by kernel_rfl))
 f221:=Tryz.func39.trans (congrArg some (by kernel_rfl))
 f224:=Tryz.func123.trans (congrArg some (by kernel_rfl))
 f225:=Tryz.func122.trans (congrArg some (by kernel_rfl))
 f260:=Tryz.func120.trans (congrArg some (by kernel_rfl))
 f266:=Tryz.func139.trans (congrArg some (by kernel_rfl))
 f267:=Tryz.func124.trans (congrArg some (by kernel_rfl))
 f268:=Tryz.func68.trans (congrArg some (by kernel_rfl))
 f314:=Tryz.func140.trans (congrArg some (by kernel_rfl))
 t0:=Tryz.underlying0
 a0:=Tryz.isAgg0
 z0:=Tryz.sizeOf0
 v0:=Tryz.zeroValue0
 t3:=Tryz.underlying3
 a3:=Tryz.isAgg3
 z3:=Tryz.sizeOf3
 v3:=Tryz.zeroValue3
 t4:=Tryz.underlying4
 a4:=Tryz.isAgg4
 z4:=Tryz.sizeOf4
 v4:=Tryz.zeroValue4
 t5:=Tryz.underlying5
 a5:=Tryz.isAgg5
 z5:=Tryz.sizeOf5
 v5:=Tryz.zeroValue5
 t9:=Tryz.underlying9
 a9:=Tryz.isAgg9
 z9:=Tryz.sizeOf9
 v9:=Tryz.zeroValue9
 t21:=Tryz.underlying21
 a21:=Tryz.isAgg21
 z21:=Tryz.sizeOf21
 v21:=Tryz.zeroValue21
 t31:=Tryz.underlying56
 a31:=Tryz.isAgg56
 z31:=Tryz.sizeOf56
 v31:=Tryz.zeroValue56
 t46:=Tryz.underlying149
 a46:=Tryz.isAgg149
 z46:=Tryz.sizeOf149
 v46:=Tryz.zeroValue149
 t51:=Tryz.underlying181
 a51:=Tryz.isAgg181
 z51:=Tryz.sizeOf181
 v51:=Tryz.zeroValue181
 t105:=Tryz.underlying158
 a105:=Tryz.isAgg158
 z105:=Tryz.sizeOf158
 v105:=Tryz.zeroValue158
 t119:=Tryz.underlying203
 a119:=Tryz.isAgg203
 z119:=Tryz.sizeOf203
 t138:=Tryz.underlying205
 a138:=Tryz.isAgg205
 z138:=Tryz.sizeOf205
 v138:=Tryz.zeroValue205
 t139:=Tryz.underlying206
 a139:=Tryz.isAgg206
 z139:=Tryz.sizeOf206
 v139:=Tryz.zeroValue206
 t146:=Tryz.underlying207
 a146:=Tryz.isAgg207
 z146:=Tryz.sizeOf207
 v146:=Tryz.zeroValue207
 g1:=by kernel_rfl
 g3:=by kernel_rfl
 g4:=by kernel_rfl }
open Go.RowKit Go.Lib in
theorem Tryz.strings_genSplit (s sep:ByteArray)(sv:Nat)(n:Int)(N:Nat)(m:Int)(w:World)(hs:s.size<4294967281)(hm:w.cell? ⟨0,0,none⟩=some (.int .i64 m))(h1:1≤sep.size)(hsv:sv≤sep.size)(hn0:n≠0)(hn63:n≤9223372036854775807)(hN:(N:Int)=min (if n<0 then(Lib.countB s sep:Int)+1 else n) ((s.size:Int)+1)) :
  Calls Tryz.prog 39 #[.string s,.string sep,.int .i64 sv,.int .i64 n] w fun e w' =>
   e=.returned (.slice (some ⟨w.heap.size,0,none⟩) (Lib.splitB sep sv (N-1) s).length N)∧w'=w.alloc (.cells (Lib.cellsOf (Lib.splitB sep sv (N-1) s) N) 9):=Any.strings_genSplit Tryz.lays221 (by kernel_rfl) s sep sv n N m w hs hm h1 hsv hn0 hn63 hN
def Tryz.lays146_ren : Go.Shelf.Ren:=⟨fun|146=>15|221=>39|268=>68|138=>69|143=>70|195=>91|197=>92|218=>93|219=>94|260=>120|217=>121|225=>122|224=>123|267=>124|266=>139|314=>140|n=>n,fun|9=>9|31=>56|3=>3|4=>4|0=>0|105=>158|21=>21|5=>5|46=>149|119=>203|139=>206|138=>205|146=>207|51=>181|n=>n,fun|1=>0|3=>2|4=>3|n=>n⟩
theorem Tryz.lays146 : Go.Proofs.Lays.n146 Tryz.prog Tryz.lays146_ren:={
 mixed:=by kernel_rfl
 f138:=Tryz.func69.trans (congrArg some (by kernel_rfl))
 f143:=Tryz.func70.trans (congrArg some (by kernel_rfl))
 f146:=Tryz.func15.trans (congrArg some (by kernel_rfl))
 f195:=Tryz.func91.trans (congrArg some (by kernel_rfl))
 f197:=Tryz.func92.trans (congrArg some (by kernel_rfl))
 f217:=Tryz.func121.trans (congrArg some (by kernel_rfl))
 f218:=Tryz.func93.trans (congrArg some (by kernel_rfl))
 f219:=Tryz.func94.trans (congrArg some (by kernel_rfl))
 f221:=Tryz.func39.trans (congrArg some (by kernel_rfl))
 f224:=Tryz.func123.trans (congrArg some (by kernel_rfl))
 f225:=Tryz.func122.trans (congrArg some (by kernel_rfl))
 f260:=Tryz.func120.trans (congrArg some (by kernel_rfl))
 f266:=Tryz.func139.trans (congrArg some (by kernel_rfl))
 f267:=Tryz.func124.trans (congrArg some (by kernel_rfl))
 f268:=Tryz.func68.trans (congrArg some (by kernel_rfl))
 f314:=Tryz.func140.trans (congrArg some (by kernel_rfl))
 t0:=Tryz.underlying0
 a0:=Tryz.isAgg0
 z0:=Tryz.sizeOf0
 v0:=Tryz.zeroValue0
 t3:=Tryz.underlying3
 a3:=Tryz.isAgg3
 z3:=Tryz.sizeOf3
 v3:=Tryz.zeroValue3
 t4:=Tryz.underlying4
 a4:=Tryz.isAgg4
 z4:=Tryz.sizeOf4
 v4:=Tryz.zeroValue4
 t5:=Tryz.underlying5
 a5:=Tryz.isAgg5
 z5:=Tryz.sizeOf5
 v5:=Tryz.zeroValue5
 t9:=Tryz.underlying9
 a9:=Tryz.isAgg9
 z9:=Tryz.sizeOf9
 v9:=Tryz.zeroValue9
 t21:=Tryz.underlying21
 a21:=Tryz.isAgg21
 z21:=Tryz.sizeOf21
 v21:=Tryz.zeroValue21
 t31:=Tryz.underlying56
 a31:=Tryz.isAgg56
 z31:=Tryz.sizeOf56
 v31:=Tryz.zeroValue56
 t46:=Tryz.underlying149
 a46:=Tryz.isAgg149
 z46:=Tryz.sizeOf149
 v46:=Tryz.zeroValue149
 t51:=Tryz.underlying181
 a51:=Tryz.isAgg181
 z51:=Tryz.sizeOf181
 v51:=Tryz.zeroValue181
 t105:=Tryz.underlying158
 a105:=Tryz.isAgg158
 z105:=Tryz.sizeOf158
 v105:=Tryz.zeroValue158
 t119:=Tryz.underlying203
 a119:=Tryz.isAgg203
 z119:=Tryz.sizeOf203
 t138:=Tryz.underlying205
 a138:=Tryz.isAgg205
 z138:=Tryz.sizeOf205
 v138:=Tryz.zeroValue205
 t139:=Tryz.underlying206
 a139:=Tryz.isAgg206
 z139:=Tryz.sizeOf206
 v139:=Tryz.zeroValue206
 t146:=Tryz.underlying207
 a146:=Tryz.isAgg207
 z146:=Tryz.sizeOf207
 v146:=Tryz.zeroValue207
 g1:=by kernel_rfl
 g3:=by kernel_rfl
 g4:=by kernel_rfl }
open Go.RowKit Go.Lib in
theorem Tryz.strings_Split (s sep:ByteArray)(m:Int)(w:World)(hs:s.size<4294967281)(hm:w.cell? ⟨0,0,none⟩=some (.int .i64 m))(h1:1≤sep.size) :
  Calls Tryz.prog 15 #[.string s,.string sep] w fun e w' =>
   e=.returned (.slice (some ⟨w.heap.size,0,none⟩) (Lib.countB s sep+1) (Lib.countB s sep+1))∧w'=w.alloc (.cells ((Lib.splitB sep 0 (Lib.countB s sep) s).map Value.string).toArray 9):=Any.strings_Split Tryz.lays146 (by kernel_rfl) s sep m w hs hm h1
def Tryz.laysM146_ren : Go.Shelf.Ren:=⟨fun|146=>15|221=>39|268=>68|138=>69|143=>70|195=>91|197=>92|218=>93|219=>94|260=>120|217=>121|225=>122|224=>123|267=>124|266=>139|314=>140|n=>n,fun|9=>9|31=>56|3=>3|4=>4|0=>0|105=>158|21=>21|5=>5|46=>149|119=>203|139=>206|138=>205|146=>207|51=>181|n=>n,fun|1=>0|3=>2|4=>3|n=>n⟩
theorem Tryz.laysM146 : Go.Proofs.LaysM.n146 Tryz.prog Tryz.laysM146_ren:={
 mixed:=by kernel_rfl
 f138:=Tryz.func69.trans (congrArg some (by kernel_rfl))
 f143:=Tryz.func70.trans (congrArg some (by kernel_rfl))
 f146:=Tryz.func15.trans (congrArg some (by kernel_rfl))
 f195:=Tryz.func91.trans (congrArg some (by kernel_rfl))
 f197:=Tryz.func92.trans (congrArg some (by kernel_rfl))
 f217:=Tryz.func121.trans (congrArg some (by kernel_rfl))
 f218:=Tryz.func93.trans (congrArg some (by kernel_rfl))
 f219:=Tryz.func94.trans (congrArg some (by kernel_rfl))
 f221:=Tryz.func39.trans (congrArg some (by kernel_rfl))
 f224:=Tryz.func123.trans (congrArg some (by kernel_rfl))
 f225:=Tryz.func122.trans (congrArg some (by kernel_rfl))
 f260:=Tryz.func120.trans (congrArg some (by kernel_rfl))
 f266:=Tryz.func139.trans (congrArg some (by kernel_rfl))
 f267:=Tryz.func124.trans (congrArg some (by kernel_rfl))
 f268:=Tryz.func68.trans (congrArg some (by kernel_rfl))
 f314:=Tryz.func140.trans (congrArg some (by kernel_rfl))
 t0:=Tryz.underlying0
 a0:=Tryz.isAgg0
 z0:=Tryz.sizeOf0
 v0:=Tryz.zeroValue0
 t3:=Tryz.underlying3
 a3:=Tryz.isAgg3
 z3:=Tryz.sizeOf3
 v3:=Tryz.zeroValue3
 t4:=Tryz.underlying4
 a4:=Tryz.isAgg4
 z4:=Tryz.sizeOf4
 v4:=Tryz.zeroValue4
 t5:=Tryz.underlying5
 a5:=Tryz.isAgg5
 z5:=Tryz.sizeOf5
 v5:=Tryz.zeroValue5
 t9:=Tryz.underlying9
 a9:=Tryz.isAgg9
 z9:=Tryz.sizeOf9
 v9:=Tryz.zeroValue9
 t21:=Tryz.underlying21
 a21:=Tryz.isAgg21
 z21:=Tryz.sizeOf21
 v21:=Tryz.zeroValue21
 t31:=Tryz.underlying56
 a31:=Tryz.isAgg56
 z31:=Tryz.sizeOf56
 v31:=Tryz.zeroValue56
 t46:=Tryz.underlying149
 a46:=Tryz.isAgg149
 z46:=Tryz.sizeOf149
 v46:=Tryz.zeroValue149
 t51:=Tryz.underlying181
 a51:=Tryz.isAgg181
 z51:=Tryz.sizeOf181
 v51:=Tryz.zeroValue181
 t105:=Tryz.underlying158
 a105:=Tryz.isAgg158
 z105:=Tryz.sizeOf158
 v105:=Tryz.zeroValue158
 t119:=Tryz.underlying203
 a119:=Tryz.isAgg203
 z119:=Tryz.sizeOf203
 t138:=Tryz.underlying205
 a138:=Tryz.isAgg205
 z138:=Tryz.sizeOf205
 v138:=Tryz.zeroValue205
 t139:=Tryz.underlying206
 a139:=Tryz.isAgg206
 z139:=Tryz.sizeOf206
 v139:=Tryz.zeroValue206
 t146:=Tryz.underlying207
 a146:=Tryz.isAgg207
 z146:=Tryz.sizeOf207
 v146:=Tryz.zeroValue207
 g1:=by kernel_rfl
 g3:=by kernel_rfl
 g4:=by kernel_rfl
 i0:=by kernel_rfl
 i3:=by kernel_rfl
 i4:=by kernel_rfl
 i5:=by kernel_rfl
 i9:=by kernel_rfl
 i21:=by kernel_rfl
 i31:=by kernel_rfl
 i46:=by kernel_rfl
 i51:=by kernel_rfl
 i105:=by kernel_rfl
 i138:=by kernel_rfl
 i139:=by kernel_rfl
 i146:=by kernel_rfl
 m1:=by kernel_rfl
 s1_3:=fun w h=>Go.Proofs.cell_of_shapedOpen_int (zero:=#[.int .i64 0]) (t:=3) h (of_decide_eq_true (by kernel_rfl)) (by kernel_rfl) rfl (by kernel_rfl) (by kernel_rfl) Tryz.underlying3
 m3:=by kernel_rfl
 m4:=by kernel_rfl }
open Go.RowKit Go.Lib in
theorem Tryz.strings_Split_shaped (s sep:ByteArray)(w:World)(h:w.ShapedOpen Tryz.prog)(hs:s.size<4294967281)(h1:1≤sep.size) :
  Calls Tryz.prog 15 #[.string s,.string sep] w fun e w' =>
   e=.returned (.slice (some ⟨w.heap.size,0,none⟩) (Lib.countB s sep+1) (Lib.countB s sep+1))∧w'=w.alloc (.cells ((Lib.splitB sep 0 (Lib.countB s sep) s).map Value.string).toArray 9):=Any.strings_Split_shaped Tryz.laysM146 s sep w h hs h1
def Tryz.lays197_ren : Go.Shelf.Ren:=⟨fun|197=>92|260=>120|n=>n,fun|9=>9|21=>21|3=>3|4=>4|5=>5|105=>158|119=>203|0=>0|46=>149|139=>206|138=>205|n=>n,fun|3=>2|4=>3|n=>n⟩
theorem Tryz.lays197 : Go.Proofs.Lays.n197 Tryz.prog Tryz.lays197_ren:={
 mixed:=by kernel_rfl
 f197:=Tryz.func92.trans (congrArg some (by kernel_rfl))
 f260:=Tryz.func120.trans (congrArg some (by kernel_rfl))
 t0:=Tryz.underlying0
 a0:=Tryz.isAgg0
 z0:=Tryz.sizeOf0
 v0:=Tryz.zeroValue0
 t3:=Tryz.underlying3
 a3:=Tryz.isAgg3
 z3:=Tryz.sizeOf3
 v3:=Tryz.zeroValue3
 t4:=Tryz.underlying4
 a4:=Tryz.isAgg4
 z4:=Tryz.sizeOf4
 v4:=Tryz.zeroValue4
 t5:=Tryz.underlying5
 a5:=Tryz.isAgg5
 z5:=Tryz.sizeOf5
 v5:=Tryz.zeroValue5
 t9:=Tryz.underlying9
 a9:=Tryz.isAgg9
 z9:=Tryz.sizeOf9
 v9:=Tryz.zeroValue9
 t21:=Tryz.underlying21
 a21:=Tryz.isAgg21
 z21:=Tryz.sizeOf21
 v21:=Tryz.zeroValue21
 t46:=Tryz.underlying149
 a46:=Tryz.isAgg149
 z46:=Tryz.sizeOf149
 v46:=Tryz.zeroValue149
 t105:=Tryz.underlying158
 a105:=Tryz.isAgg158
 z105:=Tryz.sizeOf158
 v105:=Tryz.zeroValue158
 t119:=Tryz.underlying203
 a119:=Tryz.isAgg203
 z119:=Tryz.sizeOf203
 t138:=Tryz.underlying205
 a138:=Tryz.isAgg205
 z138:=Tryz.sizeOf205
 v138:=Tryz.zeroValue205
 t139:=Tryz.underlying206
 a139:=Tryz.isAgg206
 z139:=Tryz.sizeOf206
 v139:=Tryz.zeroValue206
 g3:=by kernel_rfl
 g4:=by kernel_rfl }
open Go.RowKit Go.Lib in
theorem Tryz.utf8_DecodeRuneInString_ascii (s:ByteArray)(x:UInt8)(w:World)(h0:s.data.toList[0]?=some x)(hx:x.toNat<128) :
  Calls Tryz.prog 92 #[.string s] w fun e w'=>e=.returned (.tuple #[.int .i32 x.toNat,.int .i64 1])∧w'=w:=Any.utf8_DecodeRuneInString_ascii Tryz.lays197 s x w h0 hx
open Go.RowKit Go.Lib in
theorem Tryz.utf8_RuneCountInString_ascii (s:ByteArray)(w:World)(hs:s.size<4294967281)(hascii:∀ (j:Nat) b,s.data.toList[j]?=some b→b.toNat<128) :
  Calls Tryz.prog 91 #[.string s] w fun e w'=>e=.returned (.int .i64 s.size)∧w'=w.iter s s.size:=Any.utf8_RuneCountInString_ascii Tryz.lays195 s w hs hascii
def Tryz.lays268_ren : Go.Shelf.Ren:=⟨fun|268=>68|195=>91|197=>92|260=>120|n=>n,fun|9=>9|3=>3|31=>56|4=>4|105=>158|21=>21|0=>0|5=>5|119=>203|46=>149|139=>206|138=>205|n=>n,fun|3=>2|4=>3|n=>n⟩
theorem Tryz.lays268 : Go.Proofs.Lays.n268 Tryz.prog Tryz.lays268_ren:={
 mixed:=by kernel_rfl
 f195:=Tryz.func91.trans (congrArg some (by kernel_rfl))
 f197:=Tryz.func92.trans (congrArg some (by kernel_rfl))
 f260:=Tryz.func120.trans (congrArg some (by kernel_rfl))
 f268:=Tryz.func68.trans (congrArg some (by kernel_rfl))
 t0:=Tryz.underlying0
 a0:=Tryz.isAgg0
 z0:=Tryz.sizeOf0
 v0:=Tryz.zeroValue0
 t3:=Tryz.underlying3
 a3:=Tryz.isAgg3
 z3:=Tryz.sizeOf3
 v3:=Tryz.zeroValue3
 t4:=Tryz.underlying4
 a4:=Tryz.isAgg4
 z4:=Tryz.sizeOf4
 v4:=Tryz.zeroValue4
 t5:=Tryz.underlying5
 a5:=Tryz.isAgg5
 z5:=Tryz.sizeOf5
 v5:=Tryz.zeroValue5
 t9:=Tryz.underlying9
 a9:=Tryz.isAgg9
 z9:=Tryz.sizeOf9
 v9:=Tryz.zeroValue9
 t21:=Tryz.underlying21
 a21:=Tryz.isAgg21
 z21:=Tryz.sizeOf21
 v21:=Tryz.zeroValue21
 t31:=Tryz.underlying56
 a31:=Tryz.isAgg56
 z31:=Tryz.sizeOf56
 v31:=Tryz.zeroValue56
 t46:=Tryz.underlying149
 a46:=Tryz.isAgg149
 z46:=Tryz.sizeOf149
 v46:=Tryz.zeroValue149
 t105:=Tryz.underlying158
 a105:=Tryz.isAgg158
 z105:=Tryz.sizeOf158
 v105:=Tryz.zeroValue158
 t119:=Tryz.underlying203
 a119:=Tryz.isAgg203
 z119:=Tryz.sizeOf203
 t138:=Tryz.underlying205
 a138:=Tryz.isAgg205
 z138:=Tryz.sizeOf205
 v138:=Tryz.zeroValue205
 t139:=Tryz.underlying206
 a139:=Tryz.isAgg206
 z139:=Tryz.sizeOf206
 v139:=Tryz.zeroValue206
 g3:=by kernel_rfl
 g4:=by kernel_rfl }
open Go.RowKit Go.Lib in
theorem Tryz.strings_explode_all (s:ByteArray)(n:Int)(w:World)(hn:n<0)(hs:s.size<4294967281)(hascii:∀ (j:Nat) b,s.data.toList[j]?=some b→b.toNat<128) :
  Calls Tryz.prog 68 #[.string s,.int .i64 n] w fun e w' =>
   e=.returned (.slice (some ⟨(w.iter s s.size).heap.size,0,none⟩) s.size s.size)∧w'=(w.iter s s.size).alloc (.cells ((Lib.charsB s).map Value.string).toArray 9):=Any.strings_explode_all Tryz.lays268 (by kernel_rfl) s n w hn hs hascii
open Go.RowKit Go.Lib in
theorem Tryz.strings_genSplit_chars (s sep:ByteArray)(sv n:Int)(w:World)(h0:sep.size=0)(hn:n<0)(hs:s.size<4294967281)(hascii:∀ (j:Nat) b,s.data.toList[j]?=some b→b.toNat<128) :
  Calls Tryz.prog 39 #[.string s,.string sep,.int .i64 sv,.int .i64 n] w fun e w' =>
   e=.returned (.slice (some ⟨(w.iter s s.size).heap.size,0,none⟩) s.size s.size)∧w'=(w.iter s s.size).alloc (.cells ((Lib.charsB s).map Value.string).toArray 9):=Any.strings_genSplit_chars Tryz.lays221 (by kernel_rfl) s sep sv n w h0 hn hs hascii
open Go.RowKit Go.Lib in
theorem Tryz.strings_Split_chars (s sep:ByteArray)(w:World)(h0:sep.size=0)(hs:s.size<4294967281)(hascii:∀ (j:Nat) b,s.data.toList[j]?=some b→b.toNat<128) :
  Calls Tryz.prog 15 #[.string s,.string sep] w fun e w' =>
   e=.returned (.slice (some ⟨(w.iter s s.size).heap.size,0,none⟩) s.size s.size)∧w'=(w.iter s s.size).alloc (.cells ((Lib.charsB s).map Value.string).toArray 9):=Any.strings_Split_chars Tryz.lays146 (by kernel_rfl) s sep w h0 hs hascii
def Tryz.lays260_ren : Go.Shelf.Ren:=⟨fun|260=>120|n=>n,fun|9=>9|21=>21|3=>3|4=>4|5=>5|119=>203|0=>0|46=>149|139=>206|138=>205|n=>n,fun|3=>2|4=>3|n=>n⟩
theorem Tryz.lays260 : Go.Proofs.Lays.n260 Tryz.prog Tryz.lays260_ren:={
 mixed:=by kernel_rfl
 f260:=Tryz.func120.trans (congrArg some (by kernel_rfl))
 t0:=Tryz.underlying0
 a0:=Tryz.isAgg0
 z0:=Tryz.sizeOf0
 v0:=Tryz.zeroValue0
 t3:=Tryz.underlying3
 a3:=Tryz.isAgg3
 z3:=Tryz.sizeOf3
 v3:=Tryz.zeroValue3
 t4:=Tryz.underlying4
 a4:=Tryz.isAgg4
 z4:=Tryz.sizeOf4
 v4:=Tryz.zeroValue4
 t5:=Tryz.underlying5
 a5:=Tryz.isAgg5
 z5:=Tryz.sizeOf5
 v5:=Tryz.zeroValue5
 t9:=Tryz.underlying9
 a9:=Tryz.isAgg9
 z9:=Tryz.sizeOf9
 v9:=Tryz.zeroValue9
 t21:=Tryz.underlying21
 a21:=Tryz.isAgg21
 z21:=Tryz.sizeOf21
 v21:=Tryz.zeroValue21
 t46:=Tryz.underlying149
 a46:=Tryz.isAgg149
 z46:=Tryz.sizeOf149
 v46:=Tryz.zeroValue149
 t119:=Tryz.underlying203
 a119:=Tryz.isAgg203
 z119:=Tryz.sizeOf203
 t138:=Tryz.underlying205
 a138:=Tryz.isAgg205
 z138:=Tryz.sizeOf205
 v138:=Tryz.zeroValue205
 t139:=Tryz.underlying206
 a139:=Tryz.isAgg206
 z139:=Tryz.sizeOf206
 v139:=Tryz.zeroValue206
 g3:=by kernel_rfl
 g4:=by kernel_rfl }
open Go.RowKit Go.Lib in
theorem Tryz.utf8_decodeRuneInStringSlow (s:ByteArray)(w:World)(hT:Lib.Utf8Tabs 2 3 w) :
  Calls Tryz.prog 120 #[.string s] w fun e w'=>e=.returned (.tuple #[.int .i32 (Lib.decodeGo s).1,.int .i64 (Lib.decodeGo s).2])∧Below w.heap.size w w':=Any.utf8_decodeRuneInStringSlow Tryz.lays260 s w hT
open Go.RowKit Go.Lib in
theorem Tryz.utf8_DecodeRuneInString (s:ByteArray)(w:World)(hT:Lib.Utf8Tabs 2 3 w) :
  Calls Tryz.prog 92 #[.string s] w fun e w'=>e=.returned (.tuple #[.int .i32 (Lib.decodeGo s).1,.int .i64 (Lib.decodeGo s).2])∧Below w.heap.size w w':=Any.utf8_DecodeRuneInString Tryz.lays197 s w hT
def Tryz.laysNm215_ren : Go.Shelf.Ren:=⟨fun|15=>37|n=>n,fun|22=>22|3=>3|4=>4|n=>n,fun|n=>n⟩
theorem Tryz.laysNm215 : Go.Proofs.Lays2.n15 Tryz.prog Tryz.laysNm215_ren:={
 mixed:=by kernel_rfl
 f15:=Tryz.func37.trans (congrArg some (by kernel_rfl))
 t3:=Tryz.underlying3
 a3:=Tryz.isAgg3
 z3:=Tryz.sizeOf3
 v3:=Tryz.zeroValue3
 t4:=Tryz.underlying4
 a4:=Tryz.isAgg4
 z4:=Tryz.sizeOf4
 v4:=Tryz.zeroValue4
 t22:=Tryz.underlying22
 a22:=Tryz.isAgg22
 z22:=Tryz.sizeOf22
 v22:=Tryz.zeroValue22
 i3:=by kernel_rfl }
open Go.RowKit Go.Lib in
theorem Tryz.slices_Clone_int (b off n c:Nat)(zs:List Int)(w:World)(hz:n≤zs.length)(hbig:n*8≤140737488355328)(hc:∀ j,j<zs.length→w.cell? ⟨b,off+j,none⟩=some (.int .i64 (zs.getD j 0))) :
  Calls Tryz.prog 37 #[.slice (some ⟨b,off,none⟩) n c] w fun e w'=>∃ v',e=.returned v'∧w'.ownsRow w.heap.size 3 1 v' n ((zs.take n).map (Value.int .i64))∧v'≠.slice none 0 0∧Below w.heap.size w w':=Any.slices_Clone_int Tryz.laysNm215 b off n c zs w hz hbig hc
open Go.RowKit Go.Lib in
theorem Tryz.slices_Clone_int_nil (n c:Nat)(w:World) :
  Calls Tryz.prog 37 #[.slice none n c] w fun e w'=>e=.returned (.slice none 0 0)∧w'=w:=Any.slices_Clone_int_nil Tryz.laysNm215 n c w
open Go.RowKit Go.Lib in
theorem Tryz.slices_Clone_int_zero (a:Addr)(c:Nat)(w:World) :
  Calls Tryz.prog 37 #[.slice (some a) 0 c] w fun e w'=>∃ v',e=.returned v'∧w'.ownsRow w.heap.size 3 1 v' 0 []∧v'≠.slice none 0 0∧Below w.heap.size w w':=Any.slices_Clone_int_zero Tryz.laysNm215 a c w
def Tryz.laysNm237_ren : Go.Shelf.Ren:=⟨fun|37=>115|n=>n,fun|3=>3|4=>4|n=>n,fun|n=>n⟩
theorem Tryz.laysNm237 : Go.Proofs.Lays2.n37 Tryz.prog Tryz.laysNm237_ren:={
 mixed:=by kernel_rfl
 f37:=Tryz.func115.trans (congrArg some (by kernel_rfl))
 t3:=Tryz.underlying3
 a3:=Tryz.isAgg3
 z3:=Tryz.sizeOf3
 v3:=Tryz.zeroValue3
 t4:=Tryz.underlying4
 a4:=Tryz.isAgg4
 z4:=Tryz.sizeOf4
 v4:=Tryz.zeroValue4 }
open Go.RowKit Go.Lib in
theorem Tryz.cmp_isNaN_int2 (x:Int)(w:World) :
  Calls Tryz.prog 115 #[.int .i64 x] w fun e w'=>e=.returned (.bool false)∧w'=w:=Any.cmp_isNaN_int2 Tryz.laysNm237 x w
def Tryz.laysSlE041_f37_ren : Go.Shelf.Ren:=⟨fun|41=>37|n=>n,fun|22=>22|23=>3|4=>4|n=>n,fun|n=>n⟩
theorem Tryz.laysSlE041_f37 : Go.Proofs.SlLaysE0.n41 Tryz.prog Tryz.laysSlE041_f37_ren:={
 mixed:=by kernel_rfl
 f41:=⟨Tryz.f37.name,by decide,Tryz.func37.trans (congrArg some (by kernel_rfl))⟩
 t4:=Tryz.underlying4
 a4:=Tryz.isAgg4
 z4:=Tryz.sizeOf4
 v4:=Tryz.zeroValue4
 t22:=Tryz.underlying22
 a22:=Tryz.isAgg22
 z22:=Tryz.sizeOf22
 v22:=Tryz.zeroValue22 }
open Go.RowKit Go.Lib in
theorem Tryz.slices_Clone (i0:TypeInfo)(z:Value)(size bytes:Nat)(hi:Tryz.prog.info? 3=some i0)(hz0:i0.zero=some z)(hz1:i0.size=size)(hz2:i0.bytes=bytes)(hzs:z.cells.size=size)(hsz:0<size)(z23:∀ w,(Go.sizeOf 3).run Tryz.prog w=.ok size w)(b off n c:Nat)(news:List Value)(w:World)(hl:news.length=n*size)(hn:n≤maxLen)(hbig:n*bytes≤140737488355328)(hc:∀ j u,news[j]?=some u→w.cell? ⟨b,off+j,none⟩=some u)(h1:∀ u∈news,u.oneCell'=true) :
  Calls Tryz.prog 37 #[.slice (some ⟨b,off,none⟩) n c] w fun e w'=>∃ v',e=.returned v'∧w'.ownsRow w.heap.size 3 size v' n news∧v'≠.slice none 0 0∧Below w.heap.size w w':=AnyE.slices_Clone Tryz.laysSlE041_f37 i0 z size bytes hi hz0 hz1 hz2 hzs hsz z23 b off n c news w hl hn hbig hc h1
open Go.RowKit Go.Lib in
theorem Tryz.slices_Clone_nil (n c:Nat)(w:World) :
  Calls Tryz.prog 37 #[.slice none n c] w fun e w'=>e=.returned (.slice none 0 0)∧w'=w:=AnyE.slices_Clone_nil Tryz.laysSlE041_f37 n c w
def Tryz.sortFact_ren : Go.Shelf.Ren:=⟨fun|6=>142|15=>84|14=>151|28=>113|29=>114|20=>154|21=>155|22=>156|23=>157|24=>158|25=>159|26=>160|27=>161|46=>163|47=>131|48=>132|49=>164|50=>165|57=>166|n=>n,fun|22=>23|24=>47|25=>153|3=>3|39=>149|0=>0|53=>181|55=>183|4=>4|46=>175|45=>174|50=>58|5=>5|9=>9|66=>194|70=>198|76=>211|77=>212|n=>n,fun|n=>n⟩
theorem Tryz.sortFact : Go.Proofs.SlLaysF0.n6 Tryz.prog Tryz.sortFact_ren:={
 mixed:=by kernel_rfl
 f6:=⟨Tryz.f142.name,by decide,Tryz.func142.trans (congrArg some (by kernel_rfl))⟩
 f14:=⟨Tryz.f151.name,by decide,Tryz.func151.trans (congrArg some (by kernel_rfl))⟩
 f15:=Tryz.func84.trans (congrArg some (by kernel_rfl))
 f20:=⟨Tryz.f154.name,by decide,Tryz.func154.trans (congrArg some (by kernel_rfl))⟩
 f21:=⟨Tryz.f155.name,by decide,Tryz.func155.trans (congrArg some (by kernel_rfl))⟩
 f22:=⟨Tryz.f156.name,by decide,Tryz.func156.trans (congrArg some (by kernel_rfl))⟩
 f23:=⟨Tryz.f157.name,by decide,Tryz.func157.trans (congrArg some (by kernel_rfl))⟩
 f24:=⟨Tryz.f158.name,by decide,Tryz.func158.trans (congrArg some (by kernel_rfl))⟩
 f25:=⟨Tryz.f159.name,by decide,Tryz.func159.trans (congrArg some (by kernel_rfl))⟩
 f26:=⟨Tryz.f160.name,by decide,Tryz.func160.trans (congrArg some (by kernel_rfl))⟩
 f27:=⟨Tryz.f161.name,by decide,Tryz.func161.trans (congrArg some (by kernel_rfl))⟩
 f28:=Tryz.func113.trans (congrArg some (by kernel_rfl))
 f29:=Tryz.func114.trans (congrArg some (by kernel_rfl))
 f46:=⟨Tryz.f163.name,by decide,Tryz.func163.trans (congrArg some (by kernel_rfl))⟩
 f47:=Tryz.func131.trans (congrArg some (by kernel_rfl))
 f48:=Tryz.func132.trans (congrArg some (by kernel_rfl))
 f49:=⟨Tryz.f164.name,by decide,Tryz.func164.trans (congrArg some (by kernel_rfl))⟩
 f50:=⟨Tryz.f165.name,by decide,Tryz.func165.trans (congrArg some (by kernel_rfl))⟩
 f57:=⟨Tryz.f166.name,by decide,Tryz.func166.trans (congrArg some (by kernel_rfl))⟩
 t0:=Tryz.underlying0
 a0:=Tryz.isAgg0
 z0:=Tryz.sizeOf0
 v0:=Tryz.zeroValue0
 t3:=Tryz.underlying3
 a3:=Tryz.isAgg3
 z3:=Tryz.sizeOf3
 v3:=Tryz.zeroValue3
 t4:=Tryz.underlying4
 a4:=Tryz.isAgg4
 z4:=Tryz.sizeOf4
 v4:=Tryz.zeroValue4
 t5:=Tryz.underlying5
 a5:=Tryz.isAgg5
 z5:=Tryz.sizeOf5
 v5:=Tryz.zeroValue5
 t9:=Tryz.underlying9
 a9:=Tryz.isAgg9
 z9:=Tryz.sizeOf9
 v9:=Tryz.zeroValue9
 t22:=Tryz.underlying23
 a22:=Tryz.isAgg23
 z22:=Tryz.sizeOf23
 v22:=Tryz.zeroValue23
 t25:=Tryz.underlying153
 a25:=Tryz.isAgg153
 z25:=Tryz.sizeOf153
 v25:=Tryz.zeroValue153
 t39:=Tryz.underlying149
 a39:=Tryz.isAgg149
 z39:=Tryz.sizeOf149
 v39:=Tryz.zeroValue149
 t45:=Tryz.underlying174
 a45:=Tryz.isAgg174
 z45:=Tryz.sizeOf174
 v45:=Tryz.zeroValue174
 t46:=Tryz.underlying175
 a46:=Tryz.isAgg175
 z46:=Tryz.sizeOf175
 v46:=Tryz.zeroValue175
 t50:=Tryz.underlying58
 a50:=Tryz.isAgg58
 z50:=Tryz.sizeOf58
 v50:=Tryz.zeroValue58
 t53:=Tryz.underlying181
 a53:=Tryz.isAgg181
 z53:=Tryz.sizeOf181
 v53:=Tryz.zeroValue181
 t55:=Tryz.underlying183
 a55:=Tryz.isAgg183
 z55:=Tryz.sizeOf183
 v55:=Tryz.zeroValue183
 t66:=Tryz.underlying194
 a66:=Tryz.isAgg194
 z66:=Tryz.sizeOf194
 v66:=Tryz.zeroValue194
 t70:=Tryz.underlying198
 a70:=Tryz.isAgg198
 z70:=Tryz.sizeOf198
 v70:=Tryz.zeroValue198
 t76:=Tryz.underlying211
 a76:=Tryz.isAgg211
 z76:=Tryz.sizeOf211
 v76:=Tryz.zeroValue211
 t77:=Tryz.underlying212
 a77:=Tryz.isAgg212
 z77:=Tryz.sizeOf212
 v77:=Tryz.zeroValue212 }
def Tryz.sortList_ren : Go.Shelf.Ren:=⟨fun|6=>63|15=>84|14=>83|28=>113|29=>114|20=>105|21=>106|22=>107|23=>108|24=>109|25=>110|26=>111|27=>112|46=>130|47=>131|48=>132|49=>133|50=>134|57=>146|n=>n,fun|22=>82|24=>23|25=>130|3=>3|39=>149|0=>0|53=>181|55=>183|4=>4|46=>175|45=>174|50=>58|5=>5|9=>9|66=>194|70=>198|76=>211|77=>212|n=>n,fun|n=>n⟩
theorem Tryz.sortList : Go.Proofs.SlLaysF.n6 Tryz.prog Tryz.sortList_ren:={
 mixed:=by kernel_rfl
 f6:=⟨Tryz.f63.name,by decide,Tryz.func63.trans (congrArg some (by kernel_rfl))⟩
 f14:=⟨Tryz.f83.name,by decide,Tryz.func83.trans (congrArg some (by kernel_rfl))⟩
 f15:=Tryz.func84.trans (congrArg some (by kernel_rfl))
 f20:=⟨Tryz.f105.name,by decide,Tryz.func105.trans (congrArg some (by kernel_rfl))⟩
 f21:=⟨Tryz.f106.name,by decide,Tryz.func106.trans (congrArg some (by kernel_rfl))⟩
 f22:=⟨Tryz.f107.name,by decide,Tryz.func107.trans (congrArg some (by kernel_rfl))⟩
 f23:=⟨Tryz.f108.name,by decide,Tryz.func108.trans (congrArg some (by kernel_rfl))⟩
 f24:=⟨Tryz.f109.name,by decide,Tryz.func109.trans (congrArg some (by kernel_rfl))⟩
 f25:=⟨Tryz.f110.name,by decide,Tryz.func110.trans (congrArg some (by kernel_rfl))⟩
 f26:=⟨Tryz.f111.name,by decide,Tryz.func111.trans (congrArg some (by kernel_rfl))⟩
 f27:=⟨Tryz.f112.name,by decide,Tryz.func112.trans (congrArg some (by kernel_rfl))⟩
 f28:=Tryz.func113.trans (congrArg some (by kernel_rfl))
 f29:=Tryz.func114.trans (congrArg some (by kernel_rfl))
 f46:=⟨Tryz.f130.name,by decide,Tryz.func130.trans (congrArg some (by kernel_rfl))⟩
 f47:=Tryz.func131.trans (congrArg some (by kernel_rfl))
 f48:=Tryz.func132.trans (congrArg some (by kernel_rfl))
 f49:=⟨Tryz.f133.name,by decide,Tryz.func133.trans (congrArg some (by kernel_rfl))⟩
 f50:=⟨Tryz.f134.name,by decide,Tryz.func134.trans (congrArg some (by kernel_rfl))⟩
 f57:=⟨Tryz.f146.name,by decide,Tryz.func146.trans (congrArg some (by kernel_rfl))⟩
 t0:=Tryz.underlying0
 a0:=Tryz.isAgg0
 z0:=Tryz.sizeOf0
 v0:=Tryz.zeroValue0
 t3:=Tryz.underlying3
 a3:=Tryz.isAgg3
 z3:=Tryz.sizeOf3
 v3:=Tryz.zeroValue3
 t4:=Tryz.underlying4
 a4:=Tryz.isAgg4
 z4:=Tryz.sizeOf4
 v4:=Tryz.zeroValue4
 t5:=Tryz.underlying5
 a5:=Tryz.isAgg5
 z5:=Tryz.sizeOf5
 v5:=Tryz.zeroValue5
 t9:=Tryz.underlying9
 a9:=Tryz.isAgg9
 z9:=Tryz.sizeOf9
 v9:=Tryz.zeroValue9
 t22:=Tryz.underlying82
 a22:=Tryz.isAgg82
 z22:=Tryz.sizeOf82
 v22:=Tryz.zeroValue82
 a24:=Tryz.isAgg23
 z24:=Tryz.sizeOf23
 t25:=Tryz.underlying130
 a25:=Tryz.isAgg130
 z25:=Tryz.sizeOf130
 v25:=Tryz.zeroValue130
 t39:=Tryz.underlying149
 a39:=Tryz.isAgg149
 z39:=Tryz.sizeOf149
 v39:=Tryz.zeroValue149
 t45:=Tryz.underlying174
 a45:=Tryz.isAgg174
 z45:=Tryz.sizeOf174
 v45:=Tryz.zeroValue174
 t46:=Tryz.underlying175
 a46:=Tryz.isAgg175
 z46:=Tryz.sizeOf175
 v46:=Tryz.zeroValue175
 t50:=Tryz.underlying58
 a50:=Tryz.isAgg58
 z50:=Tryz.sizeOf58
 v50:=Tryz.zeroValue58
 t53:=Tryz.underlying181
 a53:=Tryz.isAgg181
 z53:=Tryz.sizeOf181
 v53:=Tryz.zeroValue181
 t55:=Tryz.underlying183
 a55:=Tryz.isAgg183
 z55:=Tryz.sizeOf183
 v55:=Tryz.zeroValue183
 t66:=Tryz.underlying194
 a66:=Tryz.isAgg194
 z66:=Tryz.sizeOf194
 v66:=Tryz.zeroValue194
 t70:=Tryz.underlying198
 a70:=Tryz.isAgg198
 z70:=Tryz.sizeOf198
 v70:=Tryz.zeroValue198
 t76:=Tryz.underlying211
 a76:=Tryz.isAgg211
 z76:=Tryz.sizeOf211
 v76:=Tryz.zeroValue211
 t77:=Tryz.underlying212
 a77:=Tryz.isAgg212
 z77:=Tryz.sizeOf212
 v77:=Tryz.zeroValue212 }
end Go.Proofs
namespace Go.Proofs.YtinknhophadbkaaGreatDoor
open Go.RowKit Go.Sort Go.Shelf Go.Lib
def Grw (w w':World):Prop:=∃ q os,w'=grow (w.drewN q) os
theorem Grw.refl (w:World):Grw w w:=⟨0,#[],by simp;rfl⟩
theorem Grw.alloc {a w:World}(h:Grw a w)(o:Obj):Grw a (w.alloc o):=by
 obtain⟨q,os,rfl⟩:=h
 exact⟨q,os++#[o],by rw[alloc_eq_grow,grow_grow]⟩
theorem Grw.drew {a w:World}(h:Grw a w):Grw a w.drew:=by
 obtain⟨q,os,rfl⟩:=h
 exact⟨q+1,os,rfl⟩
theorem Grw.drewN {a w:World}(h:Grw a w)(n:Nat):Grw a (w.drewN n):=by
 obtain⟨q,os,rfl⟩:=h
 exact⟨q+n,os,by rw[← World.drewN_drewN];rfl⟩
theorem Grw.below {w w':World}(h:Grw w w'):Below w.heap.size w w':=by
 obtain⟨q,os,rfl⟩:=h
 exact⟨rfl,rfl,rfl,by simp[grow],fun i hi=>by
  show(w.heap++os)[i]?=w.heap[i]?
  rw[Array.getElem?_append_left hi]⟩
def cmpF (x y:Fact):Int:=if Lib.compareInt x.1 y.1≠0 then Lib.compareInt x.1 y.1 else Lib.compareInt x.2 y.2
def ltF (x y:Fact):Bool:=decide (x.1<y.1)||(x.1 == y.1&&decide (x.2<y.2))
theorem compareInt_cases (a b:Int):(a<b∧Lib.compareInt a b=-1)∨(a=b∧Lib.compareInt a b=0)∨(b<a∧Lib.compareInt a b=1):=by
 unfold Lib.compareInt
 by_cases h1:a<b
 ·left;simp[h1]
 ·by_cases h2:b<a
  ·right;right;simp[h1,h2]
  ·right;left;simp[h1,h2];omega
theorem ltOf_cmpF (x y:Fact):ltOf cmpF x y=ltF x y:=by
 unfold ltOf cmpF ltF
 rw[Bool.eq_iff_iff]
 rcases compareInt_cases x.1 y.1 with⟨h,e⟩|⟨h,e⟩|⟨h,e⟩ <;> rcases compareInt_cases x.2 y.2 with⟨h',e'⟩|⟨h',e'⟩|⟨h',e'⟩ <;> rw[e,e'] <;> simp <;> omega
theorem swoF : SWO (ltOf cmpF) where
 irrefl x:=by rw[ltOf_cmpF];simp[ltF]
 trans x y z h1 h2:=by rw[ltOf_cmpF]at *;simp[ltF]at *;omega
 ntrans x y z h1 h2:=by rw[ltOf_cmpF]at *;simp[ltF]at *;omega
set_option maxHeartbeats 1000000 in
theorem or_calls (g c:Nat)(a b r:Int)(hr:r=if a≠0 then a else b)(w:World)(h0:w.cell? ⟨g,0,none⟩=some (.int .i64 a))(h1:w.cell? ⟨g,1,none⟩=some (.int .i64 b)) :
  Calls Tryz.prog 87 #[.slice (some ⟨g,0,none⟩) 2 c] w fun e w'=>e=.returned (.int .i64 r)∧w=w':=by
 have HR:=Lib.hid hr
 clear hr
 go_enter Tryz.func87,Tryz.ntmps87
 go_wp2
 go_loopg [8] 2 (fun gg i wr=>∃ k:Nat,k≤2∧gg=2-k∧i=.int .i64 k∧wr=w∧(1≤k→a=0)∧(2≤k→b=0))
 case atStart=>exact⟨0,by omega,by omega,rfl,rfl,by omega,by omega⟩
 case round =>
  obtain⟨k,hk,hg,rfl,rfl,ka,kb⟩:=hrel
  have hk3:k=0∨k=1∨k=2:=by omega
  rcases hk3 with rfl|rfl|rfl
  ·have HG:=Lib.hid hg
   have KA:=Lib.hid ka
   have KB:=Lib.hid kb
   clear hg ka kb
   by_cases ha:a=0
   ·have hab:(a != 0)=false:=by simp[ha]
    have HA:=Lib.hid ha
    clear ha
    go_wp2
    go_roundg 1
    case measure=>have:=HG.out;omega
    case rel=>exact⟨1,by omega,by omega,by go_num,rfl,fun _=>HA.out,by omega⟩
   ·have hab:(a != 0)=true:=by simp[ha]
    have hra:r=a:=by rw[HR.out,if_pos ha]
    have HA:=Lib.hid ha
    have HRA:=Lib.hid hra
    clear ha hra
    go_wp2
    go_ret
    exact⟨by rw[HRA.out];rfl,rfl⟩
  ·have ha:a=0:=ka (by omega)
   have HG:=Lib.hid hg
   have KA:=Lib.hid ka
   have KB:=Lib.hid kb
   clear hg ka kb
   by_cases hb:b=0
   ·have hab:(b != 0)=false:=by simp[hb]
    have HA:=Lib.hid ha
    have HB:=Lib.hid hb
    clear ha hb
    go_wp2
    go_roundg 0
    case measure=>have:=HG.out;omega
    case rel=>exact⟨2,by omega,by omega,by go_num,rfl,fun _=>HA.out,fun _=>HB.out⟩
   ·have hab:(b != 0)=true:=by simp[hb]
    have hra:r=b:=by rw[HR.out,if_neg (by simp[ha])]
    have HA:=Lib.hid ha
    have HB:=Lib.hid hb
    have HRA:=Lib.hid hra
    clear ha hb hra
    go_wp2
    go_ret
    exact⟨by rw[HRA.out];rfl,rfl⟩
  ·have hra:r=0:=by rw[HR.out,if_neg (by simp[ka (by omega)]),kb (by omega)]
   have HRA:=Lib.hid hra
   clear hra
   clear ka kb
   go_wp2
   go_ret
   exact⟨by rw[HRA.out];rfl,rfl⟩
set_option maxHeartbeats 1000000 in
theorem cmpClosure (x y:Fact)(w:World):Calls Tryz.prog 143 #[.agg #[.int .i64 x.1,.int .i64 x.2],.agg #[.int .i64 y.1,.int .i64 y.2]] w fun e w'=>e=.returned (.int .i64 (cmpF x y))∧Grw w w':=by
 obtain⟨x1,x2⟩:=x
 obtain⟨y1,y2⟩:=y
 have h1:=fun(W:World)=>Tryz.cmp_Compare_int x1 y1 W
 have h2:=fun(W:World)=>Tryz.cmp_Compare_int x2 y2 W
 have hfin:cmpF (x1,x2) (y1,y2)=if Lib.compareInt x1 y1≠0 then Lib.compareInt x1 y1 else Lib.compareInt x2 y2:=rfl
 generalize Lib.compareInt x1 y1=c1 at h1 hfin
 generalize Lib.compareInt x2 y2=c2 at h2 hfin
 generalize cmpF (x1,x2) (y1,y2)=r at hfin ⊢
 have H1:=Lib.hid h1
 have H2:=Lib.hid h2
 have HFIN:=Lib.hid hfin
 clear h1 h2 hfin
 simp only
 go_enter Tryz.func143,Tryz.ntmps143
 go_upto_region 1 with fail
 have c0:((w.alloc (.cells #[.int .i64 x1,.int .i64 x2] 47)).alloc (.cells #[.int .i64 y1,.int .i64 y2] 47)).cell? ⟨w.heap.size,0,none⟩=some (.int .i64 x1):=by simp
 have c1':((w.alloc (.cells #[.int .i64 x1,.int .i64 x2] 47)).alloc (.cells #[.int .i64 y1,.int .i64 y2] 47)).cell? ⟨w.heap.size,1,none⟩=some (.int .i64 x2):=by simp
 have c2':((w.alloc (.cells #[.int .i64 x1,.int .i64 x2] 47)).alloc (.cells #[.int .i64 y1,.int .i64 y2] 47)).cell? ⟨w.heap.size+1,0,none⟩=some (.int .i64 y1):=by simp
 have c3':((w.alloc (.cells #[.int .i64 x1,.int .i64 x2] 47)).alloc (.cells #[.int .i64 y1,.int .i64 y2] 47)).cell? ⟨w.heap.size+1,1,none⟩=some (.int .i64 y2):=by simp
 have hG:Grw w ((w.alloc (.cells #[.int .i64 x1,.int .i64 x2] 47)).alloc (.cells #[.int .i64 y1,.int .i64 y2] 47)):=((Grw.refl w).alloc _).alloc _
 have HG:=Lib.hid hG
 clear hG
 generalize (w.alloc (.cells #[.int .i64 x1,.int .i64 x2] 47)).alloc (.cells #[.int .i64 y1,.int .i64 y2] 47)=W0 at c0 c1' c2' c3' HG ⊢
 generalize w.heap.size=B0 at c0 c1' c2' c3' ⊢
 go_region_held3 (fun w'=>w'.cell? ⟨B0,0,none⟩=some (.int .i64 x1)∧w'.cell? ⟨B0,1,none⟩=some (.int .i64 x2)∧w'.cell? ⟨B0+1,0,none⟩=some (.int .i64 y1)∧w'.cell? ⟨B0+1,1,none⟩=some (.int .i64 y2))
  (first|exact⟨c0,c1',c2',c3'⟩|exact⟨kept (belowA (Below.refl _ _) _) c0,kept (belowA (Below.refl _ _) _) c1',kept (belowA (Below.refl _ _) _) c2',kept (belowA (Below.refl _ _) _) c3'⟩)
  (first
   | (go_at_call_of 88 (Value.int .i64 x1);refine(H1.out _).mono ?_;rintro e wa ⟨rfl,rfl⟩)
   | (go_at_call_of 88 (Value.int .i64 x2);refine(H2.out _).mono ?_;rintro e wb ⟨rfl,rfl⟩)
   | (go_at_call 87;refine(or_calls _ _ c1 c2 r HFIN.out _ (by simp) (by simp)).mono ?_;rintro e wc ⟨rfl,rfl⟩))
 go_wp2
 go_ret
 exact⟨rfl,(HG.out.alloc _).drew⟩
theorem flatK_facts (l:List Fact):flatK encF 2 l.toArray=(factCells l).toArray:=by
 apply Array.ext
 ·simp[factCells_length]
 ·intro i h1 h2
  have hi:i<l.length*2:=by simpa using h1
  have hk:l[i / 2]?=some (l[i / 2]'(by omega)):=gE_ (by omega)
  obtain⟨c0,c1⟩:=factCells_at l (i / 2) _ hk
  have hbang:l.toArray[i / 2]! = l[i / 2]'(by omega):=by simp[show i / 2<l.length by omega]
  have hL:(flatK encF 2 l.toArray)[i]=(encF l.toArray[i / 2]!)[i % 2]!:=by simp[flatK]
  rw[hL,hbang]
  have hR:(factCells l).toArray[i]=(factCells l)[i]'(by rw[factCells_length];omega):=by simp
  rw[hR]
  rcases Nat.mod_two_eq_zero_or_one i with hm|hm
  ·have e:i / 2*2=i:=by omega
   rw[e]at c0
   have:=(gS_.1 c0).2
   rw[this,hm];rfl
  ·have e:i / 2*2+1=i:=by omega
   rw[e]at c1
   have:=(gS_.1 c1).2
   rw[this,hm];rfl
def sortF (l:List Fact):List Fact:=l.mergeSort fun x y=>!ltF y x
theorem sortF_length (l:List Fact):(sortF l).length=l.length:=List.length_mergeSort _
theorem cmpLays (blk off size:Nat)(w:World):CmpLays Tryz.prog 143 #[] encF 2 cmpF blk off size w :=
 fun _ _ _ _ x y=>cmpClosure x y _
set_option maxHeartbeats 1000000 in
theorem sort_calls (base:Nat)(v:Value)(l:List Fact)(w:World)(h:OwnF w base v l)(hl:l.length<4611686018427387904) :
  Calls Tryz.prog 142 #[v,.func (.func 143) #[] #[]] w fun e w'=>e=.returned (.tuple #[])∧OwnF w' base v (sortF l)∧w.grownBy w' v.ownBlock:=by
 rcases id h.2 with⟨rfl,h0⟩|⟨g,cap,cur,rfl,hbase,hb,hn,hm,hcs,htake⟩
 ·have hnil:l=[]:=List.length_eq_zero_iff.1 h0
  subst hnil
  refine(AnyF.slices_SortFunc_none Tryz.sortFact none 0 _ w).mono ?_
  rintro e w' ⟨rfl,rfl⟩
  exact⟨rfl,by rw[show sortF []=[]from by simp[sortF]];exact h,World.grownBy.refl _ _⟩
 ·have eg:∀ args w,(callFunc 143 args).run Tryz.prog w=.ok (.enter 143 args) w:=enters_of Tryz.func143 (by kernel_rfl) rfl
  have hH:HoldsK encF 2 w g 0 l.toArray:=by
   unfold HoldsK
   rw[flatK_facts]
   intro j hj
   have hj':j<l.length*2:=by simpa [factCells_length] using hj
   refine⟨?_,World.ownsRow.frozenAt h (0+j)⟩
   rw[Nat.zero_add,World.ownsRow.cellAt h j hj']
   have:j<(factCells l).length:=by rw[factCells_length];exact hj'
   simp[this]
  have hblk:g<w.heap.size:=(Array.getElem?_eq_some_iff.1 hb).1
  have hcon:=AnyQ.slices_SortFunc_total Tryz.sortFact 2 Tryz.isAgg47 Tryz.sizeOf47 encF (fun _=>rfl) (fun x v hv=>by simp[encF]at hv;rcases hv with rfl|rfl <;> rfl) cmpF swoF 143 #[] g 0 cap l.toArray w eg (cmpLays g 0 _ w) hH hblk (by simpa using hl)
   (fun x y h1 h2=>by rw[ltOf_cmpF]at h1 h2;simp[ltF]at h1 h2;exact Prod.ext (by omega) (by omega))
  have hsize:l.toArray.size=l.length:=by simp
  rw[hsize]at hcon
  refine hcon.mono ?_
  rintro e w' ⟨rfl,n,os,rfl⟩
  have hsort:(l.toArray.toList.mergeSort fun x y=>!ltOf cmpF y x)=sortF l:=by simp only[ltOf_cmpF];rfl
  rw[hsort]
  have hblock:(sortWorldK encF 2 w g 0 n (sortF l).toArray os).heap[g]?=some (.cells (putCells id 0 (factCells (sortF l)).toArray cur) 47 (0,0)):=by
   show(grow (putRow id (Sort.ahead w n) g 0 (flatK encF 2 (sortF l).toArray)) os).heap[g]?=_
   rw[flatK_facts,heap_grow_old _ _ (by simpa using hblk)]
   simp[putRow,mapBlock,Sort.ahead,Array.getElem?_modify,hb,onCells]
  refine⟨rfl,⟨by rw[factCells_length],.inr ⟨g,cap,_,by rw[sortF_length],hbase,hblock,by rw[sortF_length];exact hn,hm,by simp[putCells,hcs],?_⟩⟩,?_⟩
  ·apply List.ext_getElem?
   intro j
   have hfl:=factCells_length (sortF l)
   by_cases hj:j<(sortF l).length*2
   ·rw[List.getElem?_take_of_lt hj,Array.getElem?_toList]
    have hsl:=sortF_length l
    simp[putCells,show j<cur.size by rw[hcs];omega,show j<(factCells (sortF l)).length by omega]
   ·rw[List.getElem?_take_eq_none (by omega),List.getElem?_eq_none (by omega)]
  ·refine⟨rfl,rfl,rfl,by simp[sortWorldK,putRowK],fun k hk hne=>?_⟩
   show(grow (putRow id (Sort.ahead w n) g 0 (flatK encF 2 (sortF l).toArray)) os).heap[k]?=_
   rw[heap_grow_old _ _ (by simpa using hk)]
   have:g≠k:=fun e=>hne (by rw[e];rfl)
   simp[putRow,mapBlock,Sort.ahead,Array.getElem?_modify,this]
end Go.Proofs.YtinknhophadbkaaGreatDoor
namespace Go.Proofs.YtinknhophadbkaaGreatDoor.Am
open Go.RowKit
theorem rv_keep {w w':World}{vs vs':Shp}{m m':MM}{y:AV}{u:Value}(hy:Fr y)(h:RV w vs m y u)(hs:w.heap.size≤w'.heap.size)(hc:∀ b,b<w.heap.size→¬ Owned vs m b→w'.heap[b]?=w.heap[b]?)(hn:∀ b,b<w.heap.size→¬ Owned vs m b→¬ Owned vs' m' b):RV w' vs' m' y u:=by
 have hO:∀ b,Owned (fun i=>((vs i).1+1,none)) ⟨fun _=>none,Owned vs' m'⟩ b↔Owned vs' m' b:=by
  intro b
  constructor
  ·rintro(q|⟨i,q1,_⟩)
   ·exact q
   ·exact absurd rfl q1
  ·exact fun q=>.inl q
 have hM:Mono w vs m w' (fun i=>((vs i).1+1,none)) ⟨fun _=>none,Owned vs' m'⟩ :=
  ⟨hs,hc,fun b hb hno ho=>hn b hb hno ((hO b).1 ho),fun i=>Nat.le_succ _,fun i hi=>by simp at hi⟩
 exact rv_fr hy (fun b hb=>(hO b).2 hb) (h.mono hM)
theorem enter_g {P:Program}{f:FuncId}{fn:Func}{c:Code}(hf:P.funcs[f]?=some fn)(hb:fn.body=some c)(hname:(fn.name == "runtime.NumGoroutine")=false)(vs:Array Value)(w:World):(callFunc f vs).run P w=.ok (.enter f vs) w:=by
 simp only[callFunc,Sem.run_bind,program,Sem.run,Result.andThen_ok,hf,hname,hb]
 rfl
section
variable {C : Cx} {w w' : World} {m : MM} {bs : List (Nat × Blk)}
theorem gr_row {i0 E sz n':Nat}{v v':Value}{row:Option Nat}{els':List (List AV)}{xs':List Value}(hM:Mem C.N w (fE bs) m)(hG:C.Gl w)(hv:v.ownBlock=none∨((fE bs i0).blk≠none∧m i0=v.ownBlock))(hrow:w'.ownsRow 0 E sz v' n' xs')(hgr:w.grownBy w' row)
  (hr:row=v.ownBlock∨∀ b,row=some b→w.heap.size≤b) (hv':v'.ownBlock=v.ownBlock∨∀ b,v'.ownBlock=some b→w.heap.size≤b) (hl:els'.length=n')
  (hfl:∀ (k:Nat) (e:List AV),els'[k]?=some e→e.length=sz∧∀ (j:Nat) (y:AV),e[j]?=some y→Fr y∧∃ u,xs'[k*sz+j]?=some u∧u.oneCell'=true∧RV w (shp (fE bs)) m y u) :
  GR C w m bs [] (.own 0 0 0 n') [(0,⟨E,sz,false,els'⟩)] v' ⟨fun k=>if k=0 then v'.ownBlock else none,m.O⟩ w':=by
 have hvb:∀ b,v.ownBlock=some b→(fE bs i0).blk≠none∧m i0=some b:=fun b hb=>by
  rcases hv with q|⟨q1,q2⟩
  ·rw[q]at hb;cases hb
  ·exact⟨q1,by rw[q2,hb]⟩
 have hnew:∀ b,v'.ownBlock=some b→((fE bs i0).blk≠none∧m i0=some b)∨w.heap.size≤b:=fun b hb=>by
  rcases hv' with q|q
  ·rw[q]at hb;exact .inl (hvb b hb)
  ·exact .inr (q b hb)
 have hrow0:∀ b,b<w.heap.size→row=some b→(fE bs i0).blk≠none∧m i0=some b:=fun b hb hq=>by
  rcases hr with q|q
  ·rw[q]at hq;exact hvb b hq
  ·have:=q b hq;omega
 have hcell:∀ b,b<w.heap.size→¬ Owned (shp (fE bs)) m b→w'.heap[b]?=w.heap[b]?:=fun b hb hno=>hgr.block b hb (fun e=>by
  obtain⟨q1,q2⟩:=hrow0 b hb e.symm
  exact hno (.inr ⟨i0,blk_live.2 q1,q2⟩))
 have hown:∀ b,b<w.heap.size→¬ Owned (shp (fE bs)) m b→¬ Owned (shp (fE [(0,⟨E,sz,false,els'⟩)])) ⟨fun k=>if k=0 then v'.ownBlock else none,m.O⟩ b:=by
  rintro b hb hno (q|⟨k,q1,q2⟩)
  ·exact hno (.inl q)
  ·have q2':(if k=0 then v'.ownBlock else none)=some b:=q2
   split at q2'
   ·rcases hnew b q2' with⟨p1,p2⟩|p
    ·exact hno (.inr ⟨i0,blk_live.2 p1,p2⟩)
    ·omega
   ·cases q2'
 have hfE:fE [(0,(⟨E,sz,false,els'⟩:Blk))] 0=⟨0,some ⟨E,sz,false,els'⟩⟩:=rfl
 have hblk:BlkOk w' (shp (fE [(0,⟨E,sz,false,els'⟩)])) ⟨fun k=>if k=0 then v'.ownBlock else none,m.O⟩ ⟨E,sz,false,els'⟩ v'.ownBlock:=by
  rcases hrow.2 with⟨rfl,h0⟩|⟨g,cap,cur,rfl,_,hh,hnc,hmx,hcs,htake⟩
  ·exact⟨List.length_eq_zero_iff.1 (by show els'.length=0;omega),rfl⟩
  ·refine⟨cur,.cells hh rfl,?_,fun k e he=>⟨(hfl k e he).1,fun j y hy=>?_⟩⟩
   ·show els'.length*sz≤cur.size
    rw[hcs,hl]
    exact Nat.mul_le_mul_right _ hnc
   ·obtain⟨h1,u,u1,u2,u3⟩:=(hfl k e he).2 j y hy
    refine⟨u,?_,fun _=>u2,rv_keep h1 u3 hgr.size hcell hown⟩
    rw[← htake,List.getElem?_take]at u1
    split at u1
    ·simpa using u1
    ·cases u1
 have hliveI:∀ i,(fE [(0,(⟨E,sz,false,els'⟩:Blk))] i).blk≠none→i=0:=fun i hi=>by
  have:=fE_live.1 hi
  simpa [keys] using this
 refine⟨?_,⟨fun i B hB=>?_,fun i j b hi hj _ _=>?_,fun i b hi hb=>?_,fun i b hi hb ho=>?_,fun b hb=>⟨Nat.lt_of_lt_of_le (hM.olt b hb).1 hgr.size,(hM.olt b hb).2⟩,Nat.le_trans hM.big hgr.size⟩,rfl,⟨hgr.os,hgr.tape,hgr.output,hgr.size,fun b hb hx=>?_⟩,fun i b hi hb=>?_,fun i hi=>(by cases hi),C.keep w w' (fun b hb=>hgr.block b (Nat.lt_of_lt_of_le hb hM.big) (fun e=>?_)) hG⟩
 ·rcases hrow.2 with⟨rfl,h0⟩|⟨g,cap,cur,rfl,_,hh,hnc,hmx,hcs,htake⟩
  ·subst h0
   exact .ownN (sz:=sz) rfl rfl
  ·have:=RV.own (w:=w') (vs:=shp (fE [(0,⟨E,sz,false,els'⟩)])) (m:=⟨fun k=>if k=0 then(Value.slice (some ⟨g,0,none⟩) n' cap).ownBlock else none,m.O⟩) (i:=0) (ver:=0) (sz:=sz) (k:=0) (b:=g) (ty:=E) (n:=cur.size) (len:=n') (cap:=cap) rfl rfl hnc hmx (by simp[World.shape?,hh]) (by rw[Nat.zero_add,hcs])
   simpa using this
 ·have hi:=hliveI i (by rw[hB];simp)
  subst hi
  rw[hfE]at hB
  injection hB with hB
  subst hB
  exact hblk
 ·rw[hliveI i hi,hliveI j hj]
 ·have:=hliveI i hi
  subst this
  rcases hnew b hb with⟨p1,p2⟩|p
  ·exact hM.low i0 b p1 p2
  ·exact Nat.le_trans hM.big p
 ·have:=hliveI i hi
  subst this
  rcases hnew b hb with⟨p1,p2⟩|p
  ·exact hM.sep i0 b p1 p2 ho
  ·have:=(hM.olt b ho).1
   omega
 ·refine hgr.block b hb (fun e=>hx ?_)
  obtain⟨q1,q2⟩:=hrow0 b hb e.symm
  exact⟨i0,q1,q2⟩
 ·have:=hliveI i hi
  subst this
  rcases hnew b hb with⟨p1,p2⟩|p
  ·exact .inl ⟨i0,p1,p2⟩
  ·exact .inr (by omega)
 ·have hb':b<w.heap.size:=Nat.lt_of_lt_of_le hb hM.big
  obtain⟨q1,q2⟩:=hrow0 b hb' e.symm
  have:=hM.low i0 b q1 q2
  omega
theorem gr_kept {i0 E sz n:Nat}{v r:Value}{els els':List (List AV)}{rA:AV}{xs':List Value}(hM:Mem C.N w (fE [(i0,⟨E,sz,false,els⟩)]) m)(hG:C.Gl w)(hv:m i0=v.ownBlock)(hrow:w'.ownsRow 0 E sz v n xs')(hgr:w.grownBy w' v.ownBlock)(hsh:∀ b,v.ownBlock=some b→w'.shape? b=w.shape? b)(hl:els'.length=n)
  (hr:∀ m',RV w' (shp (fE [(i0,⟨E,sz,false,els'⟩)])) m' rA r)
  (hfl:∀ (k:Nat) (e:List AV),els'[k]?=some e→e.length=sz∧∀ (j:Nat) (y:AV),e[j]?=some y→Fr y∧∃ u,xs'[k*sz+j]?=some u∧u.oneCell'=true∧RV w (shp (fE [(i0,⟨E,sz,false,els⟩)])) m y u) :
  GR C w m [(i0,⟨E,sz,false,els⟩)] [i0] rA [(i0,⟨E,sz,false,els'⟩)] r m w':=by
 have hf0:∀ l:List (List AV),fE [(i0,(⟨E,sz,false,l⟩:Blk))] i0=⟨0,some ⟨E,sz,false,l⟩⟩:=fun l=>by simp only[fE,beq_iff.2 rfl]
 have hlive0:(fE [(i0,(⟨E,sz,false,els⟩:Blk))] i0).blk≠none:=by rw[hf0];simp
 have hliveI:∀ (l:List (List AV)) i,(fE [(i0,(⟨E,sz,false,l⟩:Blk))] i).blk≠none→i=i0:=fun l i hi=>by
  have:=fE_live.1 hi
  simpa [keys] using this
 have hshp:shp (fE [(i0,(⟨E,sz,false,els'⟩:Blk))])=shp (fE [(i0,⟨E,sz,false,els⟩)]):=by
  funext i
  simp only[shp,fE]
  cases Nat.beq i i0 <;> rfl
 have hcell:∀ b,b<w.heap.size→¬ Owned (shp (fE [(i0,⟨E,sz,false,els⟩)])) m b→w'.heap[b]?=w.heap[b]?:=fun b hb hno=>hgr.block b hb (fun e=>hno (.inr ⟨i0,blk_live.2 hlive0,by rw[hv];exact e.symm⟩))
 have hblk:BlkOk w' (shp (fE [(i0,⟨E,sz,false,els'⟩)])) m ⟨E,sz,false,els'⟩ v.ownBlock:=by
  rcases hrow.2 with⟨rfl,h0⟩|⟨g,cap,cur,rfl,_,hh,hnc,hmx,hcs,htake⟩
  ·exact⟨List.length_eq_zero_iff.1 (by show els'.length=0;omega),rfl⟩
  ·refine⟨cur,.cells hh rfl,?_,fun k e he=>⟨(hfl k e he).1,fun j y hy=>?_⟩⟩
   ·show els'.length*sz≤cur.size
    rw[hcs,hl]
    exact Nat.mul_le_mul_right _ hnc
   ·obtain⟨h1,u,u1,u2,u3⟩:=(hfl k e he).2 j y hy
    refine⟨u,?_,fun _=>u2,rv_keep h1 u3 hgr.size hcell (by rw[hshp];exact fun _ _ h=>h)⟩
    rw[← htake,List.getElem?_take]at u1
    split at u1
    ·simpa using u1
    ·cases u1
 refine⟨hr m,⟨fun i B hB=>?_,fun i j b hi hj _ _=>?_,fun i b hi hb=>?_,fun i b hi hb=>?_,fun b hb=>⟨Nat.lt_of_lt_of_le (hM.olt b hb).1 hgr.size,(hM.olt b hb).2⟩,Nat.le_trans hM.big hgr.size⟩,rfl,⟨hgr.os,hgr.tape,hgr.output,hgr.size,fun b hb hx=>?_⟩,fun i b hi hb=>?_,fun i hi=>?_,C.keep w w' (fun b hb=>hgr.block b (Nat.lt_of_lt_of_le hb hM.big) (fun e=>?_)) hG⟩
 ·have hi:=hliveI els' i (by rw[hB];simp)
  subst hi
  rw[hf0]at hB
  injection hB with hB
  subst hB
  rw[hv]
  exact hblk
 ·rw[hliveI _ i hi,hliveI _ j hj]
 ·have:=hliveI _ i hi
  subst this
  exact hM.low i b hlive0 hb
 ·have:=hliveI _ i hi
  subst this
  exact hM.sep i b hlive0 hb
 ·exact hgr.block b hb (fun e=>hx ⟨i0,hlive0,by rw[hv];exact e.symm⟩)
 ·have:=hliveI _ i hi
  subst this
  exact .inl ⟨i,hlive0,hb⟩
 ·simp only[List.mem_singleton]at hi
  subst hi
  exact⟨rfl,fun b hb=>hsh b (by rw[← hv];exact hb)⟩
 ·have:=hM.low i0 b hlive0 (by rw[hv];exact e.symm)
  omega
end
end Go.Proofs.YtinknhophadbkaaGreatDoor.Am
namespace Go.Proofs.YtinknhophadbkaaGreatDoor
open Go.RowKit
def insV (xs:List Value)(i:Nat)(x:Value):List Value:=xs.take i++x :: xs.drop i
theorem take_len {α:Type}(L:List α)(a:Nat)(h:a≤L.length):(L.take a).length=a:=by simp;omega
theorem two_copies {α:Type}(L B X:List α)(a:Nat)(h2:a+X.length+B.length≤L.length) :
  let C:=L.take (a+X.length)++B++L.drop (a+X.length+B.length)
  C.take a++X++C.drop (a+X.length)=L.take a++X++B++L.drop (a+X.length+B.length):=by
 intro C
 have hp:(L.take (a+X.length)).length=a+X.length:=take_len L _ (by omega)
 have e1:C.take a=L.take a:=by
  show(L.take (a+X.length)++B++_).take a=_
  rw[List.append_assoc,List.take_append_of_le_length (by omega),List.take_take]
  congr 1
  omega
 have e2:C.drop (a+X.length)=B++L.drop (a+X.length+B.length):=by
  show(L.take (a+X.length)++B++_).drop _=_
  rw[List.append_assoc,List.drop_append_of_le_length (by omega),List.drop_eq_nil_of_le (by omega)]
  rfl
 rw[e1,e2]
 simp
theorem grown_undrew2 {w w1:World}{o:Obj}{row:Option Nat}(h:((w.alloc o).drew).grownBy w1 row):(w.drew.alloc o).grownBy w1 row:=⟨h.os,h.tape,h.output,h.size,h.block⟩
theorem listInfo : (Tryz.prog.info? 23).map (fun i=>(i.zero,i.size,i.bytes))=some (some (.slice none 0 0),1,24):=by kernel_rfl
set_option maxHeartbeats 4000000 in
set_option maxRecDepth 100000 in
theorem insertL_room (g cap n i vb:Nat)(cur:Array Value)(l:List Value)(x:Value)(vcur:Array Value)(vc:Nat)(w:World)(hn:l.length=n)(h1:∀ u∈l,u.oneCell'=true)(hx1:x.oneCell'=true)(hvc:vcur.size=vc)(_hv1:1≤vc)(hv0:vcur.toList[0]?=some x)(hi:i<n)(hcap:n+1≤cap)(hmax:cap≤maxLen)
  (hg:w.heap[g]?=some (.cells cur 23 (0,0))) (hsz:cur.size=cap) (htake:cur.toList.take (n)=l)
  (hvb:w.heap[vb]?=some (.cells vcur 23 (0,0))) (hne:vb≠g) :
  Calls Tryz.prog 104 #[.slice (some ⟨g,0,none⟩) n cap,.int .i64 i,.slice (some ⟨vb,0,none⟩) 1 vc] w fun e w' =>
   e=.returned (.slice (some ⟨g,0,none⟩) (n+1) cap)∧(∃ new:Array Value,w'.heap[g]?=some (.cells new 23 (0,0))∧new.size=cap∧new.toList.take ((n+1))=insV l i x)∧w.grownBy w' (some g):=by
 unfold maxLen at hmax
 have hov:∀ (W:World) lb cb,W.heap=w.heap→(callFunc 128 #[.slice (some ⟨vb,0,none⟩) 1 vc,.slice (some ⟨g,(i+1),none⟩) lb cb]).run Tryz.prog W=.ok (.value (.bool false)) W:=fun W lb cb hW=>by
  rw[run_callFunc_extern Tryz.func128 (by kernel_rfl) (by kernel_rfl) (by kernel_rfl) (e:=Extern.SlicesOverlaps.overlaps #[82,82] #[4]) (by kernel_rfl),
   Lib.run_overlaps_apart W 82 4 23 Tryz.underlying82 1 (fun _=>by kernel_rfl) ⟨vb,0,none⟩ ⟨g,(i+1),none⟩ 1 vc lb cb hne 23 23 vc (cap) (by simp[World.shape?,hW,hvb,hvc]) (by simp[World.shape?,hW,hg,hsz]) (by omega) (by simp[World.frozen?,hW,hvb]) (by simp[World.frozen?,hW,hvb])]
  rfl
 have hlen:cur.toList.length=cap:=by simpa using hsz
 have hfl:(l).length=n:=hn
 have hdl:(l.drop i).length=(n-i):=by rw[List.length_drop,hn]
 have hB:(cur.toList.drop (i)).take ((n-i))=l.drop i:=by
  rw[← htake,List.drop_take]
 obtain⟨C1,hC1⟩:∃ C1:Array Value,C1=(cur.toList.take ((i+1))++l.drop i++cur.toList.drop ((i+1)+(l.drop i).length)).toArray:=⟨_,rfl⟩
 obtain⟨C2,hC2⟩:∃ C2:Array Value,C2=(C1.toList.take (i)++[x]++C1.toList.drop (i+([x]).length)).toArray:=⟨_,rfl⟩
 have hC1s:C1.size=cap:=by
  rw[hC1]
  simp only[List.size_toArray,lA_,List.length_take,List.length_drop,hlen,hdl]
  omega
 have hx2:([x]).length=1:=rfl
 have htwo:=two_copies cur.toList (l.drop i) ([x]) (i) (by rw[hlen,hdl,hx2];omega)
 have hC2':C2.toList=cur.toList.take (i)++[x]++l.drop i++cur.toList.drop (i+1+(l.drop i).length):=by
  rw[hC2,List.toList_toArray,hC1,List.toList_toArray,show(i+1)=i+1 by omega]
  exact htwo
 have hti:cur.toList.take (i)=l.take i:=by
  rw[← htake,List.take_take]
  congr 1
  omega
 have hfin:C2.size=cap∧C2.toList.take ((n+1))=insV l i x:=by
  have e:insV l i x=cur.toList.take (i)++[x]++l.drop i:=by
   rw[hti,insV,List.append_assoc];rfl
  constructor
  ·have:C2.toList.length=cap:=by
    rw[hC2']
    simp only[lA_,List.length_take,List.length_drop,hlen,hdl,hx2]
    omega
   simpa using this
  ·rw[hC2',e,List.take_append_of_le_length,tL_]
   ·simp only[lA_,List.length_take,hlen,hdl,hx2];omega
   ·simp only[lA_,List.length_take,hlen,hdl,hx2];omega
 have hsrc1:∀ j u,(l.drop i)[j]?=some u→cur.toList[i+j]?=some u:=by
  intro j u hu
  rw[← hB,List.getElem?_take]at hu
  split at hu
  ·rwa [List.getElem?_drop]at hu
  ·cases hu
 have hmin1:Nat.min (n+1-i) (n-i)=n-i:=by simp only[Nat.min_def];split <;> omega
 have hmin2:Nat.min 1 (n+1-i)=1:=by simp only[Nat.min_def];split <;> omega
 have hcut1:¬ (cap=i+1):=by omega
 have hcut2:¬ (cap=i):=by omega
 have hz2:¬ ((i:Int)=(n:Int)):=by omega
 have hz3:¬ ((cap:Int)<(n:Int)+1):=by omega
 have hw1:IntKind.i64.wrap ((i:Int)+1)=(i:Int)+1:=by rw[IntKind.wrap_i64];omega
 have hb1:(0:Int)≤(i:Int)+1:=by omega
 have htn:((i:Int)+1).toNat=i+1:=by omega
 have hin:i≤n:=by omega
 have hinI:(i:Int)≤n:=by omega
 have hb3:(i:Int)≤(n:Int)+1:=by omega
 have hc63:(cap:Int)≤9223372036854775807:=by omega
 have H1:=Lib.hid h1
 have HOV:=Lib.hid hov
 have HLEN:=Lib.hid hlen
 have HFL:=Lib.hid hfl
 have HDL:=Lib.hid hdl
 have HBB:=Lib.hid hB
 have HC1:=Lib.hid hC1
 have HC2:=Lib.hid hC2
 have HC1S:=Lib.hid hC1s
 have HX2:=Lib.hid hx2
 have HTWO:=Lib.hid htwo
 have HC2':=Lib.hid hC2'
 have HTI:=Lib.hid hti
 have HFIN:=Lib.hid hfin
 have HSRC1:=Lib.hid hsrc1
 have HMIN1:=Lib.hid hmin1
 have HMIN2:=Lib.hid hmin2
 have HG:=Lib.hid hg
 have HSZ:=Lib.hid hsz
 have HTAKE:=Lib.hid htake
 have HVB:=Lib.hid hvb
 have HN:=Lib.hid hn
 clear h1 hov hlen hfl hdl hB hC1 hC2 hC1s hx2 htwo hC2' hti hfin hsrc1 hmin1 hmin2 hg hsz htake hvb hn
 go_enter Tryz.func104,Tryz.ntmps104
 go_wp2_with (rw[HOV.out _ _ _ rfl])
 go_region_law (refine step_copyK rfl (.tmp 73) (.tmp 76) 82 82 rfl 23 1 Tryz.underlying82 (by kernel_rfl) g ((i+1)) (n-i) (cap-(i+1)) ⟨g,i,none⟩ (n+1-i) (cap-i) (by simp[Act.eval,Act.put]) (by simp[Act.eval,Act.put]) cur C1 23 HG.out (l.drop i) (by rw[HMIN1.out,Nat.mul_one];exact HDL.out) (cells_at (w:=w) HG.out _ _ HSRC1.out) (by rw[HDL.out,HSZ.out];omega) (fun u hu=>H1.out u (List.mem_of_mem_drop hu)) (by rw[HC1.out]) ?_;intro w2 hg2 hgr2)
 all_goals
  have hvb2:w2.heap[vb]?=some (.cells vcur 23 (0,0)):=by
   rw[hgr2.out.block vb (Array.getElem?_eq_some_iff.1 HVB.out).1 (fun e=>hne (by injection e))]
   exact HVB.out
  have HVB2:=Lib.hid hvb2
  clear hvb2
  go_wp2_with (refine wpList_copyK rfl (.tmp 80) (.tmp 81) 82 82 rfl 23 1 Tryz.underlying82 (by kernel_rfl) g (i) (n+1-i) (cap-i) ⟨vb,0,none⟩ 1 vc rfl rfl C1 C2 23 hg2.out ([x]) (by rw[HMIN2.out];rfl) (cells_at HVB2.out 0 _ (fun j u hu=>by cases j with|zero=>(simp at hu;subst hu;simpa using hv0)|succ j=>(simp at hu))) (by rw[HX2.out,HC1S.out];omega) (fun u hu=>by simp at hu;subst hu;exact hx1) (by rw[HC2.out]) ?_;intro w3 hg3 hgr3)
  go_ret
  refine⟨rfl,⟨C2,hg3.out,HFIN.out.1,HFIN.out.2⟩,?_⟩
  exact World.grownBy.trans (grown_undrew hgr2.out) hgr3.out
set_option maxHeartbeats 4000000 in
set_option maxRecDepth 100000 in
theorem insertL_grow (g cap n i vb:Nat)(cur:Array Value)(l:List Value)(x:Value)(vcur:Array Value)(vc:Nat)(w:World)(hn:l.length=n)(h1:∀ u∈l,u.oneCell'=true)(hx1:x.oneCell'=true)(_hvc:vcur.size=vc)(_hv1:1≤vc)(hv0:vcur.toList[0]?=some x)(hi:i<n)(hcap:cap<n+1)(hnc:n≤cap)(hroom:(n+1)*24≤140737488355328)
  (hg:w.heap[g]?=some (.cells cur 23 (0,0))) (hsz:cur.size=cap) (htake:cur.toList.take (n)=l)
  (hvb:w.heap[vb]?=some (.cells vcur 23 (0,0))) :
  Calls Tryz.prog 104 #[.slice (some ⟨g,0,none⟩) n cap,.int .i64 i,.slice (some ⟨vb,0,none⟩) 1 vc] w fun e w' =>
   ∃ cap2,e=.returned (.slice (some ⟨w.heap.size,0,none⟩) (n+1) cap2)∧n+1≤cap2∧cap2≤maxLen∧(∃ new:Array Value,w'.heap[w.heap.size]?=some (.cells new 23 (0,0))∧new.size=cap2∧new.toList.take ((n+1))=insV l i x)∧w.grownBy w' (some w.heap.size):=by
 obtain⟨i0,hi0,hz0,hzs,hzb⟩:=info_parts listInfo
 have hlen:cur.toList.length=cap:=by simpa using hsz
 have hdl:(l.drop i).length=(n-i):=by rw[List.length_drop,hn]
 have hti:(l.take i).length=i:=by rw[List.length_take,hn];omega
 have hx2:([x]).length=1:=rfl
 have hcur:∀ (j:Nat) (u:Value),(l)[j]?=some u→cur.toList[j]?=some u:=by
  intro j u hu
  rw[← htake,List.getElem?_take]at hu
  split at hu
  ·exact hu
  ·cases hu
 have hsrc0:∀ j u,(l.take i)[j]?=some u→cur.toList[0+j]?=some u:=by
  intro j u hu
  rw[List.getElem?_take]at hu
  split at hu
  ·rw[Nat.zero_add];exact hcur j u hu
  ·cases hu
 have hsrc1:∀ j u,(l.drop i)[j]?=some u→cur.toList[i+j]?=some u:=by
  intro j u hu
  rw[List.getElem?_drop]at hu
  exact hcur _ u hu
 have hold:∀ W:World,W.heap=w.heap→(Builtin.firstCells i0.size i (.slice (some ⟨g,0,none⟩) i cap)).run Tryz.prog W=.ok (l.take i).toArray W:=fun W hW=>by
  rw[hzs]
  exact run_firstCells_some W 1 i ⟨g,0,none⟩ i cap (l.take i) (by rw[hti];omega) (cells_at (by rw[hW];exact hg) 0 _ hsrc0)
 obtain⟨G,hG⟩:∃ G,G=grownCap w (n+1) cap 23:=⟨_,rfl⟩
 have hGn:n+1≤G:=by rw[hG];exact grownCap_ge w _ _ _
 have hGm:G≤maxLen:=by rw[hG];exact grownCap_le_maxLen w _ _ _ (by unfold maxLen;omega)
 obtain⟨C0,hC0⟩:∃ C0:Array Value,C0=(l.take i).toArray++Builtin.zeroCells (Value.slice none 0 0).cells (n+1-i)++Builtin.zeroCells (Value.slice none 0 0).cells (G-(n+1)):=⟨_,rfl⟩
 have hzc:∀ k,(Builtin.zeroCells (Value.slice none 0 0).cells k).size=k:=fun k=>by
  have:(Value.slice none 0 0).cells.size=1:=by kernel_rfl
  simp[Builtin.zeroCells,this]
 have hC0s:C0.size=G:=by
  rw[hC0]
  simp only[Array.size_append,hzc,List.size_toArray,hti]
  omega
 have hrz:∀ ty,(Builtin.append_ #[82,3] ty #[.slice (some ⟨g,0,none⟩) i cap,.int .i64 ((n:Int)+1-(i:Int))]).run Tryz.prog w =
   .ok (.slice (some ⟨w.heap.size,0,none⟩) (n+1) G) (w.drew.alloc (.cells C0 23)):=fun ty=>by
  have h:=Lib.run_append_grow_zeros w 82 3 ty 23 i0 _ .i64 .i64 Tryz.underlying82 Tryz.underlying3 hi0 hz0 (some ⟨g,0,none⟩) i cap (l.take i) (hold w.drew rfl) (n+1-i) (by omega) (by omega) (by omega) (by omega) (by rw[hzb];omega) (by rw[hzb,show i+(n+1-i)=n+1 by omega];exact growslice_fits hcap hroom)
  rw[show i+(n+1-i)=n+1 by omega,← hG,← hC0]at h
  rw[show(n:Int)+1-(i:Int)=((n+1-i:Nat):Int)by omega]
  exact h
 obtain⟨C1,hC1⟩:∃ C1:Array Value,C1=(C0.toList.take (i)++[x]++C0.toList.drop (i+([x]).length)).toArray:=⟨_,rfl⟩
 obtain⟨C2,hC2⟩:∃ C2:Array Value,C2=(C1.toList.take ((i+1))++l.drop i++C1.toList.drop ((i+1)+(l.drop i).length)).toArray:=⟨_,rfl⟩
 have hC0l:C0.toList.length=G:=by simpa using hC0s
 have hC1s:C1.size=G:=by
  rw[hC1]
  simp only[List.size_toArray,lA_,List.length_take,List.length_drop,hC0l,hx2]
  omega
 have hC1l:C1.toList.length=G:=by simpa using hC1s
 have hC2s:C2.size=G:=by
  rw[hC2]
  simp only[List.size_toArray,lA_,List.length_take,List.length_drop,hC1l,hdl]
  omega
 have hfin:C2.toList.take ((n+1))=insV l i x:=by
  have e:insV l i x=l.take i++[x]++l.drop i:=by
   rw[insV,List.append_assoc];rfl
  have e0:C0.toList.take (i)=l.take i:=by
   rw[hC0,Array.toList_append,Array.toList_append,List.toList_toArray,List.append_assoc,List.take_append_of_le_length (by omega),tL_ (by omega)]
  have e1:C1.toList.take ((i+1))=l.take i++[x]:=by
   rw[hC1,List.toList_toArray,e0,List.take_append_of_le_length (by rw[lA_,hti,hx2];omega),tL_ (by rw[lA_,hti,hx2];omega)]
  rw[hC2,List.toList_toArray,e1,e,List.take_append_of_le_length (by simp only[lA_,hti,hx2,hdl];omega),tL_ (by simp only[lA_,hti,hx2,hdl];omega)]
 have hgw:g<w.heap.size:=(Array.getElem?_eq_some_iff.1 hg).1
 have hvw:vb<w.heap.size:=(Array.getElem?_eq_some_iff.1 hvb).1
 have hmin1:Nat.min (n-i) (n-i)=n-i:=by simp only[Nat.min_def];split <;> omega
 have hmin2:Nat.min 1 (n+1-i)=1:=by simp only[Nat.min_def];split <;> omega
 have hcut0:¬ (cap=i):=by omega
 have hcut1:¬ (G=i+1):=by omega
 have hcut2:¬ (G=i):=by omega
 have hz2:¬ ((i:Int)=(n:Int)):=by omega
 have hz3:(cap:Int)<(n:Int)+1:=by omega
 have hw1:IntKind.i64.wrap ((i:Int)+1)=(i:Int)+1:=by rw[IntKind.wrap_i64];omega
 have hb1:(0:Int)≤(i:Int)+1:=by omega
 have htn:((i:Int)+1).toNat=i+1:=by omega
 have hin:i≤n:=by omega
 have hinI:(i:Int)≤n:=by omega
 have hb3:(i:Int)≤(n:Int)+1:=by omega
 have hic:i≤cap:=by omega
 have hG63:(G:Int)≤9223372036854775807:=by unfold maxLen at hGm;omega
 have hB0:Hid (w.grownBy (w.drew.alloc (.cells C0 23)) (some w.heap.size)):=grown_undrew (World.grownBy_alloc w.drew _ _)
 have hg0:Hid ((w.drew.alloc (.cells C0 23)).heap[w.heap.size]?=some (.cells C0 23 (0,0))):=heap_alloc_new w.drew _
 have hvbA:Hid ((w.alloc (.cells C0 23)).heap[vb]?=some (.cells vcur 23 (0,0))):=by
  show _=_
  rw[(World.grownBy_alloc w (.cells C0 23) none).block vb hvw (by simp)]
  exact hvb
 have H1:=Lib.hid h1
 have HLEN:=Lib.hid hlen
 have HDL:=Lib.hid hdl
 have HTI:=Lib.hid hti
 have HX2:=Lib.hid hx2
 have HCUR:=Lib.hid hcur
 have HSRC0:=Lib.hid hsrc0
 have HSRC1:=Lib.hid hsrc1
 have HOLD:=Lib.hid hold
 have HGG:=Lib.hid hG
 have HC0:=Lib.hid hC0
 have HZC:=Lib.hid hzc
 have HC0S:=Lib.hid hC0s
 have HRZ:=Lib.hid hrz
 have HC1:=Lib.hid hC1
 have HC2:=Lib.hid hC2
 have HC0L:=Lib.hid hC0l
 have HC1S:=Lib.hid hC1s
 have HC1L:=Lib.hid hC1l
 have HC2S:=Lib.hid hC2s
 have HFIN:=Lib.hid hfin
 have HMIN1:=Lib.hid hmin1
 have HMIN2:=Lib.hid hmin2
 have HG:=Lib.hid hg
 have HSZ:=Lib.hid hsz
 have HTAKE:=Lib.hid htake
 have HVB:=Lib.hid hvb
 have HN:=Lib.hid hn
 clear h1 hlen hdl hti hx2 hcur hsrc0 hsrc1 hold hG hC0 hzc hC0s hrz hC1 hC2 hC0l hC1s hC1l hC2s hfin hmin1 hmin2 hg hsz htake hvb hn
 clear hi0 hz0 hzs hzb
 go_enter Tryz.func104,Tryz.ntmps104
 go_wp2_with (first
  | (at_builtin;refine Lib.wpList_append_run _ rfl _ _ _ _ rfl _ _ rfl rfl _ _ (HRZ.out _) ?_)
  | (refine wpList_copyK rfl (.tmp 43) (.tmp 44) 82 82 rfl 23 1 Tryz.underlying82 (by kernel_rfl) w.heap.size (i) (n+1-i) (G-i) ⟨vb,0,none⟩ 1 vc rfl rfl C0 C1 23 hg0.out ([x]) (by rw[HMIN2.out];rfl) (cells_at (w:=(w.alloc (.cells C0 23)).drew) (hvbA.out) 0 _ (fun j u hu=>by cases j with|zero=>(simp at hu;subst hu;simpa using hv0)|succ j=>(simp at hu))) (by rw[HX2.out,HC0S.out];omega) (fun u hu=>by simp at hu;subst hu;exact hx1) (by rw[HC1.out]) ?_;intro w2 hg2 hgr2))
 have hgr2':Hid (w.grownBy w2 (some w.heap.size)):=World.grownBy.trans hB0.out (grown_undrew2 hgr2.out)
 have hgg2:Hid (w2.heap[g]?=some (.cells cur 23 (0,0))):=by
  show _=_
  rw[hgr2'.out.block g hgw (fun e=>by injection e;omega)]
  exact HG.out
 clear hgr2
 go_region_law (refine step_copyK rfl (.tmp 50) (.tmp 53) 82 82 rfl 23 1 Tryz.underlying82 (by kernel_rfl) w.heap.size ((i+1)) (n-i) (G-(i+1)) ⟨g,i,none⟩ (n-i) (cap-i) (by simp[Act.eval,Act.put]) (by simp[Act.eval,Act.put]) C1 C2 23 hg2.out (l.drop i) (by rw[HMIN1.out,Nat.mul_one];exact HDL.out) (cells_at hgg2.out _ _ HSRC1.out) (by rw[HDL.out,HC1S.out];omega) (fun u hu=>H1.out u (List.mem_of_mem_drop hu)) (by rw[HC2.out]) ?_;intro w3 hg3 hgr3)
 all_goals
  go_wp2_with fail
  go_ret
  exact⟨G,rfl,hGn,hGm,⟨C2,hg3.out,HC2S.out,HFIN.out⟩,World.grownBy.trans hgr2'.out (grown_undrew hgr3.out)⟩
set_option maxHeartbeats 4000000 in
set_option maxRecDepth 100000 in
theorem insertL_end (vb vc:Nat)(v:Value)(n:Nat)(l:List Value)(x:Value)(vcur:Array Value)(w:World)(hown:w.ownsRow 0 23 1 v n l)(hroom:(n+1)*24≤140737488355328)(hx1:x.oneCell'=true)(hv0:vcur.toList[0]?=some x)
  (hvb:w.heap[vb]?=some (.cells vcur 23 (0,0))) :
  Calls Tryz.prog 104 #[v,.int .i64 n,.slice (some ⟨vb,0,none⟩) 1 vc] w fun e w'=>∃ v',e=.returned v'∧w'.ownsRow 0 23 1 v' (n+1) (l++[x])∧w.grownBy w' v.ownBlock∧(v'.ownBlock=v.ownBlock∨v'.ownBlock=some w.heap.size):=by
 obtain⟨i0,hi0,hz0,hz1,hz2⟩:=info_parts listInfo
 have hr:Reads w w.heap.size 1 (some ⟨vb,0,none⟩) 1 [x]:=⟨rfl,fun _=>⟨_,rfl,(Array.getElem?_eq_some_iff.1 hvb).1,cells_at hvb 0 _ (fun j u hu=>by cases j with|zero=>(simp at hu;subst hu;simpa using hv0)|succ j=>(simp at hu))⟩⟩
 have hone:∀ u∈[x],u.oneCell'=true:=fun u hu=>by simp at hu;subst hu;exact hx1
 have hcase:(v=.slice none 0 0∧n=0)∨∃ A c,v=.slice A n c∧n≤c∧c≤maxLen:=by
  rcases hown.2 with⟨rfl,h0⟩|⟨g,cap,cur,rfl,_,_,hnc,hm,_,_⟩
  ·exact .inl ⟨rfl,h0⟩
  ·exact .inr ⟨_,_,rfl,hnc,hm⟩
 rcases hcase with⟨rfl,rfl⟩|⟨A,c,rfl,hnc,hm⟩
 ·have HR:=Lib.hid hr
  have HVB:=Lib.hid hvb
  have HOWN:=Lib.hid hown
  have HONE:=Lib.hid hone
  clear hr hvb hown hone
  simp only[Int.natCast_zero]
  go_enter Tryz.func104,Tryz.ntmps104
  go_wp2_with (at_builtin;refine wpList_append_any _ rfl (.tmp 23) (.tmp 24) _ rfl 0 23 i0 _ 1 24 Tryz.underlying82 hi0 hz0 hz1 hz2 rfl (by omega) _ 0 l rfl HOWN.out _ _ 1 vc [x] rfl HR.out HONE.out (by simp only[maxLen];omega) (by omega) (Nat.zero_le _) ?_;intro v1 w1 hown1 hg1 hat1)
  go_ret
  exact⟨v1,rfl,hown1,hg1,hat1⟩
 ·unfold maxLen at hm
  have hnI:(n:Int)≤(c:Int):=by omega
  have HR:=Lib.hid hr
  have HVB:=Lib.hid hvb
  have HOWN:=Lib.hid hown
  have HONE:=Lib.hid hone
  clear hr hvb hown hone
  by_cases hcc:c=n
  ·subst hcc
   go_enter Tryz.func104,Tryz.ntmps104
   go_wp2_with (at_builtin;refine wpList_append_any _ rfl (.tmp 23) (.tmp 24) _ rfl 0 23 i0 _ 1 24 Tryz.underlying82 hi0 hz0 hz1 hz2 rfl (by omega) _ c l rfl HOWN.out _ _ 1 vc [x] rfl HR.out HONE.out (by simp only[maxLen];omega) (by omega) (Nat.zero_le _) ?_;intro v1 w1 hown1 hg1 hat1)
   go_ret
   exact⟨v1,rfl,hown1,hg1,hat1⟩
  ·go_enter Tryz.func104,Tryz.ntmps104
   go_wp2_with (at_builtin;refine wpList_append_any _ rfl (.tmp 23) (.tmp 24) _ rfl 0 23 i0 _ 1 24 Tryz.underlying82 hi0 hz0 hz1 hz2 rfl (by omega) _ n l rfl HOWN.out _ _ 1 vc [x] rfl HR.out HONE.out (by simp only[maxLen];omega) (by omega) (Nat.zero_le _) ?_;intro v1 w1 hown1 hg1 hat1)
   go_ret
   exact⟨v1,rfl,hown1,hg1,hat1⟩
theorem insertL_calls (vb vc i:Nat)(v:Value)(n:Nat)(l:List Value)(x:Value)(vcur:Array Value)(w:World)(hown:w.ownsRow 0 23 1 v n l)(hi:i≤n)(hroom:(n+1)*24≤140737488355328)(h1:∀ u∈l,u.oneCell'=true)(hx1:x.oneCell'=true)(hvc:vcur.size=vc)(hv1:1≤vc)(hv0:vcur.toList[0]?=some x)
  (hvb:w.heap[vb]?=some (.cells vcur 23 (0,0))) (hne:∀ g,v.ownBlock=some g→vb≠g) :
  Calls Tryz.prog 104 #[v,.int .i64 i,.slice (some ⟨vb,0,none⟩) 1 vc] w fun e w'=>∃ v' row,e=.returned v'∧w'.ownsRow 0 23 1 v' (n+1) (insV l i x)∧w.grownBy w' row∧(row=v.ownBlock∨row=some w.heap.size)∧(v'.ownBlock=v.ownBlock∨v'.ownBlock=some w.heap.size):=by
 have hln:l.length=n:=by have:=hown.1;omega
 by_cases hin:i=n
 ·subst hin
  refine(insertL_end vb vc v i l x vcur w hown hroom hx1 hv0 hvb).mono ?_
  rintro e w' ⟨v',rfl,q1,q2,q3⟩
  refine⟨v',_,rfl,?_,q2,.inl rfl,q3⟩
  have:insV l i x=l++[x]:=by rw[insV,tL_ (by omega),List.drop_eq_nil_of_le (by omega)]
  rw[this]
  exact q1
 ·rcases id hown.2 with⟨rfl,h0⟩|⟨g,cap,cur,rfl,hbg,hg,hnc,hm,hcs,htake⟩
  ·omega
  ·have hlen:(insV l i x).length=n+1:=by simp[insV];omega
   rw[Nat.mul_one]at htake hcs
   by_cases hc:n+1≤cap
   ·refine(insertL_room g cap n i vb cur l x vcur vc w hln h1 hx1 hvc hv1 hv0 (by omega) hc hm hg hcs htake hvb (hne g rfl)).mono ?_
    rintro e w' ⟨rfl,⟨new,hn1,hn2,hn3⟩,hgr⟩
    exact⟨_,_,rfl,⟨by omega,.inr ⟨g,cap,new,rfl,hbg,hn1,hc,hm,by omega,by rw[Nat.mul_one];exact hn3⟩⟩,hgr,.inl rfl,.inl rfl⟩
   ·refine(insertL_grow g cap n i vb cur l x vcur vc w hln h1 hx1 hvc hv1 hv0 (by omega) (by omega) hnc hroom hg hcs htake hvb).mono ?_
    rintro e w' ⟨cap2,rfl,hc1,hc2,⟨new,hn1,hn2,hn3⟩,hgr⟩
    exact⟨_,_,rfl,⟨by omega,.inr ⟨w.heap.size,cap2,new,rfl,Nat.zero_le _,hn1,hc1,hc2,by omega,by rw[Nat.mul_one];exact hn3⟩⟩,hgr,.inr rfl,.inr rfl⟩
end Go.Proofs.YtinknhophadbkaaGreatDoor
namespace Go.Proofs.YtinknhophadbkaaGreatDoor
open Go.RowKit
abbrev TabOk (w:World):Prop:=Lib.TabIs Tryz.prog w "internal/strconv.uint64pow10" .u64 Lib.pow10Tab
theorem gPow : Tryz.prog.globalNamed "internal/strconv.uint64pow10"=some 1:=by kernel_rfl
end Go.Proofs.YtinknhophadbkaaGreatDoor
namespace Go.Proofs.YtinknhophadbkaaGreatDoor.Am
open Go.RowKit
theorem tab_block {w:World}(h:TabOk w):∃ cs t fr,w.heap[1]?=some (.cells cs t fr):=by
 unfold TabOk Lib.TabIs World.var? at h
 rw[gPow]at h
 simp only[Option.bind_some]at h
 split at h
 ·exact⟨_,_,_,by assumption⟩
 ·cases h
theorem tab_keep {w w':World}(hk:w'.heap[1]?=w.heap[1]?)(h:TabOk w):TabOk w':=by
 unfold TabOk Lib.TabIs World.var? at h ⊢
 rw[gPow]at h ⊢
 simp only[Option.bind_some]at h ⊢
 rw[hk]
 exact h
def GlOk (w:World):Prop:=TabOk w∧∃ m,w.cell? ⟨0,0,none⟩=some (.int .i64 m)
def glN : Nat:=1+1
theorem gl_keep (w w':World)(hk:∀ b,b<glN→w'.heap[b]?=w.heap[b]?)(h:GlOk w):GlOk w':=⟨tab_keep (hk _ (by decide)) h.1,by obtain⟨m,hm⟩:=h.2;exact⟨m,by rw[← hm];exact World.cell?_of_block (hk _ (by decide))⟩⟩
theorem gl_size {w:World}(h:GlOk w):glN≤w.heap.size:=by
 obtain⟨cs,t,fr,h1⟩:=tab_block h.1
 exact lt_of_block h1
noncomputable def cx : Cx:={ P:=Tryz.prog,N:=glN,Gl:=GlOk,keep:=gl_keep,T:=tyTab,tyOk:=tyTab_ok,mixed:=by kernel_rfl }
theorem tab_size {w:World}(h:GlOk w):cx.N≤w.heap.size:=gl_size h
theorem kin_below {w w':World}(h:Below w.heap.size w w'):Kin w (fun _=>False) w':=⟨h.os,h.tape,h.output,h.size,fun b hb _=>h.block b hb⟩
theorem below_kin {w w':World}(h:Kin w (fun _=>False) w'):Below w.heap.size w w':=⟨h.os,h.tape,h.output,h.size,fun b hb=>h.block b hb (fun h=>h)⟩
theorem enter_of {f:FuncId}{fn:Func}{c:Code}(hf:Tryz.prog.funcs[f]?=some fn)(hb:fn.body=some c)(hname:(fn.name == "runtime.NumGoroutine")=false)(vs:Array Value)(w:World):(callFunc f vs).run cx.P w=.ok (.enter f vs) w:=by
 have hf':cx.P.funcs[f]?=some fn:=hf
 simp only[callFunc,Sem.run_bind,program,Sem.run,Result.andThen_ok,hf',hname,hb]
 rfl
theorem acall_gl {f:FuncId}{fn:Func}{c:Code}{args:List AV}{r:AV}(hf:Tryz.prog.funcs[f]?=some fn)(hb:fn.body=some c)(hname:(fn.name == "runtime.NumGoroutine")=false)
  (h:∀ (w:World) (O:Nat→Prop) (cargs:Array Value),GlOk w→(∀ b,O b→b<w.heap.size)→cargs.toList.length=args.length→(∀ (j:Nat) (x:AV) (v:Value),args[j]?=some x→cargs[j]?=some v→RV w nov (mO O) x v) →
   Calls Tryz.prog f cargs w (fun e w'=>∃ v,e=.returned v∧RV w' nov (mO O) r v∧Below w.heap.size w w')):ACall cx f args r:=by
 refine⟨enter_of hf hb hname,fun w O cargs hg _ hO hs hr=>?_⟩
 refine Calls.mono (h w O cargs hg (fun b hb=>(hO b hb).1) (by simpa using hs) hr) ?_
 rintro e w' ⟨v,h1,h2,h3⟩
 exact⟨v,h1,h2,kin_below h3,cx.keep w w' (fun b hb=>h3.block b (Nat.lt_of_lt_of_le hb (tab_size hg))) hg⟩
theorem law_of {f:FuncId}{args:List AV}{w:World}{cargs:Array Value}(h:ACall cx f args (.c (.bool true)))(ht:GlOk w)(hs:cargs.size=args.length)(hr:∀ (j:Nat)(x:AV)(v:Value),args[j]?=some x→cargs[j]?=some v→RV w nov (mO (fun _=>False)) x v) :
  Calls Tryz.prog f cargs w fun e w'=>e=.returned (.bool true)∧Below w.heap.size w w':=by
 refine Calls.mono (h.2 w (fun _=>False) cargs ht (tab_size ht) (fun b hb=>hb.elim) hs hr) ?_
 rintro e w' ⟨v,rfl,h1,h2,_⟩
 rw[rv_c h1]
 exact⟨rfl,below_kin h2⟩
theorem args1 {cargs:Array Value}(h:cargs.toList.length=1):∃ a,cargs=#[a]:=by
 obtain⟨a,ha⟩:=List.length_eq_one_iff.1 h
 exact⟨a,Array.ext' ha⟩
theorem args2 {cargs:Array Value}(h:cargs.toList.length=2):∃ a b,cargs=#[a,b]:=by
 match hc:cargs.toList,h with
 | [a,b],_=>exact⟨a,b,Array.ext' hc⟩
def cL_cF (x:List Fact):List AV:=[.sl 2 (x.map cF)]
theorem fr_cL_cF (x:List Fact):∀ y∈cL_cF x,Fr y:=FrC_cons (.sl (frl_cF _)) (FrC_nil)
theorem frl_cL_cF (l:List (List Fact)):FrL (l.map cL_cF):=FrL_map (fun x _=>fr_cL_cF x)
instance {l:List (List Fact)}:FrI (l.map cL_cF):=⟨frl_cL_cF l⟩
theorem ins_rel {α β:Type}{R:α→β→Prop}{s:List α}{xs:List β}{i:Nat}{x:α}{u:β}(hl:s.length=xs.length)(h:∀ (k:Nat)(y:α),s[k]?=some y→∃ v,xs[k]?=some v∧R y v)(hx:R x u)(hi:i≤s.length) :
  ∀ (k:Nat) (y:α),(s.take i++x :: s.drop i)[k]?=some y→∃ v,(xs.take i++u :: xs.drop i)[k]?=some v∧R y v:=by
 intro k y hk
 have h1:(s.take i).length=i:=by simp;omega
 have h2:(xs.take i).length=i:=by simp;omega
 rcases Nat.lt_trichotomy k i with hlt|rfl|hgt
 ·rw[List.getElem?_append_left (by omega),List.getElem?_take,if_pos hlt]at hk
  rw[List.getElem?_append_left (by omega),List.getElem?_take,if_pos hlt]
  exact h k y hk
 ·rw[List.getElem?_append_right (by omega),h1,Nat.sub_self]at hk
  rw[List.getElem?_append_right (by omega),h2,Nat.sub_self]
  simp at hk
  subst hk
  exact⟨u,by simp,hx⟩
 ·obtain⟨q,rfl⟩:∃ q,k=i+(q+1):=⟨k-i-1,by omega⟩
  rw[List.getElem?_append_right (by omega),h1,Nat.add_sub_cancel_left,List.getElem?_cons_succ,List.getElem?_drop]at hk
  rw[List.getElem?_append_right (by omega),h2,Nat.add_sub_cancel_left,List.getElem?_cons_succ,List.getElem?_drop]
  exact h _ y hk
def M_insertL (s:List (List Fact))(i:Int)(v:List (List Fact)):Option (List (List Fact)):=match v with | [x]=>grd (0≤i) (grd (i≤s.length) (grd ((s.length+1)*24≤140737488355328) (some (s.take i.toNat++x :: s.drop i.toNat))))|_=>none
theorem A_insertL (s:List (List Fact))(i:Int)(v:List (List Fact)){r:List (List Fact)}(h:M_insertL s i v=some r) :
  ACallG cx 104 [.own 0 0 0 s.length,.c (.int .i64 i),.own 2 0 0 v.length] [(0,⟨23,1,false,s.map cL_cF⟩),(2,⟨23,1,false,v.map cL_cF⟩)] [] (.own 0 0 0 r.length) [(0,⟨23,1,false,r.map cL_cF⟩)]:=by
 unfold M_insertL at h
 split at h
 ·rename_i x
  obtain⟨h0,h⟩:=grd_ok h
  obtain⟨h1,h⟩:=grd_ok h
  obtain⟨h2,h⟩:=grd_ok h
  have h:=sI_ h
  subst h
  obtain⟨k,rfl⟩:∃ k:Nat,i=k:=⟨i.toNat,by omega⟩
  rw[Int.toNat_natCast]
  have hk:k≤s.length:=by omega
  refine⟨enter_g Tryz.func104 rfl (by decide),fun w m cargs hg hM hsz hargs=>?_⟩
  have hs3:cargs.size=3:=hsz
  obtain⟨v0,vi,v2,rfl⟩:∃ a b c,cargs=#[a,b,c]:=by
   obtain⟨l⟩:=cargs
   match l,hs3 with
   | [a,b,c],_=>exact⟨a,b,c,rfl⟩
  have a0:=hargs 0 _ v0 rfl rfl
  have a1:=rv_c (hargs 1 _ vi rfl rfl)
  have a2:=hargs 2 _ v2 rfl rfl
  subst a1
  obtain⟨xs,hrow,hfl,hm0⟩:=own_row (η:=fE [(0,⟨23,1,false,s.map cL_cF⟩),(2,⟨23,1,false,[x].map cL_cF⟩)]) a0 rfl (hM.ok 0 _ rfl) (by simp)
  simp only at hrow hfl
  rcases rv_own (η:=fE [(0,⟨23,1,false,s.map cL_cF⟩),(2,⟨23,1,false,[x].map cL_cF⟩)]) a2 rfl with⟨_,e,_⟩|⟨_,_,e,_⟩|⟨vb,vc,ty,nn,e1,e2,e3,e4,e5,rfl⟩
  ·simp at e
  ·simp at e
  have hok:=hM.ok 2 _ rfl
  rw[e1]at hok
  obtain⟨arr,b1,b2,b3⟩:=hok.cellsF rfl
  simp only[Nat.zero_add,Nat.mul_one,List.length_cons,List.length_nil]at e5 e2 ⊢
  have hvc:arr.size=vc:=by
   simp only[World.shape?,b1]at e4
   injection e4 with e4
   injection e4 with _ e4
   omega
  obtain⟨u,u1,u2,u3⟩:=(b3 0 (cL_cF x) rfl).2 0 _ rfl
  simp only[Nat.zero_mul,Nat.add_zero]at u1
  have hxl:xs.length=s.length:=by have:=hrow.1;omega
  have hone:∀ z∈xs,z.oneCell'=true:=by
   intro z hz
   obtain⟨q,hq⟩:=List.getElem?_of_mem hz
   have hlt:=(gS_.1 hq).1
   have hsq:s[q]?=some s[q]:=gE_ (by omega)
   obtain⟨z',z1,z2,_⟩:=(hfl.2 q (cL_cF s[q]) (by simp[hsq])).2 0 _ rfl
   simp only[Nat.mul_one,Nat.add_zero,List.getElem?_toArray]at z1
   rw[hq]at z1
   injection z1 with z1
   rw[z1];exact z2
  have hcon:=insertL_calls vb vc k v0 s.length xs u arr w hrow hk h2 hone u2 hvc (by omega) (by simpa using u1) b1 (fun g hgv e=>by
   subst e
   have:=hM.inj 0 2 vb (by simp[fE_live,keys]) (by simp[fE_live,keys]) (by rw[hm0];exact hgv) e1
   omega)
  refine hcon.mono ?_
  rintro e w' ⟨v',row,rfl,r1,r2,r3,r4⟩
  refine⟨v',⟨fun k=>if k=0 then v'.ownBlock else none,m.O⟩,rfl,?_⟩
  have hlen:(s.take k++x :: s.drop k).length=s.length+1:=by simp;omega
  rw[hlen]
  refine gr_row (i0:=0) hM hg (.inr ⟨by simp[fE_live,keys],hm0⟩) r1 r2 (r3.imp id (fun e b hb=>by rw[e]at hb;injection hb with hb;omega)) (r4.imp id (fun e b hb=>by rw[e]at hb;injection hb with hb;omega)) (by rw[lM_,hlen]) (fun q e he=>?_)
  rw[List.getElem?_map]at he
  cases hq:(s.take k++x :: s.drop k)[q]? with
  | none=>rw[hq]at he;cases he
  | some y =>
   rw[hq]at he
   simp only[Option.map_some,Option.some.injEq]at he
   subst he
   obtain⟨z,z1,z2,z3⟩:=ins_rel (R:=fun(y:List Fact) (z:Value)=>z.oneCell'=true∧RV w (shp (fE [(0,⟨23,1,false,s.map cL_cF⟩),(2,⟨23,1,false,[x].map cL_cF⟩)])) m (.sl 2 (y.map cF)) z) (s:=s) (xs:=xs) (i:=k) (x:=x) (u:=u) hxl.symm (fun q y hy=>by
    obtain⟨z',z1,z2,z3⟩:=(hfl.2 q (cL_cF y) (by simp[hy])).2 0 _ rfl
    exact⟨z',by simpa using z1,z2,z3⟩) ⟨u2,u3⟩ hk q y hq
   refine⟨rfl,fun j a hj=>?_⟩
   cases j with
   | zero =>
    simp only[cL_cF,List.getElem?_cons_zero,Option.some.injEq]at hj
    subst hj
    exact⟨.sl (frl_cF _),z,by simpa [insV] using z1,z2,z3⟩
   | succ j=>simp[cL_cF]at hj
 ·cases h
end Go.Proofs.YtinknhophadbkaaGreatDoor.Am
namespace Go.Proofs.YtinknhophadbkaaGreatDoor
open Go.RowKit Go.Sort Go.Shelf Go.Lib
def cmpLF : List Fact→List Fact→Int
 | [],[]=>0
 | [],_ :: _=>-1
 | _ :: _,[]=>1
 | x :: r,y :: s=>if cmpF x y≠0 then cmpF x y else cmpLF r s
theorem Grw.trans {a b c:World}(h:Grw a b)(k:Grw b c):Grw a c:=by
 obtain⟨q,os,rfl⟩:=h
 obtain⟨q2,os2,rfl⟩:=k
 refine⟨q+q2,os++os2,?_⟩
 show grow (grow ((a.drewN q).drewN q2) os) os2=_
 rw[grow_grow,World.drewN_drewN]
set_option maxHeartbeats 1000000 in
theorem cmpClosureR (x y:Fact)(w:World):Calls Tryz.prog 86 #[.agg #[.int .i64 x.1,.int .i64 x.2],.agg #[.int .i64 y.1,.int .i64 y.2]] w fun e w'=>e=.returned (.int .i64 (cmpF x y))∧Grw w w':=by
 obtain⟨x1,x2⟩:=x
 obtain⟨y1,y2⟩:=y
 have h1:=fun(W:World)=>Tryz.cmp_Compare_int x1 y1 W
 have h2:=fun(W:World)=>Tryz.cmp_Compare_int x2 y2 W
 have hfin:cmpF (x1,x2) (y1,y2)=if Lib.compareInt x1 y1≠0 then Lib.compareInt x1 y1 else Lib.compareInt x2 y2:=rfl
 generalize Lib.compareInt x1 y1=c1 at h1 hfin
 generalize Lib.compareInt x2 y2=c2 at h2 hfin
 generalize cmpF (x1,x2) (y1,y2)=r at hfin ⊢
 have H1:=Lib.hid h1
 have H2:=Lib.hid h2
 have HFIN:=Lib.hid hfin
 clear h1 h2 hfin
 simp only
 go_enter Tryz.func86,Tryz.ntmps86
 go_upto_region 1 with fail
 have c0:((w.alloc (.cells #[.int .i64 x1,.int .i64 x2] 47)).alloc (.cells #[.int .i64 y1,.int .i64 y2] 47)).cell? ⟨w.heap.size,0,none⟩=some (.int .i64 x1):=by simp
 have c1':((w.alloc (.cells #[.int .i64 x1,.int .i64 x2] 47)).alloc (.cells #[.int .i64 y1,.int .i64 y2] 47)).cell? ⟨w.heap.size,1,none⟩=some (.int .i64 x2):=by simp
 have c2':((w.alloc (.cells #[.int .i64 x1,.int .i64 x2] 47)).alloc (.cells #[.int .i64 y1,.int .i64 y2] 47)).cell? ⟨w.heap.size+1,0,none⟩=some (.int .i64 y1):=by simp
 have c3':((w.alloc (.cells #[.int .i64 x1,.int .i64 x2] 47)).alloc (.cells #[.int .i64 y1,.int .i64 y2] 47)).cell? ⟨w.heap.size+1,1,none⟩=some (.int .i64 y2):=by simp
 have hG:Grw w ((w.alloc (.cells #[.int .i64 x1,.int .i64 x2] 47)).alloc (.cells #[.int .i64 y1,.int .i64 y2] 47)):=((Grw.refl w).alloc _).alloc _
 have HG:=Lib.hid hG
 clear hG
 generalize (w.alloc (.cells #[.int .i64 x1,.int .i64 x2] 47)).alloc (.cells #[.int .i64 y1,.int .i64 y2] 47)=W0 at c0 c1' c2' c3' HG ⊢
 generalize w.heap.size=B0 at c0 c1' c2' c3' ⊢
 go_region_held3 (fun w'=>w'.cell? ⟨B0,0,none⟩=some (.int .i64 x1)∧w'.cell? ⟨B0,1,none⟩=some (.int .i64 x2)∧w'.cell? ⟨B0+1,0,none⟩=some (.int .i64 y1)∧w'.cell? ⟨B0+1,1,none⟩=some (.int .i64 y2))
  (first|exact⟨c0,c1',c2',c3'⟩|exact⟨kept (belowA (Below.refl _ _) _) c0,kept (belowA (Below.refl _ _) _) c1',kept (belowA (Below.refl _ _) _) c2',kept (belowA (Below.refl _ _) _) c3'⟩)
  (first
   | (go_at_call_of 88 (Value.int .i64 x1);refine(H1.out _).mono ?_;rintro e wa ⟨rfl,rfl⟩)
   | (go_at_call_of 88 (Value.int .i64 x2);refine(H2.out _).mono ?_;rintro e wb ⟨rfl,rfl⟩)
   | (go_at_call 87;refine(or_calls _ _ c1 c2 r HFIN.out _ (by simp) (by simp)).mono ?_;rintro e wc ⟨rfl,rfl⟩))
 go_wp2
 go_ret
 exact⟨rfl,(HG.out.alloc _).drew⟩
theorem Grw.keepF {w w':World}(h:Grw w w'){v:Value}{l:List Fact}(hv:FactsAt w v l):FactsAt w' v l:=hv.keep h.below
set_option maxHeartbeats 2000000 in
theorem compareFuncR (u v:Value)(a b:List Fact)(w:World)(hu:FactsAt w u a)(hv:FactsAt w v b) :
  Calls Tryz.prog 85 #[u,v,.func (.func 86) #[] #[]] w fun e w'=>e=.returned (.int .i64 (cmpLF a b))∧Grw w w':=by
 obtain⟨A,n,c,rfl,hn,hm⟩:=hu.form
 obtain⟨A',n',c',rfl,hn',hm'⟩:=hv.form
 obtain⟨D,hD⟩:∃ D,cmpLF a b=D:=⟨_,rfl⟩
 rw[hD]
 have HU:=Lib.hid hu
 have HV:=Lib.hid hv
 have HN:=Lib.hid hn
 have HN':=Lib.hid hn'
 have HD:=Lib.hid hD
 clear hu hv hn hn' hD
 go_enter Tryz.func85,Tryz.ntmps85
 go_wp2
 go_loopg [13] n (fun g i wr=>∃ k:Nat,k≤n∧k≤n'∧g=n-k∧i=.int .i64 k∧Grw w wr∧D=cmpLF (a.drop k) (b.drop k))
 case atStart=>exact⟨0,Nat.zero_le _,Nat.zero_le _,by omega,rfl,Grw.refl _,HD.out.symm⟩
 case round =>
  obtain⟨k,hk,hk',hg,rfl,hB,hF⟩:=hrel
  have HG:=Lib.hid hg
  have HF:=Lib.hid hF
  clear hg hF
  by_cases hlt:k<n
  ·obtain⟨bb,off,x1,x2,rfl,c0,c1,hx,hd⟩:=(hB.keepF HU.out).at hlt
   have hbr:bb<wr.heap.size:=lt_of_cell c0
   by_cases hlt':k<n'
   ·obtain⟨bb',off',y1,y2,rfl,d0,d1,hy,hd'⟩:=(hB.keepF HV.out).at hlt'
    have hbr':bb'<wr.heap.size:=lt_of_cell d0
    have hst:D=if cmpF (x1,x2) (y1,y2)≠0 then cmpF (x1,x2) (y1,y2)else cmpLF (a.drop (k+1)) (b.drop (k+1)):=by rw[HF.out,hd,hd',cmpLF]
    have h1:=fun(W:World)=>cmpClosureR (x1,x2) (y1,y2) W
    generalize cmpF (x1,x2) (y1,y2)=cc at hst h1
    by_cases hcc:cc=0
    ·have hb:(cc != 0)=false:=by simp[hcc]
     have hnext:D=cmpLF (a.drop (k+1)) (b.drop (k+1)):=by rw[hst,if_neg (by simp[hcc])]
     have HX:=Lib.hid hx
     have HD2:=Lib.hid hd
     have HY:=Lib.hid hy
     have HD3:=Lib.hid hd'
     have HST:=Lib.hid hst
     have H1:=Lib.hid h1
     have HCC:=Lib.hid hcc
     have HNEXT:=Lib.hid hnext
     clear hx hd hy hd' hst h1 hcc hnext
     go_wp2_with (go_at_call 86;refine(H1.out _).mono ?_;rintro e w1 ⟨rfl,hb1⟩)
     go_roundg (n-(k+1))
     case measure=>have:=HG.out;omega
     case rel=>exact⟨k+1,by omega,by omega,rfl,by go_num,Grw.trans ((hB.alloc _).alloc _) hb1,HNEXT.out⟩
    ·have hb:(cc != 0)=true:=by simp[hcc]
     have hfin:D=cc:=by rw[hst,if_pos hcc]
     have HX:=Lib.hid hx
     have HD2:=Lib.hid hd
     have HY:=Lib.hid hy
     have HD3:=Lib.hid hd'
     have HST:=Lib.hid hst
     have H1:=Lib.hid h1
     have HFIN:=Lib.hid hfin
     clear hx hd hy hd' hst h1 hfin
     go_wp2_with (go_at_call 86;refine(H1.out _).mono ?_;rintro e w1 ⟨rfl,hb1⟩)
     go_ret
     exact⟨by rw[HFIN.out];rfl,Grw.trans ((hB.alloc _).alloc _) hb1⟩
   ·have hfin:D=1:=by rw[HF.out,hd,show b.drop k=[]from List.drop_eq_nil_of_le (by have:=HN'.out;omega),cmpLF]
    have HX:=Lib.hid hx
    have HD2:=Lib.hid hd
    have HFIN:=Lib.hid hfin
    clear hx hd hfin
    go_wp2_with fail
    go_ret
    exact⟨by rw[HFIN.out];rfl,hB.alloc _⟩
  ·have hdn:a.drop k=[]:=List.drop_eq_nil_of_le (by have:=HN.out;omega)
   by_cases hlt':n<n'
   ·have hfin:D=-1:=by
     obtain⟨y,_,hd'⟩:=some_at (l:=b) (k:=k) HN'.out (by omega)
     rw[HF.out,hdn,hd',cmpLF]
    have HDN:=Lib.hid hdn
    have HFIN:=Lib.hid hfin
    clear hdn hfin
    go_wp2_with fail
    go_ret
    exact⟨by rw[HFIN.out];rfl,hB⟩
   ·have hfin:D=0:=by rw[HF.out,hdn,show b.drop k=[]from List.drop_eq_nil_of_le (by have:=HN'.out;omega),cmpLF]
    have HDN:=Lib.hid hdn
    have HFIN:=Lib.hid hfin
    clear hdn hfin
    go_wp2_with fail
    go_ret
    exact⟨by rw[HFIN.out];rfl,hB⟩
set_option maxHeartbeats 1000000 in
theorem compareR (u v:Value)(a b:List Fact)(w:World)(hu:FactsAt w u a)(hv:FactsAt w v b) :
  Calls Tryz.prog 64 #[u,v] w fun e w'=>e=.returned (.int .i64 (cmpLF a b))∧Grw w w':=by
 have h2:=fun W (hW:Grw w W)=>compareFuncR u v a b W (hW.keepF hu) (hW.keepF hv)
 obtain⟨A,n,c,rfl,hn,hm⟩:=hu.form
 obtain⟨A',n',c',rfl,hn',hm'⟩:=hv.form
 generalize cmpLF a b=r at h2 ⊢
 have H2:=Lib.hid h2
 have HU:=Lib.hid hu
 have HV:=Lib.hid hv
 have HN:=Lib.hid hn
 have HN':=Lib.hid hn'
 clear h2 hu hv hn hn'
 go_enter Tryz.func64,Tryz.ntmps64
 go_wp2_with fail
 refine(H2.out _ (Grw.refl _)).mono ?_
 rintro e w1 ⟨rfl,hb1⟩
 go_wp2_with fail
 go_ret
 exact⟨rfl,hb1⟩
theorem cmpF_zero {x y:Fact}:cmpF x y=0↔x=y:=by
 rw[Prod.ext_iff]
 unfold cmpF
 rcases compareInt_cases x.1 y.1 with⟨h,e⟩|⟨h,e⟩|⟨h,e⟩ <;> rcases compareInt_cases x.2 y.2 with⟨h',e'⟩|⟨h',e'⟩|⟨h',e'⟩ <;> rw[e,e'] <;> simp <;> omega
theorem cmpF_anti (x y:Fact):cmpF y x=- cmpF x y:=by
 unfold cmpF
 rcases compareInt_cases x.1 y.1 with⟨h,e⟩|⟨h,e⟩|⟨h,e⟩ <;> rcases compareInt_cases x.2 y.2 with⟨h',e'⟩|⟨h',e'⟩|⟨h',e'⟩ <;> rcases compareInt_cases y.1 x.1 with⟨k,f⟩|⟨k,f⟩|⟨k,f⟩ <;> rcases compareInt_cases y.2 x.2 with⟨k',f'⟩|⟨k',f'⟩|⟨k',f'⟩ <;> rw[e,e',f,f'] <;> first|omega|simp
theorem cmpF_trans {x y z:Fact}(h1:cmpF x y<0)(h2:cmpF y z<0):cmpF x z<0:=by
 have a1:=ltOf_cmpF x y
 have a2:=ltOf_cmpF y z
 have a3:=ltOf_cmpF x z
 unfold ltOf at a1 a2 a3
 simp only[decide_eq_true h1,decide_eq_true h2]at a1 a2
 have:ltF x z=true:=by simp[ltF]at a1 a2 ⊢;omega
 rw[this]at a3
 exact of_decide_eq_true a3
theorem cmpLF_zero : ∀ {a b:List Fact},cmpLF a b=0↔a=b
 | [],[]=>by simp[cmpLF]
 | [],_ :: _=>by simp[cmpLF]
 | _ :: _,[]=>by simp[cmpLF]
 | x :: r,y :: s=>by
  rw[cmpLF]
  by_cases h:cmpF x y=0
  ·rw[if_neg (by simp[h]),cmpLF_zero (a:=r) (b:=s),cmpF_zero.1 h];simp
  ·rw[if_pos h]
   refine⟨fun e=>absurd e h,fun e=>?_⟩
   injection e with e _
   exact cmpF_zero.2 e
theorem cmpLF_anti : ∀ (a b:List Fact),cmpLF b a=- cmpLF a b
 | [],[]=>by simp[cmpLF]
 | [],_ :: _=>by simp[cmpLF]
 | _ :: _,[]=>by simp[cmpLF]
 | x :: r,y :: s=>by
  have h1:=cmpF_anti x y
  by_cases h:cmpF x y=0
  ·have h':cmpF y x=0:=by omega
   rw[cmpLF,cmpLF,if_neg (fun q=>q h'),if_neg (fun q=>q h),cmpLF_anti r s]
  ·have h':cmpF y x≠0:=by omega
   rw[cmpLF,cmpLF,if_pos h',if_pos h,h1]
theorem cmpLF_trans : ∀ {a b c:List Fact},cmpLF a b<0→cmpLF b c<0→cmpLF a c<0
 | [],[],_,h,_=>by simp[cmpLF]at h
 | [],_ :: _,[],_,h=>by simp[cmpLF]at h
 | [],_ :: _,_ :: _,_,_=>by simp[cmpLF]
 | _ :: _,[],_,h,_=>by simp[cmpLF]at h
 | _ :: _,_ :: _,[],_,h=>by simp[cmpLF]at h
 | x :: r,y :: s,z :: t,h1,h2=>by
  rw[cmpLF]at h1 h2 ⊢
  by_cases e1:cmpF x y=0
  ·have:=cmpF_zero.1 e1
   subst this
   rw[if_neg (by simp[e1])]at h1
   by_cases e2:cmpF x z=0
   ·rw[if_neg (by simp[e2])]at h2 ⊢
    exact cmpLF_trans h1 h2
   ·rw[if_pos e2]at h2 ⊢
    exact h2
  ·rw[if_pos e1]at h1
   by_cases e2:cmpF y z=0
   ·have:=cmpF_zero.1 e2
    subst this
    rw[if_pos e1]
    exact h1
   ·rw[if_pos e2]at h2
    have h3:=cmpF_trans h1 h2
    rw[if_pos (by omega)]
    exact h3
theorem swoOf {α:Type}{c:α→α→Int}(ha:∀ x y,c y x=- c x y)(ht:∀ {x y z},c x y<0→c y z<0→c x z<0)(hz:∀ {x y z},c x y=0→c x z=c y z):SWO (ltOf c) where
 irrefl x:=by unfold ltOf;have:=ha x x;simp;omega
 trans x y z h1 h2:=by unfold ltOf at *;simp at *;exact ht h1 h2
 ntrans x y z h1 h2:=by
  unfold ltOf at *
  simp at *
  rcases Int.lt_or_eq_of_le h1 with h3|h3
  ·rcases Int.lt_or_eq_of_le h2 with h4|h4
   ·have h5:c y x<0:=by rw[ha x y];omega
    have h6:c z y<0:=by rw[ha y z];omega
    have h7:=ht h6 h5
    rw[ha x z]at h7
    omega
   ·have h5:c z y=0:=by rw[ha y z];omega
    have h6:=hz (z:=x) h5
    rw[ha x z,ha x y]at h6
    omega
  ·have:=hz (z:=z) h3.symm
   omega
theorem swoL : SWO (ltOf cmpLF):=swoOf cmpLF_anti cmpLF_trans (fun h=>by rw[cmpLF_zero.1 h])
def sortLL (l:List (List Fact)):List (List Fact):=l.mergeSort fun x y=>!(ltOf cmpLF) y x
theorem sortLL_length (l:List (List Fact)):(sortLL l).length=l.length:=List.length_mergeSort _
def ValidL (w:World)(blk:Nat)(p:Value×List Fact):Prop:=p.1.oneCell'=true∧∀ W:World,w.heap.size≤W.heap.size→(∀ b,b<w.heap.size→b≠blk→W.heap[b]?=w.heap[b]?)→FactsAt W p.1 p.2
abbrev LV (w:World)(blk:Nat):={ p:Value×List Fact // ValidL w blk p }
instance (w:World)(blk:Nat):Inhabited (LV w blk):=⟨⟨(.slice none 0 0,[]),rfl,fun _ _ _=>⟨none,0,rfl,by simp,fun k x hx=>by simp at hx⟩⟩⟩
theorem lv_list {w:World}{blk:Nat}:∀ (s:List (List Fact))(xs:List Value),s.length=xs.length→(∀ (k:Nat)(y:List Fact)(u:Value),s[k]?=some y→xs[k]?=some u→ValidL w blk (u,y))→∃ d:List (LV w blk),d.map (fun p=>p.1.1)=xs∧d.map (fun p=>p.1.2)=s
 | [],[],_,_=>⟨[],rfl,rfl⟩
 | y :: s,u :: xs,hl,h=>by
  obtain⟨d,h1,h2⟩:=lv_list s xs (by simpa using hl) (fun k y' u' q1 q2=>h (k+1) y' u' (by simpa using q1) (by simpa using q2))
  exact⟨⟨(u,y),h 0 y u rfl rfl⟩ :: d,by simp[h1],by simp[h2]⟩
 | [],_ :: _,hl,_=>by simp at hl
 | _ :: _,[],hl,_=>by simp at hl
theorem sortWorld_block {α:Type} [Inhabited α]{enc:α→Value}{w:World}{blk off m:Nat}{dk:Array α}{os:Array Obj}{b:Nat}(hb:b<w.heap.size)(hne:b≠blk):(sortWorld enc w blk off m dk os).heap[b]?=w.heap[b]?:=by
 show(grow (putRow enc (Sort.ahead w m) blk off dk) os).heap[b]?=_
 rw[heap_grow_old _ _ (by simpa [putRow,mapBlock,Sort.ahead] using hb)]
 have hne':¬ blk=b:=fun e=>hne e.symm
 simp[putRow,mapBlock,Sort.ahead,Array.getElem?_modify,hne']
theorem sortWorld_size {α:Type} [Inhabited α]{enc:α→Value}{w:World}{blk off m:Nat}{dk:Array α}{os:Array Obj}:w.heap.size≤(sortWorld enc w blk off m dk os).heap.size:=by
 show _≤(grow (putRow enc (Sort.ahead w m) blk off dk) os).heap.size
 simp[grow,putRow,mapBlock,Sort.ahead]
theorem cmpLaysL (w:World)(blk off size:Nat):CmpLays1 Tryz.prog 64 #[] (fun p:LV w blk=>p.1.1) (fun p q=>cmpLF p.1.2 q.1.2) blk off size w:=by
 intro m os dk _ x y
 have:=compareR x.1.1 y.1.1 x.1.2 y.1.2 (sortWorld (fun p:LV w blk=>p.1.1) w blk off m dk os) (x.2.2 _ sortWorld_size (fun b hb hne=>sortWorld_block hb hne)) (y.2.2 _ sortWorld_size (fun b hb hne=>sortWorld_block hb hne))
 exact this
set_option maxHeartbeats 1000000 in
theorem sortL_calls (v:Value)(s:List (List Fact))(xs:List Value)(w:World)(h:w.ownsRow 0 23 1 v s.length xs)(hl:s.length<4611686018427387904)
  (hval:∀ g,v.ownBlock=some g→∀ (k:Nat) (y:List Fact) (u:Value),s[k]?=some y→xs[k]?=some u→ValidL w g (u,y)) :
  Calls Tryz.prog 63 #[v,.func (.func 64) #[] #[]] w fun e w'=>e=.returned (.tuple #[])∧∃ ys,w'.ownsRow 0 23 1 v s.length ys∧w.grownBy w' v.ownBlock∧(∀ b,v.ownBlock=some b→w'.shape? b=w.shape? b) ∧
   ∀ (k:Nat) (y:List Fact),(sortLL s)[k]?=some y→∃ (u:Value) (q:Nat),ys[k]?=some u∧xs[q]?=some u∧s[q]?=some y:=by
 have hxl:xs.length=s.length:=by have:=h.1;omega
 rcases id h.2 with⟨rfl,h0⟩|⟨g,cap,cur,rfl,hbase,hb,hn,hm,hcs,htake⟩
 ·have hnil:s=[]:=List.length_eq_zero_iff.1 h0
  subst hnil
  refine(AnyF.slices_SortFunc_none { Tryz.sortList with } none 0 _ w).mono ?_
  rintro e w' ⟨rfl,rfl⟩
  exact⟨rfl,xs,h,World.grownBy.refl _ _,fun _ _=>rfl,fun k y hy=>by simp[sortLL]at hy⟩
 ·have eg:∀ args w,(callFunc 64 args).run Tryz.prog w=.ok (.enter 64 args) w:=enters_of Tryz.func64 (by kernel_rfl) rfl
  rw[Nat.mul_one]at htake hcs
  obtain⟨d,hd1,hd2⟩:=lv_list (w:=w) (blk:=g) s xs hxl.symm (hval g rfl)
  have hdl:d.length=s.length:=by rw[← hd2];simp
  have hblk:g<w.heap.size:=(Array.getElem?_eq_some_iff.1 hb).1
  have hH:Holds (fun p:LV w g=>p.1.1) w g 0 d.toArray:=by
   intro j hj
   have hj':j<d.length:=by simpa using hj
   have hjs:j<xs.length:=by omega
   have hxj:xs[j]?=some (d[j]).1.1:=by rw[← hd1];simp[hj']
   have hcj:cur[j]?=some (d[j]).1.1:=by
    have:(cur.toList.take s.length)[j]?=some (d[j]).1.1:=by rw[htake];exact hxj
    rw[List.getElem?_take]at this
    split at this
    ·simpa using this
    ·cases this
   refine⟨?_,by simp[World.frozen?,hb]⟩
   simp[World.cell?,hb,hcj,hj']
  have hcon:=Any.slices_SortFunc Tryz.sortList (fun p:LV w g=>p.1.1) (fun p=>p.2.1) (fun p q=>cmpLF p.1.2 q.1.2) (swoOf (fun x y=>cmpLF_anti _ _) (fun h1 h2=>cmpLF_trans h1 h2) (fun h=>by rw[cmpLF_zero.1 h])) 64 #[] g 0 cap d.toArray w eg (cmpLaysL w g 0 _) hH hblk (by simpa [hdl] using hl)
  have hsize:d.toArray.size=s.length:=by simp[hdl]
  rw[hsize]at hcon
  refine hcon.mono ?_
  rintro e w' ⟨rfl,d',n,os,hP,hS,rfl⟩
  have hd's:d'.size=s.length:=by rw[hP.1,hsize]
  have hsort:(d'.map (fun p=>p.1.2)).toList=sortLL s:=by
   have hP2:PermIn 0 (d.toArray.map (fun p:LV w g=>p.1.2)).size (d.toArray.map (fun p=>p.1.2)) (d'.map (fun p=>p.1.2)):=by
    refine⟨by simp[hd's,hdl],fun i hi=>?_,?_⟩
    ·have:s.length≤i:=by simpa [hdl] using hi
     simp[show ¬ i<d'.size by omega,show ¬ i<d.length by omega]
    ·have h3:=hP.2.2
     have e1:d'.extract 0 s.length=d':=by rw[← hd's];exact Array.extract_size
     have e2:d.toArray.extract 0 s.length=d.toArray:=by rw[← hsize];exact Array.extract_size
     rw[e1,e2]at h3
     have e3:(d'.map (fun p=>p.1.2)).extract 0 (d.toArray.map (fun p:LV w g=>p.1.2)).size=d'.map (fun p=>p.1.2):=by
      rw[show(d.toArray.map (fun p:LV w g=>p.1.2)).size=(d'.map (fun p=>p.1.2)).size by simp[hd's,hdl]]
      exact Array.extract_size
     rw[e3,Array.extract_size]
     simpa using h3.map (fun p=>p.1.2)
   have hS2:SortedIn (ltOf cmpLF) 0 (d.toArray.map (fun p:LV w g=>p.1.2)).size (d'.map (fun p=>p.1.2)):=by
    intro i j _ hij hj
    have hj':j<d'.size:=by simpa [hd's,hdl] using hj
    have:=hS i j (Nat.zero_le _) hij (by omega)
    simp only[ltOf]at this ⊢
    simpa [show i<d'.size by omega,hj'] using this
   have:=sorted_unique_holds swoL (fun x y h1 h2=>by
    unfold ltOf at h1 h2
    simp at h1 h2
    rw[cmpLF_anti x y]at h2
    exact cmpLF_zero.1 (by omega)) _ _ hP2 hS2
   rw[this]
   unfold sortLL
   congr 1
   simp[hd2]
  have hblock:(sortWorld (fun p:LV w g=>p.1.1) w g 0 n d' os).heap[g]?=some (.cells (putCells (fun p:LV w g=>p.1.1) 0 d' cur) 23 (0,0)):=by
   show(grow (putRow _ (Sort.ahead w n) g 0 d') os).heap[g]?=_
   rw[heap_grow_old _ _ (by simpa [putRow,mapBlock,Sort.ahead] using hblk)]
   simp[putRow,mapBlock,Sort.ahead,Array.getElem?_modify,hb,onCells]
  have hget:∀ j,j<d'.size→(putCells (fun p:LV w g=>p.1.1) 0 d' cur).toList[j]?=some (d'[j]!).1.1:=by
   intro j hj
   rw[Array.getElem?_toList]
   simp[putCells,show j<cur.size by omega,hj]
  refine⟨rfl,((putCells (fun p:LV w g=>p.1.1) 0 d' cur).toList.take s.length),⟨by simp[putCells];omega,.inr ⟨g,cap,_,rfl,hbase,hblock,hn,hm,by simp[putCells,hcs],by rw[Nat.mul_one]⟩⟩,?_,?_,?_⟩
  ·exact⟨rfl,rfl,rfl,sortWorld_size,fun k hk hne=>sortWorld_block hk (fun e=>hne (by rw[e];rfl))⟩
  ·intro b hbv
   have:b=g:=by simpa [Value.ownBlock] using hbv.symm
   subst this
   simp[World.shape?,hblock,hb,putCells]
  ·intro k y hy
   rw[← hsort]at hy
   have hk:k<d'.size:=by
    have:=(gS_.1 hy).1
    simpa using this
   have hyk:y=(d'[k]!).1.2:=by
    simp[hk]at hy ⊢
    exact hy.symm
   have hmem:d'[k]!∈d:=by
    have h3:=hP.2.2
    have e1:d'.extract 0 s.length=d':=by rw[← hd's];exact Array.extract_size
    have e2:d.toArray.extract 0 s.length=d.toArray:=by rw[← hsize];exact Array.extract_size
    rw[e1,e2]at h3
    have:d'[k]!∈d'.toList:=by
     rw[getElem!_pos d' k hk]
     simp
    simpa using h3.mem_iff.1 this
   obtain⟨q,hq⟩:=List.getElem?_of_mem hmem
   refine⟨(d'[k]!).1.1,q,?_,?_,?_⟩
   ·rw[List.getElem?_take_of_lt (by omega)]
    exact hget k hk
   ·rw[← hd1];simp[hq]
   ·rw[← hd2,hyk];simp[hq]
end Go.Proofs.YtinknhophadbkaaGreatDoor
namespace Go.Proofs.YtinknhophadbkaaGreatDoor
open Go.RowKit
set_option maxHeartbeats 1000000 in
theorem cloneF_calls (v:Value)(l:List Fact)(w:World)(hv:FactsAt w v l) :
  Calls Tryz.prog 26 #[v] w fun e w'=>∃ v',e=.returned v'∧OwnF w' w.heap.size v' l∧Below w.heap.size w w':=by
 obtain⟨A,n,c,rfl,hn,hm⟩:=hv.form
 obtain⟨i0,hi0,hz0,hz1,hz2⟩:=info_parts factInfo
 have hroom:n*16≤140737488355328:=by obtain⟨_,_,hv',hl,_⟩:=id hv;injection hv' with _ h2 _;omega
 rcases A with _|ad
 ·have hl0:l=[]:=by
   cases l with
   | nil=>rfl
   | cons x r=>obtain⟨b,off,_,_,hA,_⟩:=hv.at (k:=0) (by simp at hn;omega);cases hA
  subst hl0
  simp at hn
  subst hn
  have hk:=fun(W:World) (a:Option Addr) (n c:Nat)=>Lib.run_eql_slice_nil (P:=Tryz.prog) W 23 47 a n c 0 0 Tryz.underlying23
  clear hv
  go_enter Tryz.func26,Tryz.ntmps26
  go_wp2_with fail
  go_ret
  exact⟨_,rfl,⟨rfl,.inl ⟨rfl,rfl⟩⟩,Below.refl _ _⟩
 ·have hk:=fun(W:World) (a:Option Addr) (n c:Nat)=>Lib.run_eql_slice_nil (P:=Tryz.prog) W 23 47 a n c 0 0 Tryz.underlying23
  have hr:=(hv.keep (belowA (Below.refl _ _) (.cells #[] 47))).reads
  have hown:(w.alloc (.cells #[] 47)).ownsRow w.heap.size 47 2 (.slice (some ⟨w.heap.size,0,none⟩) 0 0) 0 []:=⟨rfl,.inr ⟨w.heap.size,0,#[],rfl,Nat.le_refl _,heap_alloc_new _ _,Nat.le_refl _,Nat.zero_le _,rfl,rfl⟩⟩
  have HV:=Lib.hid hv
  have HN:=Lib.hid hn
  have HR:=Lib.hid hr
  have HOWN:=Lib.hid hown
  clear hv hn hr hown
  go_enter Tryz.func26,Tryz.ntmps26
  go_wp2_with (at_builtin;refine wpList_append_any _ rfl (.tmp 5) (.tmp 6) _ rfl w.heap.size 47 i0 _ 2 16 Tryz.underlying23 hi0 hz0 hz1 hz2 rfl (by omega) (.slice (some ⟨w.heap.size,0,none⟩) 0 0) 0 [] rfl HOWN.out _ _ n c (factCells l) rfl HR.out (factCells_one l) (by simp only[maxLen];omega) (by omega) (by simp) ?_;intro v1 w1 hown1 hg1 hat1)
  go_ret
  refine⟨v1,rfl,?_,?_⟩
  ·rw[Nat.zero_add,List.nil_append,HN.out]at hown1
   exact hown1
  ·exact(belowA (Below.refl _ _) _).grown hg1 (by simp) (by intro k hk;simp[Value.ownBlock]at hk;omega)
end Go.Proofs.YtinknhophadbkaaGreatDoor
namespace Go.Proofs.YtinknhophadbkaaGreatDoor
def eqB (a b c d:Int):Bool:=decide (a=c∧b=d)
end Go.Proofs.YtinknhophadbkaaGreatDoor
namespace Go.Proofs.YtinknhophadbkaaGreatDoor
open Go.RowKit
def dd : Option Fact→List Fact→List Fact
 | _,[]=>[]
 | p,x :: r=>if p=some x then dd (some x) r else x :: dd (some x) r
def compactF (l:List Fact):List Fact:=dd none l
def lastO : Option Fact→List Fact→Option Fact
 | p,[]=>p
 | _,x :: r=>lastO (some x) r
theorem lastO_at (l:List Fact):∀ (p:Option Fact)(k:Nat)(x:Fact),l.length=k+1→l[k]?=some x→lastO p l=some x:=by
 induction l with
 | nil=>intro p k x h;simp at h
 | cons y r ih =>
  intro p k x h hx
  cases k with
  | zero =>
   have:r=[]:=List.length_eq_zero_iff.1 (by simpa using h)
   subst this
   simpa [lastO] using hx
  | succ k=>exact ih (some y) k x (by simpa using h) (by simpa using hx)
theorem dd_snoc (l:List Fact)(x:Fact):∀ p,dd p (l++[x])=if lastO p l=some x then dd p l else dd p l++[x]:=by
 induction l with
 | nil=>intro p;by_cases h:p=some x <;> simp[dd,lastO,h]
 | cons y r ih =>
  intro p
  simp only[List.cons_append,dd,ih,lastO]
  by_cases h1:p=some y <;> by_cases h2:lastO (some y) r=some x <;> simp[h1,h2]
theorem compact_step {l:List Fact}{k:Nat}{x y:Fact}(hx:l[k]?=some x)(hy:l[k-1]?=some y)(hk:1≤k) :
  compactF (l.take (k+1))=if y=x then compactF (l.take k)else compactF (l.take k)++[x]:=by
 have hlt:k<l.length:=(gS_.1 hx).1
 have e:l.take (k+1)=l.take k++[x]:=by
  rw[List.take_add_one,hx];rfl
 have hlast:lastO none (l.take k)=some y:=lastO_at _ none (k-1) y (by rw[List.length_take,Nat.min_eq_left (by omega)];omega) (by rw[List.getElem?_take_of_lt (by omega),hy])
 rw[e,compactF,dd_snoc,hlast]
 simp[compactF]
theorem compact_one {l:List Fact}:compactF (l.take 1)=l.take 1:=by
 cases l with
 | nil=>rfl
 | cons x r=>simp[compactF,dd]
theorem compact_short {l:List Fact}(h:l.length<2):compactF l=l:=by
 match l,h with
 | [],_=>rfl
 | [x],_=>simp[compactF,dd]
theorem factCells_set (m:List Fact):∀ (k:Nat)(x:Fact),((factCells m).set (k*2) (.int .i64 x.1)).set (k*2+1) (.int .i64 x.2)=factCells (m.set k x):=by
 induction m with
 | nil=>intro k x;simp[factCells]
 | cons y r ih =>
  intro k x
  cases k with
  | zero=>simp[factCells]
  | succ k =>
   rw[show(k+1)*2=k*2+1+1 from by omega]
   simp only[factCells,List.set_cons_succ,ih]
theorem run_clear_facts (w:World)(ty:TypeId)(b o n c:Nat)(hn:0<n)
  (hc:∀ j,j<n*2→(w.cell? ⟨b,o+j,none⟩).isSome=true) (hf:∀ j,j<n*2→w.frozen? ⟨b,o+j,none⟩=false) :
  ∃ zs:List Value,(Builtin.clear_ #[23] ty #[.slice (some ⟨b,o,none⟩) n c]).run Tryz.prog w=.ok (.tuple #[]) (w.setCells b o zs):=by
 have hv:∀ w,(zeroValue 47).run Tryz.prog w=.ok (.agg #[.int .i64 0,.int .i64 0]) w:=fun w=>by kernel_rfl
 refine⟨(Builtin.zeroCells #[.int .i64 0,.int .i64 0] n).toList,?_⟩
 have hst:=run_storeCells_cells (P:=Tryz.prog) b o (Builtin.zeroCells #[.int .i64 0,.int .i64 0] n).toList 0 w (by simpa [Builtin.zeroCells,Nat.mul_comm] using hc) (by simpa [Builtin.zeroCells,Nat.mul_comm] using hf) (by
  intro v hv'
  simp[Builtin.zeroCells]at hv'
  obtain⟨a,_,rfl⟩:=hv'
  rcases Nat.mod_two_eq_zero_or_one a with h|h <;> simp[h] <;> rfl)
 simp only[Nat.add_zero]at hst
 obtain⟨m,rfl⟩:∃ m,n=m+1:=⟨n-1,by omega⟩
 simp[Builtin.clear_,run_underlying Tryz.underlying23,hv,Value.cells,hst]
theorem OwnF.cells {w:World}{base:Nat}{g n cap:Nat}{m:List Fact}(h:OwnF w base (.slice (some ⟨g,0,none⟩) n cap) m)(hn:n=m.length){k:Nat}{x:Fact}(hx:m[k]?=some x) :
  w.cell? ⟨g,k*2,none⟩=some (.int .i64 x.1)∧w.cell? ⟨g,k*2+1,none⟩=some (.int .i64 x.2):=by
 subst hn
 have hk:k<m.length:=(gS_.1 hx).1
 rw[World.ownsRow.cellAt h (k*2) (by omega),World.ownsRow.cellAt h (k*2+1) (by omega)]
 exact factCells_at m k x hx
theorem only_drewN {a w:World}{row:Option Nat}(h:a.grownBy w row)(n:Nat):a.grownBy (w.drewN n) row:=⟨h.os,h.tape,h.output,h.size,h.block⟩
theorem only_setCell {a w:World}{g:Nat}(h:a.grownBy w (some g)){p:Addr}(hp:p.block=g∨a.heap.size≤p.block)(u:Value):a.grownBy (w.setCell p u) (some g) :=
 ⟨h.os,h.tape,h.output,by simpa [World.setCell] using h.size,fun i hi hne=>(Below.heap_setCell w p u i (by
  rintro rfl
  rcases hp with hp|hp
  ·exact hne (by rw[hp])
  ·omega)).trans (h.block i hi hne)⟩
theorem OwnF.store {w:World}{base:Nat}{g n cap:Nat}{m:List Fact}(h:OwnF w base (.slice (some ⟨g,0,none⟩) n cap) m)(hn:n=m.length)(k:Nat)(x:Fact) :
  OwnF ((w.setCell ⟨g,k*2,none⟩ (.int .i64 x.1)).setCell ⟨g,k*2+1,none⟩ (.int .i64 x.2)) base (.slice (some ⟨g,0,none⟩) n cap) (m.set k x):=by
 subst hn
 have h1:=(World.ownsRow.stored (World.ownsRow.stored h (k*2) (.int .i64 x.1)).1 (k*2+1) (.int .i64 x.2)).1
 rw[factCells_set]at h1
 unfold OwnF
 rw[List.length_set]
 exact h1
theorem setCells_own {base:Nat}{e:TypeId}{g n cap:Nat}(vs:List Value):∀ (w:World)(o:Nat)(xs:List Value),w.ownsRow base e 2 (.slice (some ⟨g,0,none⟩) n cap) n xs →
  ∃ xs',(w.setCells g o vs).ownsRow base e 2 (.slice (some ⟨g,0,none⟩) n cap) n xs'∧xs'.take o=xs.take o∧w.grownBy (w.setCells g o vs) (some g):=by
 induction vs with
 | nil=>intro w o xs h;exact⟨xs,h,rfl,World.grownBy.refl _ _⟩
 | cons v r ih =>
  intro w o xs h
  obtain⟨h1,h2⟩:=World.ownsRow.stored h o v
  obtain⟨xs',h3,h4,h5⟩:=ih (w.setCell ⟨g,o,none⟩ v) (o+1) _ h1
  refine⟨xs',h3,?_,World.grownBy.trans h2 h5⟩
  have:=congrArg (List.take o) h4
  rw[List.take_take,List.take_take,Nat.min_eq_left (by omega),List.take_set_of_le (by omega)]at this
  exact this
theorem own_cut {w:World}{base:Nat}{g n cap:Nat}{xs:List Value}(h:w.ownsRow base 47 2 (.slice (some ⟨g,0,none⟩) n cap) n xs){k:Nat}(hk:k≤n){l:List Fact}(hl:l.length=k)(hx:xs.take (k*2)=factCells l):OwnF w base (.slice (some ⟨g,0,none⟩) k cap) l:=by
 rcases h.2 with⟨hv,_⟩|⟨g',cap',cur,hv,hb,hh,h1,h2,h3,h4⟩
 ·cases hv
 ·injection hv with e1 _ e3
  injection e1 with e1
  injection e1 with e1 _
  subst e1 e3
  refine⟨by rw[factCells_length],.inr ⟨g,cap,cur,by rw[hl],hb,hh,by rw[hl];omega,h2,h3,?_⟩⟩
  rw[hl,← hx,← h4,List.take_take,Nat.min_eq_left (by omega)]
theorem at_drop {l m:List Fact}{a i:Nat}(h:m.drop a=l.drop a)(hi:a≤i):m[i]?=l[i]?:=by
 have:=congrArg (fun z=>z[i-a]?) h
 simpa [List.getElem?_drop,show a+(i-a)=i from by omega] using this
set_option maxHeartbeats 4000000 in
theorem compact_calls2 (base:Nat)(v:Value)(l:List Fact)(w:World)(h:OwnF w base v l)(hl:l.length*16≤140737488355328) :
  Calls Tryz.prog 144 #[v] w fun e w'=>∃ v',e=.returned v'∧OwnF w' base v' (compactF l)∧w.grownBy w' v.ownBlock∧v'.ownBlock=v.ownBlock:=by
 obtain⟨A,cap,rfl⟩:=h.form
 obtain⟨n,hn⟩:∃ n,n=l.length:=⟨_,rfl⟩
 rw[← hn]at h hl ⊢
 by_cases hshort:n<2
 ·have hfin:compactF l=l:=compact_short (by omega)
  rw[hfin]
  have HO:=Lib.hid h
  have HN:=Lib.hid hn
  have HFIN:=Lib.hid hfin
  clear h hn hfin
  go_enter Tryz.func144,Tryz.ntmps144
  go_wp2
  go_ret
  exact⟨_,rfl,HO.out,World.grownBy.refl _ _,rfl⟩
 ·obtain⟨g,rfl,hng,hcm⟩:∃ g,A=some ⟨g,0,none⟩∧n≤cap∧cap≤9223372036854775807:=by
   rcases h.2 with⟨hv,h0⟩|⟨g,cap',cur,hv,_,_,h1,h2,_⟩
   ·omega
   ·injection hv with e1 _ e3
    exact⟨g,e1,by omega,by rw[e3];exact h2⟩
  have hown:OwnF w base (.slice (some ⟨g,0,none⟩) n cap) l:=by rw[hn];rw[hn]at h;exact h
  clear h
  have HO:=Lib.hid hown
  have HN:=Lib.hid hn
  clear hown hn
  go_enter Tryz.func144,Tryz.ntmps144
  go_wp2
  go_loopg [3] (n-1) (fun gg i wr=>∃ k:Nat,1≤k∧k≤n∧gg=n-k∧i=.int .i64 k∧(∃ q,wr=w.drewN q)∧compactF (l.take k)=l.take k)
  case atStart=>exact⟨1,by omega,by omega,by omega,rfl,⟨0,rfl⟩,compact_one⟩
  case round =>
   obtain⟨k,hk1,hkn,hg,rfl,⟨q,rfl⟩,hF⟩:=hrel
   have HG:=Lib.hid hg
   have HF:=Lib.hid hF
   clear hg hF
   by_cases hlt:k<n
   ·obtain⟨x,hx,_⟩:=some_at (l:=l) (k:=k) HN.out hlt
    obtain⟨y,hy,_⟩:=some_at (l:=l) (k:=k-1) HN.out (by omega)
    obtain⟨c0,c1⟩:=HO.out.cells HN.out hx
    obtain⟨d0,d1⟩:=HO.out.cells HN.out hy
    have hstep:=compact_step hx hy hk1
    obtain⟨x1,x2⟩:=x
    obtain⟨y1,y2⟩:=y
    simp only at c0 c1 d0 d1
    have HX:=Lib.hid hx
    have HY:=Lib.hid hy
    have HST:=Lib.hid hstep
    clear hx hy hstep
    go_upto_region 6 with fail
    go_cut [25] (fun t wx=>t=.bool (eqB x1 x2 y1 y2)∧∃ q,wx=w.drewN q)
    case first =>
     by_cases h1:x1=y1
     ·subst h1
      by_cases h2:x2=y2
      ·subst h2
       refine wp_region_quiet_lit (by kernel_rfl) (by kernel_rfl) ?_
       repeat (any_goals (first|go_big_quiet_step (fail)|quiet_step (fail)|(refine wpQuiet_step (fun K hK=>?_);go_simp;split <;> (refine hK _ ?_;clear hK K))))
       all_goals (refine wpQuiet_nil ?_;intro _ hw';obtain⟨nq,hw''⟩:=hw';subst hw'')
       all_goals (go_wp2_with fail;go_meet;exact⟨by simp[eqB],_,by first|rfl|rw[World.drewN_drewN]⟩)
      ·refine wp_region_quiet_lit (by kernel_rfl) (by kernel_rfl) ?_
       repeat (any_goals (first|go_big_quiet_step (fail)|quiet_step (fail)|(refine wpQuiet_step (fun K hK=>?_);go_simp;split <;> (refine hK _ ?_;clear hK K))))
       all_goals (refine wpQuiet_nil ?_;intro _ hw';obtain⟨nq,hw''⟩:=hw';subst hw'')
       all_goals (go_wp2_with fail;go_meet;exact⟨by simp[eqB,h2],_,by first|rfl|rw[World.drewN_drewN]⟩)
     ·refine wp_region_quiet_lit (by kernel_rfl) (by kernel_rfl) ?_
      repeat (any_goals (first|go_big_quiet_step (fail)|quiet_step (fail)|(refine wpQuiet_step (fun K hK=>?_);go_simp;split <;> (refine hK _ ?_;clear hK K))))
      all_goals (refine wpQuiet_nil ?_;intro _ hw';obtain⟨nq,hw''⟩:=hw';subst hw'')
      all_goals (go_wp2_with fail;go_meet;exact⟨by simp[eqB,h1],_,by first|rfl|rw[World.drewN_drewN]⟩)
    case rest =>
     obtain⟨rfl,q',rfl⟩:=hcut
     cases hbad:eqB x1 x2 y1 y2
     ·have hne:¬ ((y1,y2):Fact)=(x1,x2):=by
       intro e
       injection e with e1 e2
       subst e1 e2
       simp[eqB]at hbad
      have hnext:compactF (l.take (k+1))=l.take (k+1):=by
       rw[HST.out,if_neg hne,HF.out,List.take_add_one,HX.out];rfl
      have HNE:=Lib.hid hne
      have HNEXT:=Lib.hid hnext
      clear hne hnext
      go_wp2
      go_roundg (n-(k+1))
      case measure=>have:=HG.out;omega
      case rel=>exact⟨k+1,by omega,by omega,rfl,by go_num,⟨_,rfl⟩,HNEXT.out⟩
     ·have heq:((y1,y2):Fact)=(x1,x2):=by simp[eqB]at hbad;rw[hbad.1,hbad.2]
      have hnext:compactF (l.take (k+1))=l.take k:=by rw[HST.out,if_pos heq,HF.out]
      have HEQ:=Lib.hid heq
      have HNEXT:=Lib.hid hnext
      clear heq hnext
      clear c0 c1 d0 d1
      have hcapk:¬ cap=k:=by omega
      have hstart:=only_drewN (World.grownBy.refl w (some g)) q'
      have HSTART:=Lib.hid hstart
      clear hstart
      go_wp2
      go_loopg [3,5] (n-k-1) (fun gg a i wx=>∃ (j kk:Nat) (m:List Fact),1≤j∧j≤n-k∧gg=n-k-j∧a=.int .i64 kk∧i=.int .i64 j∧k≤kk∧kk≤k+j-1∧OwnF wx base (.slice (some ⟨g,0,none⟩) n cap) m∧n=m.length∧compactF (l.take (k+j))=m.take kk∧m.drop (k+j-1)=l.drop (k+j-1)∧w.grownBy wx (some g))
      case atStart=>exact⟨1,k,l,by omega,by omega,by omega,rfl,rfl,by omega,by omega,HO.out,HN.out,HNEXT.out,rfl,HSTART.out⟩
      case round =>
       clear HSTART HNEXT HEQ
       obtain⟨j,kk,m,hj1,hjn,hg2,rfl,rfl,hkk,hkk2,hown2,hmn,hC,hD,hgr⟩:=hrel
       have HG2:=Lib.hid hg2
       have HC:=Lib.hid hC
       have HD:=Lib.hid hD
       have HGR:=Lib.hid hgr
       have HMN:=Lib.hid hmn
       have HO2:=Lib.hid hown2
       clear hg2 hC hD hgr hmn hown2
       by_cases hjt:j<n-k
       ·obtain⟨z,hz,_⟩:=some_at (l:=l) (k:=k+j) HN.out (by omega)
        obtain⟨u,hu,_⟩:=some_at (l:=l) (k:=k+j-1) HN.out (by omega)
        have hzm:m[k+j]?=some z:=by rw[at_drop HD.out (by omega)];exact hz
        have hum:m[k+j-1]?=some u:=by rw[at_drop HD.out (by omega)];exact hu
        obtain⟨s,hs,_⟩:=some_at (l:=m) (k:=kk) HMN.out (by omega)
        obtain⟨c0,c1⟩:=HO2.out.cells HMN.out hzm
        obtain⟨d0,d1⟩:=HO2.out.cells HMN.out hum
        obtain⟨s0,s1⟩:=HO2.out.cells HMN.out hs
        have f0:wr.frozen? ⟨g,kk*2,none⟩=false:=World.ownsRow.frozenAt (by have:=HO2.out;unfold OwnF at this;rw[← HMN.out]at this;exact this) (kk*2)
        have f1:wr.frozen? ⟨g,kk*2+1,none⟩=false:=World.ownsRow.frozenAt (by have:=HO2.out;unfold OwnF at this;rw[← HMN.out]at this;exact this) (kk*2+1)
        have hstep2:=compact_step hz hu (by omega)
        obtain⟨z1,z2⟩:=z
        obtain⟨u1,u2⟩:=u
        rw[show(k+j)*2=k*2+j*2 from by omega]at c0 c1
        rw[show(k+j-1)*2=k*2+(j-1)*2 from by omega]at d0 d1
        simp only at c0 c1 d0 d1
        have HZ:=Lib.hid hz
        have HU:=Lib.hid hu
        have HZM:=Lib.hid hzm
        have HUM:=Lib.hid hum
        have HS:=Lib.hid hs
        have HST2:=Lib.hid hstep2
        clear hz hu hzm hum hs hstep2
        go_upto_region 11 with fail
        go_cut [44] (fun t wx=>t=.bool !(eqB z1 z2 u1 u2)∧∃ q,wx=wr.drewN q)
        case first =>
         by_cases h1:z1=u1
         ·subst h1
          by_cases h2:z2=u2
          ·subst h2
           refine wp_region_quiet_lit (by kernel_rfl) (by kernel_rfl) ?_
           repeat (any_goals (first|go_big_quiet_step (fail)|quiet_step (fail)|(refine wpQuiet_step (fun K hK=>?_);go_simp;split <;> (refine hK _ ?_;clear hK K))))
           all_goals (refine wpQuiet_nil ?_;intro _ hw';obtain⟨nq,hw''⟩:=hw';subst hw'')
           all_goals (go_wp2_with fail;go_meet;exact⟨by simp[eqB],_,by first|rfl|rw[World.drewN_drewN]⟩)
          ·refine wp_region_quiet_lit (by kernel_rfl) (by kernel_rfl) ?_
           repeat (any_goals (first|go_big_quiet_step (fail)|quiet_step (fail)|(refine wpQuiet_step (fun K hK=>?_);go_simp;split <;> (refine hK _ ?_;clear hK K))))
           all_goals (refine wpQuiet_nil ?_;intro _ hw';obtain⟨nq,hw''⟩:=hw';subst hw'')
           all_goals (go_wp2_with fail;go_meet;exact⟨by simp[eqB,h2],_,by first|rfl|rw[World.drewN_drewN]⟩)
         ·refine wp_region_quiet_lit (by kernel_rfl) (by kernel_rfl) ?_
          repeat (any_goals (first|go_big_quiet_step (fail)|quiet_step (fail)|(refine wpQuiet_step (fun K hK=>?_);go_simp;split <;> (refine hK _ ?_;clear hK K))))
          all_goals (refine wpQuiet_nil ?_;intro _ hw';obtain⟨nq,hw''⟩:=hw';subst hw'')
          all_goals (go_wp2_with fail;go_meet;exact⟨by simp[eqB,h1],_,by first|rfl|rw[World.drewN_drewN]⟩)
        case rest =>
         obtain⟨rfl,q2,rfl⟩:=hcut
         cases hbad:eqB z1 z2 u1 u2
         ·have hne:¬ ((u1,u2):Fact)=(z1,z2):=by
           intro e
           injection e with e1 e2
           subst e1 e2
           simp[eqB]at hbad
          have hnext:compactF (l.take (k+(j+1)))=(m.set kk (z1,z2)).take (kk+1):=by
           rw[← Nat.add_assoc,HST2.out,if_neg hne,HC.out,List.take_add_one,List.take_set_of_le (by omega)]
           have:=HMN.out
           simp[show kk<m.length by omega]
          have hdrop:(m.set kk (z1,z2)).drop (k+(j+1)-1)=l.drop (k+(j+1)-1):=by
           rw[List.drop_set_of_lt (by omega)]
           have:=congrArg (List.drop 1) HD.out
           simpa [List.drop_drop,show 1+(k+j-1)=k+(j+1)-1 from by omega,show k+j-1+1=k+(j+1)-1 from by omega] using this
          have HNE:=Lib.hid hne
          have HNEXT:=Lib.hid hnext
          have HDROP:=Lib.hid hdrop
          clear hne hnext hdrop
          go_wp2
          go_roundg (n-k-(j+1))
          case measure=>have:=HG2.out;omega
          case rel=>exact⟨j+1,kk+1,m.set kk (z1,z2),by omega,by omega,rfl,by go_num,by go_num,by omega,by omega,OwnF.store (x:=(z1,z2)) HO2.out HMN.out kk,by rw[List.length_set];exact HMN.out,HNEXT.out,HDROP.out,only_setCell (only_setCell (only_drewN HGR.out q2) (.inl rfl) _) (.inl rfl) _⟩
         ·have heq:((u1,u2):Fact)=(z1,z2):=by simp[eqB]at hbad;rw[hbad.1,hbad.2]
          have hnext:compactF (l.take (k+(j+1)))=m.take kk:=by rw[← Nat.add_assoc,HST2.out,if_pos heq,HC.out]
          have hdrop:m.drop (k+(j+1)-1)=l.drop (k+(j+1)-1):=by
           have:=congrArg (List.drop 1) HD.out
           simpa [List.drop_drop,show 1+(k+j-1)=k+(j+1)-1 from by omega,show k+j-1+1=k+(j+1)-1 from by omega] using this
          have HEQ:=Lib.hid heq
          have HNEXT:=Lib.hid hnext
          have HDROP:=Lib.hid hdrop
          clear heq hnext hdrop
          go_wp2
          go_roundg (n-k-(j+1))
          case measure=>have:=HG2.out;omega
          case rel=>exact⟨j+1,kk,m,by omega,by omega,rfl,rfl,by go_num,by omega,by omega,HO2.out,HMN.out,HNEXT.out,HDROP.out,only_drewN HGR.out q2⟩
       ·have hjk:j=n-k:=by omega
        have hfin:compactF l=m.take kk:=by rw[← HC.out,tL_ (by have:=HN.out;omega)]
        have ho2:wr.ownsRow base 47 2 (.slice (some ⟨g,0,none⟩) n cap) n (factCells m):=by have:=HO2.out;unfold OwnF at this;rw[← HMN.out]at this;exact this
        have hcl:=fun(ty:TypeId)=>run_clear_facts wr ty g (kk*2) (n-kk) (cap-kk) (by omega)
         (fun i hi=>by rw[World.ownsRow.cellAt ho2 (kk*2+i) (by omega),gE_ (by rw[factCells_length,← HMN.out];omega)];rfl)
         (fun i hi=>World.ownsRow.frozenAt ho2 (kk*2+i))
        obtain⟨zs,hclr⟩:=hcl 0
        obtain⟨xs',hx1,hx2,hx3⟩:=setCells_own zs wr (kk*2) _ ho2
        have hcapkk:¬ cap=kk:=by omega
        have hown3:OwnF (wr.setCells g (kk*2) zs) base (.slice (some ⟨g,0,none⟩) kk cap) (compactF l) :=
         own_cut hx1 (by omega) (by rw[hfin,List.length_take,← HMN.out];omega) (by rw[hx2,factCells_take,hfin])
        have hg3:=World.grownBy.trans HGR.out hx3
        clear hcl
        have HFIN:=Lib.hid hfin
        have HOO:=Lib.hid ho2
        have HX1:=Lib.hid hx1
        have HX2:=Lib.hid hx2
        have HX3:=Lib.hid hx3
        have HOWN3:=Lib.hid hown3
        have HG3:=Lib.hid hg3
        have HJK:=Lib.hid hjk
        clear hfin ho2 hx1 hx2 hx3 hown3 hg3 hjk
        go_wp2
        go_ret
        exact⟨_,rfl,HOWN3.out,HG3.out,rfl⟩
   ·have hfin:compactF l=l:=by rw[← tL_ (l:=l) (i:=k) (by have:=HN.out;omega)];rw[HF.out]
    have HFIN:=Lib.hid hfin
    clear hfin
    go_wp2
    go_ret
    exact⟨_,rfl,by rw[HFIN.out];exact HO.out,only_drewN (World.grownBy.refl _ _) _,rfl⟩
end Go.Proofs.YtinknhophadbkaaGreatDoor
namespace Go.Proofs.YtinknhophadbkaaGreatDoor.Am
open Go.RowKit
section
variable {w : World} {vs : Shp} {m : MM} {v : Value}
theorem rv_factsF {l:List Fact}(h:RV w vs m (.sl 2 (l.map cF)) v)(hl:l.length*16≤140737488355328):FactsAt w v l:=by
 obtain⟨A,cap,b,off,f,rfl,hA,_,_,_,hc,hr,_⟩:=rv_sl h
 refine⟨A,cap,by simp,hl,fun k x hx=>?_⟩
 have hk:(l.map cF)[k]?=some (cF x):=map_at' hx
 obtain⟨rfl,_⟩:=hA (fun e=>by rw[e]at hk;simp at hk)
 have h0:=(hc k 0 _ _ hk rfl).1
 have h1:=(hc k 1 _ _ hk rfl).1
 rw[rv_c (hr k 0 _ _ hk rfl)]at h0
 rw[rv_c (hr k 1 _ _ hk rfl)]at h1
 exact⟨b,off,rfl,by simpa using h0,by simpa [Nat.add_assoc] using h1⟩
theorem flat_facts {l:List Fact}{xs:List Value}(h:Flat w vs m 2 (l.map cF) xs.toArray)(hl:xs.length=l.length*2):xs=factCells l:=by
 apply List.ext_getElem?
 intro i
 by_cases hi:i<l.length*2
 ·obtain⟨k,j,hj,rfl⟩:∃ k j,j<2∧i=k*2+j:=⟨i / 2,i % 2,Nat.mod_lt _ (by omega),by omega⟩
  have hk:k<l.length:=by omega
  have hlk:=gE_ hk
  obtain⟨c0,c1⟩:=factCells_at l k _ hlk
  obtain⟨_,h2⟩:=h.2 k (cF l[k]) (map_at' hlk)
  have hj2:j=0∨j=1:=by omega
  rcases hj2 with rfl|rfl
  ·obtain⟨u,u1,_,u3⟩:=h2 0 _ rfl
   rw[List.getElem?_toArray]at u1
   rw[u1,rv_c u3,Nat.add_zero,c0]
  ·obtain⟨u,u1,_,u3⟩:=h2 1 _ rfl
   rw[List.getElem?_toArray]at u1
   rw[u1,rv_c u3,c1]
 ·rw[List.getElem?_eq_none (by omega),List.getElem?_eq_none (by rw[factCells_length];omega)]
theorem cells_facts {l:List Fact}(k:Nat)(e:List AV)(he:(l.map cF)[k]?=some e):e.length=2∧∀ (j:Nat)(y:AV),e[j]?=some y→Fr y∧∃ u,(factCells l)[k*2+j]?=some u∧u.oneCell'=true∧RV w vs m y u:=by
 obtain⟨x,hx,rfl⟩:=get_map he
 obtain⟨c0,c1⟩:=factCells_at l k x hx
 refine⟨rfl,fun j y hy=>?_⟩
 match j,hy with
 | 0,hy=>simp[cF]at hy;subst hy;exact⟨.c _,_,c0,rfl,.c _⟩
 | 1,hy=>simp[cF]at hy;subst hy;exact⟨.c _,_,c1,rfl,.c _⟩
 | j+2,hy=>simp[cF]at hy
theorem own_shape {base E sz n n':Nat}{w':World}{xs xs':List Value}(h:w.ownsRow base E sz v n xs)(h':w'.ownsRow base E sz v n' xs'){b:Nat}(hb:v.ownBlock=some b):w'.shape? b=w.shape? b:=by
 rcases h.2 with⟨rfl,_⟩|⟨g,cap,cur,rfl,_,hh,_,_,hcs,_⟩
 ·cases hb
 ·rcases h'.2 with⟨e,_⟩|⟨g',cap',cur',e,_,hh',_,_,hcs',_⟩
  ·cases e
  ·injection e with e1 e2 e3
   injection e1 with e1
   injection e1 with e1 _
   subst e1 e3
   have:b=g:=by simpa [Value.ownBlock] using hb.symm
   subst this
   simp[World.shape?,hh,hh',hcs,hcs']
end
theorem cargs1 {α:Type}{c:Array α}(h:c.size=1):∃ a,c=#[a]:=by
 obtain⟨l⟩:=c
 match l,h with
 | [a],_=>exact⟨a,rfl⟩
theorem cargs2 {α:Type}{c:Array α}(h:c.size=2):∃ a b,c=#[a,b]:=by
 obtain⟨l⟩:=c
 match l,h with
 | [a,b],_=>exact⟨a,b,rfl⟩
def M_cloneF (l:List Fact):Option (List Fact):=grd (l.length*16≤140737488355328) (some l)
theorem A_cloneF (l:List Fact){r:List Fact}(h:M_cloneF l=some r):ACallG cx 26 [.sl 2 (l.map cF)] [] [] (.own 0 0 0 r.length) [(0,⟨47,2,false,r.map cF⟩)]:=by
 obtain⟨h0,h⟩:=grd_ok h
 have h:=sI_ h
 subst h
 refine⟨enter_g Tryz.func26 rfl (by decide),fun w m cargs hg hM hsz hargs=>?_⟩
 obtain⟨v,rfl⟩:=cargs1 hsz
 refine(cloneF_calls v l w (rv_factsF (hargs 0 _ v rfl rfl) h0)).mono ?_
 rintro e w' ⟨v',rfl,ho,hb⟩
 refine⟨v',⟨fun k=>if k=0 then v'.ownBlock else none,m.O⟩,rfl,?_⟩
 have hge:∀ b,v'.ownBlock=some b→w.heap.size≤b:=fun b hb=>by
  rcases ho.2 with⟨rfl,_⟩|⟨g,cap,cur,rfl,hbase,_⟩
  ·cases hb
  ·simp[Value.ownBlock]at hb;omega
 exact gr_row (i0:=0) (v:=.slice none 0 0) (row:=none) hM hg (.inl rfl) (own_mono ho (Nat.zero_le _)) ⟨hb.os,hb.tape,hb.output,hb.size,fun b hb' _=>hb.block b hb'⟩ (.inl rfl) (.inr hge) (lM_ _) (fun k e he=>cells_facts k e he)
def M_compactF (l:List Fact):Option (List Fact):=grd (l.length*16≤140737488355328) (some (compactF l))
theorem A_compactF (l:List Fact){r:List Fact}(h:M_compactF l=some r):ACallG cx 144 [.own 0 0 0 l.length] [(0,⟨47,2,false,l.map cF⟩)] [] (.own 0 0 0 r.length) [(0,⟨47,2,false,r.map cF⟩)]:=by
 obtain⟨h0,h⟩:=grd_ok h
 have h:=sI_ h
 subst h
 refine⟨enter_g Tryz.func144 rfl (by decide),fun w m cargs hg hM hsz hargs=>?_⟩
 obtain⟨v,rfl⟩:=cargs1 hsz
 obtain⟨xs,hrow,hfl,hm0⟩:=own_row (η:=fE [(0,⟨47,2,false,l.map cF⟩)]) (hargs 0 _ v rfl rfl) rfl (hM.ok 0 _ rfl) (by simp)
 simp only at hrow hfl
 have hxs:=flat_facts hfl hrow.1
 subst hxs
 refine(compact_calls2 0 v l w hrow h0).mono ?_
 rintro e w' ⟨v',rfl,ho,hgr,hv'⟩
 exact⟨v',⟨fun k=>if k=0 then v'.ownBlock else none,m.O⟩,rfl,gr_row (i0:=0) hM hg (.inr ⟨by simp[fE_live,keys],hm0⟩) ho hgr (.inl rfl) (.inl hv') (lM_ _) (fun k e he=>cells_facts k e he)⟩
def M_sortF (l:List Fact):Option (List Fact):=grd (l.length<4611686018427387904) (some (sortF l))
theorem A_sortF (l:List Fact){r:List Fact}(h:M_sortF l=some r):ACallG cx 142 [.own 900 0 0 l.length,.clo (.func 143) [] []] [(900,⟨47,2,false,l.map cF⟩)] [900] (.tup []) [(900,⟨47,2,false,r.map cF⟩)]:=by
 obtain⟨h0,h⟩:=grd_ok h
 have h:=sI_ h
 subst h
 refine⟨enter_g Tryz.func142 rfl (by decide),fun w m cargs hg hM hsz hargs=>?_⟩
 obtain⟨v,f,rfl⟩:=cargs2 hsz
 obtain⟨us,us',rfl,l1,_,l2,_⟩:=rv_clo (hargs 1 _ f rfl rfl)
 obtain rfl:us=#[]:=Array.eq_empty_of_size_eq_zero l1.symm
 obtain rfl:us'=#[]:=Array.eq_empty_of_size_eq_zero l2.symm
 obtain⟨xs,hrow,hfl,hm0⟩:=own_row (η:=fE [(900,⟨47,2,false,l.map cF⟩)]) (hargs 0 _ v rfl rfl) rfl (hM.ok 900 _ rfl) (by simp)
 simp only at hrow hfl
 have hxs:=flat_facts hfl hrow.1
 subst hxs
 refine(sort_calls 0 v l w hrow h0).mono ?_
 rintro e w' ⟨rfl,ho,hgr⟩
 have hlen:=sortF_length l
 unfold OwnF at ho
 exact⟨_,m,rfl,gr_kept hM hg hm0 (by rw[hlen]at ho;exact ho) hgr (fun b hb=>own_shape hrow ho hb) (by rw[lM_,hlen]) (fun m'=>.tup rfl (fun j x u hx=>by simp at hx)) (fun k e he=>cells_facts k e he)⟩
def M_sortL (l:List (List Fact)):Option (List (List Fact)):=grd (l.length<4611686018427387904) (grd (∀ y∈l,y.length*16≤140737488355328) (some (sortLL l)))
theorem A_sortL (l:List (List Fact)){r:List (List Fact)}(h:M_sortL l=some r):ACallG cx 63 [.own 900 0 0 l.length,.clo (.func 64) [] []] [(900,⟨23,1,false,l.map cL_cF⟩)] [900] (.tup []) [(900,⟨23,1,false,r.map cL_cF⟩)]:=by
 obtain⟨h0,h⟩:=grd_ok h
 obtain⟨h1,h⟩:=grd_ok h
 have h:=sI_ h
 subst h
 refine⟨enter_g Tryz.func63 rfl (by decide),fun w m cargs hg hM hsz hargs=>?_⟩
 obtain⟨v,f,rfl⟩:=cargs2 hsz
 obtain⟨us,us',rfl,l1,_,l2,_⟩:=rv_clo (hargs 1 _ f rfl rfl)
 obtain rfl:us=#[]:=Array.eq_empty_of_size_eq_zero l1.symm
 obtain rfl:us'=#[]:=Array.eq_empty_of_size_eq_zero l2.symm
 obtain⟨xs,hrow,hfl,hm0⟩:=own_row (η:=fE [(900,⟨23,1,false,l.map cL_cF⟩)]) (hargs 0 _ v rfl rfl) rfl (hM.ok 900 _ rfl) (by simp)
 simp only at hrow hfl
 have hat:∀ (k:Nat) (y:List Fact) (u:Value),l[k]?=some y→xs[k]?=some u→u.oneCell'=true∧RV w (shp (fE [(900,⟨23,1,false,l.map cL_cF⟩)])) m (.sl 2 (y.map cF)) u:=by
  intro k y u hy hu
  obtain⟨z,z1,z2,z3⟩:=(hfl.2 k (cL_cF y) (by simp[hy])).2 0 _ rfl
  simp only[Nat.mul_one,Nat.add_zero,List.getElem?_toArray]at z1
  rw[hu]at z1
  injection z1 with z1
  rw[z1]
  exact⟨z2,z3⟩
 refine(sortL_calls v l xs w hrow h0 (fun g hvg k y u hy hu=>?_)).mono ?_
 ·obtain⟨a1,a2⟩:=hat k y u hy hu
  refine⟨a1,fun W hW hc=>rv_factsF (rv_keep (.sl (frl_cF _)) a2 hW (fun b hb hno=>hc b hb (fun e=>hno ?_)) (fun _ _ h=>h)) (h1 y (List.mem_of_getElem? hy))⟩
  subst e
  exact .inr ⟨900,blk_live.2 (by simp[fE_live,keys]),by rw[hm0];exact hvg⟩
 ·rintro e w' ⟨rfl,ys,ho,hgr,hsh,hperm⟩
  have hlen:=sortLL_length l
  refine⟨_,m,rfl,gr_kept hM hg hm0 ho hgr hsh (by rw[lM_,hlen]) (fun m'=>.tup rfl (fun j x u hx=>by simp at hx)) (fun k e he=>?_)⟩
  obtain⟨y,hy,rfl⟩:=get_map he
  obtain⟨u,q,q1,q2,q3⟩:=hperm k y hy
  obtain⟨a1,a2⟩:=hat q y u q3 q2
  refine⟨rfl,fun j a hj=>?_⟩
  cases j with
  | zero =>
   simp only[cL_cF,List.getElem?_cons_zero,Option.some.injEq]at hj
   subst hj
   exact⟨.sl (frl_cF _),u,by simpa using q1,a1,a2⟩
  | succ j=>simp[cL_cF]at hj
end Go.Proofs.YtinknhophadbkaaGreatDoor.Am
namespace Go.Proofs.YtinknhophadbkaaGreatDoor
open Go.RowKit
def insF (l:List Fact)(i:Nat)(x:Fact):List Fact:=l.take i++x :: l.drop i
theorem insF_len (l:List Fact)(i:Nat)(x:Fact)(h:i≤l.length):(insF l i x).length=l.length+1:=by
 simp[insF];omega
theorem factCells_drop (l:List Fact):∀ n,(factCells l).drop (n*2)=factCells (l.drop n):=by
 induction l with
 | nil=>intro n;simp[factCells]
 | cons x r ih =>
  intro n
  cases n with
  | zero=>simp[factCells]
  | succ n=>rw[show(n+1)*2=n*2+1+1 from by omega];simp only[factCells,List.drop_succ_cons,ih]
set_option maxHeartbeats 4000000 in
set_option maxRecDepth 100000 in
theorem insert_room (g cap n i vb:Nat)(cur:Array Value)(l:List Fact)(x1 x2:Int)(w:World)(hn:l.length=n)(hi:i<n)(hcap:n+1≤cap)(hmax:cap≤maxLen)
  (hg:w.heap[g]?=some (.cells cur 47 (0,0))) (hsz:cur.size=cap*2) (htake:cur.toList.take (n*2)=factCells l)
  (hvb:w.heap[vb]?=some (.cells #[.int .i64 x1,.int .i64 x2] 47 (0,0))) (hne:vb≠g) :
  Calls Tryz.prog 141 #[.slice (some ⟨g,0,none⟩) n cap,.int .i64 i,.slice (some ⟨vb,0,none⟩) 1 1] w fun e w' =>
   e=.returned (.slice (some ⟨g,0,none⟩) (n+1) cap)∧(∃ new:Array Value,w'.heap[g]?=some (.cells new 47 (0,0))∧new.size=cap*2∧new.toList.take ((n+1)*2)=factCells (insF l i (x1,x2)))∧w.grownBy w' (some g):=by
 unfold maxLen at hmax
 have hov:∀ (W:World) lb cb,W.heap=w.heap→(callFunc 149 #[.slice (some ⟨vb,0,none⟩) 1 1,.slice (some ⟨g,(i+1)*2,none⟩) lb cb]).run Tryz.prog W=.ok (.value (.bool false)) W:=fun W lb cb hW=>by
  rw[run_callFunc_extern Tryz.func149 (by kernel_rfl) (by kernel_rfl) (by kernel_rfl) (e:=Extern.SlicesOverlaps.overlaps #[23,23] #[4]) (by kernel_rfl),
   Lib.run_overlaps_apart W 23 4 47 Tryz.underlying23 2 (fun _=>by kernel_rfl) ⟨vb,0,none⟩ ⟨g,(i+1)*2,none⟩ 1 1 lb cb hne 47 47 2 (cap*2) (by simp[World.shape?,hW,hvb]) (by simp[World.shape?,hW,hg,hsz]) (by omega) (by simp[World.frozen?,hW,hvb]) (by simp[World.frozen?,hW,hvb])]
  rfl
 have hlen:cur.toList.length=cap*2:=by simpa using hsz
 have hfl:(factCells l).length=n*2:=by rw[factCells_length,hn]
 have hdl:(factCells (l.drop i)).length=(n-i)*2:=by rw[factCells_length,List.length_drop,hn]
 have hB:(cur.toList.drop (i*2)).take ((n-i)*2)=factCells (l.drop i):=by
  rw[← factCells_drop,← htake,List.drop_take]
  congr 1
  omega
 obtain⟨C1,hC1⟩:∃ C1:Array Value,C1=(cur.toList.take ((i+1)*2)++factCells (l.drop i)++cur.toList.drop ((i+1)*2+(factCells (l.drop i)).length)).toArray:=⟨_,rfl⟩
 obtain⟨C2,hC2⟩:∃ C2:Array Value,C2=(C1.toList.take (i*2)++factCells [(x1,x2)]++C1.toList.drop (i*2+(factCells [(x1,x2)]).length)).toArray:=⟨_,rfl⟩
 have hC1s:C1.size=cap*2:=by
  rw[hC1]
  simp only[List.size_toArray,lA_,List.length_take,List.length_drop,hlen,hdl]
  omega
 have hx2:(factCells [(x1,x2)]).length=2:=rfl
 have htwo:=two_copies cur.toList (factCells (l.drop i)) (factCells [(x1,x2)]) (i*2) (by rw[hlen,hdl,hx2];omega)
 have hC2':C2.toList=cur.toList.take (i*2)++factCells [(x1,x2)]++factCells (l.drop i)++cur.toList.drop (i*2+2+(factCells (l.drop i)).length):=by
  rw[hC2,List.toList_toArray,hC1,List.toList_toArray,show(i+1)*2=i*2+2 by omega]
  exact htwo
 have hti:cur.toList.take (i*2)=factCells (l.take i):=by
  rw[← factCells_take,← htake,List.take_take]
  congr 1
  omega
 have hfin:C2.size=cap*2∧C2.toList.take ((n+1)*2)=factCells (insF l i (x1,x2)):=by
  have e:factCells (insF l i (x1,x2))=cur.toList.take (i*2)++factCells [(x1,x2)]++factCells (l.drop i):=by
   rw[hti,insF,factCells_append,show(x1,x2) :: l.drop i=[(x1,x2)]++l.drop i from rfl,factCells_append,List.append_assoc]
  constructor
  ·have:C2.toList.length=cap*2:=by
    rw[hC2']
    simp only[lA_,List.length_take,List.length_drop,hlen,hdl,hx2]
    omega
   simpa using this
  ·rw[hC2',e,List.take_append_of_le_length,tL_]
   ·simp only[lA_,List.length_take,hlen,hdl,hx2];omega
   ·simp only[lA_,List.length_take,hlen,hdl,hx2];omega
 have hsrc1:∀ j u,(factCells (l.drop i))[j]?=some u→cur.toList[i*2+j]?=some u:=by
  intro j u hu
  rw[← hB,List.getElem?_take]at hu
  split at hu
  ·rwa [List.getElem?_drop]at hu
  ·cases hu
 have hmin1:Nat.min (n+1-i) (n-i)=n-i:=by simp only[Nat.min_def];split <;> omega
 have hmin2:Nat.min 1 (n+1-i)=1:=by simp only[Nat.min_def];split <;> omega
 have hcut1:¬ (cap=i+1):=by omega
 have hcut2:¬ (cap=i):=by omega
 have hz2:¬ ((i:Int)=(n:Int)):=by omega
 have hz3:¬ ((cap:Int)<(n:Int)+1):=by omega
 have hw1:IntKind.i64.wrap ((i:Int)+1)=(i:Int)+1:=by rw[IntKind.wrap_i64];omega
 have hb1:(0:Int)≤(i:Int)+1:=by omega
 have htn:((i:Int)+1).toNat=i+1:=by omega
 have hin:i≤n:=by omega
 have hinI:(i:Int)≤n:=by omega
 have hb3:(i:Int)≤(n:Int)+1:=by omega
 have hc63:(cap:Int)≤9223372036854775807:=by omega
 have HOV:=Lib.hid hov
 have HLEN:=Lib.hid hlen
 have HFL:=Lib.hid hfl
 have HDL:=Lib.hid hdl
 have HBB:=Lib.hid hB
 have HC1:=Lib.hid hC1
 have HC2:=Lib.hid hC2
 have HC1S:=Lib.hid hC1s
 have HX2:=Lib.hid hx2
 have HTWO:=Lib.hid htwo
 have HC2':=Lib.hid hC2'
 have HTI:=Lib.hid hti
 have HFIN:=Lib.hid hfin
 have HSRC1:=Lib.hid hsrc1
 have HMIN1:=Lib.hid hmin1
 have HMIN2:=Lib.hid hmin2
 have HG:=Lib.hid hg
 have HSZ:=Lib.hid hsz
 have HTAKE:=Lib.hid htake
 have HVB:=Lib.hid hvb
 have HN:=Lib.hid hn
 clear hov hlen hfl hdl hB hC1 hC2 hC1s hx2 htwo hC2' hti hfin hsrc1 hmin1 hmin2 hg hsz htake hvb hn
 go_enter Tryz.func141,Tryz.ntmps141
 go_wp2_with (rw[HOV.out _ _ _ rfl])
 go_region_law (refine step_copyK rfl (.tmp 73) (.tmp 76) 23 23 rfl 47 2 Tryz.underlying23 (by kernel_rfl) g ((i+1)*2) (n-i) (cap-(i+1)) ⟨g,i*2,none⟩ (n+1-i) (cap-i) (by simp[Act.eval,Act.put]) (by simp[Act.eval,Act.put]) cur C1 47 HG.out (factCells (l.drop i)) (by rw[HMIN1.out];exact HDL.out) (cells_at (w:=w) HG.out _ _ HSRC1.out) (by rw[HDL.out,HSZ.out];omega) (factCells_one _) (by rw[HC1.out]) ?_;intro w2 hg2 hgr2)
 all_goals
  have hvb2:w2.heap[vb]?=some (.cells #[.int .i64 x1,.int .i64 x2] 47 (0,0)):=by
   rw[hgr2.out.block vb (Array.getElem?_eq_some_iff.1 HVB.out).1 (fun e=>hne (by injection e))]
   exact HVB.out
  have HVB2:=Lib.hid hvb2
  clear hvb2
  go_wp2_with (refine wpList_copyK rfl (.tmp 80) (.tmp 81) 23 23 rfl 47 2 Tryz.underlying23 (by kernel_rfl) g (i*2) (n+1-i) (cap-i) ⟨vb,0,none⟩ 1 1 rfl rfl C1 C2 47 hg2.out (factCells [(x1,x2)]) (by rw[HMIN2.out];rfl) (cells_at HVB2.out 0 _ (fun j u hu=>by simpa [factCells] using hu)) (by rw[HX2.out,HC1S.out];omega) (factCells_one _) (by rw[HC2.out]) ?_;intro w3 hg3 hgr3)
  go_ret
  refine⟨rfl,⟨C2,hg3.out,HFIN.out.1,HFIN.out.2⟩,?_⟩
  exact World.grownBy.trans (grown_undrew hgr2.out) hgr3.out
set_option maxHeartbeats 4000000 in
set_option maxRecDepth 100000 in
theorem insert_grow (g cap n i vb:Nat)(cur:Array Value)(l:List Fact)(x1 x2:Int)(w:World)(hn:l.length=n)(hi:i<n)(hcap:cap<n+1)(hnc:n≤cap)(hroom:(n+1)*16≤140737488355328)
  (hg:w.heap[g]?=some (.cells cur 47 (0,0))) (hsz:cur.size=cap*2) (htake:cur.toList.take (n*2)=factCells l)
  (hvb:w.heap[vb]?=some (.cells #[.int .i64 x1,.int .i64 x2] 47 (0,0))) :
  Calls Tryz.prog 141 #[.slice (some ⟨g,0,none⟩) n cap,.int .i64 i,.slice (some ⟨vb,0,none⟩) 1 1] w fun e w' =>
   ∃ cap2,e=.returned (.slice (some ⟨w.heap.size,0,none⟩) (n+1) cap2)∧n+1≤cap2∧cap2≤maxLen∧(∃ new:Array Value,w'.heap[w.heap.size]?=some (.cells new 47 (0,0))∧new.size=cap2*2∧new.toList.take ((n+1)*2)=factCells (insF l i (x1,x2)))∧w.grownBy w' (some w.heap.size):=by
 obtain⟨i0,hi0,hz0,hzs,hzb⟩:=info_parts factInfo
 have hlen:cur.toList.length=cap*2:=by simpa using hsz
 have hdl:(factCells (l.drop i)).length=(n-i)*2:=by rw[factCells_length,List.length_drop,hn]
 have hti:(factCells (l.take i)).length=i*2:=by rw[factCells_length,List.length_take,hn];omega
 have hx2:(factCells [(x1,x2)]).length=2:=rfl
 have hcur:∀ (j:Nat) (u:Value),(factCells l)[j]?=some u→cur.toList[j]?=some u:=by
  intro j u hu
  rw[← htake,List.getElem?_take]at hu
  split at hu
  ·exact hu
  ·cases hu
 have hsrc0:∀ j u,(factCells (l.take i))[j]?=some u→cur.toList[0+j]?=some u:=by
  intro j u hu
  rw[← factCells_take,List.getElem?_take]at hu
  split at hu
  ·rw[Nat.zero_add];exact hcur j u hu
  ·cases hu
 have hsrc1:∀ j u,(factCells (l.drop i))[j]?=some u→cur.toList[i*2+j]?=some u:=by
  intro j u hu
  rw[← factCells_drop,List.getElem?_drop]at hu
  exact hcur _ u hu
 have hold:∀ W:World,W.heap=w.heap→(Builtin.firstCells i0.size i (.slice (some ⟨g,0,none⟩) i cap)).run Tryz.prog W=.ok (factCells (l.take i)).toArray W:=fun W hW=>by
  rw[hzs]
  exact run_firstCells_some W 2 i ⟨g,0,none⟩ i cap (factCells (l.take i)) hti (cells_at (by rw[hW];exact hg) 0 _ hsrc0)
 obtain⟨G,hG⟩:∃ G,G=grownCap w (n+1) cap 47:=⟨_,rfl⟩
 have hGn:n+1≤G:=by rw[hG];exact grownCap_ge w _ _ _
 have hGm:G≤maxLen:=by rw[hG];exact grownCap_le_maxLen w _ _ _ (by unfold maxLen;omega)
 obtain⟨C0,hC0⟩:∃ C0:Array Value,C0=(factCells (l.take i)).toArray++Builtin.zeroCells (Value.agg #[.int .i64 0,.int .i64 0]).cells (n+1-i)++Builtin.zeroCells (Value.agg #[.int .i64 0,.int .i64 0]).cells (G-(n+1)):=⟨_,rfl⟩
 have hzc:∀ k,(Builtin.zeroCells (Value.agg #[.int .i64 0,.int .i64 0]).cells k).size=k*2:=fun k=>by
  have:(Value.agg #[.int .i64 0,.int .i64 0]).cells.size=2:=by kernel_rfl
  simp[Builtin.zeroCells,this]
 have hC0s:C0.size=G*2:=by
  rw[hC0]
  simp only[Array.size_append,hzc,List.size_toArray,hti]
  omega
 have hrz:∀ ty,(Builtin.append_ #[23,3] ty #[.slice (some ⟨g,0,none⟩) i cap,.int .i64 ((n:Int)+1-(i:Int))]).run Tryz.prog w =
   .ok (.slice (some ⟨w.heap.size,0,none⟩) (n+1) G) (w.drew.alloc (.cells C0 47)):=fun ty=>by
  have h:=Lib.run_append_grow_zeros w 23 3 ty 47 i0 _ .i64 .i64 Tryz.underlying23 Tryz.underlying3 hi0 hz0 (some ⟨g,0,none⟩) i cap (factCells (l.take i)) (hold w.drew rfl) (n+1-i) (by omega) (by omega) (by omega) (by omega) (by rw[hzb];omega) (by rw[hzb,show i+(n+1-i)=n+1 by omega];exact growslice_fits hcap hroom)
  rw[show i+(n+1-i)=n+1 by omega,← hG,← hC0]at h
  rw[show(n:Int)+1-(i:Int)=((n+1-i:Nat):Int)by omega]
  exact h
 obtain⟨C1,hC1⟩:∃ C1:Array Value,C1=(C0.toList.take (i*2)++factCells [(x1,x2)]++C0.toList.drop (i*2+(factCells [(x1,x2)]).length)).toArray:=⟨_,rfl⟩
 obtain⟨C2,hC2⟩:∃ C2:Array Value,C2=(C1.toList.take ((i+1)*2)++factCells (l.drop i)++C1.toList.drop ((i+1)*2+(factCells (l.drop i)).length)).toArray:=⟨_,rfl⟩
 have hC0l:C0.toList.length=G*2:=by simpa using hC0s
 have hC1s:C1.size=G*2:=by
  rw[hC1]
  simp only[List.size_toArray,lA_,List.length_take,List.length_drop,hC0l,hx2]
  omega
 have hC1l:C1.toList.length=G*2:=by simpa using hC1s
 have hC2s:C2.size=G*2:=by
  rw[hC2]
  simp only[List.size_toArray,lA_,List.length_take,List.length_drop,hC1l,hdl]
  omega
 have hfin:C2.toList.take ((n+1)*2)=factCells (insF l i (x1,x2)):=by
  have e:factCells (insF l i (x1,x2))=factCells (l.take i)++factCells [(x1,x2)]++factCells (l.drop i):=by
   rw[insF,factCells_append,show(x1,x2) :: l.drop i=[(x1,x2)]++l.drop i from rfl,factCells_append,List.append_assoc]
  have e0:C0.toList.take (i*2)=factCells (l.take i):=by
   rw[hC0,Array.toList_append,Array.toList_append,List.toList_toArray,List.append_assoc,List.take_append_of_le_length (by omega),tL_ (by omega)]
  have e1:C1.toList.take ((i+1)*2)=factCells (l.take i)++factCells [(x1,x2)]:=by
   rw[hC1,List.toList_toArray,e0,List.take_append_of_le_length (by rw[lA_,hti,hx2];omega),tL_ (by rw[lA_,hti,hx2];omega)]
  rw[hC2,List.toList_toArray,e1,e,List.take_append_of_le_length (by simp only[lA_,hti,hx2,hdl];omega),tL_ (by simp only[lA_,hti,hx2,hdl];omega)]
 have hgw:g<w.heap.size:=(Array.getElem?_eq_some_iff.1 hg).1
 have hvw:vb<w.heap.size:=(Array.getElem?_eq_some_iff.1 hvb).1
 have hmin1:Nat.min (n-i) (n-i)=n-i:=by simp only[Nat.min_def];split <;> omega
 have hmin2:Nat.min 1 (n+1-i)=1:=by simp only[Nat.min_def];split <;> omega
 have hcut0:¬ (cap=i):=by omega
 have hcut1:¬ (G=i+1):=by omega
 have hcut2:¬ (G=i):=by omega
 have hz2:¬ ((i:Int)=(n:Int)):=by omega
 have hz3:(cap:Int)<(n:Int)+1:=by omega
 have hw1:IntKind.i64.wrap ((i:Int)+1)=(i:Int)+1:=by rw[IntKind.wrap_i64];omega
 have hb1:(0:Int)≤(i:Int)+1:=by omega
 have htn:((i:Int)+1).toNat=i+1:=by omega
 have hin:i≤n:=by omega
 have hinI:(i:Int)≤n:=by omega
 have hb3:(i:Int)≤(n:Int)+1:=by omega
 have hic:i≤cap:=by omega
 have hG63:(G:Int)≤9223372036854775807:=by unfold maxLen at hGm;omega
 have hB0:Hid (w.grownBy (w.drew.alloc (.cells C0 47)) (some w.heap.size)):=grown_undrew (World.grownBy_alloc w.drew _ _)
 have hg0:Hid ((w.drew.alloc (.cells C0 47)).heap[w.heap.size]?=some (.cells C0 47 (0,0))):=heap_alloc_new w.drew _
 have hvbA:Hid ((w.alloc (.cells C0 47)).heap[vb]?=some (.cells #[.int .i64 x1,.int .i64 x2] 47 (0,0))):=by
  show _=_
  rw[(World.grownBy_alloc w (.cells C0 47) none).block vb hvw (by simp)]
  exact hvb
 have HLEN:=Lib.hid hlen
 have HDL:=Lib.hid hdl
 have HTI:=Lib.hid hti
 have HX2:=Lib.hid hx2
 have HCUR:=Lib.hid hcur
 have HSRC0:=Lib.hid hsrc0
 have HSRC1:=Lib.hid hsrc1
 have HOLD:=Lib.hid hold
 have HGG:=Lib.hid hG
 have HC0:=Lib.hid hC0
 have HZC:=Lib.hid hzc
 have HC0S:=Lib.hid hC0s
 have HRZ:=Lib.hid hrz
 have HC1:=Lib.hid hC1
 have HC2:=Lib.hid hC2
 have HC0L:=Lib.hid hC0l
 have HC1S:=Lib.hid hC1s
 have HC1L:=Lib.hid hC1l
 have HC2S:=Lib.hid hC2s
 have HFIN:=Lib.hid hfin
 have HMIN1:=Lib.hid hmin1
 have HMIN2:=Lib.hid hmin2
 have HG:=Lib.hid hg
 have HSZ:=Lib.hid hsz
 have HTAKE:=Lib.hid htake
 have HVB:=Lib.hid hvb
 have HN:=Lib.hid hn
 clear hlen hdl hti hx2 hcur hsrc0 hsrc1 hold hG hC0 hzc hC0s hrz hC1 hC2 hC0l hC1s hC1l hC2s hfin hmin1 hmin2 hg hsz htake hvb hn
 clear hi0 hz0 hzs hzb
 go_enter Tryz.func141,Tryz.ntmps141
 go_wp2_with (first
  | (at_builtin;refine Lib.wpList_append_run _ rfl _ _ _ _ rfl _ _ rfl rfl _ _ (HRZ.out _) ?_)
  | (refine wpList_copyK rfl (.tmp 43) (.tmp 44) 23 23 rfl 47 2 Tryz.underlying23 (by kernel_rfl) w.heap.size (i*2) (n+1-i) (G-i) ⟨vb,0,none⟩ 1 1 rfl rfl C0 C1 47 hg0.out (factCells [(x1,x2)]) (by rw[HMIN2.out];rfl) (cells_at (w:=(w.alloc (.cells C0 47)).drew) (hvbA.out) 0 _ (fun j u hu=>by simpa [factCells] using hu)) (by rw[HX2.out,HC0S.out];omega) (factCells_one _) (by rw[HC1.out]) ?_;intro w2 hg2 hgr2))
 have hgr2':Hid (w.grownBy w2 (some w.heap.size)):=World.grownBy.trans hB0.out (grown_undrew2 hgr2.out)
 have hgg2:Hid (w2.heap[g]?=some (.cells cur 47 (0,0))):=by
  show _=_
  rw[hgr2'.out.block g hgw (fun e=>by injection e;omega)]
  exact HG.out
 clear hgr2
 go_region_law (refine step_copyK rfl (.tmp 50) (.tmp 53) 23 23 rfl 47 2 Tryz.underlying23 (by kernel_rfl) w.heap.size ((i+1)*2) (n-i) (G-(i+1)) ⟨g,i*2,none⟩ (n-i) (cap-i) (by simp[Act.eval,Act.put]) (by simp[Act.eval,Act.put]) C1 C2 47 hg2.out (factCells (l.drop i)) (by rw[HMIN1.out];exact HDL.out) (cells_at hgg2.out _ _ HSRC1.out) (by rw[HDL.out,HC1S.out];omega) (factCells_one _) (by rw[HC2.out]) ?_;intro w3 hg3 hgr3)
 all_goals
  go_wp2_with fail
  go_ret
  exact⟨G,rfl,hGn,hGm,⟨C2,hg3.out,HC2S.out,HFIN.out⟩,World.grownBy.trans hgr2'.out (grown_undrew hgr3.out)⟩
theorem reads_block {w:World}{vb:Nat}{x1 x2:Int}(hvb:w.heap[vb]?=some (.cells #[.int .i64 x1,.int .i64 x2] 47 (0,0))):Reads w w.heap.size 2 (some ⟨vb,0,none⟩) 1 (factCells [(x1,x2)]) :=
 ⟨rfl,fun _=>⟨_,rfl,(Array.getElem?_eq_some_iff.1 hvb).1,cells_at hvb 0 _ (fun j u hu=>by simpa [factCells] using hu)⟩⟩
set_option maxHeartbeats 4000000 in
set_option maxRecDepth 100000 in
theorem insert_end (base vb:Nat)(v:Value)(l:List Fact)(x1 x2:Int)(w:World)(hown:OwnF w base v l)(hroom:(l.length+1)*16≤140737488355328)(hbase:base≤w.heap.size)
  (hvb:w.heap[vb]?=some (.cells #[.int .i64 x1,.int .i64 x2] 47 (0,0))) :
  Calls Tryz.prog 141 #[v,.int .i64 l.length,.slice (some ⟨vb,0,none⟩) 1 1] w fun e w'=>∃ v',e=.returned v'∧OwnF w' base v' (insF l l.length (x1,x2))∧Below base w w':=by
 obtain⟨i0,hi0,hz0,hz1,hz2⟩:=info_parts factInfo
 have hr:=reads_block hvb
 rcases id hown.2 with⟨rfl,h0⟩|⟨g,cap,cur,rfl,_,_,hnc,hm,_,_⟩
 ·have HR:=Lib.hid hr
  have HVB:=Lib.hid hvb
  have HOWN:=Lib.hid hown
  clear hr hvb hown
  obtain⟨n,hn⟩:∃ n,n=l.length:=⟨_,rfl⟩
  have hl:l=[]:=List.length_eq_zero_iff.1 h0
  subst hl
  clear h0 hn n
  simp only[List.length_nil,Int.natCast_zero]at *
  go_enter Tryz.func141,Tryz.ntmps141
  go_wp2_with (at_builtin;refine wpList_append_any _ rfl (.tmp 23) (.tmp 24) _ rfl base 47 i0 _ 2 16 Tryz.underlying23 hi0 hz0 hz1 hz2 rfl (by omega) _ 0 (factCells []) rfl HOWN.out _ _ 1 1 (factCells [(x1,x2)]) rfl HR.out (factCells_one _) (by simp only[maxLen];omega) (by omega) hbase ?_;intro v1 w1 hown1 hg1 hat1)
  go_ret
  exact⟨v1,rfl,hown1,below_of_grown hg1 hbase (fun k hk=>(HOWN.out.lt k hk).1)⟩
 ·have hown:w.ownsRow base 47 2 (.slice (some ⟨g,0,none⟩) l.length cap) l.length (factCells l):=hown
  generalize hnn:l.length=n at hnc hown hroom ⊢
  unfold maxLen at hm
  have hnI:(n:Int)≤(cap:Int):=by omega
  have e:factCells l++factCells [(x1,x2)]=factCells (insF l n (x1,x2)):=by rw[← factCells_append];simp[insF,← hnn]
  have e2:(insF l n (x1,x2)).length=n+1:=by simp[insF,← hnn]
  have HR:=Lib.hid hr
  have HVB:=Lib.hid hvb
  have HOWN:=Lib.hid hown
  have HNN:=Lib.hid hnn
  have HE:=Lib.hid e
  have HE2:=Lib.hid e2
  clear hr hvb hown hnn e e2
  by_cases hcc:cap=n
  ·subst hcc
   go_enter Tryz.func141,Tryz.ntmps141
   go_wp2_with (at_builtin;refine wpList_append_any _ rfl (.tmp 23) (.tmp 24) _ rfl base 47 i0 _ 2 16 Tryz.underlying23 hi0 hz0 hz1 hz2 rfl (by omega) _ cap (factCells l) rfl HOWN.out _ _ 1 1 (factCells [(x1,x2)]) rfl HR.out (factCells_one _) (by simp only[maxLen];omega) (by omega) hbase ?_;intro v1 w1 hown1 hg1 hat1)
   go_ret
   refine⟨v1,rfl,?_,below_of_grown hg1 hbase (fun k hk=>(HOWN.out.lt k hk).1)⟩
   rw[HE.out]at hown1
   unfold OwnF
   rw[HE2.out]
   exact hown1
  ·go_enter Tryz.func141,Tryz.ntmps141
   go_wp2_with (at_builtin;refine wpList_append_any _ rfl (.tmp 23) (.tmp 24) _ rfl base 47 i0 _ 2 16 Tryz.underlying23 hi0 hz0 hz1 hz2 rfl (by omega) _ n (factCells l) rfl HOWN.out _ _ 1 1 (factCells [(x1,x2)]) rfl HR.out (factCells_one _) (by simp only[maxLen];omega) (by omega) hbase ?_;intro v1 w1 hown1 hg1 hat1)
   go_ret
   refine⟨v1,rfl,?_,below_of_grown hg1 hbase (fun k hk=>(HOWN.out.lt k hk).1)⟩
   rw[HE.out]at hown1
   unfold OwnF
   rw[HE2.out]
   exact hown1
theorem insert_calls (base vb i:Nat)(v:Value)(l:List Fact)(x1 x2:Int)(w:World)(hown:OwnF w base v l)(hi:i≤l.length)(hroom:(l.length+1)*16≤140737488355328)(hbase:base≤w.heap.size)
  (hvb:w.heap[vb]?=some (.cells #[.int .i64 x1,.int .i64 x2] 47 (0,0))) (hne:∀ g,v.ownBlock=some g→vb≠g) :
  Calls Tryz.prog 141 #[v,.int .i64 i,.slice (some ⟨vb,0,none⟩) 1 1] w fun e w'=>∃ v',e=.returned v'∧OwnF w' base v' (insF l i (x1,x2))∧Below base w w':=by
 by_cases hin:i=l.length
 ·subst hin
  exact insert_end base vb v l x1 x2 w hown hroom hbase hvb
 ·rcases id hown.2 with⟨rfl,h0⟩|⟨g,cap,cur,rfl,hbg,hg,hnc,hm,hcs,htake⟩
  ·omega
  ·have hlen:=insF_len l i (x1,x2) hi
   by_cases hc:l.length+1≤cap
   ·refine(insert_room g cap l.length i vb cur l x1 x2 w rfl (by omega) hc hm hg hcs htake hvb (hne g rfl)).mono ?_
    rintro e w' ⟨rfl,⟨new,hn1,hn2,hn3⟩,hgr⟩
    refine⟨_,rfl,?_,below_of_grown hgr hbase (fun k hk=>by injection hk with hk;omega)⟩
    unfold OwnF
    rw[hlen]
    exact⟨by rw[factCells_length,hlen],.inr ⟨g,cap,new,rfl,hbg,hn1,hc,hm,hn2,hn3⟩⟩
   ·refine(insert_grow g cap l.length i vb cur l x1 x2 w rfl (by omega) (by omega) hnc hroom hg hcs htake hvb).mono ?_
    rintro e w' ⟨cap2,rfl,hc1,hc2,⟨new,hn1,hn2,hn3⟩,hgr⟩
    refine⟨_,rfl,?_,below_of_grown hgr hbase (fun k hk=>by injection hk with hk;omega)⟩
    unfold OwnF
    rw[hlen]
    exact⟨by rw[factCells_length,hlen],.inr ⟨w.heap.size,cap2,new,rfl,hbase,hn1,hc1,hc2,hn2,hn3⟩⟩
end Go.Proofs.YtinknhophadbkaaGreatDoor
namespace Go.Proofs.YtinknhophadbkaaGreatDoor
open Go.RowKit
abbrev AscW (l:List Fact):Prop:=l.Pairwise fun a b=>a.1<b.1
def posF : List Fact→Int→Nat
 | [],_=>0
 | x :: r,v=>if x.1<v then posF r v+1 else 0
theorem posF_le (l:List Fact)(v:Int):posF l v≤l.length:=by
 induction l with
 | nil=>simp[posF]
 | cons x r ih=>rw[posF];split <;> simp <;> omega
def pwithF (l:List Fact)(x:Fact):List Fact:=insF l (posF l x.1) x
theorem pwithF_mem (l:List Fact)(x z:Fact):z∈pwithF l x↔z∈l∨z=x:=by
 unfold pwithF insF
 have h:=List.take_append_drop (posF l x.1) l
 constructor
 ·intro hz
  rcases List.mem_append.1 hz with hz|hz
  ·exact .inl (List.mem_of_mem_take hz)
  ·rcases List.mem_cons.1 hz with hz|hz
   ·exact .inr hz
   ·exact .inl (List.mem_of_mem_drop hz)
 ·rintro(hz|hz)
  ·rw[← h]at hz
   rcases List.mem_append.1 hz with hz|hz
   ·exact List.mem_append.2 (.inl hz)
   ·exact List.mem_append.2 (.inr (List.mem_cons_of_mem _ hz))
  ·subst hz;simp
theorem pwithF_asc (l:List Fact)(x:Fact)(h:AscW l)(hx:∀ z∈l,z.1≠x.1):AscW (pwithF l x):=by
 induction l with
 | nil=>simp[pwithF,insF,posF,AscW]
 | cons y r ih =>
  obtain⟨h1,h2⟩:=List.pairwise_cons.1 h
  unfold pwithF
  rw[posF]
  split
  ·rename_i hlt
   have e:insF (y :: r) (posF r x.1+1) x=y :: pwithF r x:=by simp[insF,pwithF]
   rw[e]
   refine List.pairwise_cons.2 ⟨fun z hz=>?_,ih h2 (fun z hz=>hx z (by simp[hz]))⟩
   rcases(pwithF_mem r x z).1 hz with hz|hz
   ·exact h1 z hz
   ·subst hz;exact hlt
  ·rename_i hge
   have hne:=hx y (by simp)
   have e:insF (y :: r) 0 x=x :: y :: r:=by simp[insF]
   rw[e]
   refine List.pairwise_cons.2 ⟨fun z hz=>?_,h⟩
   rcases List.mem_cons.1 hz with hz|hz
   ·subst hz;omega
   ·have:=h1 z hz;omega
theorem pwithF_len (l:List Fact)(x:Fact):(pwithF l x).length=l.length+1:=insF_len l _ x (posF_le l _)
theorem posF_take (l:List Fact)(v:Int)(k:Nat)(h:posF l v=k+posF (l.drop k) v)(x:Fact)(hx:l.drop k=x :: l.drop (k+1)) :
  posF l v=if x.1<v then k+1+posF (l.drop (k+1)) v else k:=by
 rw[hx,posF]at h
 split at h
 ·rw[if_pos (by assumption)];omega
 ·rw[if_neg (by assumption)];omega
set_option maxHeartbeats 2000000 in
theorem pwith_calls (v:Value)(l:List Fact)(x1 x2:Int)(w:World)(hv:FactsAt w v l)(hroom:(l.length+1)*16≤140737488355328) :
  Calls Tryz.prog 126 #[v,.agg #[.int .i64 x1,.int .i64 x2]] w fun e w'=>∃ v',e=.returned v'∧OwnF w' w.heap.size v' (pwithF l (x1,x2))∧Below w.heap.size w w':=by
 obtain⟨A,n,c,rfl,hn,hm⟩:=hv.form
 have HV:=Lib.hid hv
 have HN:=Lib.hid hn
 clear hv hn
 go_enter Tryz.func126,Tryz.ntmps126
 go_wp2
 go_loopg [5] n (fun g i wr=>∃ k:Nat,k≤n∧g=n-k∧i=.int .i64 k∧Below w.heap.size w wr∧wr.heap[w.heap.size]?=some (.cells #[.int .i64 x1,.int .i64 x2] 47 (0,0))∧posF l x1=k+posF (l.drop k) x1)
 case atStart=>exact⟨0,Nat.zero_le _,by omega,rfl,belowA (Below.refl _ _) _,heap_alloc_new _ _,by simp⟩
 case round =>
  obtain⟨k,hk,hg,rfl,hB,hbox,hF⟩:=hrel
  have q0:wr.cell? ⟨w.heap.size,0,none⟩=some (.int .i64 x1):=by simp[World.cell?,hbox]
  have q1:wr.cell? ⟨w.heap.size,1,none⟩=some (.int .i64 x2):=by simp[World.cell?,hbox]
  have HG:=Lib.hid hg
  have HF:=Lib.hid hF
  have HBOX:=Lib.hid hbox
  clear hg hF hbox
  by_cases hlt:k<n
  ·obtain⟨bb,off,y1,y2,rfl,c0,c1,hx,hd⟩:=(HV.out.keep hB).at hlt
   have hst:=posF_take l x1 k HF.out (y1,y2) hd
   simp only at hst
   have HX:=Lib.hid hx
   have HD:=Lib.hid hd
   have HST:=Lib.hid hst
   clear hx hd hst
   have d0:decide (k<n)=true:=by simpa using hlt
   go_upto_if 19 with fail
   go_cut [19] (fun s wx=>s=.bool (decide (y1<x1))∧∃ q,wx=wr.drewN q)
   case first =>
    refine wp_region_quiet_lit (by kernel_rfl) (by kernel_rfl) ?_
    repeat (any_goals (first|go_big_quiet_step (fail)|quiet_step (fail)|(refine wpQuiet_step (fun K hK=>?_);go_simp;split <;> (refine hK _ ?_;clear hK K))))
    all_goals (refine wpQuiet_nil ?_;intro _ hw';obtain⟨nq,hw''⟩:=hw';subst hw'')
    all_goals (go_wp2_with fail;go_meet;exact⟨rfl,_,rfl⟩)
   case rest =>
    obtain⟨rfl,q,rfl⟩:=hcut
    by_cases hc:y1<x1
    ·have hnext:posF l x1=k+1+posF (l.drop (k+1)) x1:=by rw[HST.out,if_pos hc]
     have HNEXT:=Lib.hid hnext
     clear hnext
     go_wp2_with fail
     go_roundg (n-(k+1))
     case measure=>have:=HG.out;omega
     case rel=>exact⟨k+1,by omega,rfl,by go_num,below_drewN hB _,HBOX.out,HNEXT.out⟩
    ·have hpos:posF l x1=k:=by rw[HST.out,if_neg hc]
     have HPOS:=Lib.hid hpos
     clear hpos
     have hB':=below_drewN hB q
     have hB0:Below w.heap.size w (wr.drewN q):=hB'
     have hbox':((wr.drewN q)).heap[w.heap.size]?=some (.cells #[.int .i64 x1,.int .i64 x2] 47 (0,0)):=HBOX.out
     have hvk:FactsAt (wr.drewN q) _ l:=HV.out.keep hB'
     have HBB:=Lib.hid hB'
     have HBX:=Lib.hid hbox'
     have HVK:=Lib.hid hvk
     clear hB' hbox' hvk
     go_upto_region 4 with fail
     generalize (wr.drewN q)=W0 at hB0 HBX HVK ⊢
     have q0:W0.cell? ⟨w.heap.size,0,none⟩=some (.int .i64 x1):=by simp[World.cell?,HBX.out]
     have q1:W0.cell? ⟨w.heap.size,1,none⟩=some (.int .i64 x2):=by simp[World.cell?,HBX.out]
     generalize hBq:w.heap.size=B0 at *
     have HBQ:=Lib.hid hBq
     clear hBq
     go_region_held3 (fun w'=>w'.cell? ⟨B0,0,none⟩=some (.int .i64 x1)∧w'.cell? ⟨B0,1,none⟩=some (.int .i64 x2))
      (first|exact⟨s0,s1⟩|exact⟨kept (belowA (Below.refl _ _) _) r0,kept (belowA (Below.refl _ _) _) r1⟩|exact⟨r0,r1⟩|exact⟨q0,q1⟩|exact⟨kept ((belowA (Below.refl _ _) _).drew) q0,kept ((belowA (Below.refl _ _) _).drew) q1⟩|exact⟨kept (belowA (Below.refl _ _) _) q0,kept (belowA (Below.refl _ _) _) q1⟩)
      (first
       | (go_at_call 26;(with_reducible refine(cloneF_calls _ l _ (HVK.out.keep (Below.refl _ _).drew)).mono ?_);rintro e w1 ⟨v1,rfl,hown1,hb1⟩;have r0:=kept hb1 q0;have r1:=kept hb1 q1;have HOW1:=Lib.hid hown1;have HBW1:=Lib.hid hb1;clear hown1 hb1)
       | (go_at_call 141;(with_reducible refine(insert_calls W0.heap.size w1.heap.size k v1 l x1 x2 _ (ownF_keep HOW1.out (belowA (Below.refl _ _) _)) (by have:=posF_le l x1;have:=HPOS.out;omega) hroom (by have:=HBW1.out.size;simp at this ⊢;omega) (heap_alloc_new _ _) (fun g hg e=>by have:=(HOW1.out.lt g hg).2;omega)).mono ?_);rintro e w2 ⟨v2,rfl,hown2,hb2⟩;have HBW2:=Lib.hid (Below.trans HBW1.out (Below.trans (belowA (Below.refl _ _) _ |>.mono HBW1.out.size) hb2));have s0:=kept HBW2.out q0;have s1:=kept HBW2.out q1;have HOW2:=Lib.hid hown2;clear hown2 hb2)
       | (go_at_call 26;(with_reducible refine(cloneF_calls _ l _ (HVK.out.keep ((belowA (Below.refl _ _) (.cells #[.int .i64 x1,.int .i64 x2] 47)).drew))).mono ?_);rintro e w1 ⟨v1,rfl,hown1,hb1⟩;have HVB1:Hid (w1.heap[W0.heap.size]?=some (.cells #[.int .i64 x1,.int .i64 x2] 47 (0,0))):=(hb1.block W0.heap.size (by simp)).trans (heap_alloc_new W0 (.cells #[.int .i64 x1,.int .i64 x2] 47));have HBW1:Hid (Below W0.heap.size W0 w1):=belowT ((belowA (Below.refl W0.heap.size W0) (.cells #[.int .i64 x1,.int .i64 x2] 47)).drew) hb1;have HOW1:=Lib.hid hown1;have r0:=kept HBW1.out q0;have r1:=kept HBW1.out q1;clear hown1 hb1)
       | (go_at_call 141;(with_reducible refine(insert_calls W0.heap.size W0.heap.size k v1 l x1 x2 w1 (own_mono HOW1.out (by simp)) (by have:=posF_le l x1;have:=HPOS.out;omega) hroom HBW1.out.size HVB1.out (fun g hg e=>by have:=(HOW1.out.lt g hg).1;simp at this;omega)).mono ?_);rintro e w2 ⟨v2,rfl,hown2,hb2⟩;have HBW2:=Lib.hid (Below.trans HBW1.out hb2);have s0:=kept HBW2.out q0;have s1:=kept HBW2.out q1;have HOW2:=Lib.hid hown2;clear hown2 hb2)
       | fail)
     all_goals
      go_wp2_with fail
      go_ret
      have hBq:=HBQ.out
      subst hBq
      refine⟨v2,rfl,?_,by first|exact Below.trans hB0 (HBW2.out.mono hB0.size)|exact Below.trans hB0.drew (HBW2.out.mono hB0.size)⟩
      unfold pwithF
      rw[show posF l (x1,x2).1=k from HPOS.out]
      exact own_mono HOW2.out hB0.size
  ·have hpos:posF l x1=k:=by rw[HF.out,List.drop_eq_nil_of_le (by have:=HN.out;omega)];simp[posF]
   have HPOS:=Lib.hid hpos
   clear hpos
   have d0:decide (k<n)=false:=by simpa using hlt
   go_upto_if 19 with fail
   go_cut [19] (fun s wx=>s=.bool false∧∃ q,wx=wr.drewN q)
   case first =>
    refine wp_region_quiet_lit (by kernel_rfl) (by kernel_rfl) ?_
    repeat (any_goals (first|go_big_quiet_step (fail)|quiet_step (fail)|(refine wpQuiet_step (fun K hK=>?_);go_simp;split <;> (refine hK _ ?_;clear hK K))))
    all_goals (refine wpQuiet_nil ?_;intro _ hw';obtain⟨nq,hw''⟩:=hw';subst hw'')
    all_goals (go_wp2_with fail;go_meet;exact⟨rfl,_,rfl⟩)
   case rest =>
    obtain⟨rfl,q,rfl⟩:=hcut
    have hB':=below_drewN hB q
    have hB0:Below w.heap.size w (wr.drewN q):=hB'
    have hbox':((wr.drewN q)).heap[w.heap.size]?=some (.cells #[.int .i64 x1,.int .i64 x2] 47 (0,0)):=HBOX.out
    have hvk:FactsAt (wr.drewN q) _ l:=HV.out.keep hB'
    have HBB:=Lib.hid hB'
    have HBX:=Lib.hid hbox'
    have HVK:=Lib.hid hvk
    clear hB' hbox' hvk
    go_upto_region 4 with fail
    generalize (wr.drewN q)=W0 at hB0 HBX HVK ⊢
    have q0:W0.cell? ⟨w.heap.size,0,none⟩=some (.int .i64 x1):=by simp[World.cell?,HBX.out]
    have q1:W0.cell? ⟨w.heap.size,1,none⟩=some (.int .i64 x2):=by simp[World.cell?,HBX.out]
    generalize hBq:w.heap.size=B0 at *
    have HBQ:=Lib.hid hBq
    clear hBq
    go_region_held3 (fun w'=>w'.cell? ⟨B0,0,none⟩=some (.int .i64 x1)∧w'.cell? ⟨B0,1,none⟩=some (.int .i64 x2))
     (first|exact⟨s0,s1⟩|exact⟨kept (belowA (Below.refl _ _) _) r0,kept (belowA (Below.refl _ _) _) r1⟩|exact⟨r0,r1⟩|exact⟨q0,q1⟩|exact⟨kept ((belowA (Below.refl _ _) _).drew) q0,kept ((belowA (Below.refl _ _) _).drew) q1⟩|exact⟨kept (belowA (Below.refl _ _) _) q0,kept (belowA (Below.refl _ _) _) q1⟩)
     (first
      | (go_at_call 26;(with_reducible refine(cloneF_calls _ l _ (HVK.out.keep (Below.refl _ _).drew)).mono ?_);rintro e w1 ⟨v1,rfl,hown1,hb1⟩;have r0:=kept hb1 q0;have r1:=kept hb1 q1;have HOW1:=Lib.hid hown1;have HBW1:=Lib.hid hb1;clear hown1 hb1)
      | (go_at_call 141;(with_reducible refine(insert_calls W0.heap.size w1.heap.size k v1 l x1 x2 _ (ownF_keep HOW1.out (belowA (Below.refl _ _) _)) (by have:=posF_le l x1;have:=HPOS.out;omega) hroom (by have:=HBW1.out.size;simp at this ⊢;omega) (heap_alloc_new _ _) (fun g hg e=>by have:=(HOW1.out.lt g hg).2;omega)).mono ?_);rintro e w2 ⟨v2,rfl,hown2,hb2⟩;have HBW2:=Lib.hid (Below.trans HBW1.out (Below.trans (belowA (Below.refl _ _) _ |>.mono HBW1.out.size) hb2));have s0:=kept HBW2.out q0;have s1:=kept HBW2.out q1;have HOW2:=Lib.hid hown2;clear hown2 hb2)
      | (go_at_call 26;(with_reducible refine(cloneF_calls _ l _ (HVK.out.keep ((belowA (Below.refl _ _) (.cells #[.int .i64 x1,.int .i64 x2] 47)).drew))).mono ?_);rintro e w1 ⟨v1,rfl,hown1,hb1⟩;have HVB1:Hid (w1.heap[W0.heap.size]?=some (.cells #[.int .i64 x1,.int .i64 x2] 47 (0,0))):=(hb1.block W0.heap.size (by simp)).trans (heap_alloc_new W0 (.cells #[.int .i64 x1,.int .i64 x2] 47));have HBW1:Hid (Below W0.heap.size W0 w1):=belowT ((belowA (Below.refl W0.heap.size W0) (.cells #[.int .i64 x1,.int .i64 x2] 47)).drew) hb1;have HOW1:=Lib.hid hown1;have r0:=kept HBW1.out q0;have r1:=kept HBW1.out q1;clear hown1 hb1)
      | (go_at_call 141;(with_reducible refine(insert_calls W0.heap.size W0.heap.size k v1 l x1 x2 w1 (own_mono HOW1.out (by simp)) (by have:=posF_le l x1;have:=HPOS.out;omega) hroom HBW1.out.size HVB1.out (fun g hg e=>by have:=(HOW1.out.lt g hg).1;simp at this;omega)).mono ?_);rintro e w2 ⟨v2,rfl,hown2,hb2⟩;have HBW2:=Lib.hid (Below.trans HBW1.out hb2);have s0:=kept HBW2.out q0;have s1:=kept HBW2.out q1;have HOW2:=Lib.hid hown2;clear hown2 hb2)
      | fail)
    all_goals
     go_wp2_with fail
     go_ret
     have hBq:=HBQ.out
     subst hBq
     refine⟨v2,rfl,?_,by first|exact Below.trans hB0 (HBW2.out.mono hB0.size)|exact Below.trans hB0.drew (HBW2.out.mono hB0.size)⟩
     unfold pwithF
     rw[show posF l (x1,x2).1=k from HPOS.out]
     exact own_mono HOW2.out hB0.size
end Go.Proofs.YtinknhophadbkaaGreatDoor
namespace Go.Proofs.YtinknhophadbkaaGreatDoor.Am
open Go.RowKit
def M_with (l:List Fact)(x:Fact):Option (List Fact):=grd ((l.length+1)*16≤140737488355328) (some (pwithF l x))
theorem A_with (l:List Fact)(x:Fact){r:List Fact}(h:M_with l x=some r):ACallG cx 126 [.sl 2 (l.map cF),.agg [.c (.int .i64 x.1),.c (.int .i64 x.2)]] [] [] (.own 0 0 0 r.length) [(0,⟨47,2,false,r.map cF⟩)]:=by
 obtain⟨h0,h⟩:=grd_ok h
 have h:=sI_ h
 subst h
 refine⟨enter_g Tryz.func126 rfl (by decide),fun w m cargs hg hM hsz hargs=>?_⟩
 obtain⟨v,u,rfl⟩:=cargs2 hsz
 obtain⟨us,rfl,h1,h2⟩:=rv_agg (hargs 1 _ u rfl rfl)
 have hs:us.size=2:=h1.symm
 have g0:=rv_c (h2 0 _ us[0] rfl (Array.getElem?_eq_getElem (by omega)))
 have g1:=rv_c (h2 1 _ us[1] rfl (Array.getElem?_eq_getElem (by omega)))
 have hu:us=#[.int .i64 x.1,.int .i64 x.2]:=Array.ext (by simp[hs]) (fun i h1 h2=>by
  have:i=0∨i=1:=by omega
  rcases this with rfl|rfl
  ·simpa using g0
  ·simpa using g1)
 subst hu
 refine(pwith_calls v l x.1 x.2 w (rv_factsF (hargs 0 _ v rfl rfl) (by omega)) h0).mono ?_
 rintro e w' ⟨v',rfl,ho,hb⟩
 refine⟨v',⟨fun k=>if k=0 then v'.ownBlock else none,m.O⟩,rfl,?_⟩
 have hge:∀ b,v'.ownBlock=some b→w.heap.size≤b:=fun b hb=>by
  rcases ho.2 with⟨rfl,_⟩|⟨g,cap,cur,rfl,hbase,_⟩
  ·cases hb
  ·simp[Value.ownBlock]at hb;omega
 exact gr_row (i0:=0) (v:=.slice none 0 0) (row:=none) hM hg (.inl rfl) (own_mono ho (Nat.zero_le _)) ⟨hb.os,hb.tape,hb.output,hb.size,fun b hb' _=>hb.block b hb'⟩ (.inl rfl) (.inr hge) (lM_ _) (fun k e he=>cells_facts k e he)
end Go.Proofs.YtinknhophadbkaaGreatDoor.Am
namespace Go.Proofs.YtinknhophadbkaaGreatDoor.Am
structure MethP (P:Program)(T:TypeId)(name:String)(f:FuncId):Prop where
 run:∀ v w,(method (P.types.size+Made.depth) T v name).run P w=.ok (f,v) w
structure MethV (P:Program)(T e:TypeId)(name:String)(f:FuncId):Prop where
 run:∀ ad w,(method (P.types.size+Made.depth) T (.pointer (some ad)) name).run P w=(do let v←loadVar e ad;pure (f,v)).run P w
theorem MethV.at {P:Program}{T e:TypeId}{name:String}{f:FuncId}(h:MethV P T e name f){ad:Addr}{v:Value}{w:World}(hl:(loadVar e ad).run P w=.ok v w):(method (P.types.size+Made.depth) T (.pointer (some ad)) name).run P w=.ok (f,v) w:=by
 rw[h.run,Sem.run_bind,hl]
 rfl
theorem run_inv {P:Program}{o:Oper}{c:Operand}{name:String}{os:Array Operand}{ats:Array TypeId}{T:TypeId}{u v:Value}{f:FuncId}{a:Act}{w:World}(ho:o.op=.call ⟨.invoke c name,os,ats⟩)(hc:a.eval c=.iface T u)
  (hm:(method (P.types.size+Made.depth) T u name).run P w=.ok (f,v) w) (hf:∀ (vs:Array Value) (w:World),(callFunc f vs).run P w=.ok (.enter f vs) w):(execOp a.eval o).run P w=.ok (.enter f (#[v]++os.map a.eval)) w:=by
 have h1:(execOp a.eval o).run P w=(callMethod (.iface T u) name (os.map a.eval)).run P w:=by
  have e0:(#[Value.iface T u]++os.map a.eval)[0]?=some (Value.iface T u):=by rw[Array.getElem?_append_left (by simp)];rfl
  have e1:(#[Value.iface T u]++os.map a.eval).extract 1 (#[Value.iface T u]++os.map a.eval).size=os.map a.eval:=by
   apply Array.ext'
   simp
   exact tL_ (by simp)
  simp only[execOp,ho,resolve,Sem.run_bind,Sem.run_pure,Result.andThen_ok,invoke,hc,e0,e1]
 rw[h1]
 simp only[callMethod,Sem.run_bind,run_program,Result.andThen_ok,hm,hf]
section
variable {C : Cx} {n : Nat} {o : Oper} {τ : Nat → AV} {η : Nat → Ent} {f : FuncId} {os : Array Operand} {ats : Array TypeId} {r r' : AV} {xs ys : List AV} {bs bs' : List (Nat × Blk)} {ks : List Nat} {c : Operand} {name : String} {T : TypeId}
theorem ops_at {τ':Nat→AV}{w:World}{vs:Shp}{m:MM}{a:Act}(hτ:∀ y∈os.toList,evA τ' y=evA τ y)(hargs:os.toList.map (evA τ)=xs)(h:∀ x:Operand,RV w vs m (evA τ' x) (a.eval x)){j:Nat}{x:AV}{v:Value}(hx:xs[j]?=some x)(hv:(os.map a.eval)[j]?=some v):RV w vs m x v:=by
 subst hargs
 have hmap:os.toList.map (evA τ)=os.toList.map (evA τ'):=List.map_congr_left (fun y hy=>(hτ y hy).symm)
 rw[hmap]at hx
 rw[Array.getElem?_map]at hv
 cases hj:os[j]? with
 | none=>rw[hj]at hv;cases hv
 | some q =>
  rw[hj]at hv
  simp at hv
  subst hv
  simp[hj]at hx
  subst hx
  exact h q
theorem lf_invP {y:AV}(ρ:List (Nat×Nat))(fz:List Nat)(go nb:List (Nat×Ent))(ho:o.op=.call ⟨.invoke c name,os,ats⟩)(hd:InB n o.dst)(hx:evA τ c=.ifc T y)(hargs:os.toList.map (evA τ)=xs)(hM:MethP C.P T name f)(hc:ACallG C f ys bs ks r bs')
  (hok:okC ρ fz bs ks bs' (idsE go)=true) (hgo:allUs η go) (hgl:ltUs n go)
  (hw:GWL η (fE bs) (lk ρ) (fun i=>inB fz i=true) (fun i=>inB (keys bs) i=true) (y :: xs) ys) (hb:GBL η (fE bs) (lk ρ) (fun i=>inB fz i=true) (fun i=>inB (keys bs) i=true) bs)
  (hr:GW (fE bs') (updAll η (go++nb)) (lk (backN ρ bs')) (fun _=>False) (fun i=>inB (idsE nb) i=true) r r')
  (hnb:nbOk n η (updAll η (go++nb)) ρ ks (fE bs') (lk (backN ρ bs')) (fun i=>inB (idsE nb) i=true) bs' nb):LF C n o τ η ⟨r',go++nb,[]⟩:=by
 refine lf_callV ρ fz go nb [] (fun w0 X m a w τ' η' g1 _ h=>?_) hd hc hok hgo hgl hw hb hr hnb
 have e1:=h.ev c
 rw[g1 c (by simp[ho,Op.operands,Call.operands]),hx]at e1
 obtain⟨u,hu,hp⟩:=rv_ifc e1
 have hl:os.size=xs.length:=by rw[← hargs];simp
 refine⟨#[u]++os.map a.eval,run_inv ho hu (hM.run u w) hc.1,by simp;omega,fun j x v' hx hv=>?_⟩
 cases j with
 | zero =>
  simp only[List.getElem?_cons_zero,Option.some.injEq]at hx
  have hv':v'=u:=by
   have e0:(#[u]++os.map a.eval)[0]?=some u:=by rw[Array.getElem?_append_left (by simp)];rfl
   rw[e0]at hv;exact(sI_ hv).symm
  subst hx hv'
  exact hp
 | succ j =>
  refine ops_at (os:=os) (fun y hy=>g1 y (by simp[ho,Op.operands,Call.operands];exact .inr (by simpa using hy))) hargs h.ev (j:=j) (by simpa using hx) ?_
  rw[← hv,Array.getElem?_append_right (by simp)]
  simp
theorem lf_invV {i ver k j:Nat}{B:Blk}{e:List AV}{t:TypeId}{ti:TI}(ρ:List (Nat×Nat))(fz:List Nat)(go nb:List (Nat×Ent))(ho:o.op=.call ⟨.invoke c name,os,ats⟩)(hd:InB n o.dst)(hx:evA τ c=.ifc T (.ptr i ver k j))(hargs:os.toList.map (evA τ)=xs)(hn:0<n)
  (hi:η i=⟨ver,some B⟩) (he:B.els[k]?=some e) (ht:TyOk C.P t ti) (h1:ti.kind.agg=false→ti.sz=1) (hj:j+ti.sz≤B.sz) (hB:isM B.box B.ty=false) (hM:MethV C.P T t name f) (hc:ACallG C f ys bs ks r bs')
  (hok:okC ρ fz bs ks bs' (idsE go)=true) (hgo:allUs η go) (hgl:ltUs n go)
  (hw:GWL η (fE bs) (lk ρ) (fun i=>inB fz i=true) (fun i=>inB (keys bs) i=true) (cut ti e j :: xs) ys) (hb:GBL η (fE bs) (lk ρ) (fun i=>inB fz i=true) (fun i=>inB (keys bs) i=true) bs)
  (hr:GW (fE bs') (updAll η (go++nb)) (lk (backN ρ bs')) (fun _=>False) (fun i=>inB (idsE nb) i=true) r r')
  (hnb:nbOk n η (updAll η (go++nb)) ρ ks (fE bs') (lk (backN ρ bs')) (fun i=>inB (idsE nb) i=true) bs' nb):LF C n o τ η ⟨r',go++nb,[i]⟩:=by
 refine lf_callV ρ fz go nb [i] (fun w0 X m a w τ' η' g1 g2 h=>?_) hd hc hok hgo hgl hw hb hr hnb
 have e1:=h.ev c
 rw[g1 c (by simp[ho,Op.operands,Call.operands]),hx]at e1
 obtain⟨u,hu,hp⟩:=rv_ifc e1
 have hi':η' i=⟨ver,some B⟩:=(g2 i (List.mem_singleton.2 rfl)).trans hi
 have hput:=h.put (d:=some 0) hn hp
 obtain⟨ad,v,q1,q2,q3⟩:=load_own (p:=0) hput (by simp[putA]) hi' he ht h1 hj hB
 have q1':u=.pointer (some ad):=by
  rw[← q1]
  simp[Act.put,h.sz,hn]
 subst q1'
 have hl:os.size=xs.length:=by rw[← hargs];simp
 refine⟨#[v]++os.map a.eval,run_inv ho hu (hM.at q2) hc.1,by simp;omega,fun j x v' hx hv=>?_⟩
 cases j with
 | zero =>
  simp only[List.getElem?_cons_zero,Option.some.injEq]at hx
  have hv':v'=v:=by
   have e0:(#[v]++os.map a.eval)[0]?=some v:=by rw[Array.getElem?_append_left (by simp)];rfl
   rw[e0]at hv;exact(sI_ hv).symm
  subst hx hv'
  exact q3
 | succ j =>
  refine ops_at (os:=os) (fun y hy=>g1 y (by simp[ho,Op.operands,Call.operands];exact .inr (by simpa using hy))) hargs h.ev (j:=j) (by simpa using hx) ?_
  rw[← hv,Array.getElem?_append_right (by simp)]
  simp
end
end Go.Proofs.YtinknhophadbkaaGreatDoor.Am
namespace Go.Proofs.YtinknhophadbkaaGreatDoor.Am
open Go.RowKit
end Go.Proofs.YtinknhophadbkaaGreatDoor.Am
