/- Texts of the proof, part 3 of 5. -/
import Derived.Shelf.SlSortCmp.WholeK
import Derived.Shelf.SlSortCmp.Whole1
import Derived.Ground.SlsfProg
import Derived.Shelf.Small.Bits
import Derived.Shelf.Strconv.Itoa0
import Derived.Shelf.Strconv.Itoa1
import Derived.Shelf.LaysM
import Derived.Shelf.Strconv.Itoa2
import Derived.Shelf.Strconv.Itoa3
import Derived.Shelf.Strings.Prefix
import Derived.Ground.Names2Prog
import Derived.Shelf.Slices.Clone
import Derived.Ground.SlgnProg
import Derived.Shelf.SlicesE.Clone
import Derived.Test.YtflgpccacloadaaDoorProg
import Derived.Test.YtflgpccacloadaaDoorB2
import Derived.Test.YtflgpccacloadaaDoorB1
import Derived.Deep.RegionHeld3
import Derived.Shelf.SlSortCmp.NoneTotal
import Derived.Lib.SmallJoins
import Derived.Lib.ItoaNum
import Derived.WalkKit
import Derived.Lib.ItoaLen
import Derived.Laws.CopyRow
import Derived.Maps.Keyed
import Derived.WideKeyRuns
set_option linter.unusedVariables false
set_option linter.unusedSectionVars false
set_option linter.unusedSimpArgs false
/-
  DERIVED: THE SHELF's CONTRACTS AT THIS DUMP, IN PLAIN WORDS (tools/lay-plain.mjs out of 'TrydShelf.lean', which tools/lay-shelf.mjs wrote): THE SAME DECLARATIONS UNDER THE SAME NAMES: 'import', 'namespace', 'open', 'def', 'theorem' AND NOTHING ELSE: no command of the shelf's: FOR A HAND-IN. Each laying: the table of numbers ('.._ren') and one theorem, a field a fact of the dump's own or the kernel's comparison; each contract: ONE APPLICATION.
-/
namespace Go.Proofs
open Go.Shelf
def Tryd.lays128_ren : Go.Shelf.Ren := ⟨fun | 128 => 90 | n => n, fun | 51 => 132 | 3 => 3 | 4 => 4 | 46 => 118 | 5 => 5 | 9 => 9 | n => n, fun | n => n⟩
theorem Tryd.lays128 : Go.Proofs.Lays.n128 Tryd.prog Tryd.lays128_ren := {
  mixed := by kernel_rfl
  f128 := Tryd.func90.trans (congrArg some (by kernel_rfl))
  t3 := Tryd.underlying3
  a3 := Tryd.isAgg3
  z3 := Tryd.sizeOf3
  v3 := Tryd.zeroValue3
  t4 := Tryd.underlying4
  a4 := Tryd.isAgg4
  z4 := Tryd.sizeOf4
  v4 := Tryd.zeroValue4
  t5 := Tryd.underlying5
  a5 := Tryd.isAgg5
  z5 := Tryd.sizeOf5
  v5 := Tryd.zeroValue5
  t9 := Tryd.underlying9
  a9 := Tryd.isAgg9
  z9 := Tryd.sizeOf9
  v9 := Tryd.zeroValue9
  t46 := Tryd.underlying118
  a46 := Tryd.isAgg118
  z46 := Tryd.sizeOf118
  v46 := Tryd.zeroValue118
  t51 := Tryd.underlying132
  a51 := Tryd.isAgg132
  z51 := Tryd.sizeOf132
  v51 := Tryd.zeroValue132 }
/-- bits.Len32: "Len32 returns the minimum number of bits required to represent x; the result is 0 for x == 0.": IT RETURNS 'Lib.bitLen x'; the world is as it was. ('h0', 'h1': x is a uint32.) (LAID: no walk: one application.) -/
theorem Tryd.bits_Len32 (x : Int) (w : World) (h0 : 0 ≤ x) (h1 : x ≤ 4294967295) :
    Calls Tryd.prog 90 #[.int .u32 x] w fun e w' => e = .returned (.int .i64 (Lib.bitLen x.toNat)) ∧ w' = w := Any.bits_Len32 Tryd.lays128 x w h0 h1
def Tryd.lays125_ren : Go.Shelf.Ren := ⟨fun | 125 => 74 | 128 => 90 | 129 => 91 | n => n, fun | 46 => 118 | 3 => 3 | 51 => 132 | 53 => 134 | 4 => 4 | 5 => 5 | 9 => 9 | n => n, fun | n => n⟩
theorem Tryd.lays125 : Go.Proofs.Lays.n125 Tryd.prog Tryd.lays125_ren := {
  mixed := by kernel_rfl
  f125 := Tryd.func74.trans (congrArg some (by kernel_rfl))
  f128 := Tryd.func90.trans (congrArg some (by kernel_rfl))
  f129 := Tryd.func91.trans (congrArg some (by kernel_rfl))
  t3 := Tryd.underlying3
  a3 := Tryd.isAgg3
  z3 := Tryd.sizeOf3
  v3 := Tryd.zeroValue3
  t4 := Tryd.underlying4
  a4 := Tryd.isAgg4
  z4 := Tryd.sizeOf4
  v4 := Tryd.zeroValue4
  t5 := Tryd.underlying5
  a5 := Tryd.isAgg5
  z5 := Tryd.sizeOf5
  v5 := Tryd.zeroValue5
  t9 := Tryd.underlying9
  a9 := Tryd.isAgg9
  z9 := Tryd.sizeOf9
  v9 := Tryd.zeroValue9
  t46 := Tryd.underlying118
  a46 := Tryd.isAgg118
  z46 := Tryd.sizeOf118
  v46 := Tryd.zeroValue118
  t51 := Tryd.underlying132
  a51 := Tryd.isAgg132
  z51 := Tryd.sizeOf132
  v51 := Tryd.zeroValue132
  t53 := Tryd.underlying134
  a53 := Tryd.isAgg134
  z53 := Tryd.sizeOf134
  v53 := Tryd.zeroValue134 }
/-- bits.Len: "Len returns the minimum number of bits required to represent x; the result is 0 for x == 0.": IT RETURNS 'Lib.bitLen x'; the world is as it was. (A uint has 64 bits in the model.) ITS CALLEE bits.Len64 IS MET BY ITS OWN CONTRACT OFF THE SHELF (lay that first). (LAID: no walk: one application.) -/
theorem Tryd.bits_Len (x : Int) (w : World) (h0 : 0 ≤ x) (h1 : x ≤ 18446744073709551615) :
    Calls Tryd.prog 74 #[.int .u64 x] w fun e w' => e = .returned (.int .i64 (Lib.bitLen x.toNat)) ∧ w' = w := Any.bits_Len Tryd.lays125 x w h0 h1
def Tryd.lays129_ren : Go.Shelf.Ren := ⟨fun | 129 => 91 | n => n, fun | 53 => 134 | 3 => 3 | 4 => 4 | 46 => 118 | 5 => 5 | 9 => 9 | n => n, fun | n => n⟩
theorem Tryd.lays129 : Go.Proofs.Lays.n129 Tryd.prog Tryd.lays129_ren := {
  mixed := by kernel_rfl
  f129 := Tryd.func91.trans (congrArg some (by kernel_rfl))
  t3 := Tryd.underlying3
  a3 := Tryd.isAgg3
  z3 := Tryd.sizeOf3
  v3 := Tryd.zeroValue3
  t4 := Tryd.underlying4
  a4 := Tryd.isAgg4
  z4 := Tryd.sizeOf4
  v4 := Tryd.zeroValue4
  t5 := Tryd.underlying5
  a5 := Tryd.isAgg5
  z5 := Tryd.sizeOf5
  v5 := Tryd.zeroValue5
  t9 := Tryd.underlying9
  a9 := Tryd.isAgg9
  z9 := Tryd.sizeOf9
  v9 := Tryd.zeroValue9
  t46 := Tryd.underlying118
  a46 := Tryd.isAgg118
  z46 := Tryd.sizeOf118
  v46 := Tryd.zeroValue118
  t53 := Tryd.underlying134
  a53 := Tryd.isAgg134
  z53 := Tryd.sizeOf134
  v53 := Tryd.zeroValue134 }
/-- bits.Len64: "Len64 returns the minimum number of bits required to represent x; the result is 0 for x == 0.": IT RETURNS 'Lib.bitLen x'; the world is as it was. ('h0', 'h1': x is a uint64.) (LAID: no walk: one application.) -/
theorem Tryd.bits_Len64 (x : Int) (w : World) (h0 : 0 ≤ x) (h1 : x ≤ 18446744073709551615) :
    Calls Tryd.prog 91 #[.int .u64 x] w fun e w' => e = .returned (.int .i64 (Lib.bitLen x.toNat)) ∧ w' = w := Any.bits_Len64 Tryd.lays129 x w h0 h1
def Tryd.lays317_ren : Go.Shelf.Ren := ⟨fun | 317 => 104 | n => n, fun | 3 => 3 | 46 => 118 | n => n, fun | n => n⟩
theorem Tryd.lays317 : Go.Proofs.Lays.n317 Tryd.prog Tryd.lays317_ren := {
  mixed := by kernel_rfl
  f317 := Tryd.func104.trans (congrArg some (by kernel_rfl))
  t3 := Tryd.underlying3
  a3 := Tryd.isAgg3
  z3 := Tryd.sizeOf3
  v3 := Tryd.zeroValue3
  t46 := Tryd.underlying118
  a46 := Tryd.isAgg118
  z46 := Tryd.sizeOf118
  v46 := Tryd.zeroValue118 }
open Go.Lib in
/-- internal/strconv.log10Pow2: "log10Pow2(x) returns ⌊log₁₀ 2**x⌋ = ⌊x * log₁₀ 2⌋.": '(x * 78913) >> 18', at an x up to 64 (a length in bits). The world is as it was. (LAID: no walk: one application.) -/
theorem Tryd.internal_strconv_log10Pow2 (x : Nat) (h : x ≤ 64) (w : World) :
    Calls Tryd.prog 104 #[.int .i64 x] w fun e w' => e = .returned (.int .i64 (Lib.l10 x)) ∧ w' = w := Any.internal_strconv_log10Pow2 Tryd.lays317 x h w
def Tryd.lays318_ren : Go.Shelf.Ren := ⟨fun | 318 => 105 | n => n, fun | 3 => 3 | 4 => 4 | n => n, fun | n => n⟩
theorem Tryd.lays318 : Go.Proofs.Lays.n318 Tryd.prog Tryd.lays318_ren := {
  mixed := by kernel_rfl
  f318 := Tryd.func105.trans (congrArg some (by kernel_rfl))
  t3 := Tryd.underlying3
  a3 := Tryd.isAgg3
  z3 := Tryd.sizeOf3
  v3 := Tryd.zeroValue3
  t4 := Tryd.underlying4
  a4 := Tryd.isAgg4
  z4 := Tryd.sizeOf4
  v4 := Tryd.zeroValue4 }
open Go.Lib in
/-- internal/strconv.bool2: "bool2 converts b to an integer: 1 for true, 0 for false." The world is as it was. (LAID: no walk: one application.) -/
theorem Tryd.internal_strconv_bool2_int (b : Bool) (w : World) :
    Calls Tryd.prog 105 #[.bool b] w fun e w' => e = .returned (.int .i64 (if b then 1 else 0)) ∧ w' = w := Any.internal_strconv_bool2_int Tryd.lays318 b w
def Tryd.lays283_ren : Go.Shelf.Ren := ⟨fun | 283 => 99 | n => n, fun | 3 => 3 | 9 => 9 | 4 => 4 | n => n, fun | n => n⟩
theorem Tryd.lays283 : Go.Proofs.Lays.n283 Tryd.prog Tryd.lays283_ren := {
  mixed := by kernel_rfl
  f283 := Tryd.func99.trans (congrArg some (by kernel_rfl))
  t3 := Tryd.underlying3
  a3 := Tryd.isAgg3
  z3 := Tryd.sizeOf3
  v3 := Tryd.zeroValue3
  t4 := Tryd.underlying4
  a4 := Tryd.isAgg4
  z4 := Tryd.sizeOf4
  v4 := Tryd.zeroValue4
  t9 := Tryd.underlying9
  a9 := Tryd.isAgg9
  z9 := Tryd.sizeOf9
  v9 := Tryd.zeroValue9 }
open Go.Lib in
/-- internal/strconv.small: "small returns the string for an i with 0 <= i < nSmalls.": i's decimal numeral. The world is as it was. (LAID: no walk: one application.) -/
theorem Tryd.internal_strconv_small (i : Nat) (h : i < 100) (w : World) :
    Calls Tryd.prog 99 #[.int .i64 i] w fun e w' => e = .returned (.string ⟨(Lib.decDigits i).toArray⟩) ∧ w' = w := Any.internal_strconv_small Tryd.lays283 i h w
def Tryd.laysM284_ren : Go.Shelf.Ren := ⟨fun | 284 => 100 | 129 => 91 | 317 => 104 | 318 => 105 | n => n, fun | 53 => 134 | 3 => 3 | 212 => 152 | 0 => 0 | 4 => 4 | 46 => 118 | 5 => 5 | 9 => 9 | n => n, fun | 17 => 0 | n => n⟩
theorem Tryd.laysM284 : Go.Proofs.LaysM.n284 Tryd.prog Tryd.laysM284_ren := {
  mixed := by kernel_rfl
  f129 := Tryd.func91.trans (congrArg some (by kernel_rfl))
  f284 := Tryd.func100.trans (congrArg some (by kernel_rfl))
  f317 := Tryd.func104.trans (congrArg some (by kernel_rfl))
  f318 := Tryd.func105.trans (congrArg some (by kernel_rfl))
  t0 := Tryd.underlying0
  a0 := Tryd.isAgg0
  z0 := Tryd.sizeOf0
  v0 := Tryd.zeroValue0
  t3 := Tryd.underlying3
  a3 := Tryd.isAgg3
  z3 := Tryd.sizeOf3
  v3 := Tryd.zeroValue3
  t4 := Tryd.underlying4
  a4 := Tryd.isAgg4
  z4 := Tryd.sizeOf4
  v4 := Tryd.zeroValue4
  t5 := Tryd.underlying5
  a5 := Tryd.isAgg5
  z5 := Tryd.sizeOf5
  v5 := Tryd.zeroValue5
  t9 := Tryd.underlying9
  a9 := Tryd.isAgg9
  z9 := Tryd.sizeOf9
  v9 := Tryd.zeroValue9
  t46 := Tryd.underlying118
  a46 := Tryd.isAgg118
  z46 := Tryd.sizeOf118
  v46 := Tryd.zeroValue118
  t53 := Tryd.underlying134
  a53 := Tryd.isAgg134
  z53 := Tryd.sizeOf134
  v53 := Tryd.zeroValue134
  t212 := Tryd.underlying152
  a212 := Tryd.isAgg152
  z212 := Tryd.sizeOf152
  v212 := Tryd.zeroValue152
  g17 := by kernel_rfl
  i0 := by kernel_rfl
  i3 := by kernel_rfl
  i4 := by kernel_rfl
  i5 := by kernel_rfl
  i9 := by kernel_rfl
  i46 := by kernel_rfl
  i53 := by kernel_rfl
  i212 := by kernel_rfl
  m17 := by kernel_rfl }
open Go.Lib in
/-- internal/strconv.numDigits, at a d that is not 0: THE NUMBER OF d's DECIMAL DIGITS. The world is as it was. (LAID: no walk: one application.) -/
theorem Tryd.internal_strconv_numDigits (u : Nat) (h1 : 1 ≤ u) (h2 : u < 18446744073709551616) (w : World) (htab : Lib.TabIs Tryd.prog w "internal/strconv.uint64pow10" .u64 Lib.pow10Tab) :
    Calls Tryd.prog 100 #[.int .u64 u] w fun e w' => e = .returned (.int .i64 (Lib.nDigits u)) ∧ w' = w := Any.internal_strconv_numDigits Tryd.laysM284 u h1 h2 w htab
def Tryd.lays285_ren : Go.Shelf.Ren := ⟨fun | 285 => 101 | n => n, fun | 37 => 64 | 53 => 134 | 3 => 3 | 4 => 4 | 51 => 132 | 9 => 9 | 5 => 5 | 0 => 0 | n => n, fun | n => n⟩
theorem Tryd.lays285 : Go.Proofs.Lays.n285 Tryd.prog Tryd.lays285_ren := {
  mixed := by kernel_rfl
  f285 := Tryd.func101.trans (congrArg some (by kernel_rfl))
  t0 := Tryd.underlying0
  a0 := Tryd.isAgg0
  z0 := Tryd.sizeOf0
  v0 := Tryd.zeroValue0
  t3 := Tryd.underlying3
  a3 := Tryd.isAgg3
  z3 := Tryd.sizeOf3
  v3 := Tryd.zeroValue3
  t4 := Tryd.underlying4
  a4 := Tryd.isAgg4
  z4 := Tryd.sizeOf4
  v4 := Tryd.zeroValue4
  t5 := Tryd.underlying5
  a5 := Tryd.isAgg5
  z5 := Tryd.sizeOf5
  v5 := Tryd.zeroValue5
  t9 := Tryd.underlying9
  a9 := Tryd.isAgg9
  z9 := Tryd.sizeOf9
  v9 := Tryd.zeroValue9
  t37 := Tryd.underlying64
  a37 := Tryd.isAgg64
  z37 := Tryd.sizeOf64
  v37 := Tryd.zeroValue64
  t51 := Tryd.underlying132
  a51 := Tryd.isAgg132
  z51 := Tryd.sizeOf132
  v51 := Tryd.zeroValue132
  t53 := Tryd.underlying134
  a53 := Tryd.isAgg134
  z53 := Tryd.sizeOf134
  v53 := Tryd.zeroValue134 }
open Go.RowKit Go.Sort Go.Lib in
/-- internal/strconv.formatBase10: "formatBase10 formats the decimal representation of u into a. The caller is responsible for ensuring that a is big enough to hold u. If a is too big, leading zeros will be filled in as needed.": THE ROW HOLDS u's DIGITS ('FmtInv .. 0 ..': every place t holds 'dg u (len - 1 - t)'); all else is as it was but for the count of draws. (LAID: no walk: one application.) -/
theorem Tryd.internal_strconv_formatBase10 (blk off cap : Nat) (u : Nat) (d : Array UInt8) (w : World) (hH : Holds (fun (b : UInt8) => Value.int .u8 (b.toNat : Int)) w blk off d) (hu : u < 10 ^ d.size) (hu64 : u < 18446744073709551616) (hsz : d.size < 4611686018427387904) :
    Calls Tryd.prog 101 #[.slice (some ⟨blk, off, none⟩) d.size cap, .int .u64 u] w fun e w' =>
      e = .returned (.tuple #[]) ∧ ∃ (n v' : Nat) (dk : Array UInt8), w' = (putRow (fun (b : UInt8) => Value.int .u8 (b.toNat : Int)) w blk off dk).drewN n ∧ FmtInv d.size u 0 v' dk := Any.internal_strconv_formatBase10 Tryd.lays285 blk off cap u d w hH hu hu64 hsz
def Tryd.laysM246_ren : Go.Shelf.Ren := ⟨fun | 246 => 93 | 283 => 99 | 284 => 100 | 285 => 101 | 286 => 102 | 129 => 91 | 317 => 104 | 318 => 105 | 319 => 106 | 320 => 107 | 337 => 108 | 338 => 109 | n => n, fun | 2 => 2 | 3 => 3 | 9 => 9 | 4 => 4 | 171 => 143 | 0 => 0 | 53 => 134 | 37 => 64 | 5 => 5 | 173 => 145 | 212 => 152 | 51 => 132 | 20 => 20 | 213 => 153 | 46 => 118 | 232 => 155 | 233 => 156 | n => n, fun | 17 => 0 | 18 => 1 | 19 => 2 | n => n⟩
theorem Tryd.laysM246 : Go.Proofs.LaysM.n246 Tryd.prog Tryd.laysM246_ren := {
  mixed := by kernel_rfl
  f129 := Tryd.func91.trans (congrArg some (by kernel_rfl))
  f246 := Tryd.func93.trans (congrArg some (by kernel_rfl))
  f283 := Tryd.func99.trans (congrArg some (by kernel_rfl))
  f284 := Tryd.func100.trans (congrArg some (by kernel_rfl))
  f285 := Tryd.func101.trans (congrArg some (by kernel_rfl))
  f286 := Tryd.func102.trans (congrArg some (by kernel_rfl))
  f317 := Tryd.func104.trans (congrArg some (by kernel_rfl))
  f318 := Tryd.func105.trans (congrArg some (by kernel_rfl))
  f319 := Tryd.func106.trans (congrArg some (by kernel_rfl))
  f320 := Tryd.func107.trans (congrArg some (by kernel_rfl))
  f337 := Tryd.func108.trans (congrArg some (by kernel_rfl))
  f338 := Tryd.func109.trans (congrArg some (by kernel_rfl))
  t0 := Tryd.underlying0
  a0 := Tryd.isAgg0
  z0 := Tryd.sizeOf0
  v0 := Tryd.zeroValue0
  t2 := Tryd.underlying2
  a2 := Tryd.isAgg2
  z2 := Tryd.sizeOf2
  v2 := Tryd.zeroValue2
  t3 := Tryd.underlying3
  a3 := Tryd.isAgg3
  z3 := Tryd.sizeOf3
  v3 := Tryd.zeroValue3
  t4 := Tryd.underlying4
  a4 := Tryd.isAgg4
  z4 := Tryd.sizeOf4
  v4 := Tryd.zeroValue4
  t5 := Tryd.underlying5
  a5 := Tryd.isAgg5
  z5 := Tryd.sizeOf5
  v5 := Tryd.zeroValue5
  t9 := Tryd.underlying9
  a9 := Tryd.isAgg9
  z9 := Tryd.sizeOf9
  v9 := Tryd.zeroValue9
  t20 := Tryd.underlying20
  a20 := Tryd.isAgg20
  z20 := Tryd.sizeOf20
  v20 := Tryd.zeroValue20
  t37 := Tryd.underlying64
  a37 := Tryd.isAgg64
  z37 := Tryd.sizeOf64
  v37 := Tryd.zeroValue64
  t46 := Tryd.underlying118
  a46 := Tryd.isAgg118
  z46 := Tryd.sizeOf118
  v46 := Tryd.zeroValue118
  t51 := Tryd.underlying132
  a51 := Tryd.isAgg132
  z51 := Tryd.sizeOf132
  v51 := Tryd.zeroValue132
  t53 := Tryd.underlying134
  a53 := Tryd.isAgg134
  z53 := Tryd.sizeOf134
  v53 := Tryd.zeroValue134
  t171 := Tryd.underlying143
  a171 := Tryd.isAgg143
  z171 := Tryd.sizeOf143
  v171 := Tryd.zeroValue143
  t173 := Tryd.underlying145
  a173 := Tryd.isAgg145
  z173 := Tryd.sizeOf145
  v173 := Tryd.zeroValue145
  t212 := Tryd.underlying152
  a212 := Tryd.isAgg152
  z212 := Tryd.sizeOf152
  v212 := Tryd.zeroValue152
  t213 := Tryd.underlying153
  a213 := Tryd.isAgg153
  z213 := Tryd.sizeOf153
  t232 := Tryd.underlying155
  a232 := Tryd.isAgg155
  z232 := Tryd.sizeOf155
  v232 := Tryd.zeroValue155
  t233 := Tryd.underlying156
  a233 := Tryd.isAgg156
  z233 := Tryd.sizeOf156
  v233 := Tryd.zeroValue156
  g17 := by kernel_rfl
  g18 := by kernel_rfl
  g19 := by kernel_rfl
  i0 := by kernel_rfl
  i2 := by kernel_rfl
  i3 := by kernel_rfl
  i4 := by kernel_rfl
  i5 := by kernel_rfl
  i9 := by kernel_rfl
  i20 := by kernel_rfl
  i37 := by kernel_rfl
  i46 := by kernel_rfl
  i51 := by kernel_rfl
  i53 := by kernel_rfl
  i171 := by kernel_rfl
  i173 := by kernel_rfl
  i212 := by kernel_rfl
  i232 := by kernel_rfl
  i233 := by kernel_rfl
  m17 := by kernel_rfl
  m18 := by kernel_rfl
  m19 := by kernel_rfl }
open Go.RowKit Go.Sort Go.Lib in
/-- internal/strconv.FormatInt: "FormatInt returns the string representation of i in the given base": AT BASE 10: i's decimal numeral, for every int64. The world behind the call: the world before it, new blocks behind the heap, draws. (LAID: no walk: one application.) -/
theorem Tryd.internal_strconv_FormatInt_10 (n : Int) (h0 : -9223372036854775808 ≤ n) (h1 : n ≤ 9223372036854775807) (w : World) (htab : Lib.TabIs Tryd.prog w "internal/strconv.uint64pow10" .u64 Lib.pow10Tab) :
    Calls Tryd.prog 93 #[.int .i64 n, .int .i64 10] w fun e w' => e = .returned (.string ⟨(Lib.itoa n).toArray⟩) ∧ ∃ k os, w' = grow (w.drewN k) os := Any.internal_strconv_FormatInt_10 Tryd.laysM246 n h0 h1 w htab
def Tryd.lays246_ren : Go.Shelf.Ren := ⟨fun | 246 => 93 | 283 => 99 | 284 => 100 | 285 => 101 | 286 => 102 | 129 => 91 | 317 => 104 | 318 => 105 | 319 => 106 | 320 => 107 | 337 => 108 | 338 => 109 | n => n, fun | 2 => 2 | 3 => 3 | 9 => 9 | 4 => 4 | 171 => 143 | 0 => 0 | 53 => 134 | 37 => 64 | 5 => 5 | 173 => 145 | 212 => 152 | 51 => 132 | 20 => 20 | 213 => 153 | 46 => 118 | 232 => 155 | 233 => 156 | n => n, fun | 17 => 0 | 18 => 1 | 19 => 2 | n => n⟩
theorem Tryd.lays246 : Go.Proofs.Lays.n246 Tryd.prog Tryd.lays246_ren := {
  mixed := by kernel_rfl
  f129 := Tryd.func91.trans (congrArg some (by kernel_rfl))
  f246 := Tryd.func93.trans (congrArg some (by kernel_rfl))
  f283 := Tryd.func99.trans (congrArg some (by kernel_rfl))
  f284 := Tryd.func100.trans (congrArg some (by kernel_rfl))
  f285 := Tryd.func101.trans (congrArg some (by kernel_rfl))
  f286 := Tryd.func102.trans (congrArg some (by kernel_rfl))
  f317 := Tryd.func104.trans (congrArg some (by kernel_rfl))
  f318 := Tryd.func105.trans (congrArg some (by kernel_rfl))
  f319 := Tryd.func106.trans (congrArg some (by kernel_rfl))
  f320 := Tryd.func107.trans (congrArg some (by kernel_rfl))
  f337 := Tryd.func108.trans (congrArg some (by kernel_rfl))
  f338 := Tryd.func109.trans (congrArg some (by kernel_rfl))
  t0 := Tryd.underlying0
  a0 := Tryd.isAgg0
  z0 := Tryd.sizeOf0
  v0 := Tryd.zeroValue0
  t2 := Tryd.underlying2
  a2 := Tryd.isAgg2
  z2 := Tryd.sizeOf2
  v2 := Tryd.zeroValue2
  t3 := Tryd.underlying3
  a3 := Tryd.isAgg3
  z3 := Tryd.sizeOf3
  v3 := Tryd.zeroValue3
  t4 := Tryd.underlying4
  a4 := Tryd.isAgg4
  z4 := Tryd.sizeOf4
  v4 := Tryd.zeroValue4
  t5 := Tryd.underlying5
  a5 := Tryd.isAgg5
  z5 := Tryd.sizeOf5
  v5 := Tryd.zeroValue5
  t9 := Tryd.underlying9
  a9 := Tryd.isAgg9
  z9 := Tryd.sizeOf9
  v9 := Tryd.zeroValue9
  t20 := Tryd.underlying20
  a20 := Tryd.isAgg20
  z20 := Tryd.sizeOf20
  v20 := Tryd.zeroValue20
  t37 := Tryd.underlying64
  a37 := Tryd.isAgg64
  z37 := Tryd.sizeOf64
  v37 := Tryd.zeroValue64
  t46 := Tryd.underlying118
  a46 := Tryd.isAgg118
  z46 := Tryd.sizeOf118
  v46 := Tryd.zeroValue118
  t51 := Tryd.underlying132
  a51 := Tryd.isAgg132
  z51 := Tryd.sizeOf132
  v51 := Tryd.zeroValue132
  t53 := Tryd.underlying134
  a53 := Tryd.isAgg134
  z53 := Tryd.sizeOf134
  v53 := Tryd.zeroValue134
  t171 := Tryd.underlying143
  a171 := Tryd.isAgg143
  z171 := Tryd.sizeOf143
  v171 := Tryd.zeroValue143
  t173 := Tryd.underlying145
  a173 := Tryd.isAgg145
  z173 := Tryd.sizeOf145
  v173 := Tryd.zeroValue145
  t212 := Tryd.underlying152
  a212 := Tryd.isAgg152
  z212 := Tryd.sizeOf152
  v212 := Tryd.zeroValue152
  t213 := Tryd.underlying153
  a213 := Tryd.isAgg153
  z213 := Tryd.sizeOf153
  t232 := Tryd.underlying155
  a232 := Tryd.isAgg155
  z232 := Tryd.sizeOf155
  v232 := Tryd.zeroValue155
  t233 := Tryd.underlying156
  a233 := Tryd.isAgg156
  z233 := Tryd.sizeOf156
  v233 := Tryd.zeroValue156
  g17 := by kernel_rfl
  g18 := by kernel_rfl
  g19 := by kernel_rfl }
open Go.RowKit Go.Sort Go.Lib in
/-- THE ROAD WITHOUT THE TABLE: 0 <= i < 100: two constants are read, nothing is laid: no premise on the world, and the world is as it was. (LAID: no walk: one application.) -/
theorem Tryd.internal_strconv_FormatInt_10_small (i : Nat) (hi : i < 100) (w : World) :
    Calls Tryd.prog 93 #[.int .i64 i, .int .i64 10] w fun e w' => e = .returned (.string ⟨(Lib.decDigits i).toArray⟩) ∧ w' = w := Any.internal_strconv_FormatInt_10_small Tryd.lays246 i hi w
def Tryd.laysM243_ren : Go.Shelf.Ren := ⟨fun | 243 => 79 | 246 => 93 | 283 => 99 | 284 => 100 | 285 => 101 | 286 => 102 | 129 => 91 | 317 => 104 | 318 => 105 | 319 => 106 | 320 => 107 | 337 => 108 | 338 => 109 | n => n, fun | 3 => 3 | 9 => 9 | 2 => 2 | 4 => 4 | 171 => 143 | 0 => 0 | 53 => 134 | 37 => 64 | 5 => 5 | 173 => 145 | 212 => 152 | 51 => 132 | 20 => 20 | 213 => 153 | 46 => 118 | 232 => 155 | 233 => 156 | n => n, fun | 17 => 0 | 18 => 1 | 19 => 2 | n => n⟩
theorem Tryd.laysM243 : Go.Proofs.LaysM.n243 Tryd.prog Tryd.laysM243_ren := {
  mixed := by kernel_rfl
  f129 := Tryd.func91.trans (congrArg some (by kernel_rfl))
  f243 := Tryd.func79.trans (congrArg some (by kernel_rfl))
  f246 := Tryd.func93.trans (congrArg some (by kernel_rfl))
  f283 := Tryd.func99.trans (congrArg some (by kernel_rfl))
  f284 := Tryd.func100.trans (congrArg some (by kernel_rfl))
  f285 := Tryd.func101.trans (congrArg some (by kernel_rfl))
  f286 := Tryd.func102.trans (congrArg some (by kernel_rfl))
  f317 := Tryd.func104.trans (congrArg some (by kernel_rfl))
  f318 := Tryd.func105.trans (congrArg some (by kernel_rfl))
  f319 := Tryd.func106.trans (congrArg some (by kernel_rfl))
  f320 := Tryd.func107.trans (congrArg some (by kernel_rfl))
  f337 := Tryd.func108.trans (congrArg some (by kernel_rfl))
  f338 := Tryd.func109.trans (congrArg some (by kernel_rfl))
  t0 := Tryd.underlying0
  a0 := Tryd.isAgg0
  z0 := Tryd.sizeOf0
  v0 := Tryd.zeroValue0
  t2 := Tryd.underlying2
  a2 := Tryd.isAgg2
  z2 := Tryd.sizeOf2
  v2 := Tryd.zeroValue2
  t3 := Tryd.underlying3
  a3 := Tryd.isAgg3
  z3 := Tryd.sizeOf3
  v3 := Tryd.zeroValue3
  t4 := Tryd.underlying4
  a4 := Tryd.isAgg4
  z4 := Tryd.sizeOf4
  v4 := Tryd.zeroValue4
  t5 := Tryd.underlying5
  a5 := Tryd.isAgg5
  z5 := Tryd.sizeOf5
  v5 := Tryd.zeroValue5
  t9 := Tryd.underlying9
  a9 := Tryd.isAgg9
  z9 := Tryd.sizeOf9
  v9 := Tryd.zeroValue9
  t20 := Tryd.underlying20
  a20 := Tryd.isAgg20
  z20 := Tryd.sizeOf20
  v20 := Tryd.zeroValue20
  t37 := Tryd.underlying64
  a37 := Tryd.isAgg64
  z37 := Tryd.sizeOf64
  v37 := Tryd.zeroValue64
  t46 := Tryd.underlying118
  a46 := Tryd.isAgg118
  z46 := Tryd.sizeOf118
  v46 := Tryd.zeroValue118
  t51 := Tryd.underlying132
  a51 := Tryd.isAgg132
  z51 := Tryd.sizeOf132
  v51 := Tryd.zeroValue132
  t53 := Tryd.underlying134
  a53 := Tryd.isAgg134
  z53 := Tryd.sizeOf134
  v53 := Tryd.zeroValue134
  t171 := Tryd.underlying143
  a171 := Tryd.isAgg143
  z171 := Tryd.sizeOf143
  v171 := Tryd.zeroValue143
  t173 := Tryd.underlying145
  a173 := Tryd.isAgg145
  z173 := Tryd.sizeOf145
  v173 := Tryd.zeroValue145
  t212 := Tryd.underlying152
  a212 := Tryd.isAgg152
  z212 := Tryd.sizeOf152
  v212 := Tryd.zeroValue152
  t213 := Tryd.underlying153
  a213 := Tryd.isAgg153
  z213 := Tryd.sizeOf153
  t232 := Tryd.underlying155
  a232 := Tryd.isAgg155
  z232 := Tryd.sizeOf155
  v232 := Tryd.zeroValue155
  t233 := Tryd.underlying156
  a233 := Tryd.isAgg156
  z233 := Tryd.sizeOf156
  v233 := Tryd.zeroValue156
  g17 := by kernel_rfl
  g18 := by kernel_rfl
  g19 := by kernel_rfl
  i0 := by kernel_rfl
  i2 := by kernel_rfl
  i3 := by kernel_rfl
  i4 := by kernel_rfl
  i5 := by kernel_rfl
  i9 := by kernel_rfl
  i20 := by kernel_rfl
  i37 := by kernel_rfl
  i46 := by kernel_rfl
  i51 := by kernel_rfl
  i53 := by kernel_rfl
  i171 := by kernel_rfl
  i173 := by kernel_rfl
  i212 := by kernel_rfl
  i232 := by kernel_rfl
  i233 := by kernel_rfl
  m17 := by kernel_rfl
  m18 := by kernel_rfl
  m19 := by kernel_rfl }
open Go.RowKit Go.Sort Go.Lib in
/-- internal/strconv.Itoa: "Itoa is equivalent to FormatInt(int64(i), 10).": i's decimal numeral, for every int. (LAID: no walk: one application.) -/
theorem Tryd.internal_strconv_Itoa (n : Int) (h0 : -9223372036854775808 ≤ n) (h1 : n ≤ 9223372036854775807) (w : World) (htab : Lib.TabIs Tryd.prog w "internal/strconv.uint64pow10" .u64 Lib.pow10Tab) :
    Calls Tryd.prog 79 #[.int .i64 n] w fun e w' => e = .returned (.string ⟨(Lib.itoa n).toArray⟩) ∧ ∃ k os, w' = grow (w.drewN k) os := Any.internal_strconv_Itoa Tryd.laysM243 n h0 h1 w htab
def Tryd.lays243_ren : Go.Shelf.Ren := ⟨fun | 243 => 79 | 246 => 93 | 283 => 99 | 284 => 100 | 285 => 101 | 286 => 102 | 129 => 91 | 317 => 104 | 318 => 105 | 319 => 106 | 320 => 107 | 337 => 108 | 338 => 109 | n => n, fun | 3 => 3 | 9 => 9 | 2 => 2 | 4 => 4 | 171 => 143 | 0 => 0 | 53 => 134 | 37 => 64 | 5 => 5 | 173 => 145 | 212 => 152 | 51 => 132 | 20 => 20 | 213 => 153 | 46 => 118 | 232 => 155 | 233 => 156 | n => n, fun | 17 => 0 | 18 => 1 | 19 => 2 | n => n⟩
theorem Tryd.lays243 : Go.Proofs.Lays.n243 Tryd.prog Tryd.lays243_ren := {
  mixed := by kernel_rfl
  f129 := Tryd.func91.trans (congrArg some (by kernel_rfl))
  f243 := Tryd.func79.trans (congrArg some (by kernel_rfl))
  f246 := Tryd.func93.trans (congrArg some (by kernel_rfl))
  f283 := Tryd.func99.trans (congrArg some (by kernel_rfl))
  f284 := Tryd.func100.trans (congrArg some (by kernel_rfl))
  f285 := Tryd.func101.trans (congrArg some (by kernel_rfl))
  f286 := Tryd.func102.trans (congrArg some (by kernel_rfl))
  f317 := Tryd.func104.trans (congrArg some (by kernel_rfl))
  f318 := Tryd.func105.trans (congrArg some (by kernel_rfl))
  f319 := Tryd.func106.trans (congrArg some (by kernel_rfl))
  f320 := Tryd.func107.trans (congrArg some (by kernel_rfl))
  f337 := Tryd.func108.trans (congrArg some (by kernel_rfl))
  f338 := Tryd.func109.trans (congrArg some (by kernel_rfl))
  t0 := Tryd.underlying0
  a0 := Tryd.isAgg0
  z0 := Tryd.sizeOf0
  v0 := Tryd.zeroValue0
  t2 := Tryd.underlying2
  a2 := Tryd.isAgg2
  z2 := Tryd.sizeOf2
  v2 := Tryd.zeroValue2
  t3 := Tryd.underlying3
  a3 := Tryd.isAgg3
  z3 := Tryd.sizeOf3
  v3 := Tryd.zeroValue3
  t4 := Tryd.underlying4
  a4 := Tryd.isAgg4
  z4 := Tryd.sizeOf4
  v4 := Tryd.zeroValue4
  t5 := Tryd.underlying5
  a5 := Tryd.isAgg5
  z5 := Tryd.sizeOf5
  v5 := Tryd.zeroValue5
  t9 := Tryd.underlying9
  a9 := Tryd.isAgg9
  z9 := Tryd.sizeOf9
  v9 := Tryd.zeroValue9
  t20 := Tryd.underlying20
  a20 := Tryd.isAgg20
  z20 := Tryd.sizeOf20
  v20 := Tryd.zeroValue20
  t37 := Tryd.underlying64
  a37 := Tryd.isAgg64
  z37 := Tryd.sizeOf64
  v37 := Tryd.zeroValue64
  t46 := Tryd.underlying118
  a46 := Tryd.isAgg118
  z46 := Tryd.sizeOf118
  v46 := Tryd.zeroValue118
  t51 := Tryd.underlying132
  a51 := Tryd.isAgg132
  z51 := Tryd.sizeOf132
  v51 := Tryd.zeroValue132
  t53 := Tryd.underlying134
  a53 := Tryd.isAgg134
  z53 := Tryd.sizeOf134
  v53 := Tryd.zeroValue134
  t171 := Tryd.underlying143
  a171 := Tryd.isAgg143
  z171 := Tryd.sizeOf143
  v171 := Tryd.zeroValue143
  t173 := Tryd.underlying145
  a173 := Tryd.isAgg145
  z173 := Tryd.sizeOf145
  v173 := Tryd.zeroValue145
  t212 := Tryd.underlying152
  a212 := Tryd.isAgg152
  z212 := Tryd.sizeOf152
  v212 := Tryd.zeroValue152
  t213 := Tryd.underlying153
  a213 := Tryd.isAgg153
  z213 := Tryd.sizeOf153
  t232 := Tryd.underlying155
  a232 := Tryd.isAgg155
  z232 := Tryd.sizeOf155
  v232 := Tryd.zeroValue155
  t233 := Tryd.underlying156
  a233 := Tryd.isAgg156
  z233 := Tryd.sizeOf156
  v233 := Tryd.zeroValue156
  g17 := by kernel_rfl
  g18 := by kernel_rfl
  g19 := by kernel_rfl }
open Go.RowKit Go.Sort Go.Lib in
/-- THE ROAD WITHOUT THE TABLE: 0 <= i < 100. (LAID: no walk: one application.) -/
theorem Tryd.internal_strconv_Itoa_small (i : Nat) (hi : i < 100) (w : World) :
    Calls Tryd.prog 79 #[.int .i64 i] w fun e w' => e = .returned (.string ⟨(Lib.decDigits i).toArray⟩) ∧ w' = w := Any.internal_strconv_Itoa_small Tryd.lays243 i hi w
def Tryd.laysM171_ren : Go.Shelf.Ren := ⟨fun | 171 => 65 | 243 => 79 | 246 => 93 | 283 => 99 | 284 => 100 | 285 => 101 | 286 => 102 | 129 => 91 | 317 => 104 | 318 => 105 | 319 => 106 | 320 => 107 | 337 => 108 | 338 => 109 | n => n, fun | 3 => 3 | 9 => 9 | 2 => 2 | 4 => 4 | 171 => 143 | 0 => 0 | 53 => 134 | 37 => 64 | 5 => 5 | 173 => 145 | 212 => 152 | 51 => 132 | 20 => 20 | 213 => 153 | 46 => 118 | 232 => 155 | 233 => 156 | n => n, fun | 17 => 0 | 18 => 1 | 19 => 2 | n => n⟩
theorem Tryd.laysM171 : Go.Proofs.LaysM.n171 Tryd.prog Tryd.laysM171_ren := {
  mixed := by kernel_rfl
  f129 := Tryd.func91.trans (congrArg some (by kernel_rfl))
  f171 := Tryd.func65.trans (congrArg some (by kernel_rfl))
  f243 := Tryd.func79.trans (congrArg some (by kernel_rfl))
  f246 := Tryd.func93.trans (congrArg some (by kernel_rfl))
  f283 := Tryd.func99.trans (congrArg some (by kernel_rfl))
  f284 := Tryd.func100.trans (congrArg some (by kernel_rfl))
  f285 := Tryd.func101.trans (congrArg some (by kernel_rfl))
  f286 := Tryd.func102.trans (congrArg some (by kernel_rfl))
  f317 := Tryd.func104.trans (congrArg some (by kernel_rfl))
  f318 := Tryd.func105.trans (congrArg some (by kernel_rfl))
  f319 := Tryd.func106.trans (congrArg some (by kernel_rfl))
  f320 := Tryd.func107.trans (congrArg some (by kernel_rfl))
  f337 := Tryd.func108.trans (congrArg some (by kernel_rfl))
  f338 := Tryd.func109.trans (congrArg some (by kernel_rfl))
  t0 := Tryd.underlying0
  a0 := Tryd.isAgg0
  z0 := Tryd.sizeOf0
  v0 := Tryd.zeroValue0
  t2 := Tryd.underlying2
  a2 := Tryd.isAgg2
  z2 := Tryd.sizeOf2
  v2 := Tryd.zeroValue2
  t3 := Tryd.underlying3
  a3 := Tryd.isAgg3
  z3 := Tryd.sizeOf3
  v3 := Tryd.zeroValue3
  t4 := Tryd.underlying4
  a4 := Tryd.isAgg4
  z4 := Tryd.sizeOf4
  v4 := Tryd.zeroValue4
  t5 := Tryd.underlying5
  a5 := Tryd.isAgg5
  z5 := Tryd.sizeOf5
  v5 := Tryd.zeroValue5
  t9 := Tryd.underlying9
  a9 := Tryd.isAgg9
  z9 := Tryd.sizeOf9
  v9 := Tryd.zeroValue9
  t20 := Tryd.underlying20
  a20 := Tryd.isAgg20
  z20 := Tryd.sizeOf20
  v20 := Tryd.zeroValue20
  t37 := Tryd.underlying64
  a37 := Tryd.isAgg64
  z37 := Tryd.sizeOf64
  v37 := Tryd.zeroValue64
  t46 := Tryd.underlying118
  a46 := Tryd.isAgg118
  z46 := Tryd.sizeOf118
  v46 := Tryd.zeroValue118
  t51 := Tryd.underlying132
  a51 := Tryd.isAgg132
  z51 := Tryd.sizeOf132
  v51 := Tryd.zeroValue132
  t53 := Tryd.underlying134
  a53 := Tryd.isAgg134
  z53 := Tryd.sizeOf134
  v53 := Tryd.zeroValue134
  t171 := Tryd.underlying143
  a171 := Tryd.isAgg143
  z171 := Tryd.sizeOf143
  v171 := Tryd.zeroValue143
  t173 := Tryd.underlying145
  a173 := Tryd.isAgg145
  z173 := Tryd.sizeOf145
  v173 := Tryd.zeroValue145
  t212 := Tryd.underlying152
  a212 := Tryd.isAgg152
  z212 := Tryd.sizeOf152
  v212 := Tryd.zeroValue152
  t213 := Tryd.underlying153
  a213 := Tryd.isAgg153
  z213 := Tryd.sizeOf153
  t232 := Tryd.underlying155
  a232 := Tryd.isAgg155
  z232 := Tryd.sizeOf155
  v232 := Tryd.zeroValue155
  t233 := Tryd.underlying156
  a233 := Tryd.isAgg156
  z233 := Tryd.sizeOf156
  v233 := Tryd.zeroValue156
  g17 := by kernel_rfl
  g18 := by kernel_rfl
  g19 := by kernel_rfl
  i0 := by kernel_rfl
  i2 := by kernel_rfl
  i3 := by kernel_rfl
  i4 := by kernel_rfl
  i5 := by kernel_rfl
  i9 := by kernel_rfl
  i20 := by kernel_rfl
  i37 := by kernel_rfl
  i46 := by kernel_rfl
  i51 := by kernel_rfl
  i53 := by kernel_rfl
  i171 := by kernel_rfl
  i173 := by kernel_rfl
  i212 := by kernel_rfl
  i232 := by kernel_rfl
  i233 := by kernel_rfl
  m17 := by kernel_rfl
  m18 := by kernel_rfl
  m19 := by kernel_rfl }
open Go.RowKit Go.Sort Go.Lib in
/-- strconv.Itoa: "Itoa is equivalent to FormatInt(int64(i), 10).": i's DECIMAL NUMERAL ('Lib.itoa': a '-' where i is negative, then the digits), FOR EVERY int. The world behind the call: the world before it, new blocks behind the heap (the library's 'var a [24]byte'), draws. (LAID: no walk: one application.) -/
theorem Tryd.strconv_Itoa (n : Int) (h0 : -9223372036854775808 ≤ n) (h1 : n ≤ 9223372036854775807) (w : World) (htab : Lib.TabIs Tryd.prog w "internal/strconv.uint64pow10" .u64 Lib.pow10Tab) :
    Calls Tryd.prog 65 #[.int .i64 n] w fun e w' => e = .returned (.string ⟨(Lib.itoa n).toArray⟩) ∧ ∃ k os, w' = grow (w.drewN k) os := Any.strconv_Itoa Tryd.laysM171 n h0 h1 w htab
def Tryd.lays171_ren : Go.Shelf.Ren := ⟨fun | 171 => 65 | 243 => 79 | 246 => 93 | 283 => 99 | 284 => 100 | 285 => 101 | 286 => 102 | 129 => 91 | 317 => 104 | 318 => 105 | 319 => 106 | 320 => 107 | 337 => 108 | 338 => 109 | n => n, fun | 3 => 3 | 9 => 9 | 2 => 2 | 4 => 4 | 171 => 143 | 0 => 0 | 53 => 134 | 37 => 64 | 5 => 5 | 173 => 145 | 212 => 152 | 51 => 132 | 20 => 20 | 213 => 153 | 46 => 118 | 232 => 155 | 233 => 156 | n => n, fun | 17 => 0 | 18 => 1 | 19 => 2 | n => n⟩
theorem Tryd.lays171 : Go.Proofs.Lays.n171 Tryd.prog Tryd.lays171_ren := {
  mixed := by kernel_rfl
  f129 := Tryd.func91.trans (congrArg some (by kernel_rfl))
  f171 := Tryd.func65.trans (congrArg some (by kernel_rfl))
  f243 := Tryd.func79.trans (congrArg some (by kernel_rfl))
  f246 := Tryd.func93.trans (congrArg some (by kernel_rfl))
  f283 := Tryd.func99.trans (congrArg some (by kernel_rfl))
  f284 := Tryd.func100.trans (congrArg some (by kernel_rfl))
  f285 := Tryd.func101.trans (congrArg some (by kernel_rfl))
  f286 := Tryd.func102.trans (congrArg some (by kernel_rfl))
  f317 := Tryd.func104.trans (congrArg some (by kernel_rfl))
  f318 := Tryd.func105.trans (congrArg some (by kernel_rfl))
  f319 := Tryd.func106.trans (congrArg some (by kernel_rfl))
  f320 := Tryd.func107.trans (congrArg some (by kernel_rfl))
  f337 := Tryd.func108.trans (congrArg some (by kernel_rfl))
  f338 := Tryd.func109.trans (congrArg some (by kernel_rfl))
  t0 := Tryd.underlying0
  a0 := Tryd.isAgg0
  z0 := Tryd.sizeOf0
  v0 := Tryd.zeroValue0
  t2 := Tryd.underlying2
  a2 := Tryd.isAgg2
  z2 := Tryd.sizeOf2
  v2 := Tryd.zeroValue2
  t3 := Tryd.underlying3
  a3 := Tryd.isAgg3
  z3 := Tryd.sizeOf3
  v3 := Tryd.zeroValue3
  t4 := Tryd.underlying4
  a4 := Tryd.isAgg4
  z4 := Tryd.sizeOf4
  v4 := Tryd.zeroValue4
  t5 := Tryd.underlying5
  a5 := Tryd.isAgg5
  z5 := Tryd.sizeOf5
  v5 := Tryd.zeroValue5
  t9 := Tryd.underlying9
  a9 := Tryd.isAgg9
  z9 := Tryd.sizeOf9
  v9 := Tryd.zeroValue9
  t20 := Tryd.underlying20
  a20 := Tryd.isAgg20
  z20 := Tryd.sizeOf20
  v20 := Tryd.zeroValue20
  t37 := Tryd.underlying64
  a37 := Tryd.isAgg64
  z37 := Tryd.sizeOf64
  v37 := Tryd.zeroValue64
  t46 := Tryd.underlying118
  a46 := Tryd.isAgg118
  z46 := Tryd.sizeOf118
  v46 := Tryd.zeroValue118
  t51 := Tryd.underlying132
  a51 := Tryd.isAgg132
  z51 := Tryd.sizeOf132
  v51 := Tryd.zeroValue132
  t53 := Tryd.underlying134
  a53 := Tryd.isAgg134
  z53 := Tryd.sizeOf134
  v53 := Tryd.zeroValue134
  t171 := Tryd.underlying143
  a171 := Tryd.isAgg143
  z171 := Tryd.sizeOf143
  v171 := Tryd.zeroValue143
  t173 := Tryd.underlying145
  a173 := Tryd.isAgg145
  z173 := Tryd.sizeOf145
  v173 := Tryd.zeroValue145
  t212 := Tryd.underlying152
  a212 := Tryd.isAgg152
  z212 := Tryd.sizeOf152
  v212 := Tryd.zeroValue152
  t213 := Tryd.underlying153
  a213 := Tryd.isAgg153
  z213 := Tryd.sizeOf153
  t232 := Tryd.underlying155
  a232 := Tryd.isAgg155
  z232 := Tryd.sizeOf155
  v232 := Tryd.zeroValue155
  t233 := Tryd.underlying156
  a233 := Tryd.isAgg156
  z233 := Tryd.sizeOf156
  v233 := Tryd.zeroValue156
  g17 := by kernel_rfl
  g18 := by kernel_rfl
  g19 := by kernel_rfl }
open Go.RowKit Go.Sort Go.Lib in
/-- THE ROAD WITHOUT THE TABLE: 0 <= i < 100: NO PREMISE ON THE WORLD, AND THE WORLD IS AS IT WAS: a row that keeps its argument in that range need list no table ('laid = []'). (LAID: no walk: one application.) -/
theorem Tryd.strconv_Itoa_small (i : Nat) (hi : i < 100) (w : World) :
    Calls Tryd.prog 65 #[.int .i64 i] w fun e w' => e = .returned (.string ⟨(Lib.decDigits i).toArray⟩) ∧ w' = w := Any.strconv_Itoa_small Tryd.lays171 i hi w
def Tryd.lays206_ren : Go.Shelf.Ren := ⟨fun | 206 => 72 | n => n, fun | 9 => 9 | 4 => 4 | 3 => 3 | n => n, fun | n => n⟩
theorem Tryd.lays206 : Go.Proofs.Lays.n206 Tryd.prog Tryd.lays206_ren := {
  mixed := by kernel_rfl
  f206 := Tryd.func72.trans (congrArg some (by kernel_rfl))
  t3 := Tryd.underlying3
  a3 := Tryd.isAgg3
  z3 := Tryd.sizeOf3
  v3 := Tryd.zeroValue3
  t4 := Tryd.underlying4
  a4 := Tryd.isAgg4
  z4 := Tryd.sizeOf4
  v4 := Tryd.zeroValue4
  t9 := Tryd.underlying9
  a9 := Tryd.isAgg9
  z9 := Tryd.sizeOf9
  v9 := Tryd.zeroValue9 }
open Go.RowKit Go.Lib in
/-- internal/stringslite.HasPrefix (what strings.HasPrefix calls). (LAID: no walk: one application.) -/
theorem Tryd.stringslite_HasPrefix (s p : ByteArray) (w : World) :
    Calls Tryd.prog 72 #[.string s, .string p] w fun e w' => e = .returned (.bool (Lib.hasPrefix s.data.toList p.data.toList)) ∧ w' = w := Any.stringslite_HasPrefix Tryd.lays206 s p w
def Tryd.lays99_ren : Go.Shelf.Ren := ⟨fun | 99 => 56 | 206 => 72 | n => n, fun | 9 => 9 | 4 => 4 | 3 => 3 | n => n, fun | n => n⟩
theorem Tryd.lays99 : Go.Proofs.Lays.n99 Tryd.prog Tryd.lays99_ren := {
  mixed := by kernel_rfl
  f99 := Tryd.func56.trans (congrArg some (by kernel_rfl))
  f206 := Tryd.func72.trans (congrArg some (by kernel_rfl))
  t3 := Tryd.underlying3
  a3 := Tryd.isAgg3
  z3 := Tryd.sizeOf3
  v3 := Tryd.zeroValue3
  t4 := Tryd.underlying4
  a4 := Tryd.isAgg4
  z4 := Tryd.sizeOf4
  v4 := Tryd.zeroValue4
  t9 := Tryd.underlying9
  a9 := Tryd.isAgg9
  z9 := Tryd.sizeOf9
  v9 := Tryd.zeroValue9 }
open Go.RowKit Go.Lib in
/-- strings.HasPrefix: "HasPrefix reports whether the string s begins with prefix.": IT RETURNS 'Lib.hasPrefix s prefix'; the world is as it was. (LAID: no walk: one application.) -/
theorem Tryd.strings_HasPrefix (s p : ByteArray) (w : World) :
    Calls Tryd.prog 56 #[.string s, .string p] w fun e w' => e = .returned (.bool (Lib.hasPrefix s.data.toList p.data.toList)) ∧ w' = w := Any.strings_HasPrefix Tryd.lays99 s p w
def Tryd.laysNm216_ren : Go.Shelf.Ren := ⟨fun | 16 => 34 | n => n, fun | 24 => 22 | 9 => 9 | 4 => 4 | n => n, fun | n => n⟩
theorem Tryd.laysNm216 : Go.Proofs.Lays2.n16 Tryd.prog Tryd.laysNm216_ren := {
  mixed := by kernel_rfl
  f16 := Tryd.func34.trans (congrArg some (by kernel_rfl))
  t4 := Tryd.underlying4
  a4 := Tryd.isAgg4
  z4 := Tryd.sizeOf4
  v4 := Tryd.zeroValue4
  t9 := Tryd.underlying9
  a9 := Tryd.isAgg9
  z9 := Tryd.sizeOf9
  v9 := Tryd.zeroValue9
  t24 := Tryd.underlying22
  a24 := Tryd.isAgg22
  z24 := Tryd.sizeOf22
  v24 := Tryd.zeroValue22
  i9 := by kernel_rfl }
open Go.RowKit Go.Lib in
/-- slices.Clone at []string: "Clone returns a copy of the slice. The elements are copied using assignment, so this is a shallow clone. The result may have additional unused capacity. The result preserves the nilness of s.": OF A SLICE THAT IS NOT nil IT RETURNS A SLICE THAT IS NOT nil, OF THE SAME ELEMENTS, IN MEMORY OF THE CALL's OWN: in the how-to's words (6f): 'w'.ownsRow B e 1 v' n cells': v' begins at the head of a row among the blocks from B on (B: the heap's size at the call), not frozen, whose first cells are the elements · 'Below B w w'': below B all is as it was. The capacity is whatever the run-time gives. 'zs': what the cells behind the slice's address hold; 'zs.take n': its elements. (LAID: no walk: one application.) -/
theorem Tryd.slices_Clone_string (b off n c : Nat) (zs : List ByteArray) (w : World) (hz : n ≤ zs.length) (hbig : n * 16 ≤ 140737488355328) (hc : ∀ j, j < zs.length → w.cell? ⟨b, off + j, none⟩ = some (.string (zs.getD j ByteArray.empty))) :
    Calls Tryd.prog 34 #[.slice (some ⟨b, off, none⟩) n c] w fun e w' => ∃ v', e = .returned v' ∧ w'.ownsRow w.heap.size 9 1 v' n ((zs.take n).map (Value.string)) ∧ v' ≠ .slice none 0 0 ∧ Below w.heap.size w w' := Any.slices_Clone_string Tryd.laysNm216 b off n c zs w hz hbig hc
open Go.RowKit Go.Lib in
/-- The same at nil: nil comes back; the world is as it was. (LAID: no walk: one application.) -/
theorem Tryd.slices_Clone_string_nil (n c : Nat) (w : World) :
    Calls Tryd.prog 34 #[.slice none n c] w fun e w' => e = .returned (.slice none 0 0) ∧ w' = w := Any.slices_Clone_string_nil Tryd.laysNm216 n c w
open Go.RowKit Go.Lib in
/-- The same at a slice of length 0 that is not nil, WHATEVER ITS ADDRESS (no cell is asked for): a slice that is not nil and owns nothing comes back. (LAID: no walk: one application.) -/
theorem Tryd.slices_Clone_string_zero (a : Addr) (c : Nat) (w : World) :
    Calls Tryd.prog 34 #[.slice (some a) 0 c] w fun e w' => ∃ v', e = .returned v' ∧ w'.ownsRow w.heap.size 9 1 v' 0 [] ∧ v' ≠ .slice none 0 0 ∧ Below w.heap.size w w' := Any.slices_Clone_string_zero Tryd.laysNm216 a c w
def Tryd.laysSlE041_f34_ren : Go.Shelf.Ren := ⟨fun | 41 => 34 | n => n, fun | 22 => 22 | 23 => 9 | 4 => 4 | n => n, fun | n => n⟩
theorem Tryd.laysSlE041_f34 : Go.Proofs.SlLaysE0.n41 Tryd.prog Tryd.laysSlE041_f34_ren := {
  mixed := by kernel_rfl
  f41 := ⟨Tryd.f34.name, by decide, Tryd.func34.trans (congrArg some (by kernel_rfl))⟩
  t4 := Tryd.underlying4
  a4 := Tryd.isAgg4
  z4 := Tryd.sizeOf4
  v4 := Tryd.zeroValue4
  t22 := Tryd.underlying22
  a22 := Tryd.isAgg22
  z22 := Tryd.sizeOf22
  v22 := Tryd.zeroValue22 }
open Go.RowKit Go.Lib in
/-- slices.Clone: "Clone returns a copy of the slice. The elements are copied using assignment, so this is a shallow clone. The result may have additional unused capacity. The result preserves the nilness of s.": OF A SLICE THAT IS NOT nil IT RETURNS A SLICE THAT IS NOT nil, OF THE SAME CELLS, IN MEMORY OF THE CALL's OWN ('ownsRow': the how-to's 6f); below the heap's size at the call all is as it was. (LAID AT THE INSTANCE 'slices.Clone[[]string,string]': no walk: one application.) -/
theorem Tryd.slices_Clone (i0 : TypeInfo) (z : Value) (size bytes : Nat) (hi : Tryd.prog.info? 9 = some i0) (hz0 : i0.zero = some z) (hz1 : i0.size = size) (hz2 : i0.bytes = bytes) (hzs : z.cells.size = size) (hsz : 0 < size) (z23 : ∀ w, (Go.sizeOf 9).run Tryd.prog w = .ok size w) (b off n c : Nat) (news : List Value) (w : World) (hl : news.length = n * size) (hn : n ≤ maxLen) (hbig : n * bytes ≤ 140737488355328) (hc : ∀ j u, news[j]? = some u → w.cell? ⟨b, off + j, none⟩ = some u) (h1 : ∀ u ∈ news, u.oneCell' = true) :
    Calls Tryd.prog 34 #[.slice (some ⟨b, off, none⟩) n c] w fun e w' => ∃ v', e = .returned v' ∧ w'.ownsRow w.heap.size 9 size v' n news ∧ v' ≠ .slice none 0 0 ∧ Below w.heap.size w w' := AnyE.slices_Clone Tryd.laysSlE041_f34 i0 z size bytes hi hz0 hz1 hz2 hzs hsz z23 b off n c news w hl hn hbig hc h1
open Go.RowKit Go.Lib in
/-- The same at nil: nil comes back; the world is as it was; nothing is asked of the element's type. (LAID AT THE INSTANCE 'slices.Clone[[]string,string]': no walk: one application.) -/
theorem Tryd.slices_Clone_nil (n c : Nat) (w : World) :
    Calls Tryd.prog 34 #[.slice none n c] w fun e w' => e = .returned (.slice none 0 0) ∧ w' = w := AnyE.slices_Clone_nil Tryd.laysSlE041_f34 n c w
def Tryd.sortFact_ren : Go.Shelf.Ren := ⟨fun | 6 => 60 | 15 => 74 | 14 => 73 | 28 => 90 | 29 => 91 | 20 => 82 | 21 => 83 | 22 => 84 | 23 => 85 | 24 => 86 | 25 => 87 | 26 => 88 | 27 => 89 | 46 => 94 | 47 => 95 | 48 => 96 | 49 => 97 | 50 => 98 | 57 => 103 | n => n, fun | 22 => 25 | 24 => 24 | 25 => 45 | 3 => 3 | 39 => 118 | 0 => 0 | 53 => 132 | 55 => 134 | 4 => 4 | 46 => 125 | 45 => 124 | 50 => 129 | 5 => 5 | 9 => 9 | 66 => 137 | 70 => 141 | 76 => 147 | 77 => 148 | n => n, fun | n => n⟩
theorem Tryd.sortFact : Go.Proofs.SlLaysF0.n6 Tryd.prog Tryd.sortFact_ren := {
  mixed := by kernel_rfl
  f6 := ⟨Tryd.f60.name, by decide, Tryd.func60.trans (congrArg some (by kernel_rfl))⟩
  f14 := ⟨Tryd.f73.name, by decide, Tryd.func73.trans (congrArg some (by kernel_rfl))⟩
  f15 := Tryd.func74.trans (congrArg some (by kernel_rfl))
  f20 := ⟨Tryd.f82.name, by decide, Tryd.func82.trans (congrArg some (by kernel_rfl))⟩
  f21 := ⟨Tryd.f83.name, by decide, Tryd.func83.trans (congrArg some (by kernel_rfl))⟩
  f22 := ⟨Tryd.f84.name, by decide, Tryd.func84.trans (congrArg some (by kernel_rfl))⟩
  f23 := ⟨Tryd.f85.name, by decide, Tryd.func85.trans (congrArg some (by kernel_rfl))⟩
  f24 := ⟨Tryd.f86.name, by decide, Tryd.func86.trans (congrArg some (by kernel_rfl))⟩
  f25 := ⟨Tryd.f87.name, by decide, Tryd.func87.trans (congrArg some (by kernel_rfl))⟩
  f26 := ⟨Tryd.f88.name, by decide, Tryd.func88.trans (congrArg some (by kernel_rfl))⟩
  f27 := ⟨Tryd.f89.name, by decide, Tryd.func89.trans (congrArg some (by kernel_rfl))⟩
  f28 := Tryd.func90.trans (congrArg some (by kernel_rfl))
  f29 := Tryd.func91.trans (congrArg some (by kernel_rfl))
  f46 := ⟨Tryd.f94.name, by decide, Tryd.func94.trans (congrArg some (by kernel_rfl))⟩
  f47 := Tryd.func95.trans (congrArg some (by kernel_rfl))
  f48 := Tryd.func96.trans (congrArg some (by kernel_rfl))
  f49 := ⟨Tryd.f97.name, by decide, Tryd.func97.trans (congrArg some (by kernel_rfl))⟩
  f50 := ⟨Tryd.f98.name, by decide, Tryd.func98.trans (congrArg some (by kernel_rfl))⟩
  f57 := ⟨Tryd.f103.name, by decide, Tryd.func103.trans (congrArg some (by kernel_rfl))⟩
  t0 := Tryd.underlying0
  a0 := Tryd.isAgg0
  z0 := Tryd.sizeOf0
  v0 := Tryd.zeroValue0
  t3 := Tryd.underlying3
  a3 := Tryd.isAgg3
  z3 := Tryd.sizeOf3
  v3 := Tryd.zeroValue3
  t4 := Tryd.underlying4
  a4 := Tryd.isAgg4
  z4 := Tryd.sizeOf4
  v4 := Tryd.zeroValue4
  t5 := Tryd.underlying5
  a5 := Tryd.isAgg5
  z5 := Tryd.sizeOf5
  v5 := Tryd.zeroValue5
  t9 := Tryd.underlying9
  a9 := Tryd.isAgg9
  z9 := Tryd.sizeOf9
  v9 := Tryd.zeroValue9
  t22 := Tryd.underlying25
  a22 := Tryd.isAgg25
  z22 := Tryd.sizeOf25
  v22 := Tryd.zeroValue25
  t25 := Tryd.underlying45
  a25 := Tryd.isAgg45
  z25 := Tryd.sizeOf45
  v25 := Tryd.zeroValue45
  t39 := Tryd.underlying118
  a39 := Tryd.isAgg118
  z39 := Tryd.sizeOf118
  v39 := Tryd.zeroValue118
  t45 := Tryd.underlying124
  a45 := Tryd.isAgg124
  z45 := Tryd.sizeOf124
  v45 := Tryd.zeroValue124
  t46 := Tryd.underlying125
  a46 := Tryd.isAgg125
  z46 := Tryd.sizeOf125
  v46 := Tryd.zeroValue125
  t50 := Tryd.underlying129
  a50 := Tryd.isAgg129
  z50 := Tryd.sizeOf129
  v50 := Tryd.zeroValue129
  t53 := Tryd.underlying132
  a53 := Tryd.isAgg132
  z53 := Tryd.sizeOf132
  v53 := Tryd.zeroValue132
  t55 := Tryd.underlying134
  a55 := Tryd.isAgg134
  z55 := Tryd.sizeOf134
  v55 := Tryd.zeroValue134
  t66 := Tryd.underlying137
  a66 := Tryd.isAgg137
  z66 := Tryd.sizeOf137
  v66 := Tryd.zeroValue137
  t70 := Tryd.underlying141
  a70 := Tryd.isAgg141
  z70 := Tryd.sizeOf141
  v70 := Tryd.zeroValue141
  t76 := Tryd.underlying147
  a76 := Tryd.isAgg147
  z76 := Tryd.sizeOf147
  v76 := Tryd.zeroValue147
  t77 := Tryd.underlying148
  a77 := Tryd.isAgg148
  z77 := Tryd.sizeOf148
  v77 := Tryd.zeroValue148 }
def Tryd.cloneN_ren : Go.Shelf.Ren := ⟨fun | 41 => 68 | n => n, fun | 22 => 25 | 23 => 24 | 4 => 4 | n => n, fun | n => n⟩
theorem Tryd.cloneN : Go.Proofs.SlLaysE0.n41 Tryd.prog Tryd.cloneN_ren := {
  mixed := by kernel_rfl
  f41 := ⟨Tryd.f68.name, by decide, Tryd.func68.trans (congrArg some (by kernel_rfl))⟩
  t4 := Tryd.underlying4
  a4 := Tryd.isAgg4
  z4 := Tryd.sizeOf4
  v4 := Tryd.zeroValue4
  t22 := Tryd.underlying25
  a22 := Tryd.isAgg25
  z22 := Tryd.sizeOf25
  v22 := Tryd.zeroValue25 }
end Go.Proofs
/- An abstract machine (7): contracts at worlds taken over as general calls: rows handed on, rows changed in place. -/
namespace Go.Proofs.YtflgpccacloadaaDoor.Am
open Go.RowKit
/-- a value without own memory, in a later world -/
theorem rv_keep {w w' : World} {vs vs' : Shp} {m m' : MM} {y : AV} {u : Value} (hy : Fr y) (h : RV w vs m y u) (hs : w.heap.size ≤ w'.heap.size) (hc : ∀ b, b < w.heap.size → ¬ Owned vs m b → w'.heap[b]? = w.heap[b]?) (hn : ∀ b, b < w.heap.size → ¬ Owned vs m b → ¬ Owned vs' m' b) : RV w' vs' m' y u := by
  have hO : ∀ b, Owned (fun i => ((vs i).1 + 1, none)) ⟨fun _ => none, Owned vs' m'⟩ b ↔ Owned vs' m' b := by
    intro b
    constructor
    · rintro (q | ⟨i, q1, _⟩)
      · exact q
      · exact absurd rfl q1
    · exact fun q => .inl q
  have hM : Mono w vs m w' (fun i => ((vs i).1 + 1, none)) ⟨fun _ => none, Owned vs' m'⟩ :=
    ⟨hs, hc, fun b hb hno ho => hn b hb hno ((hO b).1 ho), fun i => Nat.le_succ _, fun i hi => by simp at hi⟩
  exact rv_fr hy (fun b hb => (hO b).2 hb) (h.mono hM)
theorem enter_g {P : Program} {f : FuncId} {fn : Func} {c : Code} (hf : P.funcs[f]? = some fn) (hb : fn.body = some c) (hname : (fn.name == "runtime.NumGoroutine") = false) (vs : Array Value) (w : World) : (callFunc f vs).run P w = .ok (.enter f vs) w := by
  simp only [callFunc, Sem.run_bind, program, Sem.run, Result.andThen_ok, hf, hname, hb]
  rfl
section
variable {C : Cx} {w w' : World} {m : MM} {bs : List (Nat × Blk)}
/-- a row that is handed on: the memory of a row that came in, or new memory -/
theorem gr_row {i0 E sz n' : Nat} {v v' : Value} {row : Option Nat} {els' : List (List AV)} {xs' : List Value} (hM : Mem C.N w (fE bs) m) (hG : C.Gl w) (hv : v.ownBlock = none ∨ ((fE bs i0).blk ≠ none ∧ m i0 = v.ownBlock)) (hrow : w'.ownsRow 0 E sz v' n' xs') (hgr : w.grownBy w' row)
    (hr : row = v.ownBlock ∨ ∀ b, row = some b → w.heap.size ≤ b) (hv' : v'.ownBlock = v.ownBlock ∨ ∀ b, v'.ownBlock = some b → w.heap.size ≤ b) (hl : els'.length = n')
    (hfl : ∀ (k : Nat) (e : List AV), els'[k]? = some e → e.length = sz ∧ ∀ (j : Nat) (y : AV), e[j]? = some y → Fr y ∧ ∃ u, xs'[k * sz + j]? = some u ∧ u.oneCell' = true ∧ RV w (shp (fE bs)) m y u) :
    GR C w m bs [] (.own 0 0 0 n') [(0, ⟨E, sz, false, els'⟩)] v' ⟨fun k => if k = 0 then v'.ownBlock else none, m.O⟩ w' := by
  have hvb : ∀ b, v.ownBlock = some b → (fE bs i0).blk ≠ none ∧ m i0 = some b := fun b hb => by
    rcases hv with q | ⟨q1, q2⟩
    · rw [q] at hb; cases hb
    · exact ⟨q1, by rw [q2, hb]⟩
  have hnew : ∀ b, v'.ownBlock = some b → ((fE bs i0).blk ≠ none ∧ m i0 = some b) ∨ w.heap.size ≤ b := fun b hb => by
    rcases hv' with q | q
    · rw [q] at hb; exact .inl (hvb b hb)
    · exact .inr (q b hb)
  have hrow0 : ∀ b, b < w.heap.size → row = some b → (fE bs i0).blk ≠ none ∧ m i0 = some b := fun b hb hq => by
    rcases hr with q | q
    · rw [q] at hq; exact hvb b hq
    · have := q b hq; omega
  have hcell : ∀ b, b < w.heap.size → ¬ Owned (shp (fE bs)) m b → w'.heap[b]? = w.heap[b]? := fun b hb hno => hgr.block b hb (fun e => by
    obtain ⟨q1, q2⟩ := hrow0 b hb e.symm
    exact hno (.inr ⟨i0, blk_live.2 q1, q2⟩))
  have hown : ∀ b, b < w.heap.size → ¬ Owned (shp (fE bs)) m b → ¬ Owned (shp (fE [(0, ⟨E, sz, false, els'⟩)])) ⟨fun k => if k = 0 then v'.ownBlock else none, m.O⟩ b := by
    rintro b hb hno (q | ⟨k, q1, q2⟩)
    · exact hno (.inl q)
    · have q2' : (if k = 0 then v'.ownBlock else none) = some b := q2
      split at q2'
      · rcases hnew b q2' with ⟨p1, p2⟩ | p
        · exact hno (.inr ⟨i0, blk_live.2 p1, p2⟩)
        · omega
      · cases q2'
  have hfE : fE [(0, (⟨E, sz, false, els'⟩ : Blk))] 0 = ⟨0, some ⟨E, sz, false, els'⟩⟩ := rfl
  have hblk : BlkOk w' (shp (fE [(0, ⟨E, sz, false, els'⟩)])) ⟨fun k => if k = 0 then v'.ownBlock else none, m.O⟩ ⟨E, sz, false, els'⟩ v'.ownBlock := by
    rcases hrow.2 with ⟨rfl, h0⟩ | ⟨g, cap, cur, rfl, _, hh, hnc, hmx, hcs, htake⟩
    · exact ⟨List.length_eq_zero_iff.1 (by show els'.length = 0; omega), rfl⟩
    · refine ⟨cur, .cells hh rfl, ?_, fun k e he => ⟨(hfl k e he).1, fun j y hy => ?_⟩⟩
      · show els'.length * sz ≤ cur.size
        rw [hcs, hl]
        exact Nat.mul_le_mul_right _ hnc
      · obtain ⟨h1, u, u1, u2, u3⟩ := (hfl k e he).2 j y hy
        refine ⟨u, ?_, fun _ => u2, rv_keep h1 u3 hgr.size hcell hown⟩
        rw [← htake, List.getElem?_take] at u1
        split at u1
        · simpa using u1
        · cases u1
  have hliveI : ∀ i, (fE [(0, (⟨E, sz, false, els'⟩ : Blk))] i).blk ≠ none → i = 0 := fun i hi => by
    have := fE_live.1 hi
    simpa [keys] using this
  refine ⟨?_, ⟨fun i B hB => ?_, fun i j b hi hj _ _ => ?_, fun i b hi hb => ?_, fun i b hi hb ho => ?_, fun b hb => ⟨Nat.lt_of_lt_of_le (hM.olt b hb).1 hgr.size, (hM.olt b hb).2⟩, Nat.le_trans hM.big hgr.size⟩, rfl, ⟨hgr.os, hgr.tape, hgr.output, hgr.size, fun b hb hx => ?_⟩, fun i b hi hb => ?_, fun i hi => (by cases hi), C.keep w w' (fun b hb => hgr.block b (Nat.lt_of_lt_of_le hb hM.big) (fun e => ?_)) hG⟩
  · rcases hrow.2 with ⟨rfl, h0⟩ | ⟨g, cap, cur, rfl, _, hh, hnc, hmx, hcs, htake⟩
    · subst h0
      exact .ownN (sz := sz) rfl rfl
    · have := RV.own (w := w') (vs := shp (fE [(0, ⟨E, sz, false, els'⟩)])) (m := ⟨fun k => if k = 0 then (Value.slice (some ⟨g, 0, none⟩) n' cap).ownBlock else none, m.O⟩) (i := 0) (ver := 0) (sz := sz) (k := 0) (b := g) (ty := E) (n := cur.size) (len := n') (cap := cap) rfl rfl hnc hmx (by simp [World.shape?, hh]) (by rw [Nat.zero_add, hcs])
      simpa using this
  · have hi := hliveI i (by rw [hB]; simp)
    subst hi
    rw [hfE] at hB
    injection hB with hB
    subst hB
    exact hblk
  · rw [hliveI i hi, hliveI j hj]
  · have := hliveI i hi
    subst this
    rcases hnew b hb with ⟨p1, p2⟩ | p
    · exact hM.low i0 b p1 p2
    · exact Nat.le_trans hM.big p
  · have := hliveI i hi
    subst this
    rcases hnew b hb with ⟨p1, p2⟩ | p
    · exact hM.sep i0 b p1 p2 ho
    · have := (hM.olt b ho).1
      omega
  · refine hgr.block b hb (fun e => hx ?_)
    obtain ⟨q1, q2⟩ := hrow0 b hb e.symm
    exact ⟨i0, q1, q2⟩
  · have := hliveI i hi
    subst this
    rcases hnew b hb with ⟨p1, p2⟩ | p
    · exact .inl ⟨i0, p1, p2⟩
    · exact .inr (by omega)
  · have hb' : b < w.heap.size := Nat.lt_of_lt_of_le hb hM.big
    obtain ⟨q1, q2⟩ := hrow0 b hb' e.symm
    have := hM.low i0 b q1 q2
    omega
/-- a row changed in place -/
theorem gr_kept {i0 E sz n : Nat} {v r : Value} {els els' : List (List AV)} {rA : AV} {xs' : List Value} (hM : Mem C.N w (fE [(i0, ⟨E, sz, false, els⟩)]) m) (hG : C.Gl w) (hv : m i0 = v.ownBlock) (hrow : w'.ownsRow 0 E sz v n xs') (hgr : w.grownBy w' v.ownBlock) (hsh : ∀ b, v.ownBlock = some b → w'.shape? b = w.shape? b) (hl : els'.length = n)
    (hr : ∀ m', RV w' (shp (fE [(i0, ⟨E, sz, false, els'⟩)])) m' rA r)
    (hfl : ∀ (k : Nat) (e : List AV), els'[k]? = some e → e.length = sz ∧ ∀ (j : Nat) (y : AV), e[j]? = some y → Fr y ∧ ∃ u, xs'[k * sz + j]? = some u ∧ u.oneCell' = true ∧ RV w (shp (fE [(i0, ⟨E, sz, false, els⟩)])) m y u) :
    GR C w m [(i0, ⟨E, sz, false, els⟩)] [i0] rA [(i0, ⟨E, sz, false, els'⟩)] r m w' := by
  have hf0 : ∀ l : List (List AV), fE [(i0, (⟨E, sz, false, l⟩ : Blk))] i0 = ⟨0, some ⟨E, sz, false, l⟩⟩ := fun l => by simp only [fE, beq_iff.2 rfl]
  have hlive0 : (fE [(i0, (⟨E, sz, false, els⟩ : Blk))] i0).blk ≠ none := by rw [hf0]; simp
  have hliveI : ∀ (l : List (List AV)) i, (fE [(i0, (⟨E, sz, false, l⟩ : Blk))] i).blk ≠ none → i = i0 := fun l i hi => by
    have := fE_live.1 hi
    simpa [keys] using this
  have hshp : shp (fE [(i0, (⟨E, sz, false, els'⟩ : Blk))]) = shp (fE [(i0, ⟨E, sz, false, els⟩)]) := by
    funext i
    simp only [shp, fE]
    cases Nat.beq i i0 <;> rfl
  have hcell : ∀ b, b < w.heap.size → ¬ Owned (shp (fE [(i0, ⟨E, sz, false, els⟩)])) m b → w'.heap[b]? = w.heap[b]? := fun b hb hno => hgr.block b hb (fun e => hno (.inr ⟨i0, blk_live.2 hlive0, by rw [hv]; exact e.symm⟩))
  have hblk : BlkOk w' (shp (fE [(i0, ⟨E, sz, false, els'⟩)])) m ⟨E, sz, false, els'⟩ v.ownBlock := by
    rcases hrow.2 with ⟨rfl, h0⟩ | ⟨g, cap, cur, rfl, _, hh, hnc, hmx, hcs, htake⟩
    · exact ⟨List.length_eq_zero_iff.1 (by show els'.length = 0; omega), rfl⟩
    · refine ⟨cur, .cells hh rfl, ?_, fun k e he => ⟨(hfl k e he).1, fun j y hy => ?_⟩⟩
      · show els'.length * sz ≤ cur.size
        rw [hcs, hl]
        exact Nat.mul_le_mul_right _ hnc
      · obtain ⟨h1, u, u1, u2, u3⟩ := (hfl k e he).2 j y hy
        refine ⟨u, ?_, fun _ => u2, rv_keep h1 u3 hgr.size hcell (by rw [hshp]; exact fun _ _ h => h)⟩
        rw [← htake, List.getElem?_take] at u1
        split at u1
        · simpa using u1
        · cases u1
  refine ⟨hr m, ⟨fun i B hB => ?_, fun i j b hi hj _ _ => ?_, fun i b hi hb => ?_, fun i b hi hb => ?_, fun b hb => ⟨Nat.lt_of_lt_of_le (hM.olt b hb).1 hgr.size, (hM.olt b hb).2⟩, Nat.le_trans hM.big hgr.size⟩, rfl, ⟨hgr.os, hgr.tape, hgr.output, hgr.size, fun b hb hx => ?_⟩, fun i b hi hb => ?_, fun i hi => ?_, C.keep w w' (fun b hb => hgr.block b (Nat.lt_of_lt_of_le hb hM.big) (fun e => ?_)) hG⟩
  · have hi := hliveI els' i (by rw [hB]; simp)
    subst hi
    rw [hf0] at hB
    injection hB with hB
    subst hB
    rw [hv]
    exact hblk
  · rw [hliveI _ i hi, hliveI _ j hj]
  · have := hliveI _ i hi
    subst this
    exact hM.low i b hlive0 hb
  · have := hliveI _ i hi
    subst this
    exact hM.sep i b hlive0 hb
  · exact hgr.block b hb (fun e => hx ⟨i0, hlive0, by rw [hv]; exact e.symm⟩)
  · have := hliveI _ i hi
    subst this
    exact .inl ⟨i, hlive0, hb⟩
  · simp only [List.mem_singleton] at hi
    subst hi
    exact ⟨rfl, fun b hb => hsh b (by rw [← hv]; exact hb)⟩
  · have := hM.low i0 b hlive0 (by rw [hv]; exact e.symm)
    omega
end
end Go.Proofs.YtflgpccacloadaaDoor.Am
/- slices.SortFunc over atoms with datalog.compare: by name, then by arguments. -/
namespace Go.Proofs.YtflgpccacloadaaDoor
open Go.RowKit Go.Sort Go.Shelf Go.Lib Am

/-- draws and new blocks alone -/
def Grw (w w' : World) : Prop := ∃ q os, w' = grow (w.drewN q) os
theorem Grw.refl (w : World) : Grw w w := ⟨0, #[], by simp; rfl⟩
theorem Grw.alloc {a w : World} (h : Grw a w) (o : Obj) : Grw a (w.alloc o) := by
  obtain ⟨q, os, rfl⟩ := h
  exact ⟨q, os ++ #[o], by rw [alloc_eq_grow, grow_grow]⟩
theorem Grw.drew {a w : World} (h : Grw a w) : Grw a w.drew := by
  obtain ⟨q, os, rfl⟩ := h
  exact ⟨q + 1, os, rfl⟩
theorem Grw.below {w w' : World} (h : Grw w w') : Below w.heap.size w w' := by
  obtain ⟨q, os, rfl⟩ := h
  exact ⟨rfl, rfl, rfl, by simp [grow], fun i hi => by
    show (w.heap ++ os)[i]? = w.heap[i]?
    rw [Array.getElem?_append_left hi]⟩
theorem Grw.trans {a b c : World} (h : Grw a b) (k : Grw b c) : Grw a c := by
  obtain ⟨q, os, rfl⟩ := h
  obtain ⟨q2, os2, rfl⟩ := k
  refine ⟨q + q2, os ++ os2, ?_⟩
  show grow (grow ((a.drewN q).drewN q2) os) os2 = _
  rw [grow_grow, World.drewN_drewN]

theorem nanS (a : ByteArray) (w : World) : Calls Tryd.prog 92 #[.string a] w fun e w' => e = .returned (.bool false) ∧ w' = w := by
  have ha : (!(a.toList == a.toList)) = false := by simp
  have HA := Lib.hid ha
  clear ha
  go_enter Tryd.func92, Tryd.ntmps92
  go_wp2
  go_ret
  exact ⟨by simp, rfl⟩
set_option maxHeartbeats 1000000 in
theorem cmpS (a b : ByteArray) (w : World) : Calls Tryd.prog 76 #[.string a, .string b] w fun e w' => e = .returned (.int .i64 (strC a b)) ∧ w' = w := by
  have h1 := fun W => nanS a W
  have h2 := fun W => nanS b W
  obtain ⟨r, hr⟩ : ∃ r, strC a b = r := ⟨_, rfl⟩
  have hv := strC_val a b
  rw [hr] at hv ⊢
  cases hl : Op.bytesLess a.toList b.toList with
  | true =>
    rw [hl, if_pos rfl] at hv
    subst hv
    have H1 := Lib.hid h1
    have H2 := Lib.hid h2
    have HR := Lib.hid hr
    clear h1 h2 hr
    go_enter Tryd.func76, Tryd.ntmps76
    go_wp2_with (first
      | (go_at_call_of 92 (Value.string a); refine (H1.out _).mono ?_; rintro e wa ⟨rfl, rfl⟩)
      | (go_at_call_of 92 (Value.string b); refine (H2.out _).mono ?_; rintro e wb ⟨rfl, rfl⟩))
    go_ret
    exact ⟨rfl, rfl⟩
  | false =>
    cases he : a.toList == b.toList with
    | true =>
      rw [hl, he] at hv
      simp at hv
      subst hv
      have hg : (!(a.toList == b.toList)) = false := by rw [he]; rfl
      have H1 := Lib.hid h1
      have H2 := Lib.hid h2
      have HR := Lib.hid hr
      have HE := Lib.hid he
      clear h1 h2 hr he
      go_enter Tryd.func76, Tryd.ntmps76
      go_wp2_with (first
        | (go_at_call_of 92 (Value.string a); refine (H1.out _).mono ?_; rintro e wa ⟨rfl, rfl⟩)
        | (go_at_call_of 92 (Value.string b); refine (H2.out _).mono ?_; rintro e wb ⟨rfl, rfl⟩))
      go_ret
      exact ⟨rfl, rfl⟩
    | false =>
      rw [hl, he] at hv
      simp at hv
      subst hv
      have hg : (!(a.toList == b.toList)) = true := by rw [he]; rfl
      have H1 := Lib.hid h1
      have H2 := Lib.hid h2
      have HR := Lib.hid hr
      have HE := Lib.hid he
      clear h1 h2 hr he
      go_enter Tryd.func76, Tryd.ntmps76
      go_wp2_with (first
        | (go_at_call_of 92 (Value.string a); refine (H1.out _).mono ?_; rintro e wa ⟨rfl, rfl⟩)
        | (go_at_call_of 92 (Value.string b); refine (H2.out _).mono ?_; rintro e wb ⟨rfl, rfl⟩))
      go_ret
      exact ⟨rfl, rfl⟩

/-- a list of strings behind a slice -/
def StrsAt (w : World) (v : Value) (l : List ByteArray) : Prop :=
  ∃ A c, v = .slice A l.length c ∧ l.length ≤ 140737488355328 ∧ ∀ k x, l[k]? = some x → ∃ b off, A = some ⟨b, off, none⟩ ∧ w.cell? ⟨b, off + k, none⟩ = some (.string x)
theorem StrsAt.keep {w w' : World} {v : Value} {l : List ByteArray} (h : StrsAt w v l) (hb : Below w.heap.size w w') : StrsAt w' v l := by
  obtain ⟨A, c, h1, h2, h3⟩ := h
  refine ⟨A, c, h1, h2, fun k x hx => ?_⟩
  obtain ⟨b, off, e, hc⟩ := h3 k x hx
  exact ⟨b, off, e, kept hb hc⟩
theorem StrsAt.form {w : World} {v : Value} {l : List ByteArray} (h : StrsAt w v l) : ∃ A n c, v = .slice A n c ∧ n = l.length ∧ n ≤ 140737488355328 := by
  obtain ⟨A, c, h1, h2, _⟩ := h
  exact ⟨A, _, c, h1, rfl, h2⟩
theorem StrsAt.at {w : World} {A : Option Addr} {n c : Nat} {l : List ByteArray} (h : StrsAt w (.slice A n c) l) {k : Nat} (hk : k < n) :
    ∃ b off x, A = some ⟨b, off, none⟩ ∧ w.cell? ⟨b, off + k, none⟩ = some (.string x) ∧ l.drop k = x :: l.drop (k + 1) := by
  obtain ⟨A', c', h1, _, h3⟩ := h
  injection h1 with e1 e2 e3
  subst e1
  have hk' : k < l.length := by omega
  obtain ⟨b, off, e, hc⟩ := h3 k _ (List.getElem?_eq_getElem hk')
  exact ⟨b, off, _, e, hc, List.drop_eq_getElem_cons hk'⟩
theorem Grw.keepS {w w' : World} (h : Grw w w') {v : Value} {l : List ByteArray} (hv : StrsAt w v l) : StrsAt w' v l := hv.keep h.below
set_option maxHeartbeats 2000000 in
theorem cmpSs (u v : Value) (a b : List ByteArray) (w : World) (hu : StrsAt w u a) (hv : StrsAt w v b) :
    Calls Tryd.prog 77 #[u, v] w fun e w' => e = .returned (.int .i64 (lexC strC a b)) ∧ w' = w := by
  obtain ⟨A, n, c, rfl, hn, hm⟩ := hu.form
  obtain ⟨A', n', c', rfl, hn', hm'⟩ := hv.form
  obtain ⟨D, hD⟩ : ∃ D, lexC strC a b = D := ⟨_, rfl⟩
  rw [hD]
  have HU := Lib.hid hu
  have HV := Lib.hid hv
  have HN := Lib.hid hn
  have HN' := Lib.hid hn'
  have HD := Lib.hid hD
  clear hu hv hn hn' hD
  go_enter Tryd.func77, Tryd.ntmps77
  go_wp2
  go_loopg [11] n (fun g i wr => ∃ k : Nat, k ≤ n ∧ k ≤ n' ∧ g = n - k ∧ i = .int .i64 k ∧ wr = w ∧ D = lexC strC (a.drop k) (b.drop k))
  case atStart => exact ⟨0, Nat.zero_le _, Nat.zero_le _, by omega, rfl, rfl, HD.out.symm⟩
  case round =>
    obtain ⟨k, hk, hk', hg, rfl, rfl, hF⟩ := hrel
    have HG := Lib.hid hg
    have HF := Lib.hid hF
    clear hg hF
    by_cases hlt : k < n
    · obtain ⟨bb, off, x, rfl, c0, hd⟩ := HU.out.at hlt
      by_cases hlt' : k < n'
      · obtain ⟨bb', off', y, rfl, d0, hd'⟩ := HV.out.at hlt'
        have hst : D = if strC x y = 0 then lexC strC (a.drop (k + 1)) (b.drop (k + 1)) else strC x y := by rw [HF.out, hd, hd', lexC]
        have h1 := fun (W : World) => cmpS x y W
        generalize strC x y = cc at hst h1
        by_cases hcc : cc = 0
        · have hb : (cc != 0) = false := by simp [hcc]
          have hnext : D = lexC strC (a.drop (k + 1)) (b.drop (k + 1)) := by rw [hst, if_pos hcc]
          have HD2 := Lib.hid hd
          have HD3 := Lib.hid hd'
          have HST := Lib.hid hst
          have H1 := Lib.hid h1
          have HCC := Lib.hid hcc
          have HNEXT := Lib.hid hnext
          clear hd hd' hst h1 hcc hnext
          go_wp2_with (go_at_call 76; refine (H1.out _).mono ?_; rintro e w1 ⟨rfl, rfl⟩)
          go_roundg (n - (k + 1))
          case measure => have := HG.out; omega
          case rel => exact ⟨k + 1, by omega, by omega, rfl, by go_num, rfl, HNEXT.out⟩
        · have hb : (cc != 0) = true := by simp [hcc]
          have hfin : D = cc := by rw [hst, if_neg hcc]
          have HD2 := Lib.hid hd
          have HD3 := Lib.hid hd'
          have HST := Lib.hid hst
          have H1 := Lib.hid h1
          have HFIN := Lib.hid hfin
          clear hd hd' hst h1 hfin
          go_wp2_with (go_at_call 76; refine (H1.out _).mono ?_; rintro e w1 ⟨rfl, rfl⟩)
          go_ret
          exact ⟨by rw [HFIN.out]; rfl, rfl⟩
      · have hfin : D = 1 := by rw [HF.out, hd, show b.drop k = [] from List.drop_eq_nil_of_le (by have := HN'.out; omega), lexC]
        have HD2 := Lib.hid hd
        have HFIN := Lib.hid hfin
        clear hd hfin
        go_wp2_with fail
        go_ret
        exact ⟨by rw [HFIN.out]; rfl, rfl⟩
    · have hdn : a.drop k = [] := List.drop_eq_nil_of_le (by have := HN.out; omega)
      by_cases hlt' : n < n'
      · have hfin : D = -1 := by
          have hk2 : k < b.length := by have := HN'.out; omega
          rw [HF.out, hdn, List.drop_eq_getElem_cons hk2, lexC]
        have HDN := Lib.hid hdn
        have HFIN := Lib.hid hfin
        clear hdn hfin
        go_wp2_with fail
        go_ret
        exact ⟨by rw [HFIN.out]; rfl, rfl⟩
      · have hfin : D = 0 := by rw [HF.out, hdn, show b.drop k = [] from List.drop_eq_nil_of_le (by have := HN'.out; omega), lexC]
        have HDN := Lib.hid hdn
        have HFIN := Lib.hid hfin
        clear hdn hfin
        go_wp2_with fail
        go_ret
        exact ⟨by rw [HFIN.out]; rfl, rfl⟩
set_option maxHeartbeats 1000000 in
theorem or_calls (g c : Nat) (a b r : Int) (hr : r = if a ≠ 0 then a else b) (w : World) (h0 : w.cell? ⟨g, 0, none⟩ = some (.int .i64 a)) (h1 : w.cell? ⟨g, 1, none⟩ = some (.int .i64 b)) :
    Calls Tryd.prog 75 #[.slice (some ⟨g, 0, none⟩) 2 c] w fun e w' => e = .returned (.int .i64 r) ∧ w = w' := by
  have HR := Lib.hid hr
  clear hr
  go_enter Tryd.func75, Tryd.ntmps75
  go_wp2
  go_loopg [8] 2 (fun gg i wr => ∃ k : Nat, k ≤ 2 ∧ gg = 2 - k ∧ i = .int .i64 k ∧ wr = w ∧ (1 ≤ k → a = 0) ∧ (2 ≤ k → b = 0))
  case atStart => exact ⟨0, by omega, by omega, rfl, rfl, by omega, by omega⟩
  case round =>
    obtain ⟨k, hk, hg, rfl, rfl, ka, kb⟩ := hrel
    have hk3 : k = 0 ∨ k = 1 ∨ k = 2 := by omega
    rcases hk3 with rfl | rfl | rfl
    · have HG := Lib.hid hg
      have KA := Lib.hid ka
      have KB := Lib.hid kb
      clear hg ka kb
      by_cases ha : a = 0
      · have hab : (a != 0) = false := by simp [ha]
        have HA := Lib.hid ha
        clear ha
        go_wp2
        go_roundg 1
        case measure => have := HG.out; omega
        case rel => exact ⟨1, by omega, by omega, by go_num, rfl, fun _ => HA.out, by omega⟩
      · have hab : (a != 0) = true := by simp [ha]
        have hra : r = a := by rw [HR.out, if_pos ha]
        have HA := Lib.hid ha
        have HRA := Lib.hid hra
        clear ha hra
        go_wp2
        go_ret
        exact ⟨by rw [HRA.out]; rfl, rfl⟩
    · have ha : a = 0 := ka (by omega)
      have HG := Lib.hid hg
      have KA := Lib.hid ka
      have KB := Lib.hid kb
      clear hg ka kb
      by_cases hb : b = 0
      · have hab : (b != 0) = false := by simp [hb]
        have HA := Lib.hid ha
        have HB := Lib.hid hb
        clear ha hb
        go_wp2
        go_roundg 0
        case measure => have := HG.out; omega
        case rel => exact ⟨2, by omega, by omega, by go_num, rfl, fun _ => HA.out, fun _ => HB.out⟩
      · have hab : (b != 0) = true := by simp [hb]
        have hra : r = b := by rw [HR.out, if_neg (by simp [ha])]
        have HA := Lib.hid ha
        have HB := Lib.hid hb
        have HRA := Lib.hid hra
        clear ha hb hra
        go_wp2
        go_ret
        exact ⟨by rw [HRA.out]; rfl, rfl⟩
    · have hra : r = 0 := by rw [HR.out, if_neg (by simp [ka (by omega)]), kb (by omega)]
      have HRA := Lib.hid hra
      clear hra
      clear ka kb
      go_wp2
      go_ret
      exact ⟨by rw [HRA.out]; rfl, rfl⟩

set_option maxHeartbeats 1000000 in
theorem compareN (x y : GAtom) (u v : Value) (w : World) (hu : StrsAt w u x.Args) (hv : StrsAt w v y.Args) : Calls Tryd.prog 61 #[.agg #[.string x.Name, u], .agg #[.string y.Name, v]] w fun e w' => e = .returned (.int .i64 (atomC x y)) ∧ Grw w w' := by
  obtain ⟨x1, x2⟩ := x
  obtain ⟨y1, y2⟩ := y
  have h1 := fun (W : World) => cmpS x1 y1 W
  have h2 := fun (W : World) (hW : Grw w W) => cmpSs u v x2 y2 W (hW.keepS hu) (hW.keepS hv)
  have hfin : atomC ⟨x1, x2⟩ ⟨y1, y2⟩ = if strC x1 y1 ≠ 0 then strC x1 y1 else lexC strC x2 y2 := by
    rw [atomC_def]
    by_cases h : strC x1 y1 = 0 <;> simp [h]
  obtain ⟨A, n, c, rfl, hn, hm⟩ := hu.form
  obtain ⟨A', n', c', rfl, hn', hm'⟩ := hv.form
  generalize strC x1 y1 = c1 at h1 hfin
  generalize lexC strC x2 y2 = c2 at h2 hfin
  generalize atomC ⟨x1, x2⟩ ⟨y1, y2⟩ = r at hfin ⊢
  have H1 := Lib.hid h1
  have H2 := Lib.hid h2
  have HFIN := Lib.hid hfin
  have HU := Lib.hid hu
  have HV := Lib.hid hv
  have HN := Lib.hid hn
  have HN' := Lib.hid hn'
  clear h1 h2 hfin hu hv hn hn'
  simp only
  go_enter Tryd.func61, Tryd.ntmps61
  go_upto_region 1 with fail
  have c0 : ((w.alloc (.cells #[.string x1, .slice A n c] 24)).alloc (.cells #[.string y1, .slice A' n' c'] 24)).cell? ⟨w.heap.size, 0, none⟩ = some (.string x1) := by simp
  have c1' : ((w.alloc (.cells #[.string x1, .slice A n c] 24)).alloc (.cells #[.string y1, .slice A' n' c'] 24)).cell? ⟨w.heap.size, 1, none⟩ = some (.slice A n c) := by simp
  have c2' : ((w.alloc (.cells #[.string x1, .slice A n c] 24)).alloc (.cells #[.string y1, .slice A' n' c'] 24)).cell? ⟨w.heap.size + 1, 0, none⟩ = some (.string y1) := by simp
  have c3' : ((w.alloc (.cells #[.string x1, .slice A n c] 24)).alloc (.cells #[.string y1, .slice A' n' c'] 24)).cell? ⟨w.heap.size + 1, 1, none⟩ = some (.slice A' n' c') := by simp
  have hG : Grw w ((w.alloc (.cells #[.string x1, .slice A n c] 24)).alloc (.cells #[.string y1, .slice A' n' c'] 24)) := ((Grw.refl w).alloc _).alloc _
  have HG := Lib.hid hG
  clear hG
  generalize (w.alloc (.cells #[.string x1, .slice A n c] 24)).alloc (.cells #[.string y1, .slice A' n' c'] 24) = W0 at c0 c1' c2' c3' HG ⊢
  generalize w.heap.size = B0 at c0 c1' c2' c3' ⊢
  go_region_held3 (fun w' => w'.cell? ⟨B0, 0, none⟩ = some (.string x1) ∧ w'.cell? ⟨B0, 1, none⟩ = some (.slice A n c) ∧ w'.cell? ⟨B0 + 1, 0, none⟩ = some (.string y1) ∧ w'.cell? ⟨B0 + 1, 1, none⟩ = some (.slice A' n' c'))
    (first | exact ⟨c0, c1', c2', c3'⟩ | exact ⟨kept (belowA (Below.refl _ _) _) c0, kept (belowA (Below.refl _ _) _) c1', kept (belowA (Below.refl _ _) _) c2', kept (belowA (Below.refl _ _) _) c3'⟩)
    (first
      | (go_at_call 76; refine (H1.out _).mono ?_; rintro e wa ⟨rfl, rfl⟩)
      | (go_at_call 77; refine (H2.out _ (by first | exact HG.out | exact HG.out.drew | exact HG.out.alloc _ | exact (HG.out.drew).alloc _ | exact (HG.out.alloc _).drew)).mono ?_; rintro e wb ⟨rfl, rfl⟩)
      | (go_at_call 75; refine (or_calls _ _ c1 c2 r HFIN.out _ (by simp) (by simp)).mono ?_; rintro e wc ⟨rfl, rfl⟩))
  go_wp2
  go_ret
  exact ⟨rfl, (HG.out.alloc _).drew⟩
end Go.Proofs.YtflgpccacloadaaDoor
/- What is known of the package-level variables: that internal/bytealg.MaxLen holds a number, and internal/strconv's table of powers of ten. -/
namespace Go.Proofs.YtflgpccacloadaaDoor
open Go.RowKit
abbrev TabOk (w : World) : Prop := Lib.TabIs Tryd.prog w "internal/strconv.uint64pow10" .u64 Lib.pow10Tab
theorem gPow : Tryd.prog.globalNamed "internal/strconv.uint64pow10" = some 0 := by kernel_rfl
end Go.Proofs.YtflgpccacloadaaDoor
namespace Go.Proofs.YtflgpccacloadaaDoor.Am
open Go.RowKit
theorem tab_block {w : World} (h : TabOk w) : ∃ cs t fr, w.heap[0]? = some (.cells cs t fr) := by
  unfold TabOk Lib.TabIs World.var? at h
  rw [gPow] at h
  simp only [Option.bind_some] at h
  split at h
  · exact ⟨_, _, _, by assumption⟩
  · cases h
theorem tab_keep {w w' : World} (hk : w'.heap[0]? = w.heap[0]?) (h : TabOk w) : TabOk w' := by
  unfold TabOk Lib.TabIs World.var? at h ⊢
  rw [gPow] at h ⊢
  simp only [Option.bind_some] at h ⊢
  rw [hk]
  exact h
def GlOk (w : World) : Prop := TabOk w ∧ True
def glN : Nat := 0 + 1
theorem gl_keep (w w' : World) (hk : ∀ b, b < glN → w'.heap[b]? = w.heap[b]?) (h : GlOk w) : GlOk w' := ⟨tab_keep (hk _ (by decide)) h.1, trivial⟩
theorem gl_size {w : World} (h : GlOk w) : glN ≤ w.heap.size := by
  obtain ⟨cs, t, fr, h1⟩ := tab_block h.1
  exact lt_of_block h1
end Go.Proofs.YtflgpccacloadaaDoor.Am
/- The abstract machine over the program of chapter 13. -/
namespace Go.Proofs.YtflgpccacloadaaDoor.Am
open Go.RowKit

noncomputable def cx : Cx := { P := Tryd.prog, N := glN, Gl := GlOk, keep := gl_keep, T := tyTab, tyOk := tyTab_ok, mixed := by kernel_rfl }
theorem tab_size {w : World} (h : GlOk w) : cx.N ≤ w.heap.size := gl_size h
theorem kin_below {w w' : World} (h : Below w.heap.size w w') : Kin w (fun _ => False) w' := ⟨h.os, h.tape, h.output, h.size, fun b hb _ => h.block b hb⟩
theorem below_kin {w w' : World} (h : Kin w (fun _ => False) w') : Below w.heap.size w w' := ⟨h.os, h.tape, h.output, h.size, fun b hb => h.block b hb (fun h => h)⟩
theorem enter_of {f : FuncId} {fn : Func} {c : Code} (hf : Tryd.prog.funcs[f]? = some fn) (hb : fn.body = some c) (hname : (fn.name == "runtime.NumGoroutine") = false) (vs : Array Value) (w : World) : (callFunc f vs).run cx.P w = .ok (.enter f vs) w := by
  have hf' : cx.P.funcs[f]? = some fn := hf
  simp only [callFunc, Sem.run_bind, program, Sem.run, Result.andThen_ok, hf', hname, hb]
  rfl
theorem acall_gl {f : FuncId} {fn : Func} {c : Code} {args : List AV} {r : AV} (hf : Tryd.prog.funcs[f]? = some fn) (hb : fn.body = some c) (hname : (fn.name == "runtime.NumGoroutine") = false)
    (h : ∀ (w : World) (O : Nat → Prop) (cargs : Array Value), GlOk w → (∀ b, O b → b < w.heap.size) → cargs.toList.length = args.length → (∀ (j : Nat) (x : AV) (v : Value), args[j]? = some x → cargs[j]? = some v → RV w nov (mO O) x v) →
      Calls Tryd.prog f cargs w (fun e w' => ∃ v, e = .returned v ∧ RV w' nov (mO O) r v ∧ Below w.heap.size w w')) : ACall cx f args r := by
  refine ⟨enter_of hf hb hname, fun w O cargs hg _ hO hs hr => ?_⟩
  refine Calls.mono (h w O cargs hg (fun b hb => (hO b hb).1) (by simpa using hs) hr) ?_
  rintro e w' ⟨v, h1, h2, h3⟩
  exact ⟨v, h1, h2, kin_below h3, cx.keep w w' (fun b hb => h3.block b (Nat.lt_of_lt_of_le hb (tab_size hg))) hg⟩
/-- a law that returns true -/
theorem law_of {f : FuncId} {args : List AV} {w : World} {cargs : Array Value} (h : ACall cx f args (.c (.bool true))) (ht : GlOk w) (hs : cargs.size = args.length) (hr : ∀ (j : Nat) (x : AV) (v : Value), args[j]? = some x → cargs[j]? = some v → RV w nov (mO (fun _ => False)) x v) :
    Calls Tryd.prog f cargs w fun e w' => e = .returned (.bool true) ∧ Below w.heap.size w w' := by
  refine Calls.mono (h.2 w (fun _ => False) cargs ht (tab_size ht) (fun b hb => hb.elim) hs hr) ?_
  rintro e w' ⟨v, rfl, h1, h2, _⟩
  rw [rv_c h1]
  exact ⟨rfl, below_kin h2⟩

theorem args1 {cargs : Array Value} (h : cargs.toList.length = 1) : ∃ a, cargs = #[a] := by
  obtain ⟨a, ha⟩ := List.length_eq_one_iff.1 h
  exact ⟨a, Array.ext' ha⟩
end Go.Proofs.YtflgpccacloadaaDoor.Am
/- The test for the document's errors, for the decompiler's proofs. -/
namespace Go.Proofs.YtflgpccacloadaaDoor.Am
open Go.RowKit
end Go.Proofs.YtflgpccacloadaaDoor.Am
/- slices.SortFunc over atoms with datalog.compare, as a general call. -/
namespace Go.Proofs.YtflgpccacloadaaDoor
open Go.RowKit Go.Sort Go.Shelf Go.Lib Am
theorem swoC {Z : Type} {c : Z → Z → Int} (h : IsCmp c) : SWO (ltOf c) where
  irrefl x := by unfold ltOf; rw [h.self]; rfl
  trans x y z h1 h2 := by unfold ltOf at *; simp at *; exact h.trans _ _ _ h1 h2
  ntrans x y z h1 h2 := by
    unfold ltOf at *
    simp at *
    have a1 := h.anti y x
    have a2 := h.anti z y
    have a3 := h.anti z x
    have b1 : c y x ≤ 0 := by have := h.anti x y; omega
    have b2 : c z y ≤ 0 := by have := h.anti y z; omega
    have := h.le_trans b2 b1
    have := h.anti x z
    omega
def sortN (l : List GAtom) : List GAtom := l.mergeSort fun x y => !(ltOf atomC) y x
theorem sortN_length (l : List GAtom) : (sortN l).length = l.length := List.length_mergeSort _
/-- values that stand for arguments, whatever becomes of the row -/
def ValidN (w : World) (blk : Nat) (p : Value × GAtom) : Prop := p.1.oneCell' = true ∧ ∀ W : World, w.heap.size ≤ W.heap.size → (∀ b, b < w.heap.size → b ≠ blk → W.heap[b]? = w.heap[b]?) → StrsAt W p.1 p.2.Args
abbrev NV (w : World) (blk : Nat) := { p : Value × GAtom // ValidN w blk p }
instance (w : World) (blk : Nat) : Inhabited (NV w blk) := ⟨⟨(.slice none 0 0, ⟨⟨#[]⟩, []⟩), rfl, fun _ _ _ => ⟨none, 0, rfl, by simp, fun k x hx => by simp at hx⟩⟩⟩
def encN {w : World} {blk : Nat} (p : NV w blk) : List Value := [.string p.1.2.Name, p.1.1]
theorem nv_list {w : World} {blk : Nat} : ∀ (s : List GAtom) (us : List Value), s.length = us.length → (∀ (k : Nat) (y : GAtom) (u : Value), s[k]? = some y → us[k]? = some u → ValidN w blk (u, y)) → ∃ d : List (NV w blk), d.map (fun p => p.1.1) = us ∧ d.map (fun p => p.1.2) = s
  | [], [], _, _ => ⟨[], rfl, rfl⟩
  | y :: s, u :: us, hl, h => by
    obtain ⟨d, h1, h2⟩ := nv_list s us (by simpa using hl) (fun k y' u' q1 q2 => h (k + 1) y' u' (by simpa using q1) (by simpa using q2))
    exact ⟨⟨(u, y), h 0 y u rfl rfl⟩ :: d, by simp [h1], by simp [h2]⟩
  | [], _ :: _, hl, _ => by simp at hl
  | _ :: _, [], hl, _ => by simp at hl
theorem sortWorldK_block {α : Type} [Inhabited α] {enc : α → List Value} {k : Nat} {w : World} {blk off m : Nat} {dk : Array α} {os : Array Obj} {b : Nat} (hb : b < w.heap.size) (hne : b ≠ blk) : (sortWorldK enc k w blk off m dk os).heap[b]? = w.heap[b]? := by
  show (grow (putRowK enc k (Sort.ahead w m) blk off dk) os).heap[b]? = _
  rw [heap_grow_old _ _ (by simpa [putRowK, putRow, mapBlock, Sort.ahead] using hb)]
  have hne' : ¬ blk = b := fun e => hne e.symm
  simp [putRowK, putRow, mapBlock, Sort.ahead, Array.getElem?_modify, hne']
theorem sortWorldK_size {α : Type} [Inhabited α] {enc : α → List Value} {k : Nat} {w : World} {blk off m : Nat} {dk : Array α} {os : Array Obj} : w.heap.size ≤ (sortWorldK enc k w blk off m dk os).heap.size := by
  show _ ≤ (grow (putRowK enc k (Sort.ahead w m) blk off dk) os).heap.size
  simp [grow, putRowK, putRow, mapBlock, Sort.ahead]
theorem cmpLaysN (w : World) (blk off size : Nat) : CmpLays Tryd.prog 61 #[] (encN : NV w blk → List Value) 2 (fun p q => atomC p.1.2 q.1.2) blk off size w := by
  intro m os dk _ x y
  exact compareN x.1.2 y.1.2 x.1.1 y.1.1 (sortWorldK (encN : NV w blk → List Value) 2 w blk off m dk os) (x.2.2 _ sortWorldK_size (fun b hb hne => sortWorldK_block hb hne)) (y.2.2 _ sortWorldK_size (fun b hb hne => sortWorldK_block hb hne))
theorem flat2 {α : Type} [Inhabited α] (enc : α → List Value) (d : Array α) (k j : Nat) (hj : j < 2) (hk : k < d.size) : (flatK enc 2 d)[k * 2 + j]? = some ((enc d[k]!)[j]!) := by
  have ht : k * 2 + j < d.size * 2 := by omega
  have e1 : (k * 2 + j) / 2 = k := by omega
  have e2 : (k * 2 + j) % 2 = j := by omega
  simp [flatK, ht, e1, e2]
set_option maxHeartbeats 1000000 in
theorem sortN_calls (v : Value) (s : List GAtom) (xs : List Value) (w : World) (h : w.ownsRow 0 24 2 v s.length xs) (hl : s.length < 4611686018427387904)
    (hval : ∀ g, v.ownBlock = some g → ∀ (k : Nat) (y : GAtom), s[k]? = some y → xs[k * 2]? = some (.string y.Name) ∧ ∃ u, xs[k * 2 + 1]? = some u ∧ ValidN w g (u, y)) :
    Calls Tryd.prog 60 #[v, .func (.func 61) #[] #[]] w fun e w' => e = .returned (.tuple #[]) ∧ ∃ ys, w'.ownsRow 0 24 2 v s.length ys ∧ w.grownBy w' v.ownBlock ∧ (∀ b, v.ownBlock = some b → w'.shape? b = w.shape? b) ∧
      ∀ (k : Nat) (y : GAtom), (sortN s)[k]? = some y → ys[k * 2]? = some (.string y.Name) ∧ ∃ (u : Value) (q : Nat), ys[k * 2 + 1]? = some u ∧ xs[q * 2 + 1]? = some u ∧ s[q]? = some y := by
  have hxl : xs.length = s.length * 2 := h.1
  rcases id h.2 with ⟨rfl, h0⟩ | ⟨g, cap, cur, rfl, hbase, hb, hn, hm, hcs, htake⟩
  · have hnil : s = [] := List.length_eq_zero_iff.1 h0
    subst hnil
    refine (AnyF.slices_SortFunc_none { Tryd.sortFact with } none 0 _ w).mono ?_
    rintro e w' ⟨rfl, rfl⟩
    exact ⟨rfl, xs, h, World.grownBy.refl _ _, fun _ _ => rfl, fun k y hy => by simp [sortN] at hy⟩
  · have eg : ∀ args w, (callFunc 61 args).run Tryd.prog w = .ok (.enter 61 args) w := enters_of Tryd.func61 (by kernel_rfl) rfl
    obtain ⟨us, hus, husv⟩ : ∃ us : List Value, us.length = s.length ∧ ∀ (k : Nat) (u : Value), us[k]? = some u → xs[k * 2 + 1]? = some u :=
      ⟨(List.range s.length).map (fun k => xs.getD (k * 2 + 1) undef), by simp, fun k u hu => by
        rw [List.getElem?_map] at hu
        obtain ⟨k', hk', rfl⟩ := Option.map_eq_some_iff.1 hu
        obtain ⟨q1, q2⟩ := List.getElem?_eq_some_iff.1 hk'
        simp at q1 q2
        subst q2
        have : k * 2 + 1 < xs.length := by omega
        simp [List.getD_eq_getElem?_getD, List.getElem?_eq_getElem this]⟩
    obtain ⟨d, hd1, hd2⟩ := nv_list (w := w) (blk := g) s us hus.symm (fun k y u hy hu => by
      obtain ⟨_, u', q1, q2⟩ := hval g rfl k y hy
      have := husv k u hu
      rw [q1] at this
      injection this with this
      rw [← this]
      exact q2)
    have hdl : d.length = s.length := by rw [← hd2]; simp
    have hblk : g < w.heap.size := (Array.getElem?_eq_some_iff.1 hb).1
    have hat : ∀ k, (hk : k < d.length) → s[k]? = some (d[k]).1.2 ∧ us[k]? = some (d[k]).1.1 := fun k hk => ⟨by rw [← hd2]; simp [hk], by rw [← hd1]; simp [hk]⟩
    have hH : HoldsK encN 2 w g 0 d.toArray := by
      intro t ht
      have ht' : t < d.length * 2 := by simpa using ht
      obtain ⟨k, j, hj, rfl⟩ : ∃ k j, j < 2 ∧ t = k * 2 + j := ⟨t / 2, t % 2, Nat.mod_lt _ (by omega), by omega⟩
      have hk : k < d.length := by omega
      obtain ⟨q1, q2⟩ := hat k hk
      have hf := flat2 encN d.toArray k j hj (by simpa using hk)
      have hcj : cur[k * 2 + j]? = xs[k * 2 + j]? := by
        rw [← htake, List.getElem?_take_of_lt (by omega), Array.getElem?_toList]
      have hx : xs[k * 2 + j]? = some ((encN (d[k]))[j]!) := by
        match j, hj with
        | 0, _ => exact (hval g rfl k _ q1).1
        | 1, _ => exact husv k _ q2
      have hb2 : (flatK encN 2 d.toArray)[k * 2 + j]! = (encN (d[k]))[j]! := by
        have e : (flatK encN 2 d.toArray)[k * 2 + j]? = some ((encN (d[k]))[j]!) := by rw [hf]; simp [hk]
        rw [getElem!_def, e]
      refine ⟨?_, by simp [World.frozen?, hb]⟩
      rw [hb2, id]
      simp [World.cell?, hb, hcj, hx]
    have hcon := AnyQ.slices_SortFunc Tryd.sortFact 2 Tryd.isAgg24 Tryd.sizeOf24 (encN : NV w g → List Value) (fun _ => rfl) (fun x u hu => by simp [encN] at hu; rcases hu with rfl | rfl; rfl; exact x.2.1) (fun p q => atomC p.1.2 q.1.2) (by
      have := swoC atomC_cmp
      exact ⟨fun x => this.irrefl x.1.2, fun x y z => this.trans x.1.2 y.1.2 z.1.2, fun x y z => this.ntrans x.1.2 y.1.2 z.1.2⟩) 61 #[] g 0 cap d.toArray w eg (cmpLaysN w g 0 _) hH hblk (by simpa [hdl] using hl)
    have hsize : d.toArray.size = s.length := by simp [hdl]
    rw [hsize] at hcon
    refine hcon.mono ?_
    rintro e w' ⟨rfl, d', n, os, hP, hS, rfl⟩
    have hd's : d'.size = s.length := by rw [hP.1, hsize]
    have hsort : (d'.map (fun p => p.1.2)).toList = sortN s := by
      have hP2 : PermIn 0 (d.toArray.map (fun p : NV w g => p.1.2)).size (d.toArray.map (fun p => p.1.2)) (d'.map (fun p => p.1.2)) := by
        refine ⟨by simp [hd's, hdl], fun i hi => ?_, ?_⟩
        · have : s.length ≤ i := by simpa [hdl] using hi
          simp [show ¬ i < d'.size by omega, show ¬ i < d.length by omega]
        · have h3 := hP.2.2
          have e1 : d'.extract 0 s.length = d' := by rw [← hd's]; exact Array.extract_size
          have e2 : d.toArray.extract 0 s.length = d.toArray := by rw [← hsize]; exact Array.extract_size
          rw [e1, e2] at h3
          have e3 : (d'.map (fun p => p.1.2)).extract 0 (d.toArray.map (fun p : NV w g => p.1.2)).size = d'.map (fun p => p.1.2) := by
            rw [show (d.toArray.map (fun p : NV w g => p.1.2)).size = (d'.map (fun p => p.1.2)).size by simp [hd's, hdl]]
            exact Array.extract_size
          rw [e3, Array.extract_size]
          simpa using h3.map (fun p => p.1.2)
      have hS2 : SortedIn (ltOf atomC) 0 (d.toArray.map (fun p : NV w g => p.1.2)).size (d'.map (fun p => p.1.2)) := by
        intro i j _ hij hj
        have hj' : j < d'.size := by simpa [hd's, hdl] using hj
        have := hS i j (Nat.zero_le _) hij (by omega)
        simp only [ltOf] at this ⊢
        simpa [show i < d'.size by omega, hj'] using this
      have := sorted_unique_holds (swoC atomC_cmp) (fun x y h1 h2 => by
        unfold ltOf at h1 h2
        simp at h1 h2
        have a1 := atomC_cmp.anti x y
        have a2 := atomC_cmp.anti y x
        exact (atomC_cmp.eq x y).1 (by omega)) _ _ hP2 hS2
      rw [this]
      unfold sortN
      congr 1
      simp [hd2]
    have hblock : (sortWorldK (encN : NV w g → List Value) 2 w g 0 n d' os).heap[g]? = some (.cells (putCells id 0 (flatK encN 2 d') cur) 24 (0, 0)) := by
      show (grow (putRow id (Sort.ahead w n) g 0 (flatK encN 2 d')) os).heap[g]? = _
      rw [heap_grow_old _ _ (by simpa using hblk)]
      simp [putRow, mapBlock, Sort.ahead, Array.getElem?_modify, hb, onCells]
    have hget : ∀ k j, j < 2 → (hk : k < d'.size) → (putCells id 0 (flatK encN 2 d') cur).toList[k * 2 + j]? = some ((encN (d'[k]))[j]!) := by
      intro k j hj hk
      have hf := flat2 encN d' k j hj hk
      have hb2 : (flatK encN 2 d')[k * 2 + j]! = (encN (d'[k]))[j]! := by
        have e : (flatK encN 2 d')[k * 2 + j]? = some ((encN (d'[k]))[j]!) := by rw [hf]; simp [hk]
        rw [getElem!_def, e]
      rw [Array.getElem?_toList]
      have h1 : k * 2 + j < cur.size := by rw [hcs]; omega
      have h2 : k * 2 + j < d'.size * 2 := by omega
      unfold putCells
      rw [Array.getElem?_mapIdx, Array.getElem?_eq_getElem h1]
      simp only [Option.map_some, Nat.zero_le, Nat.zero_add, size_flatK, h2, and_self, if_true, Nat.sub_zero, id]
      rw [hb2]
    refine ⟨rfl, ((putCells id 0 (flatK encN 2 d') cur).toList.take (s.length * 2)), ⟨by simp [putCells, hcs]; omega, .inr ⟨g, cap, _, rfl, hbase, hblock, hn, hm, by simp [putCells, hcs], rfl⟩⟩, ?_, ?_, ?_⟩
    · exact ⟨rfl, rfl, rfl, sortWorldK_size, fun k hk hne => sortWorldK_block hk (fun e => hne (by rw [e]; rfl))⟩
    · intro b hbv
      have : b = g := by simpa [Value.ownBlock] using hbv.symm
      subst this
      simp [World.shape?, hblock, hb, putCells]
    · intro k y hy
      rw [← hsort] at hy
      have hk : k < d'.size := by
        have := (List.getElem?_eq_some_iff.1 hy).1
        simpa using this
      have hyk : y = (d'[k]).1.2 := by
        simp [hk] at hy
        exact hy.symm
      have hmem : d'[k] ∈ d := by
        have h3 := hP.2.2
        have e1 : d'.extract 0 s.length = d' := by rw [← hd's]; exact Array.extract_size
        have e2 : d.toArray.extract 0 s.length = d.toArray := by rw [← hsize]; exact Array.extract_size
        rw [e1, e2] at h3
        have : d'[k] ∈ d'.toList := by simp
        simpa using h3.mem_iff.1 this
      obtain ⟨q, hq⟩ := List.getElem?_of_mem hmem
      have hql : q < d.length := (List.getElem?_eq_some_iff.1 hq).1
      obtain ⟨p1, p2⟩ := hat q hql
      have hdq : d[q] = d'[k] := (List.getElem?_eq_some_iff.1 hq).2
      rw [hdq] at p1 p2
      refine ⟨?_, (d'[k]).1.1, q, ?_, husv q _ p2, by rw [hyk]; exact p1⟩
      · rw [List.getElem?_take_of_lt (by omega)]
        have := hget k 0 (by omega) hk
        rw [Nat.add_zero] at this
        rw [this, hyk]
        rfl
      · rw [List.getElem?_take_of_lt (by omega)]
        exact hget k 1 (by omega) hk
end Go.Proofs.YtflgpccacloadaaDoor
namespace Go.Proofs.YtflgpccacloadaaDoor.Am
open Go.RowKit
theorem rv_strs {w : World} {vs : Shp} {m : MM} {v : Value} {l : List ByteArray} (h : RV w vs m (.sl 1 (l.map cS)) v) : StrsAt w v l := by
  obtain ⟨A, cap, b, off, f, rfl, hA, _, hmx, _, hc, hr, _⟩ := rv_sl h
  refine ⟨A, cap, by simp, by simpa using hmx, fun k x hx => ?_⟩
  have hk : (l.map cS)[k]? = some (cS x) := map_at' hx
  obtain ⟨rfl, _⟩ := hA (fun e => by rw [e] at hk; simp at hk)
  have h0 := (hc k 0 _ _ hk rfl).1
  rw [rv_c (hr k 0 _ _ hk rfl)] at h0
  exact ⟨b, off, rfl, by simpa using h0⟩
def M_sortN (l : List GAtom) : Option (List GAtom) := grd (l.length < 4611686018427387904) (some (sortN l))
theorem A_sortN (l : List GAtom) {r : List GAtom} (h : M_sortN l = some r) : ACallG cx 60 [.own 900 0 0 l.length, .clo (.func 61) [] []] [(900, ⟨24, 2, false, l.map cGAtom⟩)] [900] (.tup []) [(900, ⟨24, 2, false, r.map cGAtom⟩)] := by
  obtain ⟨h0, h⟩ := grd_ok h
  have h := Option.some.inj h
  subst h
  refine ⟨enter_g Tryd.func60 rfl (by decide), fun w m cargs hg hM hsz hargs => ?_⟩
  obtain ⟨v, f, rfl⟩ : ∃ a b, cargs = #[a, b] := by
    obtain ⟨l⟩ := cargs
    match l, hsz with
    | [a, b], _ => exact ⟨a, b, rfl⟩
  obtain ⟨us, us', rfl, l1, _, l2, _⟩ := rv_clo (hargs 1 _ f rfl rfl)
  obtain rfl : us = #[] := Array.eq_empty_of_size_eq_zero l1.symm
  obtain rfl : us' = #[] := Array.eq_empty_of_size_eq_zero l2.symm
  obtain ⟨xs, hrow, hfl, hm0⟩ := own_row (η := fE [(900, ⟨24, 2, false, l.map cGAtom⟩)]) (hargs 0 _ v rfl rfl) rfl (hM.ok 900 _ rfl) (by simp)
  simp only at hrow hfl
  have hat : ∀ (k : Nat) (y : GAtom), l[k]? = some y → xs[k * 2]? = some (.string y.Name) ∧ ∃ u, xs[k * 2 + 1]? = some u ∧ u.oneCell' = true ∧ RV w (shp (fE [(900, ⟨24, 2, false, l.map cGAtom⟩)])) m (.sl 1 (y.Args.map cS)) u := by
    intro k y hy
    have hel := (hfl.2 k (cGAtom y) (by simp [hy])).2
    obtain ⟨z, z1, _, z3⟩ := hel 0 _ rfl
    obtain ⟨u, u1, u2, u3⟩ := hel 1 _ rfl
    rw [List.getElem?_toArray] at z1 u1
    rw [rv_c z3, Nat.add_zero] at z1
    exact ⟨z1, u, u1, u2, u3⟩
  refine (sortN_calls v l xs w hrow h0 (fun g hvg k y hy => ?_)).mono ?_
  · obtain ⟨a0, u, a1, a2, a3⟩ := hat k y hy
    refine ⟨a0, u, a1, a2, fun W hW hc => rv_strs (rv_keep (.sl (frl_cS _)) a3 hW (fun b hb hno => hc b hb (fun e => hno ?_)) (fun _ _ h => h))⟩
    subst e
    exact .inr ⟨900, blk_live.2 (by simp [fE_live, keys]), by rw [hm0]; exact hvg⟩
  · rintro e w' ⟨rfl, ys, ho, hgr, hsh, hperm⟩
    have hlen := sortN_length l
    refine ⟨_, m, rfl, gr_kept hM hg hm0 ho hgr hsh (by rw [List.length_map, hlen]) (fun m' => .tup rfl (fun j x u hx => by simp at hx)) (fun k e he => ?_)⟩
    obtain ⟨y, hy, rfl⟩ := get_map he
    obtain ⟨c0, u, q, q1, q2, q3⟩ := hperm k y hy
    obtain ⟨_, u', a1, a2, a3⟩ := hat q y q3
    rw [q2] at a1
    injection a1 with a1
    subst a1
    refine ⟨rfl, fun j a hj => ?_⟩
    match j, hj with
    | 0, hj => simp [cGAtom] at hj; subst hj; exact ⟨.c _, _, by simpa using c0, rfl, .c _⟩
    | 1, hj => simp [cGAtom] at hj; subst hj; exact ⟨.sl (frl_cS _), u, q1, a2, a3⟩
    | j + 2, hj => simp [cGAtom] at hj
end Go.Proofs.YtflgpccacloadaaDoor.Am
/- slices.Clone at strings, what it returns taken as immutable; at atoms, what it returns is the caller's own row; strconv.Itoa. -/
namespace Go.Proofs.YtflgpccacloadaaDoor
open Go.RowKit
theorem atomInfo : (Tryd.prog.info? 24).map (fun i => (i.zero, i.size, i.bytes)) = some (some (.agg #[.string ⟨#[]⟩, .slice none 0 0]), 2, 40) := by kernel_rfl
set_option maxHeartbeats 1000000 in
theorem cloneN_calls (A : Option Addr) (n c : Nat) (xs : List Value) (w : World) (hr : Reads w w.heap.size 2 A n xs) (h1 : ∀ u ∈ xs, u.oneCell' = true) (hroom : n * 40 ≤ 140737488355328) (hA : A = none → n = 0) :
    Calls Tryd.prog 68 #[.slice A n c] w fun e w' => ∃ v', e = .returned v' ∧ w'.ownsRow w.heap.size 24 2 v' n xs ∧ Below w.heap.size w w' := by
  obtain ⟨i0, hi0, hz0, hz1, hz2⟩ := info_parts atomInfo
  have hk := fun (W : World) (a : Option Addr) (n c : Nat) => Lib.run_eql_slice_nil (P := Tryd.prog) W 25 24 a n c 0 0 Tryd.underlying25
  rcases A with _ | ad
  · obtain rfl := hA rfl
    obtain rfl : xs = [] := List.length_eq_zero_iff.1 (by have := hr.1; omega)
    clear hr hA h1
    go_enter Tryd.func68, Tryd.ntmps68
    go_wp2_with fail
    go_ret
    exact ⟨_, rfl, ⟨rfl, .inl ⟨rfl, rfl⟩⟩, Below.refl _ _⟩
  · have hr2 := hr.alloc (Nat.le_refl _) (.cells #[] 24)
    have hown : (w.alloc (.cells #[] 24)).ownsRow w.heap.size 24 2 (.slice (some ⟨w.heap.size, 0, none⟩) 0 0) 0 [] := ⟨rfl, .inr ⟨w.heap.size, 0, #[], rfl, Nat.le_refl _, heap_alloc_new _ _, Nat.le_refl _, Nat.zero_le _, rfl, rfl⟩⟩
    have hn : n = n := rfl
    have HR := Lib.hid hr2
    have HOWN := Lib.hid hown
    have H1 := Lib.hid h1
    have HN := Lib.hid hn
    clear hr2 hown h1 hn
    clear hr hA
    go_enter Tryd.func68, Tryd.ntmps68
    go_wp2_with (at_builtin; refine wpList_append_any _ rfl (.tmp 5) (.tmp 6) _ rfl w.heap.size 24 i0 _ 2 40 Tryd.underlying25 hi0 hz0 hz1 hz2 rfl (by omega) (.slice (some ⟨w.heap.size, 0, none⟩) 0 0) 0 [] rfl HOWN.out _ _ n c xs rfl HR.out H1.out (by simp only [maxLen]; omega) (by omega) (by simp) ?_; intro v1 w1 hown1 hg1 hat1)
    go_ret
    refine ⟨v1, rfl, ?_, ?_⟩
    · rw [Nat.zero_add, List.nil_append] at hown1
      exact hown1
    · exact (belowA (Below.refl _ _) _).grown hg1 (by simp) (by intro k hk; simp [Value.ownBlock] at hk; omega)
end Go.Proofs.YtflgpccacloadaaDoor
namespace Go.Proofs.YtflgpccacloadaaDoor.Am
open Go.RowKit
theorem cargs1 {α : Type} {c : Array α} (h : c.size = 1) : ∃ a, c = #[a] := by
  obtain ⟨l⟩ := c
  match l, h with
  | [a], _ => exact ⟨a, rfl⟩
theorem acall_bl {f : FuncId} {fn : Func} {c : Code} {args : List AV} {r : AV} (hf : Tryd.prog.funcs[f]? = some fn) (hb : fn.body = some c) (hname : (fn.name == "runtime.NumGoroutine") = false)
    (h : ∀ (w : World) (O : Nat → Prop) (cargs : Array Value), (∀ b, O b → b < w.heap.size) → cargs.size = args.length → (∀ (j : Nat) (x : AV) (v : Value), args[j]? = some x → cargs[j]? = some v → RV w nov (mO O) x v) →
      Calls Tryd.prog f cargs w (fun e w' => ∃ v, e = .returned v ∧ RV w' nov (mO O) r v ∧ Below w.heap.size w w')) : ACall cx f args r := by
  refine ⟨enter_g hf hb hname, fun w O cargs hg hN hO hs hr => ?_⟩
  refine Calls.mono (h w O cargs (fun b hb => (hO b hb).1) hs hr) ?_
  rintro e w' ⟨v, h1, h2, h3⟩
  exact ⟨v, h1, h2, ⟨h3.os, h3.tape, h3.output, h3.size, fun b hb _ => h3.block b hb⟩, cx.keep w w' (fun b hb => h3.block b (Nat.lt_of_lt_of_le hb hN)) hg⟩
theorem rv_ownsS {l : List ByteArray} {w w' : World} {O : Nat → Prop} {v : Value} (hO : ∀ b, O b → b < w.heap.size) (ho : w'.ownsRow w.heap.size 9 1 v l.length (l.map Value.string)) (hl : l.length ≤ 140737488355328) : RV w' nov (mO O) (.sl 1 (l.map cS)) v := by
  rcases ho.2 with ⟨rfl, h0⟩ | ⟨g, cp, cur, rfl, hg, hh, hn, _, hcs, htake⟩
  · have hl : l = [] := List.length_eq_zero_iff.1 h0
    subst hl
    exact RV.sl (f := fun _ _ => .nilIface) (b := 0) (off := 0) (fun h => absurd rfl h) (by simp) (by simp) (fun k e he => by simp at he) (fun k j e x he => by simp at he) (fun k j e x he => by simp at he) (fun e he => by simp at he)
  · have hlt : g < w'.heap.size := lt_of_block hh
    have hcell : ∀ (k : Nat) (x : ByteArray), l[k]? = some x → w'.cell? ⟨g, 0 + (k * 1 + 0), none⟩ = some (.string x) := by
      intro k x hx
      have hk : k < l.length := (List.getElem?_eq_some_iff.1 hx).1
      have h1 : cur.toList[k]? = some (.string x) := by
        have : (cur.toList.take (l.length * 1))[k]? = some (.string x) := by rw [htake, List.getElem?_map, hx]; rfl
        rw [List.getElem?_take_of_lt (by omega)] at this
        exact this
      have h1' : cur[k]? = some (.string x) := by rw [← Array.getElem?_toList]; exact h1
      simp [World.cell?, hh, h1']
    have := RV.sl (w := w') (vs := nov) (m := mO O) (sz := 1) (l := l.map cS) (A := some ⟨g, 0, none⟩) (cap := cp) (b := g) (off := 0) (f := fun k _ => .string (l.getD k ⟨#[]⟩))
      (fun _ => ⟨rfl, fun ho' => by have := hO _ (owned_nov.1 ho'); omega, hlt⟩) (by simp; omega) (by simp; omega)
      (fun k e he => by obtain ⟨x, _, rfl⟩ := get_map he; rfl)
      (fun k j e x he hx => by
        obtain ⟨y, hy, rfl⟩ := get_map he
        match j, hx with
        | 0, hx => exact ⟨by rw [hcell k y hy]; simp [List.getD_eq_getElem?_getD, hy], rfl⟩
        | j + 1, hx => simp [cS] at hx)
      (fun k j e x he hx => by
        obtain ⟨y, hy, rfl⟩ := get_map he
        match j, hx with
        | 0, hx => simp [cS] at hx; subst hx; simp only [List.getD_eq_getElem?_getD, hy, Option.getD_some]; exact .c _
        | j + 1, hx => simp [cS] at hx) (frl_cS l)
    simp only [List.length_map] at this
    exact this
def M_cloneS (l : List ByteArray) : Option (List ByteArray) := grd (l.length * 16 ≤ 140737488355328) (some l)
theorem A_cloneS (l : List ByteArray) {r : List ByteArray} (h : M_cloneS l = some r) : ACall cx 34 [.sl 1 (l.map cS)] (.sl 1 (r.map cS)) := by
  obtain ⟨h0, h⟩ := grd_ok h
  obtain rfl := Option.some.inj h
  refine acall_bl Tryd.func34 rfl (by decide) (fun w O cargs hO hs hr => ?_)
  obtain ⟨v, rfl⟩ := cargs1 hs
  obtain ⟨A, cap, b, off, f, rfl, hA, hcap, _, _, hc, hv, _⟩ := rv_sl (hr 0 _ v rfl rfl)
  have done : ∀ (w' : World) (v' : Value), w'.ownsRow w.heap.size 9 1 v' l.length (l.map Value.string) → RV w' nov (mO O) (.sl 1 (l.map cS)) v' := fun w' v' ho => rv_ownsS hO ho (by omega)
  have hlen : (l.map cS).length = l.length := List.length_map _
  by_cases hl : l = []
  · subst hl
    cases A with
    | none =>
      refine (Tryd.slices_Clone_string_nil _ cap w).mono ?_
      rintro e w' ⟨rfl, rfl⟩
      exact ⟨_, rfl, done _ _ ⟨rfl, .inl ⟨rfl, rfl⟩⟩, Below.refl _ _⟩
    | some a =>
      refine (Tryd.slices_Clone_string_zero a cap w).mono ?_
      rintro e w' ⟨v', rfl, ho, _, hb⟩
      exact ⟨v', rfl, done _ _ ho, hb⟩
  · obtain ⟨rfl, _, _⟩ := hA (by simpa using hl)
    rw [hlen]
    refine (Tryd.slices_Clone_string b off l.length cap l w (Nat.le_refl _) h0 (fun j hj => ?_)).mono ?_
    · have hx := List.getElem?_eq_getElem hj
      have := (hc j 0 _ _ (map_at' hx) rfl).1
      rw [rv_c (hv j 0 _ _ (map_at' hx) rfl)] at this
      have e : l.getD j ByteArray.empty = l[j] := by simp [List.getD_eq_getElem?_getD, hx]
      rw [e]
      simpa using this
    · rintro e w' ⟨v', rfl, ho, _, hb⟩
      rw [List.take_of_length_le (Nat.le_refl _)] at ho
      exact ⟨v', rfl, done _ _ ho, hb⟩
def M_cloneN (l : List GAtom) : Option (List GAtom) := grd (l.length * 40 ≤ 140737488355328) (some l)
theorem A_cloneN (l : List GAtom) {r : List GAtom} (h : M_cloneN l = some r) : ACallG cx 68 [.sl 2 (l.map cGAtom)] [] [] (.own 0 0 0 r.length) [(0, ⟨24, 2, false, r.map cGAtom⟩)] := by
  obtain ⟨h0, h⟩ := grd_ok h
  obtain rfl := Option.some.inj h
  refine ⟨enter_g Tryd.func68 rfl (by decide), fun w m cargs hg hM hsz hargs => ?_⟩
  obtain ⟨v, rfl⟩ := cargs1 hsz
  obtain ⟨A, cap, b, off, f, rfl, hA, hcap, _, _, hc, hv, _⟩ := rv_sl (hargs 0 _ v rfl rfl)
  have hlen : (l.map cGAtom).length = l.length := List.length_map _
  have hat : ∀ (k j : Nat) (x : GAtom) (y : AV), l[k]? = some x → (cGAtom x)[j]? = some y → ((List.range (l.length * 2)).map (fun t => f (t / 2) (t % 2)))[k * 2 + j]? = some (f k j) := fun k j x y hx hy => by
    have hk : k < l.length := (List.getElem?_eq_some_iff.1 hx).1
    have hj : j < 2 := (List.getElem?_eq_some_iff.1 hy).1
    rw [List.getElem?_map, List.getElem?_range (by omega)]
    simp only [Option.map_some]
    rw [show (k * 2 + j) / 2 = k from by omega, show (k * 2 + j) % 2 = j from by omega]
  have hsrc : ∀ (t : Nat) (u : Value), ((List.range (l.length * 2)).map (fun t => f (t / 2) (t % 2)))[t]? = some u → ∃ (k j : Nat) (x : GAtom) (y : AV), l[k]? = some x ∧ (cGAtom x)[j]? = some y ∧ t = k * 2 + j ∧ u = f k j := fun t u hu => by
    have ht : t < l.length * 2 := by simpa using (List.getElem?_eq_some_iff.1 hu).1
    have hk : t / 2 < l.length := by omega
    have hj : t % 2 < (cGAtom (l[t / 2])).length := Nat.mod_lt _ (by decide)
    rw [List.getElem?_map, List.getElem?_range ht] at hu
    simp only [Option.map_some, Option.some.injEq] at hu
    exact ⟨t / 2, t % 2, _, _, List.getElem?_eq_getElem hk, List.getElem?_eq_getElem hj, by omega, hu.symm⟩
  rw [hlen]
  refine (cloneN_calls A l.length cap ((List.range (l.length * 2)).map (fun t => f (t / 2) (t % 2))) w ⟨by simp, fun hn => ?_⟩ (fun u hu => ?_) h0 (fun hAn => ?_)).mono ?_
  · obtain ⟨e1, _, e3⟩ := hA (fun e => by rw [← hlen, e] at hn; simp at hn)
    refine ⟨_, e1, e3, fun t u hu => ?_⟩
    obtain ⟨k, j, x, y, hx, hy, rfl, rfl⟩ := hsrc t u hu
    have := (hc k j _ _ (map_at' hx) hy).1
    rw [add_plain]
    exact this
  · obtain ⟨t, ht⟩ := List.getElem?_of_mem hu
    obtain ⟨k, j, x, y, hx, hy, rfl, rfl⟩ := hsrc t u ht
    exact (hc k j _ _ (map_at' hx) hy).2
  · cases l with
    | nil => rfl
    | cons x r => obtain ⟨e1, _⟩ := hA (by simp); rw [hAn] at e1; cases e1
  · rintro e w' ⟨v', rfl, ho, hb⟩
    have hge : ∀ b, v'.ownBlock = some b → w.heap.size ≤ b := fun b hb => by
      rcases ho.2 with ⟨rfl, _⟩ | ⟨g, cap, cur, rfl, hbase, _⟩
      · cases hb
      · simp [Value.ownBlock] at hb; omega
    refine ⟨_, _, rfl, gr_row (i0 := 0) (v := .slice none 0 0) (row := none) hM hg (.inl rfl) (own_mono ho (Nat.zero_le _)) ⟨hb.os, hb.tape, hb.output, hb.size, fun b hb' _ => hb.block b hb'⟩ (.inl rfl) (.inr hge) (List.length_map _) (fun k e he => ?_)⟩
    obtain ⟨x, hx, rfl⟩ := get_map he
    refine ⟨rfl, fun j y hy => ⟨fr_cGAtom x y (List.mem_of_getElem? hy), f k j, hat k j x y hx hy, (hc k j _ _ (map_at' hx) hy).2, hv k j _ _ (map_at' hx) hy⟩⟩
def M_Itoa (n : Int) : Option ByteArray := grd (-9223372036854775808 ≤ n ∧ n ≤ 9223372036854775807) (some ⟨(Lib.itoa n).toArray⟩)
theorem A_Itoa (n : Int) {r : ByteArray} (h : M_Itoa n = some r) : ACall cx 65 [.c (.int .i64 n)] (.c (.string r)) := by
  obtain ⟨⟨h0, h1⟩, h⟩ := grd_ok h
  obtain rfl := Option.some.inj h
  refine acall_gl Tryd.func65 rfl (by decide) (fun w O cargs ht hO hs hr => ?_)
  obtain ⟨a, rfl⟩ := args1 hs
  obtain rfl := rv_c (hr 0 _ a rfl rfl)
  refine (Tryd.strconv_Itoa n h0 h1 w ht.1).mono ?_
  rintro e w' ⟨rfl, k, os, rfl⟩
  exact ⟨_, rfl, .c _, rfl, rfl, rfl, by show w.heap.size ≤ (w.heap ++ os).size; rw [Array.size_append]; omega, fun j hj => by
    show (w.heap ++ os)[j]? = w.heap[j]?
    exact Array.getElem?_append_left hj⟩
end Go.Proofs.YtflgpccacloadaaDoor.Am
/- Regions in which some operations are shown by hand; slices.Delete's own operations. -/
namespace Go.Proofs.YtflgpccacloadaaDoor.Am
open Go.RowKit
theorem Tr.app {C : Cx} {n : Nat} {ops : Array Oper} : ∀ {os1 os2 : List Oper} {τ τ1 τ2 : Nat → AV} {η η1 η2 : Nat → Ent} {fs gs : List Foot}, Tr C n ops os1 τ η fs τ1 η1 → Tr C n ops os2 τ1 η1 gs τ2 η2 → Tr C n ops (os1 ++ os2) τ η (fs ++ gs) τ2 η2
  | [], _, _, _, _, _, _, _, [], _, h1, h2 => by
    obtain ⟨e1, e2⟩ := h1
    subst e1 e2
    exact h2
  | [], _, _, _, _, _, _, _, _ :: _, _, h1, _ => h1.elim
  | _ :: _, _, _, _, _, _, _, _, [], _, h1, _ => h1.elim
  | _ :: _, _, _, _, _, _, _, _, _ :: _, _, h1, h2 => ⟨h1.1, Tr.app h1.2 h2⟩
/-- the operations behind these many are shown by hand -/
def vcO (C : Cx) (ops : Array Oper) : List Nat → List Oper → List AV → List Ent → List Foot → (List Foot → List AV → List Ent → Prop) → Prop
  | [], os, tm, hp, fs, K => vcT C ops os [] tm hp [] [] (fun gs tm hp => K (fs ++ gs) tm hp)
  | k :: ks, os, tm, hp, fs, K => vcT C ops (os.take k) [] tm hp [] [] (fun gs tm hp => True → match os.drop k with
    | [] => False
    | o :: r => o.guard = none ∧ ∃ f, LF C tm.length o (tmF tm) (hpF hp) f ∧ stepK tm hp o.dst f.x f.ups (fun tm' hp' => vcO C ops ks r tm' hp' (fs ++ gs ++ [f]) K))
theorem vcO_ok {C : Cx} {ops : Array Oper} : ∀ (ks : List Nat) (os : List Oper) (tm : List AV) (hp : List Ent) (fs : List Foot) (K : List Foot → List AV → List Ent → Prop), vcO C ops ks os tm hp fs K →
    ∃ fs' tm' hp', Tr C tm.length ops os (tmF tm) (hpF hp) fs' (tmF tm') (hpF hp') ∧ K (fs ++ fs') tm' hp' ∧ tm'.length = tm.length
  | [], os, tm, hp, fs, K, h => by
    obtain ⟨fs', tm', hp', h1, _, h3, h4⟩ := vcT_ok _ _ _ _ _ _ _ (fun d b hd => by cases hd) h
    exact ⟨fs', tm', hp', h1, by simpa using h3, h4⟩
  | k :: ks, os, tm, hp, fs, K, h => by
    obtain ⟨gs, tm1, hp1, h1, _, h3, h4⟩ := vcT_ok _ _ _ _ _ _ _ (fun d b hd => by cases hd) h
    have h3 := h3 trivial
    have hos : os.take k ++ os.drop k = os := List.take_append_drop k os
    cases hd : os.drop k with
    | nil => rw [hd] at h3; exact h3.elim
    | cons o r =>
      rw [hd] at h3 hos
      obtain ⟨hg, f, hlf, hst⟩ := h3
      obtain ⟨_, tm2, hp2, e1, e2, e3, hv⟩ := stepK_ok hst
      obtain ⟨fs', tm', hp', t1, t2, t3⟩ := vcO_ok ks r tm2 hp2 _ K hv
      refine ⟨gs ++ f :: fs', tm', hp', ?_, by simpa using t2, by rw [t3, e1, h4]⟩
      rw [← hos]
      refine h1.app ⟨?_, ?_⟩
      · rw [← h4]; exact ts_run hlf (.inl hg)
      · rw [e2, e3, e1, h4] at t1
        exact t1
theorem awp_regionO {C : Cx} {Q : Exit → St → Prop} {id : Nat} {ops : Array Oper} {draw : Bool} {tm : List AV} {hp : List Ent} (ks : List Nat) (h : vcO C ops ks ops.toList tm hp [] (fun fs tm hp => (draw = true → indepOk ops fs = true ∧ backOk ops.toList 0 = true) ∧ Q .normal ⟨tm, hp⟩)) : AWP C (.region id ops draw) Q ⟨tm, hp⟩ := by
  unfold AWP
  intro w0 X m a w hr
  obtain ⟨fs, tm', hp', h1, ⟨h3, h4⟩, h5⟩ := vcO_ok _ _ _ _ _ _ h
  refine wp_region_tr h1 (fun hd => ⟨C.mixed, by simpa using (h3 hd).1, (h3 hd).2⟩) hr (fun m' a' w' hr' => ⟨⟨tm', hp'⟩, m', h5, h4, ?_⟩)
  unfold RepS
  rw [h5]
  exact hr'
end Go.Proofs.YtflgpccacloadaaDoor.Am
/- Operations of slices.Delete in the machine: a slice with room, append of a part of a row to a front part of the same row, clear. -/
namespace Go.Proofs.YtflgpccacloadaaDoor.Am
open Go.RowKit
theorem Flat.over {w : World} {vs : Shp} {m : MM} {sz p : Nat} {els new : List (List AV)} {arr : Array Value} {news : List Value} (h : Flat w vs m sz els arr) (hn : Flat w vs m sz new news.toArray) (hl : news.length = new.length * sz) (hp : p + new.length ≤ els.length) :
    Flat w vs m sz (els.take p ++ new ++ els.drop (p + new.length)) (arr.toList.take (p * sz) ++ news ++ arr.toList.drop (p * sz + news.length)).toArray ∧ p * sz + news.length ≤ arr.size ∧ (arr.toList.take (p * sz) ++ news ++ arr.toList.drop (p * sz + news.length)).toArray.size = arr.size := by
  have hsz : (p + new.length) * sz ≤ arr.size := Nat.le_trans (Nat.mul_le_mul_right _ hp) h.1
  rw [Nat.add_mul, ← hl] at hsz
  have hs : (arr.toList.take (p * sz) ++ news ++ arr.toList.drop (p * sz + news.length)).toArray.size = arr.size := by simp; omega
  have htl : (els.take p).length = p := by simp; omega
  have hlen : (els.take p ++ new ++ els.drop (p + new.length)).length = els.length := by simp; omega
  refine ⟨⟨by rw [hlen, hs]; exact h.1, fun k e he => ?_⟩, hsz, hs⟩
  have ht : (arr.toList.take (p * sz)).length = p * sz := by simp; omega
  have hget : ∀ q, (arr.toList.take (p * sz) ++ news ++ arr.toList.drop (p * sz + news.length)).toArray[q]? = if q < p * sz then arr[q]? else if q < p * sz + news.length then news[q - p * sz]? else arr[q]? := by
    intro q
    rw [List.getElem?_toArray]
    by_cases h1 : q < p * sz
    · rw [if_pos h1, List.append_assoc, List.getElem?_append_left (by omega), List.getElem?_take, if_pos h1]; simp
    · rw [if_neg h1]
      by_cases h2 : q < p * sz + news.length
      · rw [if_pos h2, List.append_assoc, List.getElem?_append_right (by omega), ht, List.getElem?_append_left (by omega)]
      · rw [if_neg h2, List.getElem?_append_right (by simp; omega), List.getElem?_drop]
        have : (arr.toList.take (p * sz) ++ news).length = p * sz + news.length := by rw [List.length_append, ht]
        rw [this, show p * sz + news.length + (q - (p * sz + news.length)) = q from by omega]
        simp
  by_cases c1 : k < p
  · rw [List.append_assoc, List.getElem?_append_left (by omega), List.getElem?_take, if_pos c1] at he
    refine ⟨(h.2 k e he).1, fun j x hx => ?_⟩
    have hj : j < sz := by rw [← (h.2 k e he).1]; exact (List.getElem?_eq_some_iff.1 hx).1
    rw [hget, if_pos (mul_lt_of c1 hj)]
    exact (h.2 k e he).2 j x hx
  · by_cases c2 : k < p + new.length
    · rw [List.append_assoc, List.getElem?_append_right (by omega), htl, List.getElem?_append_left (by omega)] at he
      refine ⟨(hn.2 _ e he).1, fun j x hx => ?_⟩
      have hj : j < sz := by rw [← (hn.2 _ e he).1]; exact (List.getElem?_eq_some_iff.1 hx).1
      obtain ⟨q, rfl⟩ : ∃ q, k = p + q := ⟨k - p, by omega⟩
      have hq : q < new.length := by omega
      have h3 := mul_lt_of hq hj
      rw [hget, if_neg (by rw [Nat.add_mul]; omega), if_pos (by rw [Nat.add_mul, hl]; omega)]
      obtain ⟨u, u1, u2, u3⟩ := (hn.2 _ e he).2 j x hx
      refine ⟨u, ?_, u2, u3⟩
      rw [← u1, List.getElem?_toArray]
      congr 1
      rw [Nat.add_mul, show p + q - p = q from by omega]
      omega
    · rw [List.getElem?_append_right (by simp; omega), List.getElem?_drop] at he
      have : (els.take p ++ new).length = p + new.length := by rw [List.length_append, htl]
      rw [this, show p + new.length + (k - (p + new.length)) = k from by omega] at he
      refine ⟨(h.2 k e he).1, fun j x hx => ?_⟩
      have h3 := Nat.mul_le_mul_right sz (Nat.le_of_not_lt c2)
      rw [Nat.add_mul, ← hl] at h3
      rw [hget, if_neg (by omega), if_neg (by omega)]
      exact (h.2 k e he).2 j x hx
section
variable {C : Cx} {n : Nat} {o : Oper} {τ : Nat → AV} {η : Nat → Ent} {t e : TypeId} {ti te : TI}
theorem zero_flat {w : World} {vs : Shp} {m : MM} {z : Value} {sz r : Nat} (hz : z.cells.size = sz) (hone : ∀ u ∈ z.cells.toList, u.oneCell' = true) : Flat w vs m sz (List.replicate r (z.cells.toList.map .c)) (Builtin.zeroCells z.cells r).toList.toArray := by
  have hs : (Builtin.zeroCells z.cells r).size = r * sz := by rw [size_zeroCells, hz]
  rw [Array.toArray_toList]
  refine ⟨by rw [List.length_replicate, hs]; exact Nat.le_refl _, fun k e' he => ?_⟩
  have hk : k < r := by simpa using (List.getElem?_eq_some_iff.1 he).1
  have he' : e' = z.cells.toList.map .c := by
    rw [List.getElem?_replicate] at he
    simpa [hk] using he.symm
  subst he'
  refine ⟨by simp [hz], fun j x hx => ?_⟩
  rw [List.getElem?_map] at hx
  obtain ⟨u, hu, rfl⟩ := Option.map_eq_some_iff.1 hx
  have hj : j < sz := by rw [← hz]; simpa using (List.getElem?_eq_some_iff.1 hu).1
  have hq := mul_lt_of hk hj
  refine ⟨u, ?_, hone u (List.mem_of_getElem? hu), .c u⟩
  have hm : (k * sz + j) % sz = j := by rw [Nat.mul_comm, Nat.mul_add_mod, Nat.mod_eq_of_lt hj]
  have hlt : k * sz + j < (Builtin.zeroCells z.cells r).size := by rw [hs]; exact hq
  rw [Array.getElem?_eq_getElem hlt]
  simp only [Builtin.zeroCells, Array.getElem_map, Array.getElem_range, hz, hm]
  rw [Array.getElem?_toList] at hu
  rw [getElem!_def, hu]
theorem lf_clear {x : Operand} {i ver p r : Nat} {B : Blk} (ho : o.op = .call { callee := .builtin .clear, args := #[x], argTypes := #[t] }) (hd : o.dst = none) (hx : evA τ x = .own i ver p r) (hi : η i = ⟨ver, some B⟩) (ht : TyOk C.P t ti) (hk : ti.kind = .slice e) (hte : TyOk C.P e te)
    (hsz : te.sz = B.sz) (hpos : 0 < B.sz) (hone : ∀ u ∈ te.zero.cells.toList, u.oneCell' = true) (hr0 : 0 < r) (hqr : p + r ≤ B.els.length) : LF C n o τ η ⟨.dead, [(i, ⟨ver, some ⟨B.ty, B.sz, B.box, B.els.take p ++ List.replicate r (te.zero.cells.toList.map .c) ++ B.els.drop (p + r)⟩⟩)], []⟩ := by
  intro τ' η' g1 g2
  intro w0 X m a w h
  have hi2 : η' i = ⟨ver, some B⟩ := (g2 i (.inr (by simp [Foot.ids]))).trans hi
  have hv := h.ev x
  rw [g1 x (by simp [ho, Op.operands, Call.operands]), hx] at hv
  have hok := h.mem.ok i B (by rw [hi2])
  have hzc : te.zero.cells.size = B.sz := by rw [hte.cells, hsz]
  rcases rv_own hv hi2 with ⟨_, e0, e2, hu⟩ | ⟨k', A', e1, e2, hu⟩ | ⟨b, cap, ty, nn, e1, e2, e3, e4, e5, hu⟩
  · omega
  · omega
  · rw [e1] at hok
    obtain ⟨arr, a1, a2, a3⟩ := hok.unmap e4
    have hM : isM B.box B.ty = false := by
      cases hM : isM B.box B.ty with
      | false => rfl
      | true =>
        obtain ⟨arr', hc, _⟩ := hok
        obtain ⟨es, ck, q1, _⟩ := hc.2 hM
        rw [a1] at q1
        cases q1
    have hzl : (Builtin.zeroCells te.zero.cells r).toList.length = r * B.sz := by rw [Array.length_toList, size_zeroCells, hzc]
    obtain ⟨f1, f2, f3⟩ := Flat.over (p := p) (new := List.replicate r (te.zero.cells.toList.map .c)) (news := (Builtin.zeroCells te.zero.cells r).toList) ⟨a2, a3⟩ (zero_flat (w := w) (vs := shp η') (m := m) hzc hone) (by rw [hzl, List.length_replicate]) (by rw [List.length_replicate]; exact hqr)
    rw [List.length_replicate] at f1
    have hall : ∀ u ∈ (Builtin.zeroCells te.zero.cells r).toList, u.oneCell' = true := by
      intro u hu
      simp only [Builtin.zeroCells, Array.toList_map, List.mem_map] at hu
      obtain ⟨q, _, rfl⟩ := hu
      have hlt : q % te.zero.cells.size < te.zero.cells.size := Nat.mod_lt _ (by rw [hzc]; exact hpos)
      refine hone _ ?_
      rw [getElem!_pos te.zero.cells _ hlt]
      simp
    have hst := run_storeCells_at C.P b (p * B.sz) B.ty (Builtin.zeroCells te.zero.cells r).toList 0 arr w a1 (by simpa using f2) hall
    simp only [Nat.add_zero] at hst
    have hrun : (execOp a.eval o).run C.P w = .ok (.value (.tuple #[])) (w.setRow b (arr.toList.take (p * B.sz) ++ (Builtin.zeroCells te.zero.cells r).toList ++ arr.toList.drop (p * B.sz + (Builtin.zeroCells te.zero.cells r).toList.length)).toArray) := by
      obtain ⟨r', rfl⟩ : ∃ r', r = r' + 1 := ⟨r - 1, by omega⟩
      simp only [execOp, ho, resolve, invoke, builtin, Sem.run_bind, Sem.run_pure, Result.andThen_ok, List.map_toArray, List.map_cons, List.map_nil, hu, Builtin.clear_, List.getElem?_toArray, List.getElem?_cons_zero, run_underlying (ht.sliceU hk), hte.zeroV, hst]
    have hw := h.write hM hi2 e1 a1 f3 f1
    unfold Oper.wp
    rw [hrun]
    refine ⟨m, ?_⟩
    rw [hd]
    exact hw
end
end Go.Proofs.YtflgpccacloadaaDoor.Am
/- An abstract machine: elements of arrays that are immutable; a row whose end was cleared. -/
namespace Go.Proofs.YtflgpccacloadaaDoor.Am
open Go.RowKit
theorem lf_arrAtI {C : Cx} {n : Nat} {o : Oper} {τ : Nat → AV} {η : Nat → Ent} {t e : TypeId} {x y : Operand} {ti te : TI} {el : List AV} {j m : Nat} {kd : IntKind} {z : Int} (ho : o.op = .indexAddr t x y) (hd : InB n o.dst) (hx : evA τ x = .pim el j) (hy : evA τ y = .c (.int kd z)) (ht : TyOk C.P t ti) (hk : ti.kind = .array m e) (hte : TyOk C.P e te)
    (h0 : 0 ≤ z) (h1 : z < m) : LF C n o τ η ⟨.pim el (j + z.toNat * te.sz), [], []⟩ := by
  refine lf_pure hd (fun τ' η' g1 g2 => ?_)
  intro w0 X mm a w h
  have e1 := h.ev x
  have e2 := h.ev y
  rw [g1 x (by simp [ho, Op.operands]), hx] at e1
  rw [g1 y (by simp [ho, Op.operands]), hy] at e2
  obtain ⟨b, off, f, hu, hno, hlt, hc, hr⟩ := rv_pim e1
  refine ⟨.pointer (some ⟨b, off + (j + z.toNat * te.sz), none⟩), ?_, .pim hno hlt hc hr⟩
  have hrun := run_underlying (P := C.P) (ht.arrayU hk)
  simp [execOp, ho, hu, rv_c e2, Instr.indexAt, asIntOf, hrun, Instr.sureAddr, hte.size, h0, h1, add_plain, Nat.add_assoc]
theorem takeC {α : Type} {f : α → List AV} {l : List α} {p : Nat} {R D : List (List AV)} (h : p ≤ l.length) : (l.take p).map f = (((l.map f).take p ++ R) ++ D).take p := by
  rw [List.append_assoc, List.take_append_of_le_length (by simp; omega), List.take_take, Nat.min_self, List.map_take]
theorem takeC0 {α : Type} {f : α → List AV} {l : List α} {p : Nat} {R D : List (List AV)} (h : p ≤ l.length) : (l.take p).map f = (((l.map f).take (0 + p) ++ R) ++ D).take p := by
  rw [Nat.zero_add]
  exact takeC h
end Go.Proofs.YtflgpccacloadaaDoor.Am
/- Maps as lists of keys and elements. -/
namespace Go.Proofs.YtflgpccacloadaaDoor.Am
section
variable {κ ν : Type} [DecidableEq κ]
def getM : List (κ × ν) → κ → Option ν
  | [], _ => none
  | (b, u) :: r, a => if b = a then some u else getM r a
def setM : List (κ × ν) → κ → ν → List (κ × ν)
  | [], a, v => [(a, v)]
  | (b, u) :: r, a, v => if b = a then (a, v) :: r else (b, u) :: setM r a v
theorem getM_none {a : κ} : ∀ {M : List (κ × ν)}, (∀ p ∈ M, p.1 ≠ a) → getM M a = none
  | [], _ => rfl
  | (b, u) :: r, h => by rw [getM, if_neg (h _ (List.mem_cons_self ..))]; exact getM_none fun p hp => h p (List.mem_cons_of_mem _ hp)
theorem getM_at {a : κ} : ∀ {M : List (κ × ν)} {j : Nat} {v : ν}, M[j]? = some (a, v) → (∀ i, i < j → ∀ p, M[i]? = some p → p.1 ≠ a) → getM M a = some v
  | [], j, v, h, _ => by simp at h
  | (b, u) :: r, 0, v, h, _ => by simp at h; obtain ⟨rfl, rfl⟩ := h; rw [getM, if_pos rfl]
  | (b, u) :: r, j + 1, v, h, hne => by
    rw [getM, if_neg (hne 0 (Nat.zero_lt_succ _) (b, u) rfl)]
    exact getM_at (by simpa using h) fun i hi p hp => hne (i + 1) (Nat.succ_lt_succ hi) p (by simpa using hp)
theorem setM_none {a : κ} {v : ν} : ∀ {M : List (κ × ν)}, (∀ p ∈ M, p.1 ≠ a) → setM M a v = M ++ [(a, v)]
  | [], _ => rfl
  | (b, u) :: r, h => by rw [setM, if_neg (h _ (List.mem_cons_self ..)), setM_none fun p hp => h p (List.mem_cons_of_mem _ hp)]; rfl
theorem setM_at {a : κ} {v : ν} : ∀ {M : List (κ × ν)} {j : Nat} {u : ν}, M[j]? = some (a, u) → (∀ i, i < j → ∀ p, M[i]? = some p → p.1 ≠ a) → setM M a v = M.set j (a, v)
  | [], j, v, h, _ => by simp at h
  | (b, u) :: r, 0, _, h, _ => by simp at h; obtain ⟨rfl, rfl⟩ := h; rw [setM, if_pos rfl]; rfl
  | (b, u) :: r, j + 1, _, h, hne => by
    rw [setM, if_neg (hne 0 (Nat.zero_lt_succ _) (b, u) rfl), setM_at (by simpa using h) fun i hi p hp => hne (i + 1) (Nat.succ_lt_succ hi) p (by simpa using hp)]
    rfl
theorem mem_setM {a : κ} {v : ν} (p : κ × ν) : ∀ {M : List (κ × ν)}, (M.map Prod.fst).Nodup → (p ∈ setM M a v ↔ p = (a, v) ∨ (p ∈ M ∧ p.1 ≠ a))
  | [], _ => by simp [setM]
  | (b, u) :: r, h => by
    rw [List.map_cons, List.nodup_cons] at h
    obtain ⟨h1, h2⟩ := h
    rw [setM]
    by_cases e : b = a
    · rw [if_pos e, List.mem_cons, List.mem_cons]
      refine or_congr Iff.rfl ⟨fun hp => ⟨.inr hp, fun e2 => h1 ?_⟩, fun ⟨hp, hne⟩ => hp.resolve_left fun e2 => hne (by rw [e2]; exact e)⟩
      show b ∈ _
      rw [e, ← e2]
      exact List.mem_map_of_mem hp
    · rw [if_neg e, List.mem_cons, mem_setM p h2, List.mem_cons]
      constructor
      · rintro (rfl | hp | ⟨hp, hne⟩)
        · exact .inr ⟨.inl rfl, e⟩
        · exact .inl hp
        · exact .inr ⟨.inr hp, hne⟩
      · rintro (hp | ⟨rfl | hp, hne⟩)
        · exact .inr (.inl hp)
        · exact .inl rfl
        · exact .inr (.inr ⟨hp, hne⟩)
theorem keys_setM {a : κ} {v : ν} : ∀ {M : List (κ × ν)}, (M.map Prod.fst).Nodup → ((setM M a v).map Prod.fst).Nodup ∧ ∀ x, x ∈ (setM M a v).map Prod.fst ↔ x = a ∨ x ∈ M.map Prod.fst
  | [], _ => by simp [setM]
  | (b, u) :: r, h => by
    rw [List.map_cons, List.nodup_cons] at h
    obtain ⟨h1, h2⟩ := h
    obtain ⟨k1, k2⟩ := keys_setM (a := a) (v := v) h2
    rw [setM]
    by_cases e : b = a
    · subst e
      rw [if_pos rfl]
      exact ⟨by rw [List.map_cons, List.nodup_cons]; exact ⟨h1, h2⟩, fun x => by simp⟩
    · rw [if_neg e]
      refine ⟨by rw [List.map_cons, List.nodup_cons]; exact ⟨fun hb => ((k2 b).1 hb).elim e h1, k1⟩, fun x => ?_⟩
      rw [List.map_cons, List.mem_cons, k2, List.map_cons, List.mem_cons]
      constructor
      · rintro (h | h | h)
        · exact .inr (.inl h)
        · exact .inl h
        · exact .inr (.inr h)
      · rintro (h | h | h)
        · exact .inr (.inl h)
        · exact .inl h
        · exact .inr (.inr h)
theorem getM_mem {a : κ} {v : ν} : ∀ {M : List (κ × ν)}, (M.map Prod.fst).Nodup → (getM M a = some v ↔ (a, v) ∈ M)
  | [], _ => by simp [getM]
  | (b, u) :: r, h => by
    rw [List.map_cons, List.nodup_cons] at h
    obtain ⟨h1, h2⟩ := h
    rw [getM]
    by_cases e : b = a
    · subst e
      rw [if_pos rfl, List.mem_cons]
      constructor
      · intro h; injection h with h; rw [h]; exact .inl rfl
      · rintro (h | h)
        · injection h with _ h; rw [h]
        · exact absurd (List.mem_map_of_mem (f := Prod.fst) h) h1
    · rw [if_neg e, getM_mem h2, List.mem_cons]
      exact ⟨.inr, fun h => h.resolve_left fun e2 => e (by injection e2 with e2; exact e2.symm)⟩
theorem nodupL {α : Type} [DecidableEq α] : ∀ (l u : List α), l.Nodup → (∀ x ∈ l, x ∈ u) → l.length ≤ u.length
  | [], u, _, _ => Nat.zero_le _
  | x :: l, u, hn, hs => by
    rw [List.nodup_cons] at hn
    have hx := hs x (List.mem_cons_self ..)
    have := nodupL l (u.erase x) hn.2 fun y hy => (List.mem_erase_of_ne (fun e => hn.1 (by rw [← e]; exact hy))).2 (hs y (List.mem_cons_of_mem _ hy))
    rw [List.length_erase_of_mem hx] at this
    have := List.length_pos_of_mem hx
    rw [List.length_cons]
    omega
end
end Go.Proofs.YtflgpccacloadaaDoor.Am
/- An abstract machine: maps that the call has made: look up, store, length. -/
namespace Go.Proofs.YtflgpccacloadaaDoor.Am
open Go.RowKit Go.MapKept

/-- the value of a key -/
def KvA (x : AV) (v : Value) : Prop := ∀ w vs m u, RV w vs m x u → u = v
theorem kvc {v : Value} : KvA (.c v) v := fun _ _ _ _ h => rv_c h
/-- what is asked of the keys -/
structure KeyA (P : Program) (k : TypeId) (K : Value → Prop) : Prop where
  check : ∀ (w : World) (em : Bool) (v : Value), K v → (Instr.checkKey em 10000 k v).run P w = .ok () w
  find : ∀ (w : World) (x : Value), K x → ∀ es : List MapEntry, (∀ e ∈ es, K e.key) →
    ((Instr.findKey k x es).run P w = .ok none w ∧ ∀ e ∈ es, e.key ≠ x) ∨ ∃ j e, (Instr.findKey k x es).run P w = .ok (some (j, e.val)) w ∧ es[j]? = some e ∧ e.key = x
  stays : ∀ (w : World) (v : Value), K v → (Instr.keyThatStays v v).run P w = .ok v w
theorem keyA_plain {P : Program} {k : TypeId} {d : TypeDesc} (hk : P.underlying k = some d) : KeyA P k (IsKey d) where
  check w em v h := MapKept.run_checkKey hk h em 9999
  find w x hx es hes := by
    rcases findNow_spec hx es 0 hes with ⟨h1, h2⟩ | ⟨j, e0, h1, h2, h3⟩
    · exact .inl ⟨run_findKey hk h1, h2⟩
    · exact .inr ⟨j, e0, by simpa using run_findKey hk h1, h2, h3⟩
  stays w v h := run_keyThatStays h

/-- the entries as the machine has them -/
def mE {κ ν : Type} (ek : κ → Value) (ev : ν → AV) (M : List (κ × ν)) : List (List AV) := M.map fun p => [.c (ek p.1), ev p.2]
class MT (t : Nat) : Prop where
  h : isM true t = true
instance : MT 1000000 := ⟨rfl⟩
instance : MT 1000001 := ⟨rfl⟩
theorem MT.no {t : Nat} [MT t] {p : Prop} (e : isM true t = false) : p := by rw [MT.h] at e; cases e
def mBt {κ ν : Type} (t : Nat) (ek : κ → Value) (ev : ν → AV) (M : List (κ × ν)) : Blk := ⟨t, 2, true, mE ek ev M⟩
abbrev mB {κ ν : Type} (ek : κ → Value) (ev : ν → AV) (M : List (κ × ν)) : Blk := mBt 1000000 ek ev M
/-- what is known of the numbers of the entries -/
def BornOk (t : Nat) (es : Array MapEntry) (clock : Nat) : Prop := t = 1000001 → clock = es.size ∧ ∀ (k : Nat) (e : MapEntry), es[k]? = some e → e.born = k

section
variable {C : Cx} {n : Nat} {w0 : World} {X : XX} {τ : Nat → AV} {η : Nat → Ent} {m : MM} {a : Act} {w : World} {t0 : Nat} [MT t0] {κ ν : Type} {ek : κ → Value} {ev : ν → AV} {M : List (κ × ν)}
/-- a map's block, read -/
theorem Rep.mapAt (h : Rep C n w0 X τ η m a w) {i ver : Nat} (hi : η i = ⟨ver, some (mBt t0 ek ev M)⟩) {v : Value} (hv : RV w (shp η) m (.mp i ver) v) :
    ∃ b es clock, v = .map (some b) ∧ m i = some b ∧ w.heap[b]? = some (.map es clock) ∧ es.toList.Pairwise (fun x y => x.key ≠ y.key) ∧ BornOk t0 es clock ∧ es.size = M.length ∧
      ∀ (j : Nat) (p : κ × ν), M[j]? = some p → ∃ e, es[j]? = some e ∧ e.key = ek p.1 ∧ RV w (shp η) m (ev p.2) e.val := by
  obtain ⟨b, e1, rfl⟩ := rv_mp hv hi
  have hok := h.mem.ok i _ (by rw [hi])
  rw [e1] at hok
  obtain ⟨arr, a1, a2, a3⟩ := hok
  obtain ⟨es, c, h1, h2, h3, ⟨_, h6⟩, h5⟩ := a1.2 (MT.h (t := t0))
  have hl : es.size = M.length := by rw [← h3]; simp [mBt, mE]
  refine ⟨b, es, c, rfl, e1, h1, h5, h6, hl, fun j p hp => ?_⟩
  have hlt : j < es.size := by rw [hl]; exact (List.getElem?_eq_some_iff.1 hp).1
  have hej := Array.getElem?_eq_getElem hlt
  refine ⟨es[j], hej, ?_⟩
  obtain ⟨f1, f2⟩ := flatE_at es.toList j es[j] (by simp)
  have hel : (mBt t0 ek ev M).els[j]? = some [.c (ek p.1), ev p.2] := by simp [mBt, mE, hp]
  obtain ⟨_, q⟩ := a3 j _ hel
  obtain ⟨u, u1, _, u3⟩ := q 0 (.c (ek p.1)) rfl
  obtain ⟨u', u1', _, u3'⟩ := q 1 (ev p.2) rfl
  subst h2
  have hk : (mBt t0 ek ev M).sz = 2 := rfl
  rw [hk] at u1 u1'
  simp only [Nat.add_zero, List.getElem?_toArray] at u1 u1'
  rw [f1] at u1
  rw [f2] at u1'
  injection u1 with u1
  injection u1' with u1'
  rw [u1, u1']
  exact ⟨rv_c u3, u3'⟩
/-- what a look-up finds -/
theorem map_find [DecidableEq κ] {K : Value → Prop} {k : TypeId} (hK : KeyA C.P k K) (hinj : ∀ x y : κ, ek x = ek y → x = y) (hKe : ∀ x : κ, K (ek x)) {es : Array MapEntry} (hpw : es.toList.Pairwise (fun x y => x.key ≠ y.key)) (hl : es.size = M.length)
    (hrd : ∀ (j : Nat) (p : κ × ν), M[j]? = some p → ∃ e, es[j]? = some e ∧ e.key = ek p.1 ∧ RV w (shp η) m (ev p.2) e.val) (x : κ) :
    ((Instr.findKey k (ek x) es.toList).run C.P w = .ok none w ∧ getM M x = none ∧ (∀ p ∈ M, p.1 ≠ x) ∧ ∀ e ∈ es.toList, e.key ≠ ek x) ∨
      ∃ j e u, (Instr.findKey k (ek x) es.toList).run C.P w = .ok (some (j, e.val)) w ∧ es[j]? = some e ∧ e.key = ek x ∧ M[j]? = some (x, u) ∧ RV w (shp η) m (ev u) e.val ∧ getM M x = some u ∧ ∀ i, i < j → ∀ p, M[i]? = some p → p.1 ≠ x := by
  have hkeys : ∀ (j : Nat) (e : MapEntry), es[j]? = some e → ∃ p, M[j]? = some p ∧ e.key = ek p.1 ∧ RV w (shp η) m (ev p.2) e.val := fun j e he => by
    have hlt : j < M.length := by rw [← hl]; exact (Array.getElem?_eq_some_iff.1 he).1
    obtain ⟨e', g1, g2, g3⟩ := hrd j _ (List.getElem?_eq_getElem hlt)
    rw [he] at g1
    injection g1 with g1
    subst g1
    exact ⟨_, List.getElem?_eq_getElem hlt, g2, g3⟩
  have hall : ∀ e ∈ es.toList, K e.key := fun e he => by
    obtain ⟨j, hj⟩ := List.getElem?_of_mem he
    obtain ⟨p, _, q, _⟩ := hkeys j e (by simpa using hj)
    rw [q]
    exact hKe _
  rcases hK.find w (ek x) (hKe x) es.toList hall with ⟨h1, h2⟩ | ⟨j, e, h1, h2, h3⟩
  · have hne : ∀ p ∈ M, p.1 ≠ x := fun p hp e => by
      obtain ⟨j, hj⟩ := List.getElem?_of_mem hp
      obtain ⟨e', g1, g2, _⟩ := hrd j p hj
      exact h2 e' (List.mem_of_getElem? (by simpa using g1)) (by rw [g2, e])
    exact .inl ⟨h1, getM_none hne, hne, h2⟩
  · have h2' : es[j]? = some e := by simpa using h2
    obtain ⟨⟨x', u⟩, g1, g2, g3⟩ := hkeys j e h2'
    have := hinj x' x (by rw [← g2, h3])
    subst this
    have hfirst : ∀ i, i < j → ∀ p, M[i]? = some p → p.1 ≠ x' := fun i hij p hp e0 => by
      obtain ⟨e', q1, q2, _⟩ := hrd i p hp
      have hi' : es.toList[i]? = some e' := by simpa using q1
      have := List.pairwise_iff_getElem.1 hpw i j (List.getElem?_eq_some_iff.1 hi').1 (List.getElem?_eq_some_iff.1 h2).1 hij
      rw [(List.getElem?_eq_some_iff.1 hi').2, (List.getElem?_eq_some_iff.1 h2).2, q2, h3, e0] at this
      exact this rfl
    exact .inr ⟨j, e, u, h1, h2', h3, g1, g3, getM_at g1 hfirst, hfirst⟩
end

section
variable {C : Cx} {n : Nat} {o : Oper} {τ : Nat → AV} {η : Nat → Ent} {t0 : Nat} [MT t0] {κ ν : Type} [DecidableEq κ] {ek : κ → Value} {ev : ν → AV} {M : List (κ × ν)} {t k e : TypeId} {K : Value → Prop}
/-- v, ok := m[x] -/
theorem lf_mapok {x y : Operand} {i ver : Nat} {q : κ} {te : TI} (z : ν) (hK : KeyA C.P k K) (hinj : ∀ x y : κ, ek x = ek y → x = y) (hKe : ∀ x : κ, K (ek x))
    (ho : o.op = .lookup t x y true) (hd : InB n o.dst) (hx : evA τ x = .mp i ver) (hi : η i = ⟨ver, some (mBt t0 ek ev M)⟩) (hy : KvA (evA τ y) (ek q)) (ht : C.P.underlying t = some (.map k e)) (hte : TyOk C.P e te) (hz : ∀ w vs m, RV w vs m (ev z) te.zero) :
    LF C n o τ η ⟨.tup [ev ((getM M q).getD z), .c (.bool (getM M q).isSome)], [], [i]⟩ := by
  refine lf_pure hd (fun τ' η' g1 g2 => ?_)
  intro w0 X mm a w h
  have hi' : η' i = ⟨ver, some (mBt t0 ek ev M)⟩ := (g2 i (List.mem_singleton.2 rfl)).trans hi
  have e1 := h.ev x
  have e2 := h.ev y
  rw [g1 x (by simp [ho, Op.operands]), hx] at e1
  rw [g1 y (by simp [ho, Op.operands])] at e2
  obtain ⟨b, es, clock, hu, hb, hh, hpw, hborn, hl, hrd⟩ := h.mapAt hi' e1
  have hy' := hy _ _ _ _ e2
  have hchk := hK.check w es.isEmpty (ek q) (hKe q)
  rcases map_find (C := C) hK hinj hKe hpw hl hrd q with ⟨h1, h2, _, _⟩ | ⟨j, e', u, h1, _, _, _, h5, h6, _⟩
  · refine ⟨.tuple #[te.zero, .bool false], ?_, ?_⟩
    · simp [execOp, ho, hu, hy', Instr.lookup, run_underlying ht, MapKept.run_getObj_map hh, hchk, h1, hte.zeroV, Result.andThen]
    · rw [h2]
      refine .tup rfl (fun j y v hj hv => ?_)
      match j with
      | 0 => simp at hj hv; subst hj hv; exact hz _ _ _
      | 1 => simp at hj hv; subst hj hv; exact .c _
      | j + 2 => simp at hj
  · refine ⟨.tuple #[e'.val, .bool true], ?_, ?_⟩
    · simp [execOp, ho, hu, hy', Instr.lookup, run_underlying ht, MapKept.run_getObj_map hh, hchk, h1, Result.andThen]
    · rw [h6]
      refine .tup rfl (fun j y v hj hv => ?_)
      match j with
      | 0 => simp at hj hv; subst hj hv; exact h5
      | 1 => simp at hj hv; subst hj hv; exact .c _
      | j + 2 => simp at hj
end

section
variable {C : Cx} {n : Nat} {w0 : World} {X : XX} {τ : Nat → AV} {η : Nat → Ent} {m : MM} {a : Act} {w : World}
/-- a block of the call's own is written, whatever it is -/
theorem Rep.wr (h : Rep C n w0 X τ η m a w) {i ver b : Nat} {B : Blk} {els' : List (List AV)} {w' : World} (hi : η i = ⟨ver, some B⟩) (hb : m i = some b) (hg : w.grownBy w' (some b)) (hsh : ∀ b', w'.shape? b' = w.shape? b')
    (hnew : Mono w (shp η) m w' (shp η) m → BlkOk w' (shp η) m { B with els := els' } (some b)) : Rep C n w0 X τ (updE η i ⟨ver, some { B with els := els' }⟩) m a w' := by
  have hl : (η i).blk ≠ none := by rw [hi]; simp
  have hs : shp (updE η i ⟨ver, some { B with els := els' }⟩) = shp η := shp_upd hi rfl
  have hm0 : Mono w (shp η) m w' (shp η) m := by
    refine ⟨hg.size, fun b' hb' ho => hg.block b' hb' (fun e => ?_), fun _ _ h => h, fun _ => Nat.le_refl _, fun _ _ => ⟨rfl, fun _ => ⟨rfl, fun b' _ => hsh b'⟩⟩⟩
    injection e with e
    subst e
    exact ho (.inr ⟨i, blk_live.2 hl, hb⟩)
  have hm : Mono w (shp η) m w' (shp (updE η i ⟨ver, some { B with els := els' }⟩)) m := by rw [hs]; exact hm0
  refine h.move hm (h.mem.upd hm (fun _ _ => rfl) (fun i' b' hi' hl' hb' => hg.block b' (h.mem.lt hl' hb') (fun e => ?_)) (fun B' hB' => ?_) (fun i' b' hi' hl' hb' _ e => ?_) (fun b' _ hb' => h.mem.low i b' hl hb') rfl (fun b' _ hb' => h.mem.sep i b' hl hb')) (h.kin.grown hg (fun b' e => ?_)) rfl (fun i' b' hl' hb' => ?_) (fun k _ => by by_cases e : k = i <;> simp [updE, e, hi])
  · injection e with e
    subst e
    exact hi' (h.mem.inj i' i b' hl' hl hb' hb)
  · injection hB' with hB'
    subst hB'
    rw [hb, hs]
    exact hnew hm0
  · exact hi' (h.mem.inj i' i b' hl' hl hb' e)
  · injection e with e
    subst e
    exact h.own i b hl hb
  · by_cases e : i' = i
    · subst e; exact h.own i' b' hl hb'
    · exact h.own i' b' (by simpa [updE, e] using hl') hb'
theorem Rep.freshM (t0 : Nat) [MT t0] (h : Rep C n w0 X τ η m a w) {i ver : Nat} (hin : i < n) (hv : (η i).ver < ver) :
    Rep C n w0 X τ (updE η i ⟨ver, some ⟨t0, 2, true, []⟩⟩) (newM m i (some w.heap.size)) a (w.alloc (.map #[] 0)) := by
  have hg := World.grownBy_alloc w (.map #[] 0) none
  have hm : Mono w (shp η) m (w.alloc (.map #[] 0)) (shp (updE η i ⟨ver, some ⟨t0, 2, true, []⟩⟩)) (newM m i (some w.heap.size)) := mono_fresh h.mem hg hv (fun b e => by injection e with e; omega)
  refine h.move hm (h.mem.upd hm (fun i' hi => newM_other _ _ hi) (fun i' b _ hl hb => hg.block b (h.mem.lt hl hb) (by simp)) (fun B' hB' => ?_) (fun i' b _ hl hb _ => ?_) (fun b _ hb => ?_) rfl (fun b _ hb ho => ?_)) (h.kin.grown hg (fun b e => by cases e)) rfl (fun i' b hl hb => ?_) (fun k hk => by simp [updE, show k ≠ i from by omega])
  · injection hB' with hB'
    subst hB'
    rw [newM_same]
    exact ⟨#[], ⟨fun e => MT.no e, fun _ => ⟨#[], 0, heap_alloc_new w _, rfl, rfl, ⟨rfl, fun _ => ⟨rfl, fun k e he => by simp at he⟩⟩, List.Pairwise.nil⟩⟩, by simp, fun k e he => by simp at he⟩
  · rw [newM_same]
    intro e
    injection e with e
    have := h.mem.lt hl hb
    omega
  · rw [newM_same] at hb
    injection hb with hb
    have := h.mem.big
    omega
  · rw [newM_same] at hb
    injection hb with hb
    have := (h.mem.olt b ho).1
    omega
  · by_cases hi : i' = i
    · subst hi
      rw [newM_same] at hb
      injection hb with hb
      have := h.kin.size
      exact .inr (by omega)
    · rw [newM_other _ _ hi] at hb
      exact h.own i' b (by simpa [updE, hi] using hl) hb
end
section
variable {C : Cx} {n : Nat} {o : Oper} {τ : Nat → AV} {η : Nat → Ent} {t0 : Nat} [MT t0] {κ ν : Type} {ek : κ → Value} {ev : ν → AV} {M : List (κ × ν)} {t k e : TypeId} {K : Value → Prop}
theorem lf_mapnewT {d ver : Nat} (t0 : Nat) [MT t0] (ek : κ → Value) (ev : ν → AV) (ho : o.op = .makeMap t none) (hd : o.dst = some d) (hn : d < n) (hv : (η d).ver = ver) : LF C n o τ η ⟨.mp d (ver + 1), [(d, ⟨ver + 1, some (mBt t0 ek ev [])⟩)], []⟩ := by
  intro τ' η' g1 g2
  have hv' : (η' d).ver = ver := by rw [g2 d (.inr (by simp [Foot.ids]))]; exact hv
  intro w0 X m a w h
  have hr := Rep.freshM t0 h (i := d) (ver := ver + 1) hn (by omega)
  have hrun : (execOp a.eval o).run C.P w = .ok (.value (.map (some w.heap.size))) (w.alloc (.map #[] 0)) := by
    simp [execOp, ho, Instr.makeMap, newObj, Sem.run]
  unfold Oper.wp
  rw [hrun]
  refine ⟨_, hr.put (by rw [hd]; exact hn) ?_⟩
  exact .mp (sz := 2) (by simp [shp, updE]) (newM_same _ _ _)
theorem lf_mapsetT [DecidableEq κ] {x y z : Operand} {i ver : Nat} {q : κ} {v : ν} (hK : KeyA C.P k K) (hinj : ∀ x y : κ, ek x = ek y → x = y) (hKe : ∀ x : κ, K (ek x))
    (ho : o.op = .mapUpdate t x y z) (hd : o.dst = none) (hx : evA τ x = .mp i ver) (hi : η i = ⟨ver, some (mBt t0 ek ev M)⟩) (hy : KvA (evA τ y) (ek q)) (hz : evA τ z = ev v) (ht : C.P.underlying t = some (.map k e)) :
    LF C n o τ η ⟨.dead, [(i, ⟨ver, some (mBt t0 ek ev (setM M q v))⟩)], []⟩ := by
  intro τ' η' g1 g2
  intro w0 X mm a w h
  have hi' : η' i = ⟨ver, some (mBt t0 ek ev M)⟩ := (g2 i (.inr (by simp [Foot.ids]))).trans hi
  have e1 := h.ev x
  have e2 := h.ev y
  have e3 := h.ev z
  rw [g1 x (by simp [ho, Op.operands]), hx] at e1
  rw [g1 y (by simp [ho, Op.operands])] at e2
  rw [g1 z (by simp [ho, Op.operands]), hz] at e3
  obtain ⟨b, es, clock, hu, hb, hh, hpw, hborn, hl, hrd⟩ := h.mapAt hi' e1
  have hy' := hy _ _ _ _ e2
  have hchk := hK.check w false (ek q) (hKe q)
  have fin : ∀ (es' : Array MapEntry) (c' : Nat), (execOp a.eval o).run C.P w = .ok .skip { w with heap := w.heap.setIfInBounds b (.map es' c') } → es'.toList.Pairwise (fun x y => x.key ≠ y.key) → BornOk t0 es' c' → es'.size = (setM M q v).length →
      (∀ (j : Nat) (p : κ × ν), (setM M q v)[j]? = some p → ∃ e, es'[j]? = some e ∧ e.key = ek p.1 ∧ RV w (shp η') mm (ev p.2) e.val) →
      o.wp C.P a w (fun a' w' => ∃ m', Rep C n w0 X (putA τ' o.dst .dead) (updAll η' [(i, ⟨ver, some (mBt t0 ek ev (setM M q v))⟩)]) m' a' w') (fun _ _ _ => False) := by
    intro es' c' hrun hpw' hbo' hl' hrd'
    obtain ⟨s1, s2⟩ := heap_set (o' := .map es' c') hh
    have hg : w.grownBy { w with heap := w.heap.setIfInBounds b (.map es' c') } (some b) := ⟨rfl, rfl, rfl, by simp, fun i _ hi => s2 i (fun e => hi (by rw [e]))⟩
    have hr := h.wr (els' := mE ek ev (setM M q v)) hi' hb hg (fun b' => by
      unfold World.shape?
      by_cases eb : b' = b
      · subst eb; simp only [s1, hh]
      · simp only [s2 b' eb]) (fun hm => by
      refine ⟨(flatE es'.toList).toArray, ⟨fun e => MT.no (t := t0) e, fun _ => ⟨es', c', s1, rfl, by simp [mE, hl'], ⟨rfl, hbo'⟩, hpw'⟩⟩, by simp [mE, mBt, flatE_len, hl'], fun j e he => ?_⟩
      have he' : ((setM M q v).map fun p => [AV.c (ek p.1), ev p.2])[j]? = some e := he
      rw [List.getElem?_map] at he'
      obtain ⟨p, hp, hpe⟩ := Option.map_eq_some_iff.1 he'
      subst hpe
      obtain ⟨e', q1, q2, q3⟩ := hrd' j p hp
      obtain ⟨f1, f2⟩ := flatE_at es'.toList j e' (by simpa using q1)
      refine ⟨rfl, fun c y hc => ?_⟩
      match c with
      | 0 => simp at hc; subst hc; exact ⟨e'.key, by simpa [mBt] using f1, fun e => MT.no (t := t0) e, by rw [q2]; exact .c _⟩
      | 1 => simp at hc; subst hc; exact ⟨e'.val, by simpa [mBt] using f2, fun e => MT.no (t := t0) e, q3.mono hm⟩
      | c + 2 => simp at hc)
    unfold Oper.wp
    rw [hrun]
    refine ⟨mm, ?_⟩
    rw [hd]
    exact hr
  rcases map_find (C := C) hK hinj hKe hpw hl hrd q with ⟨h1, _, hne, hne2⟩ | ⟨j, e', u, h1, h2, h3, h4, h5, _, h7⟩
  · refine fin (es.push ⟨ek q, a.eval z, clock⟩) (clock + 1) ?_ ?_ ?_ ?_ ?_
    · simp [execOp, ho, hu, hy', Instr.mapUpdate, run_underlying ht, MapKept.run_getObj_map hh, hchk, h1, MapKept.run_setObj_map _ hh, Result.andThen]
    · rw [Array.toList_push]
      exact List.pairwise_append.2 ⟨hpw, List.pairwise_singleton _ _, fun x hx y hy => by rw [List.mem_singleton.1 hy]; exact hne2 x hx⟩
    · intro ht0
      obtain ⟨q1, q2⟩ := hborn ht0
      refine ⟨by simp [q1], fun k e he => ?_⟩
      rw [Array.getElem?_push] at he
      split at he
      · injection he with he
        subst he
        show clock = k
        omega
      · exact q2 k e he
    · rw [setM_none hne]; simp [hl]
    · intro j p hp
      rw [setM_none hne] at hp
      rcases Nat.lt_or_ge j M.length with hj | hj
      · rw [List.getElem?_append_left hj] at hp
        obtain ⟨e', q1, q2, q3⟩ := hrd j p hp
        have hjs : j < es.size := by rw [hl]; exact hj
        exact ⟨e', by rw [Array.getElem?_push, if_neg (by omega)]; exact q1, q2, q3⟩
      · rw [List.getElem?_append_right hj] at hp
        have hj0 : j - M.length = 0 := by
          have := (List.getElem?_eq_some_iff.1 hp).1
          simp at this
          omega
        rw [hj0] at hp
        simp at hp
        subst hp
        exact ⟨⟨ek q, a.eval z, clock⟩, by rw [Array.getElem?_push, if_pos (by omega)], rfl, e3⟩
  · have hjl : j < es.size := (Array.getElem?_eq_some_iff.1 h2).1
    refine fin (es.modify j (fun x => { x with key := ek q, val := a.eval z })) clock ?_ ?_ ?_ ?_ ?_
    · have hst := hK.stays w (ek q) (hKe q)
      simp [execOp, ho, hu, hy', Instr.mapUpdate, run_underlying ht, MapKept.run_getObj_map hh, hchk, h1, h2, h3, hst, MapKept.run_setObj_map _ hh, Result.andThen]
    · have : ((es.modify j (fun x => { x with key := ek q, val := a.eval z })).toList.map (·.key)) = es.toList.map (·.key) := by
        apply List.ext_getElem?
        intro i
        simp only [List.getElem?_map, Array.getElem?_toList, Array.getElem?_modify]
        by_cases hij : j = i
        · subst hij
          rw [if_pos rfl, h2]
          simp [h3]
        · rw [if_neg hij]
      have h8 : (es.toList.map (·.key)).Pairwise (· ≠ ·) := List.pairwise_map.2 hpw
      rw [← this] at h8
      exact List.pairwise_map.1 h8
    · intro ht0
      obtain ⟨q1, q2⟩ := hborn ht0
      refine ⟨by simp [q1], fun k e he => ?_⟩
      rw [Array.getElem?_modify] at he
      split at he
      · obtain ⟨e0, r1, r2⟩ := Option.map_eq_some_iff.1 he
        subst r2
        exact q2 k e0 r1
      · exact q2 k e he
    · rw [setM_at h4 h7]; simp [hl]
    · intro i p hp
      rw [setM_at h4 h7] at hp
      by_cases hij : j = i
      · subst hij
        rw [List.getElem?_set_self (by omega)] at hp
        simp at hp
        subst hp
        exact ⟨{ e' with key := ek q, val := a.eval z }, by rw [Array.getElem?_modify, if_pos rfl, h2]; rfl, rfl, e3⟩
      · rw [List.getElem?_set_ne hij] at hp
        obtain ⟨e'', q1, q2, q3⟩ := hrd i p hp
        exact ⟨e'', by rw [Array.getElem?_modify, if_neg hij]; exact q1, q2, q3⟩
end
def kS : ByteArray → Value := .string
def vI (x : Int) : AV := .c (.int .i64 x)
def vB (x : Bool) : AV := .c (.bool x)
def vS (x : ByteArray) : AV := .c (.string x)
class FrM {ν : Type} (ev : ν → AV) : Prop where
  h : ∀ x, Fr (ev x)
instance : FrM vI := ⟨fun _ => .c _⟩
instance : FrM vB := ⟨fun _ => .c _⟩
instance : FrM vS := ⟨fun _ => .c _⟩
theorem FrL_mE {κ ν : Type} {ek : κ → Value} {ev : ν → AV} (hv : ∀ x, Fr (ev x)) (M : List (κ × ν)) : FrL (mE ek ev M) := by
  intro e he x hx
  obtain ⟨p, _, rfl⟩ := List.mem_map.1 he
  rcases List.mem_cons.1 hx with rfl | hx
  · exact .c _
  · rw [List.mem_singleton.1 hx]; exact hv _
instance {κ ν : Type} {ek : κ → Value} {ev : ν → AV} [a : FrM ev] {M : List (κ × ν)} : FrI (mE ek ev M) := ⟨FrL_mE a.h M⟩
instance {t0 : Nat} {κ ν : Type} {ek : κ → Value} {ev : ν → AV} [a : FrM ev] {M : List (κ × ν)} : FrI (mBt t0 ek ev M).els := ⟨FrL_mE a.h M⟩
theorem kS_inj (x y : ByteArray) (h : kS x = kS y) : x = y := by injection h
theorem kS_key {P : Program} {k : TypeId} (hk : P.underlying k = some .string) : KeyA P k (IsKey .string) := keyA_plain hk
theorem kS_is (x : ByteArray) : IsKey .string (kS x) := trivial
end Go.Proofs.YtflgpccacloadaaDoor.Am
/- Maps whose keys are structs of a string and a number (the forms of atoms). -/
namespace Go.Proofs.YtflgpccacloadaaDoor.Am
open Go.RowKit Go.MapKept Go.WideShapes
def kF (q : ByteArray × Int) : Value := .agg #[.string q.1, .int .i64 q.2]
def KF (v : Value) : Prop := ∃ q, v = kF q
theorem kF_is (q : ByteArray × Int) : KF (kF q) := ⟨q, rfl⟩
theorem kF_inj (x y : ByteArray × Int) (h : kF x = kF y) : x = y := by
  obtain ⟨a, b⟩ := x
  obtain ⟨a', b'⟩ := y
  unfold kF at h
  injection h with h
  simp at h
  obtain ⟨rfl, rfl⟩ := h
  rfl
theorem kvF {a : ByteArray} {b : Int} : KvA (.agg [.c (.string a), .c (.int .i64 b)]) (kF (a, b)) := by
  intro w vs m u h
  obtain ⟨us, rfl, hl, hr⟩ := rv_agg h
  have hs : us.size = 2 := hl.symm
  have h0 := rv_c (hr 0 _ (us[0]'(by omega)) rfl (Array.getElem?_eq_getElem (by omega)))
  have h1 := rv_c (hr 1 _ (us[1]'(by omega)) rfl (Array.getElem?_eq_getElem (by omega)))
  have : us = #[.string a, .int .i64 b] := by
    apply Array.ext
    · rw [hs]; rfl
    · intro i g1 g2
      have g3 : i < 2 := by omega
      match i, g3 with
      | 0, _ => exact h0
      | 1, _ => exact h1
  rw [this]
  rfl
set_option maxRecDepth 100000 in
theorem formFields : Tryd.prog.fieldsOf 101 = #[⟨"name", 9, 0, false, "", "stratagem/datalog", 0⟩, ⟨"args", 3, 1, false, "", "stratagem/datalog", 16⟩] := by kernel_rfl
theorem formU : Tryd.prog.underlying 101 = some (.struct #[⟨"name", 9, 0, false, "", "stratagem/datalog", 0⟩, ⟨"args", 3, 1, false, "", "stratagem/datalog", 16⟩]) := by kernel_rfl
set_option maxRecDepth 100000 in
theorem eqForm (p p' : ByteArray) (q q' : Int) (w : World) : (Op.equal 101 (.agg #[.string p, .int .i64 q]) (.agg #[.string p', .int .i64 q'])).run cx.P w = .ok (p == p' && q == q') w := by
  show (Op.equalIn (9999 + 1) 101 _ _).run Tryd.prog w = _
  rw [run_equalIn_struct (P := Tryd.prog) w 9999 101 _ _ (by kernel_rfl) (by kernel_rfl), formFields]
  have hi : ∀ (a b : Int) (w : World), (Op.equalIn 9999 3 (.int .i64 a) (.int .i64 b)).run Tryd.prog w = .ok (a == b) w := by
    intro a b w
    show (Op.equalIn (9998 + 1) 3 _ _).run Tryd.prog w = _
    rw [Op.equalIn]
    simp only [Sem.run_bind, run_underlying Tryd.underlying3, Result.andThen_ok]
    simp [Sem.run_pure]
  have hs : ∀ (a b : ByteArray) (w : World), (Op.equalIn 9999 9 (.string a) (.string b)).run Tryd.prog w = .ok (a == b) w := by
    intro a b w
    show (Op.equalIn (9998 + 1) 9 _ _).run Tryd.prog w = _
    rw [Op.equalIn]
    simp only [Sem.run_bind, run_underlying Tryd.underlying9, Result.andThen_ok]
    simp [Sem.run_pure]
  have hp0 : ∀ (a : ByteArray) (b : Int) (w : World), (part 9 #[.string a, .int .i64 b] 0).run Tryd.prog w = .ok (.string a) w := fun a b w => by kernel_rfl
  have hp1 : ∀ (a : ByteArray) (b : Int) (w : World), (part 3 #[.string a, .int .i64 b] 1).run Tryd.prog w = .ok (.int .i64 b) w := fun a b w => by kernel_rfl
  simp only [Op.eqFields]
  simp [hi, hs, hp0, hp1]
  have hb : ∀ a b : ByteArray, (a == b) = decide (a = b) := fun a b => by rw [Bool.eq_iff_iff, bytes_beq, decide_eq_true_iff]
  rw [hb]
  by_cases h : p = p' <;> by_cases h2 : q = q' <;> simp [h, h2]
set_option maxRecDepth 100000 in
theorem kF_key : KeyA cx.P 101 KF where
  check w em v h := by
    obtain ⟨⟨a, b⟩, rfl⟩ := h
    have hin : (Instr.checkKey em 9999 3 (.int .i64 b)).run Tryd.prog w = .ok () w := by
      rw [Instr.checkKey]
      simp [run_underlying Tryd.underlying3]
    have hst : (Instr.checkKey em 9999 9 (.string a)).run Tryd.prog w = .ok () w := by
      rw [Instr.checkKey]
      simp [run_underlying Tryd.underlying9]
    have p0 : (part 9 #[.string a, .int .i64 b] 0).run Tryd.prog w = .ok (.string a) w := by kernel_rfl
    have p1 : (part 3 #[.string a, .int .i64 b] 1).run Tryd.prog w = .ok (.int .i64 b) w := by kernel_rfl
    show (Instr.checkKey em (9999 + 1) 101 (kF (a, b))).run Tryd.prog w = _
    unfold kF
    rw [Instr.checkKey]
    simp [run_underlying formU, p0, p1, hin, hst]
  find w x h es hes := by
    have hwide : (match Tryd.prog.underlying 101 with | some (.array _ _) | some (.struct _) => true | _ => false) = true := by rw [formU]
    show ((Instr.findKey 101 x es).run Tryd.prog w = _ ∧ _) ∨ ∃ j e, (Instr.findKey 101 x es).run Tryd.prog w = _ ∧ _
    rw [run_findKey_eq w hwide]
    have go : ∀ (es : List MapEntry) (i : Nat), (∀ e ∈ es, KF e.key) → ((Instr.findAsking 101 x es i).run Tryd.prog w = .ok none w ∧ ∀ e ∈ es, e.key ≠ x) ∨ ∃ j e, (Instr.findAsking 101 x es i).run Tryd.prog w = .ok (some (i + j, e.val)) w ∧ es[j]? = some e ∧ e.key = x := by
      intro es
      induction es with
      | nil => intro i _; exact .inl ⟨rfl, fun e he => by cases he⟩
      | cons y r ih =>
        intro i hes
        obtain ⟨⟨a, b⟩, rfl⟩ := h
        obtain ⟨⟨a', b'⟩, hy⟩ := hes y (List.mem_cons_self ..)
        have heq : (Op.equal 101 (kF (a, b)) y.key).run Tryd.prog w = .ok (a == a' && b == b') w := by rw [hy]; exact eqForm a a' b b' w
        rw [Instr.findAsking]
        simp only [Sem.run_bind, heq, Result.andThen_ok]
        cases ht : (a == a' && b == b') with
        | true =>
          simp only [Bool.and_eq_true, beq_iff_eq, bytes_beq] at ht
          obtain ⟨rfl, rfl⟩ := ht
          exact .inr ⟨0, y, rfl, rfl, hy⟩
        | false =>
          rcases ih (i + 1) (fun e he => hes e (List.mem_cons_of_mem _ he)) with ⟨h1, h2⟩ | ⟨j, e0, h1, h2, h3⟩
          · refine .inl ⟨h1, fun e he => ?_⟩
            rcases List.mem_cons.1 he with rfl | he
            · rw [hy]
              intro e2
              have := kF_inj _ _ e2
              injection this with q1 q2
              subst q1 q2
              rw [(bytes_beq _ _).2 rfl] at ht
              simp at ht
            · exact h2 e he
          · exact .inr ⟨j + 1, e0, by rw [show i + (j + 1) = i + 1 + j from by omega]; exact h1, h2, h3⟩
    rcases go es 0 hes with h1 | ⟨j, e0, h1, h2, h3⟩
    · exact .inl h1
    · exact .inr ⟨j, e0, by rw [Nat.zero_add] at h1; exact h1, h2, h3⟩
  stays w v h := by
    obtain ⟨⟨a, b⟩, rfl⟩ := h
    have hs : ∀ n : Nat, Instr.sameBits (n + 1 + 1) (kF (a, b)) (kF (a, b)) = true := fun n => by
      unfold kF
      rw [Instr.sameBits]
      simp [Instr.sameBits, (bytes_beq a a).2 rfl]
    have := hs 9998
    simp [Instr.keyThatStays, this]
end Go.Proofs.YtflgpccacloadaaDoor.Am
/- An abstract machine: m[k] op= .. (the entry, then its element), delete, look-ups in immutable maps. -/
namespace Go.Proofs.YtflgpccacloadaaDoor.Am
open Go.RowKit Go.MapKept
section
variable {κ ν : Type} [DecidableEq κ]
def idxM : List (κ × ν) → κ → Nat
  | [], _ => 0
  | (b, _) :: r, a => if b = a then 0 else idxM r a + 1
def insM (M : List (κ × ν)) (q : κ) (z : ν) : List (κ × ν) := if (getM M q).isSome then M else M ++ [(q, z)]
def delM : List (κ × ν) → κ → List (κ × ν)
  | [], _ => []
  | (b, u) :: r, a => if b = a then r else (b, u) :: delM r a
theorem idxM_none {a : κ} : ∀ {M : List (κ × ν)}, (∀ p ∈ M, p.1 ≠ a) → idxM M a = M.length
  | [], _ => rfl
  | (b, u) :: r, h => by rw [idxM, if_neg (h _ (List.mem_cons_self ..)), idxM_none fun p hp => h p (List.mem_cons_of_mem _ hp)]; rfl
theorem idxM_at {a : κ} : ∀ {M : List (κ × ν)} {j : Nat} {u : ν}, M[j]? = some (a, u) → (∀ i, i < j → ∀ p, M[i]? = some p → p.1 ≠ a) → idxM M a = j
  | [], j, u, h, _ => by simp at h
  | (b, w) :: r, 0, u, h, _ => by simp at h; obtain ⟨rfl, rfl⟩ := h; rw [idxM, if_pos rfl]
  | (b, w) :: r, j + 1, u, h, hne => by
    rw [idxM, if_neg (hne 0 (Nat.zero_lt_succ _) (b, w) rfl), idxM_at (M := r) (by simpa using h) fun i hi p hp => hne (i + 1) (Nat.succ_lt_succ hi) p (by simpa using hp)]
theorem delM_none {a : κ} : ∀ {M : List (κ × ν)}, (∀ p ∈ M, p.1 ≠ a) → delM M a = M
  | [], _ => rfl
  | (b, u) :: r, h => by rw [delM, if_neg (h _ (List.mem_cons_self ..)), delM_none fun p hp => h p (List.mem_cons_of_mem _ hp)]
theorem delM_at {a : κ} : ∀ {M : List (κ × ν)} {j : Nat} {u : ν}, M[j]? = some (a, u) → (∀ i, i < j → ∀ p, M[i]? = some p → p.1 ≠ a) → delM M a = M.eraseIdx j
  | [], j, u, h, _ => by simp at h
  | (b, w) :: r, 0, u, h, _ => by simp at h; obtain ⟨rfl, rfl⟩ := h; rw [delM, if_pos rfl]; rfl
  | (b, w) :: r, j + 1, u, h, hne => by
    rw [delM, if_neg (hne 0 (Nat.zero_lt_succ _) (b, w) rfl), delM_at (M := r) (by simpa using h) fun i hi p hp => hne (i + 1) (Nat.succ_lt_succ hi) p (by simpa using hp)]
    rfl
end
section
variable {C : Cx} {n : Nat} {w0 : World} {X : XX} {τ : Nat → AV} {η : Nat → Ent} {m : MM} {a : Act} {w : World} {t0 : Nat} [MT t0] {κ ν : Type} {ek : κ → Value} {ev : ν → AV} {M : List (κ × ν)}
/-- a map's block, written -/
theorem Rep.mapWr (h : Rep C n w0 X τ η m a w) {i ver b : Nat} {es es' : Array MapEntry} {c c' : Nat} {M' : List (κ × ν)} (hi : η i = ⟨ver, some (mBt t0 ek ev M)⟩) (hb : m i = some b) (hh : w.heap[b]? = some (.map es c)) (hpw' : es'.toList.Pairwise (fun x y => x.key ≠ y.key))
    (hbo' : BornOk t0 es' c') (hl' : es'.size = M'.length) (hrd' : ∀ (j : Nat) (p : κ × ν), M'[j]? = some p → ∃ e, es'[j]? = some e ∧ e.key = ek p.1 ∧ RV w (shp η) m (ev p.2) e.val) :
    Rep C n w0 X τ (updE η i ⟨ver, some (mBt t0 ek ev M')⟩) m a { w with heap := w.heap.setIfInBounds b (.map es' c') } := by
  obtain ⟨s1, s2⟩ := heap_set (o' := .map es' c') hh
  have hg : w.grownBy { w with heap := w.heap.setIfInBounds b (.map es' c') } (some b) := ⟨rfl, rfl, rfl, by simp, fun i _ hi => s2 i (fun e => hi (by rw [e]))⟩
  exact h.wr (els' := mE ek ev M') hi hb hg (fun b' => by
    unfold World.shape?
    by_cases eb : b' = b
    · subst eb; simp only [s1, hh]
    · simp only [s2 b' eb]) (fun hm => by
    refine ⟨(flatE es'.toList).toArray, ⟨fun e => MT.no (t := t0) e, fun _ => ⟨es', c', s1, rfl, by simp [mE, hl'], ⟨rfl, hbo'⟩, hpw'⟩⟩, by simp [mE, mBt, flatE_len, hl'], fun j e he => ?_⟩
    have he' : (M'.map fun p => [AV.c (ek p.1), ev p.2])[j]? = some e := he
    rw [List.getElem?_map] at he'
    obtain ⟨p, hp, hpe⟩ := Option.map_eq_some_iff.1 he'
    subst hpe
    obtain ⟨e', q1, q2, q3⟩ := hrd' j p hp
    obtain ⟨f1, f2⟩ := flatE_at es'.toList j e' (by simpa using q1)
    refine ⟨rfl, fun c y hc => ?_⟩
    match c with
    | 0 => simp at hc; subst hc; exact ⟨e'.key, by simpa [mBt] using f1, fun e => MT.no (t := t0) e, by rw [q2]; exact .c _⟩
    | 1 => simp at hc; subst hc; exact ⟨e'.val, by simpa [mBt] using f2, fun e => MT.no (t := t0) e, q3.mono hm⟩
    | c + 2 => simp at hc)
end
theorem find_born {es : Array MapEntry} (hb : ∀ (k : Nat) (e : MapEntry), es[k]? = some e → e.born = k) {j : Nat} (hj : j < es.size) : es.findIdx? (fun e => (e.born : Int) == (j : Int)) = some j := by
  rw [Array.findIdx?_eq_some_iff_getElem]
  refine ⟨hj, ?_, fun i hi => ?_⟩
  · have := hb j _ (Array.getElem?_eq_getElem hj)
    simp [this]
  · have := hb i _ (Array.getElem?_eq_getElem (by omega))
    simp [this]
    omega
section
variable {C : Cx} {n : Nat} {o : Oper} {τ : Nat → AV} {η : Nat → Ent} {κ ν : Type} [DecidableEq κ] {ek : κ → Value} {ev : ν → AV} {M : List (κ × ν)} {t k e : TypeId} {K : Value → Prop}
/-- m[x] op= ..: the entry -/
theorem lf_mapEntry {x y : Operand} {i ver d : Nat} {q : κ} {te : TI} (z : ν) (hK : KeyA C.P k K) (hinj : ∀ x y : κ, ek x = ek y → x = y) (hKe : ∀ x : κ, K (ek x))
    (ho : o.op = .mapEntry t x y) (hdd : o.dst = some d) (hd : d < n) (hx : evA τ x = .mp i ver) (hi : η i = ⟨ver, some (mBt 1000001 ek ev M)⟩) (hy : KvA (evA τ y) (ek q)) (ht : C.P.underlying t = some (.map k e)) (hte : TyOk C.P e te) (hz : ∀ w vs m, RV w vs m (ev z) te.zero) :
    LF C n o τ η ⟨.tup [ev ((getM M q).getD z), .c (.int .i64 (idxM M q))], [(i, ⟨ver, some (mBt 1000001 ek ev (insM M q z))⟩)], []⟩ := by
  intro τ' η' g1 g2
  intro w0 X mm a w h
  have hi' : η' i = ⟨ver, some (mBt 1000001 ek ev M)⟩ := (g2 i (.inr (by simp [Foot.ids]))).trans hi
  have e1 := h.ev x
  have e2 := h.ev y
  rw [g1 x (by simp [ho, Op.operands]), hx] at e1
  rw [g1 y (by simp [ho, Op.operands])] at e2
  obtain ⟨b, es, clock, hu, hb, hh, hpw, hborn, hl, hrd⟩ := h.mapAt hi' e1
  obtain ⟨hb1, hb2⟩ := hborn rfl
  have hy' := hy _ _ _ _ e2
  have hchk := hK.check w false (ek q) (hKe q)
  have fin : ∀ (es' : Array MapEntry) (c' : Nat) (v : Value) (s : Nat), (execOp a.eval o).run C.P w = .ok (.value (.tuple #[v, goInt s])) { w with heap := w.heap.setIfInBounds b (.map es' c') } → es'.toList.Pairwise (fun x y => x.key ≠ y.key) → BornOk 1000001 es' c' → es'.size = (insM M q z).length →
      (∀ (j : Nat) (p : κ × ν), (insM M q z)[j]? = some p → ∃ e, es'[j]? = some e ∧ e.key = ek p.1 ∧ RV w (shp η') mm (ev p.2) e.val) → RV w (shp η') mm (ev ((getM M q).getD z)) v → s = idxM M q →
      o.wp C.P a w (fun a' w' => ∃ m', Rep C n w0 X (putA τ' o.dst (.tup [ev ((getM M q).getD z), .c (.int .i64 (idxM M q))])) (updAll η' [(i, ⟨ver, some (mBt 1000001 ek ev (insM M q z))⟩)]) m' a' w') (fun _ _ _ => False) := by
    intro es' c' v s hrun hpw' hbo' hl' hrd' hv hs
    have hr := h.mapWr hi' hb hh hpw' hbo' hl' hrd'
    have hsm : Mono w (shp η') mm { w with heap := w.heap.setIfInBounds b (.map es' c') } (shp (updE η' i ⟨ver, some (mBt 1000001 ek ev (insM M q z))⟩)) mm := by
      rw [show shp (updE η' i ⟨ver, some (mBt 1000001 ek ev (insM M q z))⟩) = shp η' from shp_upd hi' rfl]
      obtain ⟨s1, s2⟩ := heap_set (o' := .map es' c') hh
      refine ⟨by simp, fun b' _ hn => s2 b' (fun e => hn (.inr ⟨i, blk_live.2 (by rw [hi']; simp), by rw [e, hb]⟩)), fun _ _ h => h, fun _ => Nat.le_refl _, fun _ _ => ⟨rfl, fun _ => ⟨rfl, fun b' _ => ?_⟩⟩⟩
      unfold World.shape?
      by_cases eb : b' = b
      · subst eb; simp only [s1, hh]
      · simp only [s2 b' eb]
    unfold Oper.wp
    rw [hrun]
    refine ⟨mm, hr.put (by rw [hdd]; exact hd) (.tup rfl (fun j x u hx hu => ?_))⟩
    match j with
    | 0 => simp at hx hu; subst hx hu; exact hv.mono hsm
    | 1 => simp at hx hu; subst hx hu; rw [hs]; exact .c _
    | j + 2 => simp at hx
  rcases map_find (C := C) hK hinj hKe hpw hl hrd q with ⟨h1, h0, hne, hne2⟩ | ⟨j, e', u, h1, h2, h3, h4, h5, h6, h7⟩
  · have hins : insM M q z = M ++ [(q, z)] := by rw [insM, h0]; rfl
    refine fin (es.push ⟨ek q, te.zero, clock⟩) (clock + 1) te.zero clock ?_ ?_ ?_ ?_ ?_ ?_ ?_
    · simp [execOp, ho, hu, hy', Instr.mapEntry, run_underlying ht, MapKept.run_getObj_map hh, hchk, h1, hte.zeroV, MapKept.run_setObj_map _ hh, Result.andThen]
    · rw [Array.toList_push]
      exact List.pairwise_append.2 ⟨hpw, List.pairwise_singleton _ _, fun x hx y hy => by rw [List.mem_singleton.1 hy]; exact hne2 x hx⟩
    · refine fun _ => ⟨by simp [hb1], fun k e he => ?_⟩
      rw [Array.getElem?_push] at he
      split at he
      · injection he with he
        subst he
        show clock = k
        omega
      · exact hb2 k e he
    · rw [hins]; simp [hl]
    · intro j p hp
      rw [hins] at hp
      rcases Nat.lt_or_ge j M.length with hj | hj
      · rw [List.getElem?_append_left hj] at hp
        obtain ⟨e', q1, q2, q3⟩ := hrd j p hp
        exact ⟨e', by rw [Array.getElem?_push, if_neg (by omega)]; exact q1, q2, q3⟩
      · rw [List.getElem?_append_right hj] at hp
        have hj0 : j - M.length = 0 := by
          have := (List.getElem?_eq_some_iff.1 hp).1
          simp at this
          omega
        rw [hj0] at hp
        simp at hp
        subst hp
        exact ⟨⟨ek q, te.zero, clock⟩, by rw [Array.getElem?_push, if_pos (by omega)], rfl, hz _ _ _⟩
    · rw [h0]; exact hz _ _ _
    · rw [idxM_none hne, hb1, hl]
  · have hjl : j < es.size := (Array.getElem?_eq_some_iff.1 h2).1
    have hins : insM M q z = M := by rw [insM, h6]; rfl
    have hmod : es.modify j (fun x => { x with key := ek q }) = es := by
      apply Array.ext_getElem?
      intro i
      rw [Array.getElem?_modify]
      split
      · rename_i hij
        subst hij
        rw [h2]
        simp [← h3]
      · rfl
    refine fin es clock e'.val j ?_ hpw (fun _ => ⟨hb1, hb2⟩) (by rw [hins]; exact hl) (by rw [hins]; exact hrd) (by rw [h6]; exact h5) (idxM_at h4 h7).symm
    have hst := hK.stays w (ek q) (hKe q)
    have hbj := hb2 j e' h2
    simp [execOp, ho, hu, hy', Instr.mapEntry, run_underlying ht, MapKept.run_getObj_map hh, hchk, h1, h2, h3, hst, MapKept.run_setObj_map _ hh, Result.andThen, hmod, hbj]
/-- .. its element -/
theorem lf_entryStore {x y z : Operand} {i ver j : Nat} {q : κ} {u v : ν} (ho : o.op = .entryStore t x y z) (hd : o.dst = none) (hx : evA τ x = .mp i ver) (hi : η i = ⟨ver, some (mBt 1000001 ek ev M)⟩) (hy : evA τ y = .c (.int .i64 j)) (hM : M[j]? = some (q, u)) (hz : evA τ z = ev v) :
    LF C n o τ η ⟨.dead, [(i, ⟨ver, some (mBt 1000001 ek ev (M.set j (q, v)))⟩)], []⟩ := by
  intro τ' η' g1 g2
  intro w0 X mm a w h
  have hi' : η' i = ⟨ver, some (mBt 1000001 ek ev M)⟩ := (g2 i (.inr (by simp [Foot.ids]))).trans hi
  have e1 := h.ev x
  have e2 := h.ev y
  have e3 := h.ev z
  rw [g1 x (by simp [ho, Op.operands]), hx] at e1
  rw [g1 y (by simp [ho, Op.operands]), hy] at e2
  rw [g1 z (by simp [ho, Op.operands]), hz] at e3
  obtain ⟨b, es, clock, hu, hb, hh, hpw, hborn, hl, hrd⟩ := h.mapAt hi' e1
  obtain ⟨hb1, hb2⟩ := hborn rfl
  have hy' := rv_c e2
  have hjM : j < M.length := (List.getElem?_eq_some_iff.1 hM).1
  have hj : j < es.size := by omega
  have hf := find_born hb2 hj
  have hrun : (execOp a.eval o).run C.P w = .ok .skip { w with heap := w.heap.setIfInBounds b (.map (es.modify j (fun x => { x with val := a.eval z })) clock) } := by
    simp [execOp, ho, hu, hy', Instr.entryStore, MapKept.run_getObj_map hh, asInt, asIntOf, hf, MapKept.run_setObj_map _ hh, Result.andThen]
  have hr := h.mapWr (es' := es.modify j (fun x => { x with val := a.eval z })) (c' := clock) (M' := M.set j (q, v)) hi' hb hh (by
      have : ((es.modify j (fun x => { x with val := a.eval z })).toList.map (·.key)) = es.toList.map (·.key) := by
        apply List.ext_getElem?
        intro i
        simp only [List.getElem?_map, Array.getElem?_toList, Array.getElem?_modify]
        by_cases hij : j = i
        · subst hij
          rw [if_pos rfl]
          cases es[j]? <;> rfl
        · rw [if_neg hij]
      have h8 : (es.toList.map (·.key)).Pairwise (· ≠ ·) := List.pairwise_map.2 hpw
      rw [← this] at h8
      exact List.pairwise_map.1 h8) (fun _ => ⟨by simp [hb1], fun k e he => by
      rw [Array.getElem?_modify] at he
      split at he
      · obtain ⟨e0, r1, r2⟩ := Option.map_eq_some_iff.1 he
        subst r2
        exact hb2 k e0 r1
      · exact hb2 k e he⟩) (by simp [hl]) (fun i p hp => by
      by_cases hij : j = i
      · subst hij
        rw [List.getElem?_set_self hjM] at hp
        injection hp with hp
        subst hp
        obtain ⟨e0, r1, r2, _⟩ := hrd j _ hM
        exact ⟨{ e0 with val := a.eval z }, by rw [Array.getElem?_modify, if_pos rfl, r1]; rfl, r2, e3⟩
      · rw [List.getElem?_set_ne hij] at hp
        obtain ⟨e'', q1, q2, q3⟩ := hrd i p hp
        exact ⟨e'', by rw [Array.getElem?_modify, if_neg hij]; exact q1, q2, q3⟩)
  unfold Oper.wp
  rw [hrun]
  refine ⟨mm, ?_⟩
  rw [hd]
  exact hr
/-- delete(m, x) -/
theorem lf_mapdel {x y : Operand} {t' : TypeId} {i ver : Nat} {q : κ} (hK : KeyA C.P k K) (hinj : ∀ x y : κ, ek x = ek y → x = y) (hKe : ∀ x : κ, K (ek x))
    (ho : o.op = .call { callee := .builtin .delete, args := #[x, y], argTypes := #[t, t'] }) (hd : o.dst = none) (hx : evA τ x = .mp i ver) (hi : η i = ⟨ver, some (mBt 1000000 ek ev M)⟩) (hy : KvA (evA τ y) (ek q)) (ht : C.P.underlying t = some (.map k e)) :
    LF C n o τ η ⟨.dead, [(i, ⟨ver, some (mBt 1000000 ek ev (delM M q))⟩)], []⟩ := by
  intro τ' η' g1 g2
  intro w0 X mm a w h
  have hi' : η' i = ⟨ver, some (mBt 1000000 ek ev M)⟩ := (g2 i (.inr (by simp [Foot.ids]))).trans hi
  have e1 := h.ev x
  have e2 := h.ev y
  rw [g1 x (by simp [ho, Op.operands, Call.operands]), hx] at e1
  rw [g1 y (by simp [ho, Op.operands, Call.operands])] at e2
  obtain ⟨b, es, clock, hu, hb, hh, hpw, hborn, hl, hrd⟩ := h.mapAt hi' e1
  have hy' := hy _ _ _ _ e2
  have hchk := hK.check w es.isEmpty (ek q) (hKe q)
  have fin : ∀ (es' : Array MapEntry), (execOp a.eval o).run C.P w = .ok (.value (.tuple #[])) { w with heap := w.heap.setIfInBounds b (.map es' clock) } → es'.toList.Pairwise (fun x y => x.key ≠ y.key) → es'.size = (delM M q).length →
      (∀ (j : Nat) (p : κ × ν), (delM M q)[j]? = some p → ∃ e, es'[j]? = some e ∧ e.key = ek p.1 ∧ RV w (shp η') mm (ev p.2) e.val) →
      o.wp C.P a w (fun a' w' => ∃ m', Rep C n w0 X (putA τ' o.dst .dead) (updAll η' [(i, ⟨ver, some (mBt 1000000 ek ev (delM M q))⟩)]) m' a' w') (fun _ _ _ => False) := by
    intro es' hrun hpw' hl' hrd'
    have hr := h.mapWr hi' hb hh hpw' (fun e => by cases e) hl' hrd' (c' := clock)
    unfold Oper.wp
    rw [hrun]
    refine ⟨mm, ?_⟩
    rw [hd]
    exact hr
  rcases map_find (C := C) hK hinj hKe hpw hl hrd q with ⟨h1, h0, hne, hne2⟩ | ⟨j, e', u, h1, h2, h3, h4, h5, h6, h7⟩
  · refine fin es ?_ hpw (by rw [delM_none hne]; exact hl) (by rw [delM_none hne]; exact hrd)
    simp [execOp, ho, hu, hy', resolve, invoke, builtin, Builtin.delete_, run_underlying ht, MapKept.run_getObj_map hh, hchk, h1, MapKept.run_setObj_map _ hh, Result.andThen]
  · have hjl : j < es.size := (Array.getElem?_eq_some_iff.1 h2).1
    have htl : (es.eraseIdxIfInBounds j).toList = es.toList.eraseIdx j := by
      rw [Array.eraseIdxIfInBounds, dif_pos hjl, Array.toList_eraseIdx]
    refine fin (es.eraseIdxIfInBounds j) ?_ ?_ ?_ ?_
    · simp [execOp, ho, hu, hy', resolve, invoke, builtin, Builtin.delete_, run_underlying ht, MapKept.run_getObj_map hh, hchk, h1, MapKept.run_setObj_map _ hh, Result.andThen]
    · rw [htl]
      exact hpw.sublist (List.eraseIdx_sublist ..)
    · rw [delM_at h4 h7, List.length_eraseIdx, ← Array.length_toList, htl, List.length_eraseIdx, Array.length_toList, hl]
    · intro i p hp
      rw [delM_at h4 h7, List.getElem?_eraseIdx] at hp
      have hget : (es.eraseIdxIfInBounds j)[i]? = if i < j then es[i]? else es[i + 1]? := by
        rw [← Array.getElem?_toList, htl, List.getElem?_eraseIdx]
        simp
      rw [hget]
      split at hp
      · rename_i q1; rw [if_pos q1]; exact hrd _ p hp
      · rename_i q1; rw [if_neg q1]; exact hrd _ p hp
/-- a look-up in an immutable map -/
theorem lf_mpiget {x y : Operand} {q : κ} {te : TI} (z : ν) (hK : KeyA C.P k K) (hinj : ∀ x y : κ, ek x = ek y → x = y) (hKe : ∀ x : κ, K (ek x))
    (ho : o.op = .lookup t x y false) (hd : InB n o.dst) (hx : evA τ x = .mpi (mE ek ev M)) (hy : KvA (evA τ y) (ek q)) (ht : C.P.underlying t = some (.map k e)) (hte : TyOk C.P e te) (hz : ∀ w vs m, RV w vs m (ev z) te.zero) :
    LF C n o τ η ⟨ev ((getM M q).getD z), [], []⟩ := by
  refine lf_pure hd (fun τ' η' g1 g2 => ?_)
  intro w0 X mm a w h
  have e1 := h.ev x
  have e2 := h.ev y
  rw [g1 x (by simp [ho, Op.operands]), hx] at e1
  rw [g1 y (by simp [ho, Op.operands])] at e2
  have hy' := hy _ _ _ _ e2
  generalize hL : mE ek ev M = L at e1
  cases hu : a.eval x <;> rw [hu] at e1 <;> try (cases e1; done)
  cases e1 with
  | @mpi _ b es clock q1 hh hl hpw hk hv _ =>
    subst hL
    have hl' : es.size = M.length := by rw [← hl]; simp [mE]
    have hrd : ∀ (j : Nat) (p : κ × ν), M[j]? = some p → ∃ e, es[j]? = some e ∧ e.key = ek p.1 ∧ RV w (shp η') mm (ev p.2) e.val := fun j p hp => by
      have hlt : j < es.size := by rw [hl']; exact (List.getElem?_eq_some_iff.1 hp).1
      have hel : (mE ek ev M)[j]? = some [.c (ek p.1), ev p.2] := by simp [mE, hp]
      have hej := Array.getElem?_eq_getElem hlt
      exact ⟨_, hej, rv_c (hk j _ _ _ hel hej rfl), hv j _ _ _ hel hej rfl⟩
    have hchk := hK.check w es.isEmpty (ek q) (hKe q)
    rcases map_find (C := C) hK hinj hKe hpw hl' hrd q with ⟨h1, h2, _, _⟩ | ⟨j, e', u, h1, _, _, _, h5, h6, _⟩
    · refine ⟨te.zero, ?_, by rw [h2]; exact hz _ _ _⟩
      simp [execOp, ho, hu, hy', Instr.lookup, run_underlying ht, MapKept.run_getObj_map hh, hchk, h1, hte.zeroV, Result.andThen]
    · refine ⟨e'.val, ?_, by rw [h6]; exact h5⟩
      simp [execOp, ho, hu, hy', Instr.lookup, run_underlying ht, MapKept.run_getObj_map hh, hchk, h1, Result.andThen]
end
end Go.Proofs.YtflgpccacloadaaDoor.Am
/- An abstract machine: a loop that fills a table with rows by appends; the rows lie in blocks that nothing names, one at a time comes forward. -/
namespace Go.Proofs.YtflgpccacloadaaDoor.Am
open Go.RowKit
/-- nothing is said of the start -/
class PwT (C : Cx) : Prop where
  h : ∀ w X, C.Pw w X

/-- a row behind a value, in a block of its own that nothing names -/
def HRow (w : World) (vs : Shp) (m : MM) (X : Nat → Prop) (z : Nat) (B : Blk) (v : Value) : Prop :=
  B.box = false ∧ FrL B.els ∧ ((B.els = [] ∧ v = .slice none 0 0) ∨
    ∃ b cap n ty, v = .slice (some ⟨b, 0, none⟩) B.els.length cap ∧ m.O b ∧ (X b ∨ z ≤ b) ∧ B.els.length ≤ cap ∧ cap ≤ maxLen ∧ w.shape? b = some (ty, n) ∧ cap * B.sz = n ∧ BlkOk w vs m B (some b))
structure HRows (w : World) (vs : Shp) (m : MM) (X : Nat → Prop) (z : Nat) (rows : List Blk) (vals : List Value) : Prop where
  len : vals.length = rows.length
  row : ∀ (k : Nat) (B : Blk) (v : Value), rows[k]? = some B → vals[k]? = some v → HRow w vs m X z B v
  dis : ∀ (k k' : Nat) (v v' : Value) (b : Nat), vals[k]? = some v → vals[k']? = some v' → v.ownBlock = some b → v'.ownBlock = some b → k = k'

theorem HRow.blk {w : World} {vs : Shp} {m : MM} {X : Nat → Prop} {z : Nat} {B : Blk} {v : Value} (h : HRow w vs m X z B v) {b : Nat} (hb : v.ownBlock = some b) : m.O b ∧ (X b ∨ z ≤ b) ∧ BlkOk w vs m B (some b) := by
  obtain ⟨_, _, ⟨_, rfl⟩ | ⟨b', cap, n, ty, rfl, h1, h2, _, _, _, _, h3⟩⟩ := h
  · cases hb
  · injection hb with hb
    subst hb
    exact ⟨h1, h2, h3⟩

section
variable {C : Cx} [PwT C] {n : Nat} {w0 : World} {X : XX} {τ : Nat → AV} {η : Nat → Ent} {m : MM} {a : Act} {w : World}
/-- the same world, read otherwise -/
theorem Rep.recast (h : Rep C n w0 X τ η m a w) {O' : Nat → Prop} {η' : Nat → Ent} {m' : MM} (hm : Mono w (shp η) m w (shp η') m') (hmem : Mem C.N w η' m') (ho : m'.O = O')
    (hown : ∀ i b, (η' i).blk ≠ none → m' i = some b → X b ∨ w0.heap.size ≤ b) (hkk : ∀ i, n ≤ i → η' i = η i ∧ m' i = m i) : Rep C n w0 ⟨X.X, O', X.ks, X.M⟩ τ η' m' a w := by
  refine ⟨fun t => (h.tm t).mono hm, h.sz, h.df, hmem, h.kin, ho, hown, h.gl, fun i hi => ?_, PwT.h _ _⟩
  obtain ⟨k1, k2, k3, k4⟩ := h.kk i hi
  obtain ⟨e1, e2⟩ := hkk i k1
  exact ⟨k1, by rw [e1]; exact k2, by rw [e2]; exact k3, fun b hb => k4 b (by rw [← e2]; exact hb)⟩

/-- cells of a table, where some stand for rows -/
def CellR (els els' : List (List AV)) (p : AV → AV → Prop) : Prop :=
  els'.length = els.length ∧ ∀ (k : Nat) (e e' : List AV), els[k]? = some e → els'[k]? = some e' → e'.length = e.length ∧ ∀ (j : Nat) (x x' : AV), e[j]? = some x → e'[j]? = some x' → x' = x ∨ p x x'

theorem BlkOk.cells2 {w : World} {vs vs' : Shp} {m m' : MM} {B : Blk} {els' : List (List AV)} {o : Option Nat} (h : BlkOk w vs m B o) (hm : Mono w vs m w vs' m') {p : AV → AV → Prop} (hr : CellR B.els els' p) (hp : ∀ x x' u, p x x' → RV w vs m x u → RV w vs' m' x' u) : BlkOk w vs' m' { B with els := els' } o := by
  cases o with
  | none => exact ⟨List.length_eq_zero_iff.1 (by show els'.length = 0; rw [hr.1, h.1]; rfl), h.2⟩
  | some b =>
    obtain ⟨arr, a1, a2, a3⟩ := h
    refine ⟨arr, a1.congr rfl rfl hr.1 rfl, by show els'.length * _ ≤ _; rw [hr.1]; exact a2, fun k e' he' => ?_⟩
    have hlt : k < B.els.length := by rw [← hr.1]; exact (List.getElem?_eq_some_iff.1 he').1
    have hge := List.getElem?_eq_getElem hlt
    obtain ⟨l1, l2⟩ := hr.2 k _ e' hge he'
    obtain ⟨q1, q2⟩ := a3 k _ hge
    refine ⟨by rw [l1, q1], fun j x' hx' => ?_⟩
    have hj : j < (B.els[k]).length := by rw [← l1]; exact (List.getElem?_eq_some_iff.1 hx').1
    have hgj := List.getElem?_eq_getElem hj
    obtain ⟨u, u1, u2, u3⟩ := q2 j _ hgj
    refine ⟨u, u1, u2, ?_⟩
    rcases l2 j _ x' hgj hx' with e | e
    · rw [e]; exact u3.mono hm
    · exact hp _ _ u e u3

/-- a row comes forward -/
theorem Rep.focus (h : Rep C n w0 X τ η m a w) {T F vT : Nat} {BT B : Blk} {v : Value} {els' : List (List AV)} (hT : η T = ⟨vT, some BT⟩) (hF : (η F).blk = none) (hTF : T ≠ F) (hTn : T < n) (hFn : F < n)
    (hrow : HRow w (shp η) m X.X w0.heap.size B v) (hr : CellR BT.els els' (fun x x' => x = .c v ∧ x' = .own F ((η F).ver + 1) 0 B.els.length)) :
    ∃ m' : MM, m'.O = (fun b => X.O b ∧ v.ownBlock ≠ some b) ∧ Mono w (shp η) m w (shp (updE (updE η T ⟨vT, some { BT with els := els' }⟩) F ⟨(η F).ver + 1, some B⟩)) m' ∧
      (∀ b, Owned (shp η) m b → m'.O b ∨ v.ownBlock = some b ∨ ∃ i, i ≠ F ∧ (η i).blk ≠ none ∧ m i = some b) ∧
      Rep C n w0 ⟨X.X, fun b => X.O b ∧ v.ownBlock ≠ some b, X.ks, X.M⟩ τ (updE (updE η T ⟨vT, some { BT with els := els' }⟩) F ⟨(η F).ver + 1, some B⟩) m' a w := by
  refine ⟨⟨fun i => if i = F then v.ownBlock else m i, fun b => X.O b ∧ v.ownBlock ≠ some b⟩, rfl, ?_⟩
  generalize hη' : updE (updE η T ⟨vT, some { BT with els := els' }⟩) F ⟨(η F).ver + 1, some B⟩ = η'
  generalize hm' : (⟨fun i => if i = F then v.ownBlock else m i, fun b => X.O b ∧ v.ownBlock ≠ some b⟩ : MM) = m'
  have eF : η' F = ⟨(η F).ver + 1, some B⟩ := by rw [← hη']; simp [updE]
  have eT : η' T = ⟨vT, some { BT with els := els' }⟩ := by rw [← hη']; simp [updE, hTF]
  have eO : ∀ i, i ≠ F → i ≠ T → η' i = η i := fun i h1 h2 => by rw [← hη']; simp [updE, h1, h2]
  have mF : m' F = v.ownBlock := by rw [← hm']; simp
  have mO : ∀ i, i ≠ F → m' i = m i := fun i h1 => by rw [← hm']; simp [h1]
  have mOO : m'.O = fun b => X.O b ∧ v.ownBlock ≠ some b := by rw [← hm']
  have hXO := h.oo
  have live : ∀ i, i ≠ F → ((η' i).blk ≠ none ↔ (η i).blk ≠ none) := fun i h1 => by
    by_cases h2 : i = T
    · subst h2; rw [eT, hT]; simp
    · rw [eO i h1 h2]
  have hm : Mono w (shp η) m w (shp η') m' := by
    refine ⟨Nat.le_refl _, fun _ _ _ => rfl, fun b hb ho => ?_, fun i => ?_, fun i hi => ?_⟩
    · rintro (h1 | ⟨i, h1, h2⟩)
      · rw [mOO] at h1
        exact ho (.inl (by rw [hXO]; exact h1.1))
      · by_cases e : i = F
        · subst e
          rw [mF] at h2
          exact ho (.inl (hrow.blk h2).1)
        · rw [mO i e] at h2
          exact ho (.inr ⟨i, blk_live.2 ((live i e).1 (blk_live.1 h1)), h2⟩)
    · by_cases e : i = F
      · subst e; simp [shp, eF]
      · by_cases e2 : i = T
        · subst e2; simp [shp, eT, hT]
        · simp [shp, eO i e e2]
    · by_cases e : i = F
      · subst e; simp [shp, eF] at hi
      · refine ⟨?_, fun _ => ⟨mO i e, fun b _ => rfl⟩⟩
        by_cases e2 : i = T
        · subst e2; simp [shp, eT, hT]
        · simp [shp, eO i e e2]
  have hrv : ∀ x x' u, (x = .c v ∧ x' = .own F ((η F).ver + 1) 0 B.els.length) → RV w (shp η) m x u → RV w (shp η') m' x' u := by
    rintro x x' u ⟨rfl, rfl⟩ hx
    have := rv_c hx
    subst this
    have hs : shp η' F = ((η F).ver + 1, some B.sz) := by simp [shp, eF]
    obtain ⟨_, _, ⟨h1, rfl⟩ | ⟨b, cap, nn, ty, rfl, h1, h2, h3, h4, h5, h6, h7⟩⟩ := hrow
    · rw [h1]
      exact .ownN hs (by rw [mF]; rfl)
    · have := RV.own (w := w) (vs := shp η') (m := m') (k := 0) (len := B.els.length) (cap := cap) hs (by rw [mF]; rfl) h3 h4 h5 (by rw [Nat.zero_add]; exact h6)
      simpa using this
  have hmem : Mem C.N w η' m' := by
    refine ⟨fun i B' hB' => ?_, fun i i' b h1 h2 h3 h4 => ?_, fun i b h1 h2 => ?_, fun i b h1 h2 => ?_, fun b hb => ?_, h.mem.big⟩
    · by_cases e : i = F
      · subst e
        rw [eF] at hB'
        injection hB' with hB'
        subst hB'
        rw [mF]
        obtain ⟨hb0, _, ⟨h1, rfl⟩ | ⟨b, cap, nn, ty, rfl, h1, h2, h3, h4, h5, h6, h7⟩⟩ := hrow
        · exact ⟨h1, hb0⟩
        · exact h7.mono hm (fun _ _ => rfl)
      · rw [mO i e]
        by_cases e2 : i = T
        · subst e2
          rw [eT] at hB'
          injection hB' with hB'
          subst hB'
          exact (h.mem.ok i BT (by rw [hT])).cells2 hm hr hrv
        · rw [eO i e e2] at hB'
          exact (h.mem.ok i B' hB').mono hm (fun _ _ => rfl)
    · by_cases e : i = F <;> by_cases e' : i' = F
      · rw [e, e']
      · subst e
        rw [mF] at h3
        rw [mO i' e'] at h4
        exact absurd (hrow.blk h3).1 (h.mem.sep i' b ((live i' e').1 h2) h4)
      · subst e'
        rw [mF] at h4
        rw [mO i e] at h3
        exact absurd (hrow.blk h4).1 (h.mem.sep i b ((live i e).1 h1) h3)
      · rw [mO i e] at h3
        rw [mO i' e'] at h4
        exact h.mem.inj i i' b ((live i e).1 h1) ((live i' e').1 h2) h3 h4
    · by_cases e : i = F
      · subst e
        rw [mF] at h2
        exact (h.mem.olt b (hrow.blk h2).1).2
      · rw [mO i e] at h2
        exact h.mem.low i b ((live i e).1 h1) h2
    · rw [mOO]
      rintro ⟨h3, h4⟩
      by_cases e : i = F
      · subst e
        rw [mF] at h2
        exact h4 h2
      · rw [mO i e] at h2
        exact h.mem.sep i b ((live i e).1 h1) h2 (by rw [hXO]; exact h3)
    · rw [mOO] at hb
      exact h.mem.olt b (by rw [hXO]; exact hb.1)
  refine ⟨hm, fun b hb => ?_, h.recast hm hmem mOO (fun i b h1 h2 => ?_) (fun i hi => ⟨eO i (by omega) (by omega), mO i (by omega)⟩)⟩
  · rcases hb with h1 | ⟨i, h1, h2⟩
    · by_cases e : v.ownBlock = some b
      · exact .inr (.inl e)
      · refine .inl ?_
        rw [mOO]
        exact ⟨by rw [← hXO]; exact h1, e⟩
    · refine .inr (.inr ⟨i, ?_, blk_live.1 h1, h2⟩)
      intro e
      subst e
      exact (blk_live.1 h1) hF
  · by_cases e : i = F
    · subst e
      rw [mF] at h2
      exact (hrow.blk h2).2.1
    · rw [mO i e] at h2
      exact h.own i b ((live i e).1 h1) h2


theorem own_uniq {F vF len : Nat} {B : Blk} {u u' : Value} (hF : η F = ⟨vF, some B⟩) (hsz : 0 < B.sz) (h1 : RV w (shp η) m (.own F vF 0 len) u) (h2 : RV w (shp η) m (.own F vF 0 len) u') : u = u' := by
  rcases rv_own h1 hF with ⟨_, e0, em, rfl⟩ | ⟨k', A, e, _⟩ | ⟨b, cap, ty, nn, e1, e2, e3, e4, e5, rfl⟩
  · rcases rv_own h2 hF with ⟨_, _, _, rfl⟩ | ⟨k', A, e, _⟩ | ⟨b, cap, ty, nn, f1, _⟩
    · rfl
    · cases e
    · rw [em] at f1; cases f1
  · cases e
  · rcases rv_own h2 hF with ⟨_, _, em, rfl⟩ | ⟨k', A, e, _⟩ | ⟨b', cap', ty', nn', f1, f2, f3, f4, f5, rfl⟩
    · rw [em] at e1; cases e1
    · cases e
    · rw [e1] at f1
      injection f1 with f1
      subst f1
      rw [e4] at f4
      injection f4 with f4
      injection f4 with _ f4
      have : cap = cap' := by
        rw [Nat.zero_add] at e5 f5
        exact Nat.eq_of_mul_eq_mul_right hsz (by rw [e5, f5, f4])
      rw [this]

/-- a row goes back behind its cell -/
theorem Rep.unfocus (h : Rep C n w0 X τ η m a w) {T F vT vF k j : Nat} {BT B : Blk} {e : List AV} (hT : η T = ⟨vT, some BT⟩) (hF : η F = ⟨vF, some B⟩) (hTF : T ≠ F) (hTn : T < n) (hFn : F < n) (hbox : B.box = false) (hfr : FrL B.els) (hsz : 0 < B.sz)
    (he : BT.els[k]? = some e) (hx : e[j]? = some (.own F vF 0 B.els.length)) :
    ∃ v : Value, ∃ m' : MM, (m'.O = fun b => X.O b ∨ v.ownBlock = some b) ∧ (∀ b, v.ownBlock = some b → ¬ X.O b) ∧
      ∀ els', CellR BT.els els' (fun x x' => x = .own F vF 0 B.els.length ∧ x' = .c v) →
        Mono w (shp η) m w (shp (updE (updE η T ⟨vT, some { BT with els := els' }⟩) F ⟨vF + 1, none⟩)) m' ∧ HRow w (shp (updE (updE η T ⟨vT, some { BT with els := els' }⟩) F ⟨vF + 1, none⟩)) m' X.X w0.heap.size B v ∧
        Rep C n w0 ⟨X.X, fun b => X.O b ∨ v.ownBlock = some b, X.ks, X.M⟩ τ (updE (updE η T ⟨vT, some { BT with els := els' }⟩) F ⟨vF + 1, none⟩) m' a w := by
  -- the value of the cell
  obtain ⟨v, hv⟩ : ∃ v, RV w (shp η) m (.own F vF 0 B.els.length) v := by
    have hok := h.mem.ok T BT (by rw [hT])
    cases hmT : m T with
    | none =>
      rw [hmT] at hok
      rw [hok.1] at he
      simp at he
    | some b =>
      rw [hmT] at hok
      obtain ⟨arr, _, _, a3⟩ := hok
      obtain ⟨u, _, _, u3⟩ := (a3 k e he).2 j _ hx
      exact ⟨u, u3⟩
  have hXO := h.oo
  have hlF : (η F).blk ≠ none := by rw [hF]; simp
  have hvb : ∀ b, v.ownBlock = some b → m F = some b := fun b hb => by
    rcases rv_own hv hF with ⟨_, _, _, rfl⟩ | ⟨k', A, e, _⟩ | ⟨b', cap, ty, nn, e1, e2, e3, e4, e5, rfl⟩
    · cases hb
    · cases e
    · injection hb with hb
      subst hb
      exact e1
  refine ⟨v, ⟨m.f, fun b => X.O b ∨ v.ownBlock = some b⟩, rfl, fun b hb ho => h.mem.sep F b hlF (hvb b hb) (by rw [hXO]; exact ho), fun els' hr => ?_⟩
  generalize hη' : updE (updE η T ⟨vT, some { BT with els := els' }⟩) F ⟨vF + 1, none⟩ = η'
  generalize hm' : (⟨m.f, fun b => X.O b ∨ v.ownBlock = some b⟩ : MM) = m'
  have eF : η' F = ⟨vF + 1, none⟩ := by rw [← hη']; simp [updE]
  have eT : η' T = ⟨vT, some { BT with els := els' }⟩ := by rw [← hη']; simp [updE, hTF]
  have eO : ∀ i, i ≠ F → i ≠ T → η' i = η i := fun i h1 h2 => by rw [← hη']; simp [updE, h1, h2]
  have mO : ∀ i, m' i = m i := fun i => by rw [← hm']
  have mOO : m'.O = fun b => X.O b ∨ v.ownBlock = some b := by rw [← hm']
  have live : ∀ i, (η' i).blk ≠ none → i ≠ F ∧ (η i).blk ≠ none := fun i h1 => by
    by_cases e : i = F
    · subst e; rw [eF] at h1; simp at h1
    · refine ⟨e, ?_⟩
      by_cases h2 : i = T
      · subst h2; rw [hT]; simp
      · rw [eO i e h2] at h1; exact h1
  have hm : Mono w (shp η) m w (shp η') m' := by
    refine ⟨Nat.le_refl _, fun _ _ _ => rfl, fun b hb ho => ?_, fun i => ?_, fun i hi => ?_⟩
    · rintro (h1 | ⟨i, h1, h2⟩)
      · rw [mOO] at h1
        rcases h1 with h1 | h1
        · exact ho (.inl (by rw [hXO]; exact h1))
        · exact ho (.inr ⟨F, blk_live.2 hlF, hvb b h1⟩)
      · rw [mO i] at h2
        exact ho (.inr ⟨i, blk_live.2 (live i (blk_live.1 h1)).2, h2⟩)
    · by_cases e : i = F
      · subst e; simp [shp, eF, hF]
      · by_cases e2 : i = T
        · subst e2; simp [shp, eT, hT]
        · simp [shp, eO i e e2]
    · by_cases e : i = F
      · subst e; simp [shp, eF, hF] at hi
      · refine ⟨?_, fun _ => ⟨mO i, fun b _ => rfl⟩⟩
        by_cases e2 : i = T
        · subst e2; simp [shp, eT, hT]
        · simp [shp, eO i e e2]
  have hrv : ∀ x x' u, (x = .own F vF 0 B.els.length ∧ x' = .c v) → RV w (shp η) m x u → RV w (shp η') m' x' u := by
    rintro x x' u ⟨rfl, rfl⟩ hx
    rw [own_uniq hF hsz hx hv]
    exact .c v
  have hmem : Mem C.N w η' m' := by
    refine ⟨fun i B' hB' => ?_, fun i i' b h1 h2 h3 h4 => ?_, fun i b h1 h2 => ?_, fun i b h1 h2 => ?_, fun b hb => ?_, h.mem.big⟩
    · obtain ⟨e, _⟩ := live i (by rw [hB']; simp)
      rw [mO i]
      by_cases e2 : i = T
      · subst e2
        rw [eT] at hB'
        injection hB' with hB'
        subst hB'
        exact (h.mem.ok i BT (by rw [hT])).cells2 hm hr hrv
      · rw [eO i e e2] at hB'
        exact (h.mem.ok i B' hB').mono hm (fun _ _ => rfl)
    · rw [mO i] at h3
      rw [mO i'] at h4
      exact h.mem.inj i i' b (live i h1).2 (live i' h2).2 h3 h4
    · rw [mO i] at h2
      exact h.mem.low i b (live i h1).2 h2
    · rw [mO i] at h2
      rw [mOO]
      rintro (h3 | h3)
      · exact h.mem.sep i b (live i h1).2 h2 (by rw [hXO]; exact h3)
      · exact (live i h1).1 (h.mem.inj i F b (live i h1).2 hlF h2 (hvb b h3))
    · rw [mOO] at hb
      rcases hb with hb | hb
      · exact h.mem.olt b (by rw [hXO]; exact hb)
      · exact ⟨h.mem.lt hlF (hvb b hb), h.mem.low F b hlF (hvb b hb)⟩
  refine ⟨hm, ⟨hbox, hfr, ?_⟩, h.recast hm hmem mOO (fun i b h1 h2 => h.own i b (live i h1).2 (by rw [← mO i]; exact h2)) (fun i hi => ⟨eO i (by omega) (by omega), mO i⟩)⟩
  rcases rv_own hv hF with ⟨_, e0, _, e1⟩ | ⟨k', A, e, _⟩ | ⟨b, cap, ty, nn, e1, e2, e3, e4, e5, e6⟩
  · exact .inl ⟨List.length_eq_zero_iff.1 e0, e1⟩
  · cases e
  · refine .inr ⟨b, cap, nn, ty, ?_, ?_, h.own F b hlF e1, e2, e3, e4, by rw [Nat.zero_add] at e5; exact e5, ?_⟩
    · rw [e6, Nat.zero_mul]
    · rw [mOO]
      exact .inr (by rw [e6]; rfl)
    · have := h.mem.ok F B (by rw [hF])
      rw [e1] at this
      exact this.mono hm (fun _ _ => rfl)
end

theorem rv_frw {w w' : World} {vs vs' : Shp} {m m' : MM} {x : AV} {v : Value} (hx : Fr x) (hsize : w.heap.size ≤ w'.heap.size) (hc : ∀ b, b < w.heap.size → ¬ Owned vs m b → w'.heap[b]? = w.heap[b]?) (ho : ∀ b, b < w.heap.size → Owned vs' m' b → Owned vs m b) (h : RV w vs m x v) : RV w' vs' m' x v := by
  have h1 : RV w nov (mO (Owned vs m)) x v := rv_fr hx (fun b hb => owned_nov.1 hb) h
  have hm : Mono w nov (mO (Owned vs m)) w' nov (mO (fun b => Owned vs m b ∨ w.heap.size ≤ b)) :=
    ⟨hsize, fun b hb hn => hc b hb (fun q => hn (owned_nov.2 q)), fun b hb hn q => (owned_nov.1 q).elim (fun q => hn (owned_nov.2 q)) (fun q => by omega), fun _ => Nat.le_refl _, fun i _ => ⟨rfl, fun hne => absurd rfl hne⟩⟩
  refine rv_fr hx (fun b hb => owned_nov.2 ?_) (h1.mono hm)
  rcases Nat.lt_or_ge b w.heap.size with q | q
  · exact .inl (ho b q hb)
  · exact .inr q
theorem HRow.move {w w' : World} {vs vs' : Shp} {m m' : MM} {X X' : Nat → Prop} {z z' : Nat} {B : Blk} {v : Value} (h : HRow w vs m X z B v) (hsize : w.heap.size ≤ w'.heap.size) (hc : ∀ b, b < w.heap.size → ¬ Owned vs m b ∨ v.ownBlock = some b → w'.heap[b]? = w.heap[b]?)
    (ho : ∀ b, b < w.heap.size → Owned vs' m' b → Owned vs m b) (hO : ∀ b, v.ownBlock = some b → m'.O b) (hX : ∀ b, v.ownBlock = some b → X b ∨ z ≤ b → X' b ∨ z' ≤ b) : HRow w' vs' m' X' z' B v := by
  obtain ⟨h1, h2, h3⟩ := h
  refine ⟨h1, h2, ?_⟩
  rcases h3 with h3 | ⟨b, cap, n, ty, rfl, g1, g2, g3, g4, g5, g6, arr, a1, a2, a3⟩
  · exact .inl h3
  · have hlt := a1.lt
    have he := hc b hlt (.inr rfl)
    refine .inr ⟨b, cap, n, ty, rfl, hO b rfl, hX b rfl g2, g3, g4, ?_, g6, arr, a1.mono he, a2, fun k e hk => ⟨(a3 k e hk).1, fun j x hx => ?_⟩⟩
    · unfold World.shape? at g5 ⊢
      rw [he]
      exact g5
    · obtain ⟨u, u1, u2, u3⟩ := (a3 k e hk).2 j x hx
      exact ⟨u, u1, u2, rv_frw (h2 e (List.mem_of_getElem? hk) x (List.mem_of_getElem? hx)) hsize (fun b hb hn => hc b hb (.inl hn)) ho u3⟩

section
variable {C : Cx} [PwT C] {n : Nat} {w0 : World} {X : XX} {τ τ' : Nat → AV} {η η' : Nat → Ent} {m m' : MM} {a a' : Act} {w w' : World}
def ownX (X : XX) (η : Nat → Ent) (m : MM) : XX := ⟨fun b => ∃ i, (η i).blk ≠ none ∧ m i = some b, X.O, X.ks, X.M⟩
theorem Rep.rebase (h : Rep C n w0 X τ η m a w) (hP : C.Pw w (ownX X η m)) : Rep C n w (ownX X η m) τ η m a w :=
  ⟨h.tm, h.sz, h.df, h.mem, ⟨rfl, rfl, rfl, Nat.le_refl _, fun _ _ _ => rfl⟩, h.oo, fun i b h1 h2 => .inl ⟨i, h1, h2⟩, h.gl, fun i hi => let ⟨k1, k2, k3, _⟩ := h.kk i hi; ⟨k1, k2, k3, fun _ _ => rfl⟩, hP⟩
theorem Rep.unbase (h0 : Rep C n w0 X τ η m a w) (h1 : Rep C n w (ownX X η m) τ' η' m' a' w') : Rep C n w0 X τ' η' m' a' w' := by
  refine ⟨h1.tm, h1.sz, h1.df, h1.mem, ⟨h1.kin.os.trans h0.kin.os, h1.kin.tape.trans h0.kin.tape, h1.kin.output.trans h0.kin.output, Nat.le_trans h0.kin.size h1.kin.size, fun b hb hx => ?_⟩, h1.oo, fun i b h2 h3 => ?_, h1.gl, fun i hi => ?_, h0.pw⟩
  · refine (h1.kin.block b (Nat.lt_of_lt_of_le hb h0.kin.size) ?_).trans (h0.kin.block b hb hx)
    rintro ⟨i, q1, q2⟩
    rcases h0.own i b q1 q2 with q | q
    · exact hx q
    · omega
  · rcases h1.own i b h2 h3 with ⟨i', q1, q2⟩ | q
    · exact h0.own i' b q1 q2
    · exact .inr (Nat.le_trans h0.kin.size q)
  · obtain ⟨k1, k2, k3, k4⟩ := h1.kk i hi
    obtain ⟨_, _, j3, j4⟩ := h0.kk i hi
    refine ⟨k1, k2, k3, fun b hb => (k4 b hb).trans (j4 b ?_)⟩
    rw [j3, ← hb, k3]
    rfl
/-- what is owned behind a run was owned ahead of it, or is new -/
theorem Rep.owned (h1 : Rep C n w (ownX X η m) τ' η' m' a' w') (hO : m.O = X.O) {b : Nat} (hb : b < w.heap.size) (ho : Owned (shp η') m' b) : Owned (shp η) m b := by
  rcases ho with q | ⟨i, q1, q2⟩
  · rw [h1.oo] at q
    exact .inl (by rw [hO]; exact q)
  · rcases h1.own i b (blk_live.1 q1) q2 with ⟨i', r1, r2⟩ | r
    · exact .inr ⟨i', blk_live.2 r1, r2⟩
    · omega
end

/-- an element changed, or one more -/
def putL {α : Type} (l : List α) (k : Nat) (x : α) : List α := if k < l.length then l.set k x else l ++ [x]
theorem putL_len {α : Type} {l : List α} {k : Nat} {x : α} : (putL l k x).length = if k < l.length then l.length else l.length + 1 := by
  unfold putL
  split <;> simp
theorem putL_at {α : Type} {l : List α} {k : Nat} {x : α} (hk : k ≤ l.length) (i : Nat) : (putL l k x)[i]? = if i = k then some x else l[i]? := by
  unfold putL
  split
  · rename_i h
    by_cases e : i = k
    · subst e; rw [if_pos rfl, List.getElem?_set_self h]
    · rw [if_neg e, List.getElem?_set_ne (fun q => e q.symm)]
  · rename_i h
    have : k = l.length := by omega
    subst this
    by_cases e : i = l.length
    · subst e; simp
    · rw [if_neg e]
      rcases Nat.lt_or_ge i l.length with q | q
      · rw [List.getElem?_append_left q]
      · rw [List.getElem?_eq_none q, List.getElem?_eq_none (by simp; omega)]
theorem putL_map {α β : Type} {l : List α} {k : Nat} {x : α} (f : α → β) : (putL l k x).map f = putL (l.map f) k (f x) := by
  unfold putL
  rw [List.length_map]
  split
  · rw [List.map_set]
  · simp
/-- the blocks that lie behind the cells, but for one -/
def othO (O : Nat → Prop) (vals : List Value) (k : Nat) : Nat → Prop := fun b => O b ∨ ∃ i v, i ≠ k ∧ vals[i]? = some v ∧ v.ownBlock = some b
abbrev withO (X : XX) (O : Nat → Prop) : XX := ⟨X.X, O, X.ks, X.M⟩
structure RInv (C : Cx) (w0 : World) (X : XX) (s : St) (rows : List Blk) (vals : List Value) (m : MM) (a : Act) (w : World) : Prop where
  rep : RepS C w0 (withO X (othO X.O vals vals.length)) s m a w
  rows : HRows w (shp (hpF s.hp)) m X.X w0.heap.size rows vals
  out : ∀ (i : Nat) (v : Value), vals[i]? = some v → ∀ b, v.ownBlock = some b → ¬ X.O b
theorem hp_set {hp : List Ent} {T : Nat} {e : Ent} (h : T < hp.length) : hpF (hp.set T e) = updE (hpF hp) T e := by
  funext i
  show (hp.set T e).getD i _ = _
  by_cases q : i = T
  · subst q; simp [updE, List.getD_eq_getElem?_getD, List.getElem?_set_self h]
  · simp [updE, q, hpF, List.getD_eq_getElem?_getD, List.getElem?_set_ne (fun x => q x.symm)]
theorem upd_upd {η : Nat → Ent} {T : Nat} {e e' : Ent} : updE (updE η T e) T e' = updE η T e' := by
  funext i
  by_cases q : i = T <;> simp [updE, q]
theorem upd_comm {η : Nat → Ent} {T F : Nat} {e e' : Ent} (h : T ≠ F) : updE (updE η T e) F e' = updE (updE η F e') T e := by
  funext i
  by_cases q : i = T
  · subst q; simp [updE, h]
  · by_cases q' : i = F
    · subst q'
      simp [updE, q]
    · simp [updE, q, q']
theorem leK_step {C : Cx} [PwT C] {s s' : St} {w0 : World} {X : XX} {m : MM} {a : Act} {w : World} (h : leK s s' True) (hr : RepS C w0 X s m a w) :
    ∃ m', RepS C w0 X s' m' a w ∧ ∀ b, b < w.heap.size → Owned (shp (hpF s'.hp)) m' b → Owned (shp (hpF s.hp)) m b := by
  obtain ⟨e, _, g⟩ := leK_ok (C := C) h
  obtain ⟨m', hm'⟩ := g w (ownX X (hpF s.hp) m) m a w (Rep.rebase hr (PwT.h _ _))
  refine ⟨m', ?_, fun b hb ho => Rep.owned hm' hr.oo hb ho⟩
  unfold RepS at hr hm' ⊢
  rw [e] at hm' ⊢
  exact Rep.unbase hr hm'

/-- behind a round: the row in front goes back -/
theorem RInv.back {C : Cx} [PwT C] {w0 : World} {X : XX} {s0 s' : St} {m0 m' : MM} {a a' : Act} {w w' : World} {rows : List Blk} {vals : List Value} {k T F ty sz : Nat} {box : Bool} {tm1 : List AV} {hp1 : List Ent} {B' : Blk} {E : List AV → List (List AV)}
    (hr : RepS C w0 (withO X (othO X.O vals k)) s0 m0 a w) (hlen : vals.length = rows.length) (hk : k ≤ vals.length) (hrows : ∀ (i : Nat) (B : Blk) (v : Value), i ≠ k → rows[i]? = some B → vals[i]? = some v → HRow w (shp (hpF s0.hp)) m0 X.X w0.heap.size B v)
    (hdis : ∀ (k k' : Nat) (v v' : Value) (b : Nat), vals[k]? = some v → vals[k']? = some v' → v.ownBlock = some b → v'.ownBlock = some b → k = k') (hout : ∀ (i : Nat) (v : Value), vals[i]? = some v → ∀ b, v.ownBlock = some b → ¬ X.O b)
    (h1 : RepS C w (ownX (withO X (othO X.O vals k)) (hpF s0.hp) m0) s' m' a' w') (hsl : s'.tm.length = s0.tm.length) (hT : T < hp1.length) (hF : F < hp1.length) (hTF : T ≠ F) (hTn : T < tm1.length) (hFn : F < tm1.length) (hbox : B'.box = false) (hfr : FrL B'.els) (hsz : 0 < B'.sz)
    (hle : leK s' ⟨tm1, (hp1.set T ⟨0, some ⟨ty, sz, box, E (putL (vals.map .c) k (.own F 0 0 B'.els.length))⟩⟩).set F ⟨0, some B'⟩⟩ True)
    (hle2 : ∀ vs : List Value, leK ⟨tm1, (hp1.set T ⟨0, some ⟨ty, sz, box, E (vs.map .c)⟩⟩).set F ⟨1, none⟩⟩ ⟨tm1, hp1.set T ⟨0, some ⟨ty, sz, box, E (vs.map .c)⟩⟩⟩ True)
    (hE : ∀ (cs cs' : List AV) (p : AV → AV → Prop), cs.length = (putL rows k B').length → cs'.length = cs.length → (∀ (k : Nat) (c c' : AV), cs[k]? = some c → cs'[k]? = some c' → c' = c ∨ p c c') → CellR (E cs) (E cs') p)
    (hEk : ∀ (cs : List AV) (i : Nat) (c : AV), cs.length = (putL rows k B').length → cs[i]? = some c → ∃ (k' : Nat) (e : List AV) (j : Nat), (E cs)[k']? = some e ∧ e[j]? = some c) :
    tm1.length = s0.tm.length ∧ ∃ vals' m4, vals'.length = (putL rows k B').length ∧ RInv C w0 X ⟨tm1, hp1.set T ⟨0, some ⟨ty, sz, box, E (vals'.map .c)⟩⟩⟩ (putL rows k B') vals' m4 a' w' := by
  obtain ⟨el, _, g⟩ := leK_ok (C := C) hle
  obtain ⟨m2, hm2⟩ := g _ _ _ _ _ h1
  have hn : tm1.length = s0.tm.length := el.trans hsl
  refine ⟨hn, ?_⟩
  have hsize := hm2.kin.size
  generalize hη1 : hpF ((hp1.set T ⟨0, some ⟨ty, sz, box, E (putL (vals.map .c) k (.own F 0 0 B'.els.length))⟩⟩).set F ⟨0, some B'⟩) = η1 at hm2
  have e1 : η1 = updE (updE (hpF hp1) T ⟨0, some ⟨ty, sz, box, E (putL (vals.map .c) k (.own F 0 0 B'.els.length))⟩⟩) F ⟨0, some B'⟩ := by
    rw [← hη1, hp_set (by simpa using hF), hp_set hT]
  have hm2' : Rep C tm1.length w (ownX (withO X (othO X.O vals k)) (hpF s0.hp) m0) (tmF tm1) η1 m2 a' w' := by
    rw [← hη1]
    unfold RepS at hm2
    simp only at hm2
    rw [hη1] at hm2 ⊢
    exact hm2
  -- the other rows behind the run
  have ho2 : ∀ b, b < w.heap.size → Owned (shp η1) m2 b → Owned (shp (hpF s0.hp)) m0 b := fun b hb ho => Rep.owned hm2' hr.oo hb ho
  have hrow2 : ∀ (i : Nat) (B : Blk) (v : Value), i ≠ k → rows[i]? = some B → vals[i]? = some v → HRow w' (shp η1) m2 X.X w0.heap.size B v := fun i B v hi hB hv => by
    refine (hrows i B v hi hB hv).move hsize (fun b hb hq => hm2'.kin.block b hb ?_) ho2 (fun b hb => ?_) (fun b _ q => q)
    · rintro ⟨i', q1, q2⟩
      rcases hq with hq | hq
      · exact hq (.inr ⟨i', blk_live.2 q1, q2⟩)
      · refine hr.mem.sep i' b q1 q2 ?_
        rw [hr.oo]
        exact .inr ⟨i, v, hi, hv, hq⟩
    · rw [hm2'.oo]
      exact .inr ⟨i, v, hi, hv, hb⟩
  have h3 : Rep C tm1.length w0 (withO X (othO X.O vals k)) (tmF tm1) η1 m2 a' w' := by
    have hr' : Rep C tm1.length w0 (withO X (othO X.O vals k)) (tmF s0.tm) (hpF s0.hp) m0 a w := by rw [hn]; exact hr
    exact Rep.unbase hr' hm2'
  have eT : η1 T = ⟨0, some ⟨ty, sz, box, E (putL (vals.map .c) k (.own F 0 0 B'.els.length))⟩⟩ := by rw [e1]; simp [updE, hTF]
  have eF : η1 F = ⟨0, some B'⟩ := by rw [e1]; simp [updE]
  have hkm : k ≤ (vals.map AV.c).length := by simpa using hk
  have hcl : (putL (vals.map AV.c) k (.own F 0 0 B'.els.length)).length = (putL rows k B').length := by
    rw [putL_len, putL_len, List.length_map, hlen]
  obtain ⟨k', e, j, hke, hej⟩ := hEk _ k _ hcl (by rw [putL_at hkm, if_pos rfl])
  obtain ⟨v', m3, q1, q2, q3⟩ := h3.unfocus eT eF hTF hTn hFn hbox hfr hsz hke hej
  have hCR : CellR (E (putL (vals.map .c) k (.own F 0 0 B'.els.length))) (E ((putL vals k v').map .c)) (fun x x' => x = .own F 0 0 B'.els.length ∧ x' = .c v') := by
    rw [putL_map]
    refine hE _ _ _ hcl (by rw [putL_len, putL_len]) (fun i c c' hc hc' => ?_)
    rw [putL_at hkm] at hc hc'
    by_cases ei : i = k
    · rw [if_pos ei] at hc hc'
      injection hc with hc
      injection hc' with hc'
      exact .inr ⟨hc.symm, hc'.symm⟩
    · rw [if_neg ei] at hc hc'
      rw [hc] at hc'
      injection hc' with hc'
      exact .inl hc'.symm
  obtain ⟨r1, r2, r3⟩ := q3 _ hCR
  generalize hη2 : updE (updE η1 T ⟨0, some { (⟨ty, sz, box, E (putL (vals.map .c) k (.own F 0 0 B'.els.length))⟩ : Blk) with els := E ((putL vals k v').map .c) }⟩) F ⟨0 + 1, none⟩ = η2 at r1 r2 r3
  have e2 : η2 = hpF ((hp1.set T ⟨0, some ⟨ty, sz, box, E ((putL vals k v').map .c)⟩⟩).set F ⟨1, none⟩) := by
    rw [hp_set (by simpa using hF), hp_set hT, ← hη2, e1, upd_comm hTF, upd_upd, upd_comm (fun q => hTF q.symm), upd_upd]
  have hO : (fun b => othO X.O vals k b ∨ v'.ownBlock = some b) = othO X.O (putL vals k v') (putL vals k v').length := by
    funext b
    refine propext ⟨?_, ?_⟩
    · rintro ((h | ⟨i, v, h1, h2, h3⟩) | h)
      · exact .inl h
      · have : (putL vals k v')[i]? = some v := by rw [putL_at hk, if_neg h1]; exact h2
        exact .inr ⟨i, v, Nat.ne_of_lt (List.getElem?_eq_some_iff.1 this).1, this, h3⟩
      · have : (putL vals k v')[k]? = some v' := by rw [putL_at hk, if_pos rfl]
        exact .inr ⟨k, v', Nat.ne_of_lt (List.getElem?_eq_some_iff.1 this).1, this, h⟩
    · rintro (h | ⟨i, v, h1, h2, h3⟩)
      · exact .inl (.inl h)
      · rw [putL_at hk] at h2
        by_cases ei : i = k
        · rw [if_pos ei] at h2
          injection h2 with h2
          exact .inr (by rw [h2]; exact h3)
        · rw [if_neg ei] at h2
          exact .inl (.inr ⟨i, v, ei, h2, h3⟩)
  have r3' : RepS C w0 (withO X (othO X.O (putL vals k v') (putL vals k v').length)) ⟨tm1, (hp1.set T ⟨0, some ⟨ty, sz, box, E ((putL vals k v').map .c)⟩⟩).set F ⟨1, none⟩⟩ m3 a' w' := by
    unfold RepS
    rw [← hO, ← e2]
    exact r3
  obtain ⟨m4, s1, s2⟩ := leK_step (hle2 (putL vals k v')) r3'
  rw [← e2] at s2
  have back : ∀ (B : Blk) (v : Value), (∀ b, v.ownBlock = some b → othO X.O (putL vals k v') (putL vals k v').length b) → HRow w' (shp η2) m3 X.X w0.heap.size B v → HRow w' (shp (hpF (hp1.set T ⟨0, some ⟨ty, sz, box, E ((putL vals k v').map .c)⟩⟩))) m4 X.X w0.heap.size B v := fun B v hv hB =>
    hB.move (Nat.le_refl _) (fun _ _ _ => rfl) s2 (fun b hb => by rw [s1.oo]; exact hv b hb) (fun b _ q => q)
  refine ⟨putL vals k v', m4, by rw [putL_len, putL_len, hlen], s1, ⟨by rw [putL_len, putL_len, hlen], fun i B v hB hv => ?_, fun i i' v u b hv hu hb hb' => ?_⟩, fun i v hv b hb => ?_⟩
  · rw [putL_at (by omega)] at hB
    rw [putL_at hk] at hv
    by_cases ei : i = k
    · rw [if_pos ei] at hB hv
      injection hB with hB
      injection hv with hv
      subst hB hv
      refine back _ _ (fun b hb => ?_) r2
      rw [← hO]
      exact .inr hb
    · rw [if_neg ei] at hB hv
      refine back _ _ (fun b hb => ?_) ((hrow2 i B v ei hB hv).move (Nat.le_refl _) (fun _ _ _ => rfl) (fun b hb ho => ?_) (fun b hb => ?_) (fun b _ q => q))
      · rw [← hO]
        exact .inl (.inr ⟨i, v, ei, hv, hb⟩)
      · exact Classical.byContradiction fun hn => r1.nown b hb hn ho
      · rw [q1]
        exact .inl (.inr ⟨i, v, ei, hv, hb⟩)
  · rw [putL_at hk] at hv hu
    by_cases ei : i = k <;> by_cases ei' : i' = k
    · rw [ei, ei']
    · rw [if_pos ei] at hv
      rw [if_neg ei'] at hu
      injection hv with hv
      subst hv
      exact absurd (.inr ⟨i', u, ei', hu, hb'⟩) (q2 b hb)
    · rw [if_neg ei] at hv
      rw [if_pos ei'] at hu
      injection hu with hu
      subst hu
      exact absurd (.inr ⟨i, v, ei, hv, hb⟩) (q2 b hb')
    · rw [if_neg ei] at hv
      rw [if_neg ei'] at hu
      exact hdis i i' v u b hv hu hb hb'
  · rw [putL_at hk] at hv
    by_cases ei : i = k
    · rw [if_pos ei] at hv
      injection hv with hv
      subst hv
      exact fun ho => q2 b hb (.inl ho)
    · rw [if_neg ei] at hv
      exact hout i v hv b hb

/-- a row that becomes immutable -/
theorem HRow.sl {w : World} {vs vs' : Shp} {m m' : MM} {X : Nat → Prop} {z : Nat} {B : Blk} {v : Value} (h : HRow w vs m X z B v) (hno : ∀ b, v.ownBlock = some b → ¬ Owned vs' m' b) (hmax : B.els.length ≤ 140737488355328) (ho : ∀ b, Owned vs' m' b → Owned vs m b) : RV w vs' m' (.sl B.sz B.els) v := by
  obtain ⟨h1, h2, ⟨h3, rfl⟩ | ⟨b, cap, n, ty, rfl, g1, g2, g3, g4, g5, g6, g7⟩⟩ := h
  · rw [h3]
    exact RV.sl (l := []) (b := 0) (off := 0) (f := fun _ _ => undef) (fun h => absurd rfl h) (Nat.le_refl _) (by simp) (fun k e h => by simp at h) (fun k j e x h => by simp at h) (fun k j e x h => by simp at h) (fun e he => by cases he)
  · obtain ⟨arr, a1, a2, a3⟩ := g7.unmap g5
    have hcell : ∀ (q j : Nat) (e : List AV) (x : AV), B.els[q]? = some e → e[j]? = some x → ∃ u, arr.getD (q * B.sz + j) undef = u ∧ arr[q * B.sz + j]? = some u ∧ u.oneCell' = true ∧ RV w vs m x u := fun q j e x he hj => by
      obtain ⟨u, u1, u2, u3⟩ := (a3 _ e he).2 j x hj
      exact ⟨u, by simp [Array.getD_eq_getD_getElem?, u1], u1, u2, u3⟩
    refine RV.sl (sz := B.sz) (l := B.els) (A := some ⟨b, 0, none⟩) (cap := cap) (b := b) (off := 0) (f := fun q j => arr.getD (q * B.sz + j) undef)
      (fun _ => ⟨rfl, hno b rfl, lt_of_block a1⟩) g3 hmax (fun q e he => (a3 _ e he).1) (fun q j e x he hj => ?_) (fun q j e x he hj => ?_) h2
    · obtain ⟨u, q1, q2, q3, _⟩ := hcell q j e x he hj
      refine ⟨?_, by rw [q1]; exact q3⟩
      rw [q1, Nat.zero_add]
      simp [World.cell?, a1, q2]
    · obtain ⟨u, q1, _, _, q4⟩ := hcell q j e x he hj
      rw [q1]
      exact rv_fr (h2 e (List.mem_of_getElem? he) x (List.mem_of_getElem? hj)) ho q4

/-- the table is done: its rows become immutable -/
theorem RInv.close {C : Cx} [PwT C] {w0 : World} {X : XX} {rows : List Blk} {vals : List Value} {m : MM} {a : Act} {w : World} {T ty sz : Nat} {box : Bool} {tm : List AV} {hp : List Ent} {E : List AV → List (List AV)} (h : RInv C w0 X ⟨tm, hp.set T ⟨0, some ⟨ty, sz, box, E (vals.map .c)⟩⟩⟩ rows vals m a w)
    (hT : T < hp.length) (hTn : T < tm.length) (hE : ∀ (cs cs' : List AV) (p : AV → AV → Prop), cs.length = rows.length → cs'.length = cs.length → (∀ (k : Nat) (c c' : AV), cs[k]? = some c → cs'[k]? = some c' → c' = c ∨ p c c') → CellR (E cs) (E cs') p) (hmax : ∀ B ∈ rows, B.els.length ≤ 140737488355328) :
    ∃ m', RepS C w0 X ⟨tm, hp.set T ⟨0, some ⟨ty, sz, box, E (rows.map (fun B => .sl B.sz B.els))⟩⟩⟩ m' a w := by
  have hr : Rep C tm.length w0 (withO X (othO X.O vals vals.length)) (tmF tm) (hpF (hp.set T ⟨0, some ⟨ty, sz, box, E (vals.map .c)⟩⟩)) m a w := h.rep
  have hrows := h.rows
  simp only at hrows
  generalize hη : hpF (hp.set T ⟨0, some ⟨ty, sz, box, E (vals.map .c)⟩⟩) = η at hr hrows
  have eη : η = updE (hpF hp) T ⟨0, some ⟨ty, sz, box, E (vals.map .c)⟩⟩ := by rw [← hη, hp_set hT]
  have eη' : hpF (hp.set T ⟨0, some ⟨ty, sz, box, E (rows.map (fun B => .sl B.sz B.els))⟩⟩) = updE η T ⟨0, some ⟨ty, sz, box, E (rows.map (fun B => .sl B.sz B.els))⟩⟩ := by rw [hp_set hT, eη, upd_upd]
  have hηT : η T = ⟨0, some ⟨ty, sz, box, E (vals.map .c)⟩⟩ := by rw [eη]; simp [updE]
  generalize hη2 : updE η T ⟨0, some ⟨ty, sz, box, E (rows.map (fun B => .sl B.sz B.els))⟩⟩ = η' at eη'
  have hs : shp η' = shp η := by rw [← hη2]; exact shp_upd hηT rfl
  refine ⟨⟨m.f, X.O⟩, ?_⟩
  unfold RepS
  simp only
  rw [eη']
  have hOm : ∀ b, Owned (shp η) (⟨m.f, X.O⟩ : MM) b → Owned (shp η) m b := fun b hb => by
    rcases hb with q | q
    · exact .inl (by rw [hr.oo]; exact .inl q)
    · exact .inr q
  have hm : Mono w (shp η) m w (shp η') (⟨m.f, X.O⟩ : MM) := by
    rw [hs]
    exact ⟨Nat.le_refl _, fun _ _ _ => rfl, fun b _ hn q => hn (hOm b q), fun _ => Nat.le_refl _, fun _ _ => ⟨rfl, fun _ => ⟨rfl, fun _ _ => rfl⟩⟩⟩
  have hlive : ∀ i, (η' i).blk ≠ none ↔ (η i).blk ≠ none := fun i => by
    by_cases e : i = T
    · subst e; rw [hηT, ← hη2]; simp [updE]
    · rw [← hη2]; simp [updE, e]
  have hno : ∀ (i : Nat) (v : Value), vals[i]? = some v → ∀ b, v.ownBlock = some b → ¬ Owned (shp η') (⟨m.f, X.O⟩ : MM) b := fun i v hv b hb => by
    rintro (q | ⟨i', q1, q2⟩)
    · exact h.out i v hv b hb q
    · rw [hs] at q1
      refine hr.mem.sep i' b (blk_live.1 q1) q2 ?_
      rw [hr.oo]
      exact .inr ⟨i, v, Nat.ne_of_lt (List.getElem?_eq_some_iff.1 hv).1, hv, hb⟩
  have hCR := hE (vals.map .c) (rows.map (fun B => .sl B.sz B.els)) (fun x x' => ∃ (i : Nat) (v : Value) (B : Blk), x = .c v ∧ x' = .sl B.sz B.els ∧ vals[i]? = some v ∧ rows[i]? = some B) (by simp [h.rows.len]) (by simp [h.rows.len]) (fun k c c' hc hc' => by
    rw [List.getElem?_map] at hc hc'
    cases hv : vals[k]? with
    | none => rw [hv] at hc; cases hc
    | some v =>
      cases hB : rows[k]? with
      | none => rw [hB] at hc'; cases hc'
      | some B =>
        rw [hv] at hc
        rw [hB] at hc'
        injection hc with hc
        injection hc' with hc'
        exact .inr ⟨k, v, B, hc.symm, hc'.symm, hv, hB⟩)
  have hrv : ∀ x x' u, (∃ (i : Nat) (v : Value) (B : Blk), x = .c v ∧ x' = .sl B.sz B.els ∧ vals[i]? = some v ∧ rows[i]? = some B) → RV w (shp η) m x u → RV w (shp η') (⟨m.f, X.O⟩ : MM) x' u := by
    rintro x x' u ⟨i, v, B, rfl, rfl, hv, hB⟩ hx
    rw [rv_c hx]
    exact (hrows.row i B v hB hv).sl (hno i v hv) (hmax B (List.mem_of_getElem? hB)) (fun b q => by rw [hs] at q; exact hOm b q)
  refine hr.recast hm ⟨fun i B' hB' => ?_, fun i i' b h1 h2 h3 h4 => hr.mem.inj i i' b ((hlive i).1 h1) ((hlive i').1 h2) h3 h4, fun i b h1 h2 => hr.mem.low i b ((hlive i).1 h1) h2, fun i b h1 h2 q => hr.mem.sep i b ((hlive i).1 h1) h2 (by rw [hr.oo]; exact .inl q), fun b hb => hr.mem.olt b (by rw [hr.oo]; exact .inl hb), hr.mem.big⟩ rfl (fun i b h1 h2 => hr.own i b ((hlive i).1 h1) h2) (fun i hi => ⟨by rw [← hη2]; simp [updE, show i ≠ T from fun q => absurd hi (by rw [q]; omega)], rfl⟩)
  by_cases e : i = T
  · subst e
    rw [← hη2] at hB'
    simp only [updE, if_true] at hB'
    injection hB' with hB'
    subst hB'
    exact (hr.mem.ok i _ (by rw [hηT])).cells2 hm hCR hrv
  · rw [← hη2] at hB'
    simp only [updE, e, if_false] at hB'
    exact (hr.mem.ok i B' hB').mono hm (fun _ _ => rfl)

/-- ahead of a round: row k comes forward -/
theorem RInv.foc {C : Cx} [PwT C] {w0 : World} {X : XX} {rows : List Blk} {vals : List Value} {m : MM} {a : Act} {w : World} {k T F ty sz : Nat} {box : Bool} {tm : List AV} {hp : List Ent} {B : Blk} {E : List AV → List (List AV)} (h : RInv C w0 X ⟨tm, hp.set T ⟨0, some ⟨ty, sz, box, E (vals.map .c)⟩⟩⟩ rows vals m a w)
    (hB : rows[k]? = some B) (hT : T < hp.length) (hF : hp[F]? = some ⟨0, none⟩) (hTF : T ≠ F) (hTn : T < tm.length) (hFn : F < tm.length)
    (hE : ∀ (cs cs' : List AV) (p : AV → AV → Prop), cs.length = rows.length → cs'.length = cs.length → (∀ (k : Nat) (c c' : AV), cs[k]? = some c → cs'[k]? = some c' → c' = c ∨ p c c') → CellR (E cs) (E cs') p) :
    ∃ m0, RepS C w0 (withO X (othO X.O vals k)) ⟨tm, (hp.set T ⟨0, some ⟨ty, sz, box, E ((vals.map .c).set k (.own F 1 0 B.els.length))⟩⟩).set F ⟨1, some B⟩⟩ m0 a w ∧
      ∀ (i : Nat) (B' : Blk) (v : Value), i ≠ k → rows[i]? = some B' → vals[i]? = some v → HRow w (shp (hpF ((hp.set T ⟨0, some ⟨ty, sz, box, E ((vals.map .c).set k (.own F 1 0 B.els.length))⟩⟩).set F ⟨1, some B⟩))) m0 X.X w0.heap.size B' v := by
  have hr : Rep C tm.length w0 (withO X (othO X.O vals vals.length)) (tmF tm) (hpF (hp.set T ⟨0, some ⟨ty, sz, box, E (vals.map .c)⟩⟩)) m a w := h.rep
  have hrows := h.rows
  simp only at hrows
  have hFl : F < hp.length := (List.getElem?_eq_some_iff.1 hF).1
  have hF' : hpF hp F = ⟨0, none⟩ := by
    show hp.getD F _ = _
    rw [List.getD_eq_getElem?_getD, hF]
    rfl
  generalize hη : hpF (hp.set T ⟨0, some ⟨ty, sz, box, E (vals.map .c)⟩⟩) = η at hr hrows
  have eη : η = updE (hpF hp) T ⟨0, some ⟨ty, sz, box, E (vals.map .c)⟩⟩ := by rw [← hη, hp_set hT]
  have hηT : η T = ⟨0, some ⟨ty, sz, box, E (vals.map .c)⟩⟩ := by rw [eη]; simp [updE]
  have hηF : η F = ⟨0, none⟩ := by
    rw [eη]
    show (if F = T then _ else hpF hp F) = _
    rw [if_neg (fun q => hTF q.symm), hF']
  have hk : k < vals.length := by rw [h.rows.len]; exact (List.getElem?_eq_some_iff.1 hB).1
  obtain ⟨v, hv⟩ : ∃ v, vals[k]? = some v := ⟨_, List.getElem?_eq_getElem hk⟩
  have hCR := hE (vals.map .c) ((vals.map .c).set k (.own F ((η F).ver + 1) 0 B.els.length)) (fun x x' => x = .c v ∧ x' = .own F ((η F).ver + 1) 0 B.els.length) (by simp [h.rows.len]) (by simp) (fun i c c' hc hc' => by
    by_cases e : i = k
    · subst e
      rw [List.getElem?_map, hv] at hc
      rw [List.getElem?_set_self (by simpa using hk)] at hc'
      injection hc with hc
      injection hc' with hc'
      exact .inr ⟨hc.symm, hc'.symm⟩
    · rw [List.getElem?_set_ne (fun q => e q.symm), hc] at hc'
      injection hc' with hc'
      exact .inl hc'.symm)
  obtain ⟨m0, q1, q2, q3, q4⟩ := hr.focus hηT (by rw [hηF]) hTF hTn hFn (hrows.row k B v hB hv) hCR
  have eS : updE (updE η T ⟨0, some { (⟨ty, sz, box, E (vals.map .c)⟩ : Blk) with els := E ((vals.map .c).set k (.own F ((η F).ver + 1) 0 B.els.length)) }⟩) F ⟨(η F).ver + 1, some B⟩ = hpF ((hp.set T ⟨0, some ⟨ty, sz, box, E ((vals.map .c).set k (.own F 1 0 B.els.length))⟩⟩).set F ⟨1, some B⟩) := by
    rw [hp_set (by simpa using hFl), hp_set hT, hηF, eη, upd_upd]
  rw [eS] at q2 q4
  have hO : (fun b => (withO X (othO X.O vals vals.length)).O b ∧ v.ownBlock ≠ some b) = othO X.O vals k := by
    funext b
    refine propext ⟨?_, ?_⟩
    · rintro ⟨h1 | ⟨i, u, h1, h2, h3⟩, h4⟩
      · exact .inl h1
      · refine .inr ⟨i, u, fun e => ?_, h2, h3⟩
        subst e
        rw [hv] at h2
        injection h2 with h2
        exact h4 (by rw [h2]; exact h3)
    · rintro (h1 | ⟨i, u, h1, h2, h3⟩)
      · exact ⟨.inl h1, fun q => h.out k v hv b q h1⟩
      · exact ⟨.inr ⟨i, u, Nat.ne_of_lt (List.getElem?_eq_some_iff.1 h2).1, h2, h3⟩, fun q => h1 (h.rows.dis i k u v b h2 hv h3 q)⟩
  rw [hO] at q1 q4
  refine ⟨m0, q4, fun i B' u hi hB' hu => ?_⟩
  refine (hrows.row i B' u hB' hu).move (Nat.le_refl _) (fun _ _ _ => rfl) (fun b hb ho => ?_) (fun b hb => ?_) (fun b _ q => q)
  · exact Classical.byContradiction fun hn => q2.nown b hb hn ho
  · rw [q1]
    exact .inr ⟨i, u, hi, hu, hb⟩

/-- a loop that fills a table with rows -/
theorem awp_rows {C : Cx} [PwT C] {Q : Exit → St → Prop} {s : St} {α : Type} {c : Code} (T ty sz : Nat) (box : Bool) (tm : α → List AV) (hp : α → List Ent) (E : α → List AV → List (List AV)) (rows : α → List Blk) (R : α → Prop) (μ : α → Nat) (x0 : α) (hR : R x0)
    (hT : ∀ x, T < (hp x).length ∧ T < (tm x).length)
    (hE : ∀ (x : α) (cs cs' : List AV) (p : AV → AV → Prop), cs.length = (rows x).length → cs'.length = cs.length → (∀ (k : Nat) (c c' : AV), cs[k]? = some c → cs'[k]? = some c' → c' = c ∨ p c c') → CellR (E x cs) (E x cs') p)
    (hEk : ∀ (x : α) (cs : List AV) (k : Nat) (c : AV), cs.length = (rows x).length → cs[k]? = some c → ∃ (k' : Nat) (e : List AV) (j : Nat), (E x cs)[k']? = some e ∧ e[j]? = some c)
    (h00 : ∀ B ∈ rows x0, B.box = false ∧ B.els = [])
    (h0 : leK s ⟨tm x0, (hp x0).set T ⟨0, some ⟨ty, sz, box, E x0 ((rows x0).map (fun _ => .c (.slice none 0 0)))⟩⟩⟩ True)
    (round : ∀ x, R x → ∀ vals : List Value, vals.length = (rows x).length →
      (∃ k B F, (rows x)[k]? = some B ∧ T ≠ F ∧ F < (tm x).length ∧ (hp x)[F]? = some ⟨0, none⟩ ∧
        AWP C c (thenA (fun s' => ∃ x' B' F', R x' ∧ μ x' < μ x ∧ rows x' = putL (rows x) k B' ∧ (T ≠ F' ∧ F' < (tm x').length ∧ F' < (hp x').length ∧ B'.box = false ∧ FrL B'.els ∧ 0 < B'.sz) ∧
          leK s' ⟨tm x', ((hp x').set T ⟨0, some ⟨ty, sz, box, E x' (putL (vals.map .c) k (.own F' 0 0 B'.els.length))⟩⟩).set F' ⟨0, some B'⟩⟩ True ∧
          ∀ vs : List Value, leK ⟨tm x', ((hp x').set T ⟨0, some ⟨ty, sz, box, E x' (vs.map .c)⟩⟩).set F' ⟨1, none⟩⟩ ⟨tm x', (hp x').set T ⟨0, some ⟨ty, sz, box, E x' (vs.map .c)⟩⟩⟩ True) (fun _ _ => False))
          ⟨tm x, ((hp x).set T ⟨0, some ⟨ty, sz, box, E x ((vals.map .c).set k (.own F 1 0 B.els.length))⟩⟩).set F ⟨1, some B⟩⟩) ∨
      AWP C c (thenA (fun s' => ∃ x' B' F', R x' ∧ μ x' < μ x ∧ rows x' = putL (rows x) (rows x).length B' ∧ (T ≠ F' ∧ F' < (tm x').length ∧ F' < (hp x').length ∧ B'.box = false ∧ FrL B'.els ∧ 0 < B'.sz) ∧
          leK s' ⟨tm x', ((hp x').set T ⟨0, some ⟨ty, sz, box, E x' (putL (vals.map .c) (rows x).length (.own F' 0 0 B'.els.length))⟩⟩).set F' ⟨0, some B'⟩⟩ True ∧
          ∀ vs : List Value, leK ⟨tm x', ((hp x').set T ⟨0, some ⟨ty, sz, box, E x' (vs.map .c)⟩⟩).set F' ⟨1, none⟩⟩ ⟨tm x', (hp x').set T ⟨0, some ⟨ty, sz, box, E x' (vs.map .c)⟩⟩⟩ True)
        (fun e s' => ∃ (tm' : List AV) (hp' : List Ent), (∀ B ∈ rows x, B.els.length ≤ 140737488355328) ∧ T < hp'.length ∧ T < tm'.length ∧ leK s' ⟨tm', hp'.set T ⟨0, some ⟨ty, sz, box, E x (vals.map .c)⟩⟩⟩ True ∧ Q e ⟨tm', hp'.set T ⟨0, some ⟨ty, sz, box, E x ((rows x).map (fun B => .sl B.sz B.els))⟩⟩⟩))
        ⟨tm x, (hp x).set T ⟨0, some ⟨ty, sz, box, E x (vals.map .c)⟩⟩⟩) : AWP C (.loop c) Q s := by
  unfold AWP
  intro w0 X m a w hr
  obtain ⟨g1, _, g2⟩ := leK_ok (C := C) h0
  obtain ⟨m0, hr0⟩ := g2 w0 X m a w hr
  have hmapc : (rows x0).map (fun _ => AV.c (.slice none 0 0)) = ((rows x0).map (fun _ => Value.slice none 0 0)).map .c := by rw [List.map_map]; rfl
  have hO0 : ∀ k, othO X.O ((rows x0).map (fun _ => Value.slice none 0 0)) k = X.O := fun k => by
    funext b
    refine propext ⟨?_, fun q => Or.inl q⟩
    rintro (h | ⟨i, v, _, h2, h3⟩)
    · exact h
    · rw [List.getElem?_map] at h2
      cases e : (rows x0)[i]? <;> rw [e] at h2 <;> cases h2
      cases h3
  have hnil : ∀ {i : Nat} {v : Value}, ((rows x0).map (fun _ => Value.slice none 0 0))[i]? = some v → v = .slice none 0 0 := fun {i v} hv => by
    rw [List.getElem?_map] at hv
    cases e : (rows x0)[i]? <;> rw [e] at hv <;> cases hv
    rfl
  have inv0 : RInv C w0 X ⟨tm x0, (hp x0).set T ⟨0, some ⟨ty, sz, box, E x0 (((rows x0).map (fun _ => Value.slice none 0 0)).map .c)⟩⟩⟩ (rows x0) ((rows x0).map (fun _ => Value.slice none 0 0)) m0 a w := by
    refine ⟨?_, ⟨by simp, fun i B v hB hv => ?_, fun i i' v v' b hv hv' hb _ => ?_⟩, fun i v hv b hb => ?_⟩
    · rw [hO0, ← hmapc]
      exact hr0
    · obtain ⟨q1, q2⟩ := h00 B (List.mem_of_getElem? hB)
      exact ⟨q1, (by rw [q2]; intro e he; cases he), .inl ⟨q2, hnil hv⟩⟩
    · rw [hnil hv] at hb; cases hb
    · rw [hnil hv] at hb; cases hb
  refine wp_loop_ghost (fun n a w => ∃ x vals m, R x ∧ μ x = n ∧ (tm x).length = s.tm.length ∧ RInv C w0 X ⟨tm x, (hp x).set T ⟨0, some ⟨ty, sz, box, E x (vals.map .c)⟩⟩⟩ (rows x) vals m a w) (μ x0) ⟨x0, _, m0, hR, rfl, g1, inv0⟩ ?_
  rintro n a w ⟨x, vals, m, hRx, rfl, hl, hx⟩
  rcases round x hRx vals hx.rows.len with ⟨k, B, F, hB, hTF, hFn, hF, hawp⟩ | hawp
  · obtain ⟨m1, r1, r2⟩ := hx.foc hB (hT x).1 hF hTF (hT x).2 hFn (hE x)
    have hk : k < vals.length := by rw [hx.rows.len]; exact (List.getElem?_eq_some_iff.1 hB).1
    unfold AWP at hawp
    refine wp_mono (hawp w _ m1 a w (Rep.rebase r1 (PwT.h _ _))) ?_
    rintro e a' w' ⟨s', m', h1, h2, h3⟩
    cases e with
    | normal =>
      obtain ⟨x', B', F', hR', hlt, hrw, ⟨c1, c2, c3, c4, c5, c6⟩, hle, hle2⟩ := h2
      have hE' := hE x'
      have hEk' := hEk x'
      rw [hrw] at hE' hEk'
      obtain ⟨k1, vals', m4, k2, k3⟩ := RInv.back r1 hx.rows.len (Nat.le_of_lt hk) r2 hx.rows.dis hx.out h3 h1 (hT x').1 c3 c1 (hT x').2 c2 c4 c5 c6 hle hle2 hE' hEk'
      exact ⟨μ x', hlt, x', vals', m4, hR', rfl, k1.trans hl, by rw [hrw]; exact k3⟩
    | _ => exact h2.elim
  · have hO : othO X.O vals vals.length = othO X.O vals (rows x).length := by rw [hx.rows.len]
    have r1 := hx.rep
    unfold AWP at hawp
    refine wp_mono (hawp w _ m a w (Rep.rebase r1 (PwT.h _ _))) ?_
    rintro e a' w' ⟨s', m', h1, h2, h3⟩
    cases e with
    | normal =>
      obtain ⟨x', B', F', hR', hlt, hrw, ⟨c1, c2, c3, c4, c5, c6⟩, hle, hle2⟩ := h2
      have hE' := hE x'
      have hEk' := hEk x'
      rw [hrw, ← hx.rows.len] at hE' hEk'
      rw [← hx.rows.len] at hle
      obtain ⟨k1, vals', m4, k2, k3⟩ := RInv.back r1 hx.rows.len (Nat.le_refl _) (fun i B' v _ hB hv => hx.rows.row i B' v hB hv) hx.rows.dis hx.out h3 h1 (hT x').1 c3 c1 (hT x').2 c2 c4 c5 c6 hle hle2 hE' hEk'
      exact ⟨μ x', hlt, x', vals', m4, hR', rfl, k1.trans hl, by rw [hrw, ← hx.rows.len]; exact k3⟩
    | _ =>
      obtain ⟨tm', hp', d1, d2, d3, hle, hq⟩ := h2
      obtain ⟨el, _, g⟩ := leK_ok (C := C) hle
      obtain ⟨m2, hm2⟩ := g _ _ _ _ _ h3
      have hn : tm'.length = (tm x).length := el.trans h1
      have hinv : RInv C w0 X ⟨tm', hp'.set T ⟨0, some ⟨ty, sz, box, E x (vals.map .c)⟩⟩⟩ (rows x) vals m2 a' w' := by
        have hm2' : Rep C tm'.length w (ownX (withO X (othO X.O vals vals.length)) _ m) (tmF tm') (hpF (hp'.set T ⟨0, some ⟨ty, sz, box, E x (vals.map .c)⟩⟩)) m2 a' w' := hm2
        refine ⟨?_, ⟨hx.rows.len, fun i B v hB hv => ?_, hx.rows.dis⟩, hx.out⟩
        · have r1' : Rep C tm'.length w0 (withO X (othO X.O vals vals.length)) (tmF (tm x)) (hpF ((hp x).set T ⟨0, some ⟨ty, sz, box, E x (vals.map .c)⟩⟩)) m a w := by rw [hn]; exact r1
          exact Rep.unbase r1' hm2'
        · refine (hx.rows.row i B v hB hv).move hm2'.kin.size (fun b hb hq => hm2'.kin.block b hb ?_) (fun b hb ho => Rep.owned hm2' r1.oo hb ho) (fun b hb => ?_) (fun b _ q => q)
          · rintro ⟨i', q1, q2⟩
            rcases hq with hq | hq
            · exact hq (.inr ⟨i', blk_live.2 q1, q2⟩)
            · refine r1.mem.sep i' b q1 q2 ?_
              rw [r1.oo]
              exact .inr ⟨i, v, Nat.ne_of_lt (List.getElem?_eq_some_iff.1 hv).1, hv, hq⟩
          · rw [hm2'.oo]
            exact .inr ⟨i, v, Nat.ne_of_lt (List.getElem?_eq_some_iff.1 hv).1, hv, hb⟩
      obtain ⟨m5, h5⟩ := hinv.close d2 d3 (hE x) d1
      exact ⟨_, m5, by rw [hn]; exact hl, hq, h5⟩
end Go.Proofs.YtflgpccacloadaaDoor.Am
/- Types of the datalog texts: rules, sets of atoms (a map of their forms beside them), the matcher with all that it reaches; calls of closures that hold own memory. -/
namespace Go.Proofs.YtflgpccacloadaaDoor.Am
open Go.RowKit
def cA2_cS (x : ByteArray × ByteArray) : List AV := [.c (.string x.1), .c (.string x.2)]
theorem fr_cA2_cS (x : ByteArray × ByteArray) : ∀ y ∈ cA2_cS x, Fr y := FrC_cons (.c _) (FrC_cons (.c _) (FrC_nil))
theorem frl_cA2_cS (l : List (ByteArray × ByteArray)) : FrL (l.map cA2_cS) := FrL_map (fun x _ => fr_cA2_cS x)
instance {l : List (ByteArray × ByteArray)} : FrI (l.map cA2_cS) := ⟨frl_cA2_cS l⟩
structure GRule where
  Head : GAtom
  Body : List GAtom
  Unequal : List (ByteArray × ByteArray)
  deriving DecidableEq
def cGRule (x : GRule) : List AV := [.c (.string x.Head.Name), .sl 1 (x.Head.Args.map cS), .sl 2 (x.Body.map cGAtom), .sl 2 (x.Unequal.map cA2_cS)]
theorem fr_cGRule (x : GRule) : ∀ y ∈ cGRule x, Fr y := FrC_cons (.c _) (FrC_cons (.sl (frl_cS _)) (FrC_cons (.sl (frl_cGAtom _)) (FrC_cons (.sl (frl_cA2_cS _)) (FrC_nil))))
theorem frl_cGRule (l : List GRule) : FrL (l.map cGRule) := FrL_map (fun x _ => fr_cGRule x)
instance {l : List GRule} : FrI (l.map cGRule) := ⟨frl_cGRule l⟩
/-- elements of maps: an atom, a list of atoms -/
def vA (x : GAtom) : AV := .agg (cGAtom x)
def vR (l : List GAtom) : AV := .sl 2 (l.map cGAtom)
instance : FrM vA := ⟨fun x => .agg (fr_cGAtom x)⟩
instance : FrM vR := ⟨fun l => .sl (frl_cGAtom l)⟩
theorem vR_nil (w : World) (vs : Shp) (m : MM) : RV w vs m (vR []) (.slice none 0 0) := RV.sl (l := []) (b := 0) (off := 0) (f := fun _ _ => undef) (fun h => absurd rfl h) (Nat.le_refl _) (by simp) (fun k e h => by simp at h) (fun k j e x h => by simp at h) (fun k j e x h => by simp at h) (fun e he => by cases he)
/-- the form of an atom; the atoms of each form, in order -/
def keyF (a : GAtom) : ByteArray × Int := (a.Name, ((a.Args.map cS).length : Int))
def addF (M : List ((ByteArray × Int) × List GAtom)) (a : GAtom) : List ((ByteArray × Int) × List GAtom) := setM M (keyF a) ((getM M (keyF a)).getD [] ++ [a])
def formsM (l : List GAtom) : List ((ByteArray × Int) × List GAtom) := l.foldl addF []
/-- a set of atoms -/
abbrev GSet := List GAtom
def cGSet (x : GSet) : List AV := [.sl 2 (x.map cGAtom), .mpi (mE kF vR (formsM x))]
/-- a matcher and all that it reaches -/
structure GMat where
  set : GSet
  body : List GAtom
  unequal : List (ByteArray × ByteArray)
  left : Int
  bind : List (ByteArray × ByteArray)
  full : Bool
  rule : GRule
  heads : List (ByteArray × GAtom)
section
variable {C : Cx} {n : Nat} {o : Oper} {τ : Nat → AV} {η : Nat → Ent} {f : FuncId} {os : Array Operand} {ats : Array TypeId} {r r' : AV} {xs ys caps : List AV} {bs bs' : List (Nat × Blk)} {ks : List Nat} {c : Operand}
/-- a call of a closure that holds pointers to own memory -/
theorem lf_cloG (ρ : List (Nat × Nat)) (fz : List Nat) (go nb : List (Nat × Ent)) (ho : o.op = .call ⟨.value c, os, ats⟩) (hd : InB n o.dst) (hx : evA τ c = .clo (.func f) [] caps) (hargs : os.toList.map (evA τ) = xs) (hc : ACallG C f ys bs ks r bs')
    (hok : okC ρ fz bs ks bs' (idsE go) = true) (hgo : allUs η go) (hgl : ltUs n go)
    (hw : GWL η (fE bs) (lk ρ) (fun i => inB fz i = true) (fun i => inB (keys bs) i = true) (xs ++ caps) ys) (hb : GBL η (fE bs) (lk ρ) (fun i => inB fz i = true) (fun i => inB (keys bs) i = true) bs)
    (hr : GW (fE bs') (updAll η (go ++ nb)) (lk (backN ρ bs')) (fun _ => False) (fun i => inB (idsE nb) i = true) r r')
    (hnb : nbOk n η (updAll η (go ++ nb)) ρ ks (fE bs') (lk (backN ρ bs')) (fun i => inB (idsE nb) i = true) bs' nb) : LF C n o τ η ⟨r', go ++ nb, []⟩ := by
  refine lf_callV ρ fz go nb [] (fun w0 X m a w τ' η' g1 _ h => ?_) hd hc hok hgo hgl hw hb hr hnb
  have e1 := h.ev c
  rw [g1 c (by simp [ho, Op.operands, Call.operands]), hx] at e1
  obtain ⟨us, us', hu, l1, _, l2, r2⟩ := rv_clo e1
  obtain rfl : us = #[] := Array.eq_empty_of_size_eq_zero l1.symm
  have hl : os.size = xs.length := by rw [← hargs]; simp
  have hmap : os.toList.map (evA τ) = os.toList.map (evA τ') := List.map_congr_left (fun y hy => (g1 y (by simp [ho, Op.operands, Call.operands]; exact .inr (by simpa using hy))).symm)
  refine ⟨os.map a.eval ++ us', ?_, by simp; omega, fun j x v' hx hv => ?_⟩
  · simp [execOp, ho, resolve, hu, Deferred.ofValue, invoke, hc.1]
  · rcases Nat.lt_or_ge j xs.length with hj | hj
    · rw [List.getElem?_append_left hj] at hx
      rw [Array.getElem?_append_left (by simp; omega), Array.getElem?_map] at hv
      rw [← hargs, hmap] at hx
      cases hq : os[j]? with
      | none => rw [hq] at hv; cases hv
      | some q =>
        rw [hq] at hv
        simp at hv
        subst hv
        simp [hq] at hx
        subst hx
        exact h.ev q
    · rw [List.getElem?_append_right hj] at hx
      rw [Array.getElem?_append_right (by simp; omega)] at hv
      exact r2 _ x v' hx (by simpa [hl] using hv)
end
end Go.Proofs.YtflgpccacloadaaDoor.Am
